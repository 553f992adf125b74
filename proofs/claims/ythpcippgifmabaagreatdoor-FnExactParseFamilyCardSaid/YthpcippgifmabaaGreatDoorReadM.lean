/-
  Families read from text: the two models (the reference's and the program's), and that they agree.
-/
import Derived.Test.YthpcippgifmabaaGreatDoorFamT
import Derived.Test.YthpcippgifmabaaGreatDoorGFam
import Derived.Lib.Atoi
import Derived.Lib.SplitLaws
namespace Go.Proofs.YthpcippgifmabaaGreatDoor
set_option maxRecDepth 100000
open Go.RowKit

/-! ### Cutting at a byte -/
def cutL (c : UInt8) : List UInt8 → List UInt8 → List (List UInt8)
  | acc, [] => [acc]
  | acc, x :: r => if x = c then acc :: cutL c [] r else cutL c (acc ++ [x]) r
def cut (c : UInt8) (s : List UInt8) : List (List UInt8) := cutL c [] s
theorem cutL_acc (c : UInt8) : ∀ (s acc : List UInt8), ∃ h t, cutL c [] s = h :: t ∧ cutL c acc s = (acc ++ h) :: t := by
  intro s
  induction s with
  | nil => intro acc; exact ⟨[], [], rfl, by simp [cutL]⟩
  | cons x r ih =>
    intro acc
    by_cases hx : x = c
    · exact ⟨[], cutL c [] r, by simp [cutL, hx], by simp [cutL, hx]⟩
    · obtain ⟨h, t, h1, h2⟩ := ih [x]
      obtain ⟨h', t', h3, h4⟩ := ih (acc ++ [x])
      rw [h1] at h3
      injection h3 with e1 e2
      subst e1; subst e2
      exact ⟨x :: h, t, by simp [cutL, hx, h2], by simp [cutL, hx, h4]⟩
theorem cut_ne (c : UInt8) (s : List UInt8) : cut c s ≠ [] := by
  obtain ⟨h, t, h1, _⟩ := cutL_acc c s []
  rw [cut, h1]; simp
theorem cutL_clean {c : UInt8} : ∀ {a acc r : List UInt8}, (∀ x ∈ a, x ≠ c) → cutL c acc (a ++ c :: r) = (acc ++ a) :: cutL c [] r := by
  intro a
  induction a with
  | nil => intro acc r _; simp [cutL]
  | cons x a ih =>
    intro acc r h
    rw [List.cons_append, cutL, if_neg (h x (List.mem_cons_self ..)), ih fun y hy => h y (List.mem_cons_of_mem _ hy)]
    simp
theorem cutL_last {c : UInt8} : ∀ {a acc : List UInt8}, (∀ x ∈ a, x ≠ c) → cutL c acc a = [acc ++ a] := by
  intro a
  induction a with
  | nil => intro acc _; simp [cutL]
  | cons x a ih =>
    intro acc h
    rw [cutL, if_neg (h x (List.mem_cons_self ..)), ih fun y hy => h y (List.mem_cons_of_mem _ hy)]
    simp
theorem cutL_end (c : UInt8) : ∀ (t acc : List UInt8), cutL c acc (t ++ [c]) = cutL c acc t ++ [[]] := by
  intro t
  induction t with
  | nil => intro acc; simp [cutL]
  | cons x t ih =>
    intro acc
    by_cases hx : x = c
    · simp [cutL, hx, ih]
    · simp [cutL, hx, ih]
theorem cut_end (c : UInt8) (t : List UInt8) : cut c (t ++ [c]) = cut c t ++ [[]] := cutL_end c t []
theorem cut_lines {c : UInt8} : ∀ {ls : List (List UInt8)}, (∀ l ∈ ls, ∀ x ∈ l, x ≠ c) → cut c (ls.flatMap fun l => l ++ [c]) = ls ++ [[]] := by
  intro ls
  induction ls with
  | nil => intro _; rfl
  | cons l r ih =>
    intro h
    rw [List.flatMap_cons, List.append_assoc, cut, List.singleton_append, cutL_clean (h l (by simp)), List.nil_append]
    exact congrArg (l :: ·) (ih fun y hy => h y (by simp [hy]))
theorem cutL_sum (c : UInt8) : ∀ (s acc : List UInt8), ((cutL c acc s).map List.length).sum ≤ acc.length + s.length := by
  intro s
  induction s with
  | nil => intro acc; simp [cutL]
  | cons x r ih =>
    intro acc
    by_cases hx : x = c
    · have := ih []
      simp [cutL, hx] at this ⊢
      omega
    · have := ih (acc ++ [x])
      simp [cutL, hx] at this ⊢
      omega
theorem cut_len (c : UInt8) : ∀ (s acc : List UInt8), (cutL c acc s).length ≤ s.length + 1 := by
  intro s
  induction s with
  | nil => intro acc; simp [cutL]
  | cons x r ih =>
    intro acc
    by_cases hx : x = c
    · have := ih []
      simp [cutL, hx] at this ⊢
      omega
    · have := ih (acc ++ [x])
      simp [cutL, hx] at this ⊢
      omega
theorem split_cut (c : UInt8) : ∀ l : List UInt8, Lib.split l [c] = cut c l := by
  intro l
  induction l with
  | nil =>
    rw [Lib.split, Lib.count_miss (by simp [Lib.index])]; rfl
  | cons b l ih =>
    by_cases hb : b = c
    · subst hb
      have hix : Lib.index (b :: l) [b] = ((0 : Nat) : Int) := by rw [Lib.index]; simp [List.isPrefixOf]
      rw [Lib.split, Lib.count_cons_eq, Nat.add_comm, Lib.splitK, if_neg (by rw [hix]; decide), hix]
      rw [cut, cutL, if_pos rfl]
      exact congrArg ([] :: ·) ih
    · have hp : ([c] : List UInt8).isPrefixOf (b :: l) = false := by simp [List.isPrefixOf, Ne.symm hb]
      have hix : Lib.index (b :: l) [c] = if Lib.index l [c] == -1 then -1 else Lib.index l [c] + 1 := by rw [Lib.index, hp]; simp
      obtain ⟨h, t, h1, h2⟩ := cutL_acc c l [b]
      rw [cut, cutL, if_neg hb, List.nil_append, h2]
      rw [cut, h1] at ih
      rw [Lib.split, Lib.count_cons_ne b c l hb]
      by_cases hm : Lib.index l [c] = -1
      · rw [Lib.split, Lib.count_miss hm] at ih
        rw [Lib.count_miss hm]
        injection ih with e1 e2
        subst e1; subst e2
        rfl
      · have hge := Lib.index_ge l [c]
        obtain ⟨j, hj⟩ : ∃ j : Nat, Lib.index l [c] = j := ⟨(Lib.index l [c]).toNat, by omega⟩
        have hix' : Lib.index (b :: l) [c] = ((j + 1 : Nat) : Int) := by rw [hix, if_neg (fun e => hm (beq_iff_eq.1 e)), hj]; omega
        rw [Lib.split, Lib.count_hit (by simp) hj, Nat.add_comm, Lib.splitK, if_neg (by rw [hj]; simp), hj] at ih
        rw [Lib.count_hit (by simp) hj, Nat.add_comm, Lib.splitK, if_neg (by rw [hix']; simp; omega), hix']
        injection ih with e1 e2
        simp only [Int.toNat_natCast, Nat.add_zero, List.length_singleton] at e1 e2 ⊢
        rw [← e1, ← e2]
        simp [List.take_succ_cons, List.drop_succ_cons]

/-! ### Numbers -/
def isDig (x : UInt8) : Prop := 48 ≤ x.toNat ∧ x.toNat ≤ 57
def valN (a : Nat) (l : List UInt8) : Nat := l.foldl (fun a x => a * 10 + (x.toNat - 48)) a
theorem dec_dig : ∀ (u : Nat), ∀ x ∈ Lib.decDigits u, isDig x := by
  intro u
  induction u using Nat.strongRecOn with
  | ind u ih =>
    intro x hx
    rw [Lib.decDigits] at hx
    split at hx
    · rename_i h
      rw [List.mem_singleton] at hx
      subst hx
      have : (UInt8.ofNat (48 + u)).toNat = 48 + u := by simp; omega
      rw [isDig, this]; omega
    · rename_i h
      rw [List.mem_append] at hx
      rcases hx with hx | hx
      · exact ih (u / 10) (by omega) x hx
      · rw [List.mem_singleton] at hx
        subst hx
        have : (UInt8.ofNat (48 + u % 10)).toNat = 48 + u % 10 := by simp; omega
        rw [isDig, this]; omega
theorem valN_dec : ∀ u : Nat, valN 0 (Lib.decDigits u) = u := by
  intro u
  induction u using Nat.strongRecOn with
  | ind u ih =>
    rw [Lib.decDigits]
    split
    · have : (UInt8.ofNat (48 + u)).toNat = 48 + u := by simp; omega
      simp only [valN, List.foldl_cons, List.foldl_nil, this]; omega
    · have : (UInt8.ofNat (48 + u % 10)).toNat = 48 + u % 10 := by simp; omega
      have h2 := ih (u / 10) (by omega)
      rw [valN] at h2
      rw [valN, List.foldl_append, h2]
      simp only [List.foldl_cons, List.foldl_nil, this]; omega
theorem dec_ne (u : Nat) : Lib.decDigits u ≠ [] := by rw [Lib.decDigits]; split <;> simp
theorem dec_head : ∀ u : Nat, 1 ≤ u → (Lib.decDigits u).head? ≠ some 48 := by
  intro u
  induction u using Nat.strongRecOn with
  | ind u ih =>
    intro h1
    rw [Lib.decDigits]
    split
    · intro e
      simp only [List.head?_cons, Option.some.injEq] at e
      have := congrArg UInt8.toNat e
      have h3 : (UInt8.ofNat (48 + u)).toNat = 48 + u := by simp; omega
      rw [h3] at this
      simp at this; omega
    · have h2 := ih (u / 10) (by omega) (by omega)
      cases h : Lib.decDigits (u / 10) with
      | nil => exact absurd h (dec_ne _)
      | cons x r => rw [h] at h2; simpa using h2
def digitsV : Int → List UInt8 → Int
  | n, [] => n
  | n, x :: r => if x.toNat < 48 ∨ 57 < x.toNat then -1 else digitsV (10 * n + ((x.toNat : Int) - 48)) r
theorem digitsV_val : ∀ {l : List UInt8} {a : Nat}, (∀ x ∈ l, isDig x) → digitsV (a : Int) l = (valN a l : Int) := by
  intro l
  induction l with
  | nil => intro a _; rfl
  | cons x r ih =>
    intro a h
    obtain ⟨h1, h2⟩ := h x (by simp)
    rw [digitsV, if_neg (by omega), show 10 * (a : Int) + ((x.toNat : Int) - 48) = ((a * 10 + (x.toNat - 48) : Nat) : Int) by omega, ih fun y hy => h y (by simp [hy])]
    rfl
theorem decFrom_val : ∀ {l : List UInt8} {a : Nat}, (∀ x ∈ l, isDig x) → Lib.decFrom a l = some (valN a l) := by
  intro l
  induction l with
  | nil => intro a _; rfl
  | cons x r ih =>
    intro a h
    obtain ⟨h1, h2⟩ := h x (by simp)
    rw [Lib.decFrom, Lib.digitVal, if_pos ⟨h1, h2⟩]
    exact ih fun y hy => h y (by simp [hy])
theorem atoi_dec (u : Nat) : Lib.atoi (Lib.decDigits u) = some (u : Int) := by
  have hd := dec_dig u
  have hv := decFrom_val (a := 0) hd
  rw [valN_dec] at hv
  cases h : Lib.decDigits u with
  | nil => exact absurd h (dec_ne u)
  | cons x r =>
    rw [h] at hd hv
    obtain ⟨h1, h2⟩ := hd x (by simp)
    have n1 : (x == 45) = false := by
      rw [beq_eq_false_iff_ne]; intro e; subst e; simp at h1
    have n2 : (x == 43) = false := by
      rw [beq_eq_false_iff_ne]; intro e; subst e; simp at h1
    rw [Lib.atoi, n1, n2]
    simp only [Bool.false_eq_true, if_false, Lib.decNat, List.isEmpty_cons, hv, Option.map_some]
/-- A number, as the reference reads it: -1 if there is none. -/
def readS (s : ByteArray) : Int :=
  if s.data.toList.length < 1 ∨ 4 < s.data.toList.length ∨ (s.data.toList.head? = some 48 ∧ 1 < s.data.toList.length) then -1 else digitsV 0 s.data.toList
/-- .. as the program reads it. -/
def readP (s : ByteArray) : Option Int :=
  if s.data.toList.length < 1 ∨ 4 < s.data.toList.length then none else match Lib.atoi s.data.toList with
    | none => none
    | some n => if n < 0 ∨ 9999 < n ∨ Lib.itoa n ≠ s.data.toList then none else some n
def openP (s : ByteArray) : Option Int := if s = ⟨#[45]⟩ then some (-1) else readP s
theorem readS_dec {u : Nat} (h : u ≤ 9999) {s : ByteArray} (hs : s.data.toList = Lib.decDigits u) : readS s = u := by
  have hl := decDigits_small (u := u) (by omega)
  have hn := List.length_pos_iff.2 (dec_ne u)
  rw [readS, hs, if_neg ?_]
  · have := digitsV_val (a := 0) (dec_dig u)
    rw [valN_dec] at this
    exact this
  · rintro (h1 | h1 | ⟨h1, h2⟩)
    · omega
    · omega
    · by_cases h0 : 1 ≤ u
      · exact dec_head u h0 h1
      · obtain rfl : u = 0 := by omega
        rw [Lib.decDigits, dif_pos (by omega)] at h2
        simp at h2
theorem readP_some {s : ByteArray} {n : Int} (h : readP s = some n) : ∃ u : Nat, n = u ∧ u ≤ 9999 ∧ s.data.toList = Lib.decDigits u := by
  unfold readP at h
  split at h
  · cases h
  cases ha : Lib.atoi s.data.toList with
  | none => rw [ha] at h; cases h
  | some m =>
    rw [ha] at h
    simp only at h
    split at h
    · cases h
    · rename_i h1
      injection h with h
      subst h
      obtain ⟨u, rfl⟩ := Int.eq_ofNat_of_zero_le (by omega : 0 ≤ m)
      refine ⟨u, rfl, by omega, ?_⟩
      have h2 : Lib.itoa (u : Int) = s.data.toList := by
        apply Classical.byContradiction
        intro e
        exact h1 (.inr (.inr e))
      rw [← h2, Lib.itoa_nonneg]
theorem readP_dec {u : Nat} (h : u ≤ 9999) {s : ByteArray} (hs : s.data.toList = Lib.decDigits u) : readP s = some (u : Int) := by
  have hl := decDigits_small (u := u) (by omega)
  have hn := List.length_pos_iff.2 (dec_ne u)
  rw [readP, hs, if_neg (by omega), atoi_dec]
  show (if _ then _ else _) = _
  rw [if_neg]
  rw [Lib.itoa_nonneg]
  rintro (h1 | h1 | h1)
  · omega
  · omega
  · exact h1 rfl
theorem readP_S {s : ByteArray} {n : Int} (h : readP s = some n) : readS s = n := by
  obtain ⟨u, rfl, h1, h2⟩ := readP_some h
  exact readS_dec h1 h2
theorem readS_dash : readS ⟨#[45]⟩ = -1 := by decide
theorem openP_S {s : ByteArray} {n : Int} (h : openP s = some n) : readS s = n := by
  unfold openP at h
  split at h
  · rename_i hs
    injection h with h
    subst h; subst hs
    exact readS_dash
  · exact readP_S h
theorem readP_year {n : Int} (h0 : 0 ≤ n) (h1 : n ≤ 9999) : readP (yearT n) = some n := by
  obtain ⟨u, rfl⟩ := Int.eq_ofNat_of_zero_le h0
  rw [yearT, if_neg (by omega)]
  exact readP_dec (by omega) (by rw [Lib.itoa_nonneg])
theorem openP_year {n : Int} (h0 : -1 ≤ n) (h1 : n ≤ 9999) : openP (yearT n) = some n := by
  by_cases hn : n < 0
  · obtain rfl : n = -1 := by omega
    rw [yearT, if_pos (by omega), openP, if_pos rfl]
  · have h2 := readP_year (by omega) h1
    unfold openP
    rw [if_neg, h2]
    intro e
    rw [e, show readP ⟨#[45]⟩ = none by decide] at h2
    cases h2
end Go.Proofs.YthpcippgifmabaaGreatDoor
