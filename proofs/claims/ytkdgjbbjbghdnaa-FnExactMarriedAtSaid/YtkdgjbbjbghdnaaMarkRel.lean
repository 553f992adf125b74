/-
  Marks: each number of a relation's rows is overwritten by a number of its own, and asked for again.
-/
import Derived.Test.YtkdgjbbjbghdnaaConvRel
namespace Go.Proofs.Ytkdgjbbjbghdnaa
set_option maxRecDepth 100000
open Go.RowKit

def marks (k : Int) (n : Nat) : List Int := (List.range n).map fun (i : Nat) => k + (i : Int)
theorem marks_len (k : Int) (n : Nat) : (marks k n).length = n := by simp [marks]
theorem marks_succ (k : Int) (n : Nat) : marks k (n + 1) = marks k n ++ [k + n] := by simp [marks, List.range_succ]
def ints (xs : List Int) : List Value := xs.flatMap fun n => [.int .i64 n]
theorem ints_len (xs : List Int) : (ints xs).length = xs.length := by induction xs <;> simp_all [ints]
theorem ints_at (xs : List Int) (i : Nat) : (ints xs)[i]? = (xs[i]?).map (Value.int .i64) := by
  have : ints xs = xs.map (Value.int .i64) := by induction xs <;> simp_all [ints]
  rw [this, List.getElem?_map]
theorem ints_set (xs : List Int) (i : Nat) (y : Int) : (ints xs).set i (.int .i64 y) = ints (xs.set i y) := by
  have h : ∀ xs, ints xs = xs.map (Value.int .i64) := fun xs => by induction xs <;> simp_all [ints]
  rw [h, h, List.map_set]
theorem EInt_os {w : World} {lo hi : Nat} {v : Value} {xs : List Int} : EInt.OS w lo hi v xs ↔ OSl w lo hi 3 1 v xs.length (ints xs) := flat_os
theorem set_mid {xs : List Int} {k : Int} {i : Nat} (h : i < xs.length) : (marks k i ++ xs.drop i).set i (k + i) = marks k (i + 1) ++ xs.drop (i + 1) := by
  rw [List.set_append_right _ _ (by rw [marks_len]; exact Nat.le_refl _), marks_len, Nat.sub_self, List.drop_eq_getElem_cons h, List.set_cons_zero, marks_succ]; simp

def MarkRel (w : World) (lo hi : Nat) (v : Value) (xs : List Int) (k : Int) (kk i : Value) (wr : World) : Prop :=
  ∃ j : Nat, j ≤ xs.length ∧ i = .int .i64 j ∧ kk = .int .i64 (k + j) ∧ EInt.OS wr lo hi v (marks k j ++ xs.drop j) ∧ Only (fun b => v.ownBlock = some b) w wr ∧ wr.heap.size = w.heap.size

theorem markIntS_any (A : Option Addr) (c lo hi : Nat) (xs : List Int) (k : Int) (w : World) (h : EInt.OS w lo hi (.slice A xs.length c) xs) (h0 : 0 ≤ k) (h1 : k + xs.length ≤ 4611686018427387904) :
    Calls Try.prog 35 #[.slice A xs.length c, .int .i64 k] w fun e w' => e = .returned (.int .i64 (k + xs.length)) ∧ EInt.OS w' lo hi (.slice A xs.length c) (marks k xs.length) ∧
      Only (fun b => (Value.slice A xs.length c).ownBlock = some b) w w' ∧ w'.heap.size = w.heap.size := by
  have hx := h.read.as.le
  unfold BIG at hx
  go_enter Try.func35, Try.ntmps35
  go_wp2
  go_loopw [1, 5] (fun kk i wr => MarkRel w lo hi (.slice A xs.length c) xs k kk i wr) (fun _ i _ => xs.length - (intOf i).toNat)
  case atStart => exact ⟨0, Nat.zero_le _, rfl, by simp, by simpa [marks] using h, Only.refl _ _, rfl⟩
  case round =>
    obtain ⟨j, hj, rfl, rfl, ho, hch, hsz⟩ := hrel
    have HS := Lib.hid hsz; clear hsz
    by_cases hlt : j < xs.length
    · have hlen : (marks k j ++ xs.drop j).length = xs.length := by rw [List.length_append, marks_len, List.length_drop]; omega
      have ho' := EInt_os.1 ho
      rw [hlen] at ho'
      obtain ⟨g, c', hv, hg1, hg2, hg3⟩ := ho'.form (by omega)
      injection hv with hv _ hc
      subst hv; subst hc
      have hcell := fun u hu => ho'.cell (j := j) (u := u) hu
      have hx' : (ints (marks k j ++ xs.drop j))[j]? = some (.int .i64 (xs.getD j 0)) := by
        rw [ints_at, List.getElem?_append_right (by rw [marks_len]; exact Nat.le_refl _), marks_len, Nat.sub_self, List.getElem?_drop]; simp [List.getD, hlt]
      obtain ⟨hc1, hc2⟩ := hcell _ hx'
      have HL := Lib.hid hlen; clear hlen hcell hx'
      go_wp2
      refine ⟨⟨j + 1, by omega, by go_num, by go_num, ?_, hch.setCell (a := ⟨g, j, none⟩) rfl _, by simp [World.setCell, HS.out]⟩, by simp [intOf]; omega⟩
      have h2 := ho'.set (j := j) (u := .int .i64 (k + j)) (by rw [ints_len, HL.out]; exact hlt)
      rw [ints_set, set_mid hlt] at h2
      refine EInt_os.2 ?_
      rw [show (marks k (j + 1) ++ xs.drop (j + 1)).length = xs.length from by rw [List.length_append, marks_len, List.length_drop]; omega]
      exact h2
    · obtain rfl : j = xs.length := by omega
      go_wp2
      go_ret
      exact ⟨rfl, by simpa using ho, hch, HS.out⟩

def HeldRel (xs : List Int) (k : Int) (kk i : Value) : Prop := ∃ j : Nat, j ≤ xs.length ∧ i = .int .i64 j ∧ kk = .int .i64 (k + j)
theorem heldIntS_any (A : Option Addr) (c lo hi n : Nat) (k : Int) (w : World) (h : EInt.AS w lo hi A (marks k n)) (h0 : 0 ≤ k) (h1 : k + n ≤ 4611686018427387904) :
    Calls Try.prog 36 #[.slice A n c, .int .i64 k] w fun e w' => e = .returned (.int .i64 (k + n)) ∧ w = w' := by
  have hx := h.le
  rw [marks_len] at hx
  unfold BIG at hx
  go_enter Try.func36, Try.ntmps36
  go_wp2
  go_loop [1, 5] (fun kk i => HeldRel (marks k n) k kk i) (fun _ i => n - (intOf i).toNat)
  case atStart => exact ⟨0, Nat.zero_le _, rfl, by simp⟩
  case round =>
    obtain ⟨j, hj, rfl, rfl⟩ := hrel
    rw [marks_len] at hj
    by_cases hlt : j < n
    · obtain ⟨b, off, x, rfl, _, _, _, hxk, hc⟩ := AInt.at_ h (by rw [marks_len]; exact hlt)
      obtain rfl : x = k + j := by simp [marks, hlt] at hxk; exact hxk.symm
      clear hxk
      go_wp2
      exact ⟨⟨j + 1, by rw [marks_len]; omega, by go_num, by go_num⟩, by simp [intOf]; omega⟩
    · obtain rfl : j = n := by omega
      go_wp2
      go_ret
      exact ⟨rfl, rfl⟩

def marksSS (k : Int) : List (List Int) → List (List Int)
  | [] => []
  | x :: r => marks k x.length :: marksSS (k + x.length) r
theorem marksSS_len (xs : List (List Int)) : ∀ k, (marksSS k xs).length = xs.length := by induction xs <;> simp_all [marksSS]
theorem marksSS_at {xs : List (List Int)} : ∀ {k : Int} {j : Nat} {x : List Int}, xs[j]? = some x → (marksSS k xs)[j]? = some (marks (k + tot (xs.take j)) x.length) := by
  induction xs with
  | nil => intro k j x h; simp at h
  | cons y r ih =>
    intro k j x h
    cases j with
    | zero => simp at h; subst h; simp [marksSS, tot]
    | succ j => simp at h; simp only [marksSS, List.getElem?_cons_succ, ih h, List.take_succ_cons, tot]; congr 2; omega
theorem tot_take_succ {xs : List (List Int)} : ∀ {j : Nat} {x : List Int}, xs[j]? = some x → tot (xs.take (j + 1)) = tot (xs.take j) + x.length := by
  induction xs with
  | nil => intro j x h; simp at h
  | cons y r ih =>
    intro j x h
    cases j with
    | zero => simp at h; subst h; simp [tot]
    | succ j => simp at h; simp only [List.take_succ_cons, tot, ih h]; omega
theorem tot_take_le (xs : List (List Int)) : ∀ j, tot (xs.take j) ≤ tot xs := by
  induction xs with
  | nil => intro j; simp [tot]
  | cons y r ih =>
    intro j
    cases j with
    | zero => simp [tot]
    | succ j => simp only [List.take_succ_cons, tot]; have := ih j; omega
theorem tot_marksSS (xs : List (List Int)) : ∀ k, tot (marksSS k xs) = tot xs := by
  induction xs with
  | nil => intro k; rfl
  | cons y r ih => intro k; simp only [marksSS, tot, marks_len, ih]

/-- The first j rows are marked, the others as they were. -/
def Marked (k : Int) (xs ys : List (List Int)) (j : Nat) : Prop := ys.length = xs.length ∧ (∀ i, i < j → ys[i]? = (marksSS k xs)[i]?) ∧ ∀ i, j ≤ i → ys[i]? = xs[i]?
theorem Marked.step {k : Int} {xs ys : List (List Int)} {j : Nat} {x : List Int} (h : Marked k xs ys j) (hx : xs[j]? = some x) : Marked k xs (ys.set j (marks (k + tot (xs.take j)) x.length)) (j + 1) := by
  obtain ⟨h1, h2, h3⟩ := h
  have hj : j < ys.length := by rw [h1]; exact (List.getElem?_eq_some_iff.1 hx).1
  refine ⟨by simpa using h1, fun i hi => ?_, fun i hi => ?_⟩
  · by_cases hij : j = i
    · subst hij; rw [List.getElem?_set_self hj, marksSS_at hx]
    · rw [List.getElem?_set_ne hij]; exact h2 i (by omega)
  · rw [List.getElem?_set_ne (by omega)]; exact h3 i (by omega)
theorem Marked.done {k : Int} {xs ys : List (List Int)} {j : Nat} (h : Marked k xs ys j) (hj : xs.length ≤ j) : ys = marksSS k xs := by
  obtain ⟨h1, h2, h3⟩ := h
  apply List.ext_getElem?
  intro i
  by_cases hi : i < xs.length
  · exact h2 i (by omega)
  · rw [List.getElem?_eq_none (by omega), List.getElem?_eq_none (by rw [marksSS_len]; omega)]

def MarkSSRel (w : World) (lo hi : Nat) (v : Value) (xs : List (List Int)) (k : Int) (kk i : Value) (wr : World) : Prop :=
  ∃ (j : Nat) (ys : List (List Int)), j ≤ xs.length ∧ i = .int .i64 j ∧ kk = .int .i64 (k + tot (xs.take j)) ∧ EIntS.OS wr lo hi v ys ∧ Marked k xs ys j ∧ Chg lo hi w wr ∧ wr.heap.size = w.heap.size

def HeldSSRel (xs : List (List Int)) (k : Int) (kk i : Value) (w wr : World) : Prop := ∃ j : Nat, j ≤ xs.length ∧ i = .int .i64 j ∧ kk = .int .i64 (k + tot (xs.take j)) ∧ w = wr
end Go.Proofs.Ytkdgjbbjbghdnaa
