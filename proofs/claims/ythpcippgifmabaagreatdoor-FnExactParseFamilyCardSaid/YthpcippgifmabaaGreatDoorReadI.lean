/-
  Years, sexes, parents and lines read from text, in the program.
-/
import Derived.Test.YthpcippgifmabaaGreatDoorReadLib
namespace Go.Proofs.YthpcippgifmabaaGreatDoor
set_option maxRecDepth 100000
open Go.RowKit

/-- A number, and whether there is one. -/
def optN (r : Option Int) : Int × Bool := match r with
  | some n => (n, true)
  | none => (0, false)
theorem readP_out {s : ByteArray} (h : s.size < 1 ∨ 4 < s.size) : readP s = none := by
  rw [readP, if_pos]
  rw [len_bytes]; exact h
theorem readP_none {s : ByteArray} (h : Lib.atoi s.data.toList = none) : readP s = none := by
  unfold readP; split
  · rfl
  · rw [h]
theorem readP_val {s : ByteArray} {n : Int} (h1 : ¬ s.size < 1) (h4 : ¬ 4 < s.size) (h : Lib.atoi s.data.toList = some n) : readP s = if n < 0 ∨ 9999 < n ∨ Lib.itoa n ≠ s.data.toList then none else some n := by
  rw [readP, if_neg (by rw [len_bytes]; omega), h]
set_option maxHeartbeats 4000000 in
theorem readYear_any (s : ByteArray) (w : World) (hv : Vars w) : Calls Tryz.prog 35 #[.string s] w (RetIntB w (optN (readP s))) := by
  by_cases h1 : s.size < 1
  · have i1 : (s.size : Int) < 1 := by omega
    rw [readP_out (.inl h1)]
    go_enter Tryz.func35, Tryz.ntmps35
    go_wp2
    exact bodyPost_ret (v := .tuple #[.int .i64 0, .bool false]) (by simp [results, Tryz.results35, go_sem]) rfl ⟨rfl, Below.refl _ _⟩
  have i1 : ¬ (s.size : Int) < 1 := by omega
  by_cases h4 : 4 < s.size
  · have i2 : (4 : Int) < (s.size : Int) := by omega
    rw [readP_out (.inr h4)]
    go_enter Tryz.func35, Tryz.ntmps35
    go_wp2
    exact bodyPost_ret (v := .tuple #[.int .i64 0, .bool false]) (by simp [results, Tryz.results35, go_sem]) rfl ⟨rfl, Below.refl _ _⟩
  have i2 : ¬ (4 : Int) < (s.size : Int) := by omega
  cases ha : Lib.atoi s.data.toList with
  | none =>
    rw [readP_none ha]
    have hc := fun W hw => atoi_bad s W (by omega) ha hw
    clear ha h1 h4
    go_enter Tryz.func35, Tryz.ntmps35
    go_wp2_with (go_at_call 57; (with_reducible refine (hc _ hv).mono ?_); rintro e w1 ⟨t, v, rfl, hb1⟩)
    exact bodyPost_ret (v := .tuple #[.int .i64 0, .bool false]) (by simp [results, Tryz.results35, go_sem]) rfl ⟨rfl, hb1⟩
  | some n =>
    rw [readP_val h1 h4 ha]
    have hc := fun W => atoi_ok s n W (by omega) ha
    clear ha h1 h4
    by_cases hn0 : n < 0
    · rw [if_pos (.inl hn0)]
      go_enter Tryz.func35, Tryz.ntmps35
      go_wp2_with (go_at_call 57; (with_reducible refine (hc _).mono ?_); rintro e w1 ⟨rfl, hb1⟩)
      exact bodyPost_ret (v := .tuple #[.int .i64 0, .bool false]) (by simp [results, Tryz.results35, go_sem]) rfl ⟨rfl, hb1⟩
    by_cases hn9 : 9999 < n
    · rw [if_pos (.inr (.inl hn9))]
      go_enter Tryz.func35, Tryz.ntmps35
      go_wp2_with (go_at_call 57; (with_reducible refine (hc _).mono ?_); rintro e w1 ⟨rfl, hb1⟩)
      exact bodyPost_ret (v := .tuple #[.int .i64 0, .bool false]) (by simp [results, Tryz.results35, go_sem]) rfl ⟨rfl, hb1⟩
    have hi := fun W hw => itoa_any n W (by omega) (by omega) hw
    have HV := Lib.hid hv
    by_cases he : Lib.itoa n = s.data.toList
    · rw [if_neg (by rintro (h | h | h); exact hn0 h; exact hn9 h; exact h he)]
      rw [he, mkT_bytes] at hi
      clear he
      go_enter Tryz.func35, Tryz.ntmps35
      go_wp2_with (first
        | (go_at_call 57; (with_reducible refine (hc _).mono ?_); rintro e w1 ⟨rfl, hb1⟩)
        | (go_at_call 58; (with_reducible refine (hi _ (HV.out.below hb1).tab).mono ?_); rintro e w2 ⟨rfl, hb2⟩))
      exact bodyPost_ret (v := .tuple #[.int .i64 n, .bool true]) (by simp [results, Tryz.results35, go_sem]) rfl ⟨rfl, hb1.trans (hb2.mono hb1.size)⟩
    · rw [if_pos (.inr (.inr he))]
      have hne : ((mkT (Lib.itoa n)).toList == s.toList) = false := by
        rw [beq_eq_false_iff_ne]
        intro e
        rw [ByteArray.toList_eq, ByteArray.toList_eq] at e
        exact he e
      clear he
      generalize mkT (Lib.itoa n) = T at hi hne
      go_enter Tryz.func35, Tryz.ntmps35
      go_wp2_with (first
        | (go_at_call 57; (with_reducible refine (hc _).mono ?_); rintro e w1 ⟨rfl, hb1⟩)
        | (go_at_call 58; (with_reducible refine (hi _ (HV.out.below hb1).tab).mono ?_); rintro e w2 ⟨rfl, hb2⟩))
      exact bodyPost_ret (v := .tuple #[.int .i64 0, .bool false]) (by simp [results, Tryz.results35, go_sem]) rfl ⟨rfl, hb1.trans (hb2.mono hb1.size)⟩
theorem readOpen_any (s : ByteArray) (w : World) (hv : Vars w) : Calls Tryz.prog 36 #[.string s] w (RetIntB w (optN (openP s))) := by
  by_cases hs : s = ⟨#[45]⟩
  · subst hs
    rw [openP, if_pos rfl]
    go_enter Tryz.func36, Tryz.ntmps36
    go_wp2
    exact bodyPost_ret (v := .tuple #[.int .i64 (-1), .bool true]) (by simp [results, Tryz.results36, go_sem]) rfl ⟨rfl, Below.refl _ _⟩
  · rw [openP, if_neg hs]
    have n1 : (s.toList == [45]) = false := by
      rw [beq_eq_false_iff_ne]
      intro e
      apply hs
      rw [ByteArray.toList_eq] at e
      exact ByteArray.ext (Array.toList_inj.1 e)
    have hy := readYear_any s w hv
    obtain ⟨⟨q, qb⟩, hq⟩ : ∃ q, optN (readP s) = q := ⟨_, rfl⟩
    rw [hq] at hy ⊢
    clear hs hq hv
    go_enter Tryz.func36, Tryz.ntmps36
    go_wp2_with (go_at_call 35; (with_reducible refine hy.mono ?_); rintro e w1 ⟨rfl, hb1⟩)
    exact bodyPost_ret (v := .tuple #[.int .i64 q, .bool qb]) (by simp [results, Tryz.results36, go_sem]) rfl ⟨rfl, hb1⟩
theorem readParent_any (A B : Option Addr) (c d lo hi : Nat) (xs : List Person) (ys : List Union) (s : ByteArray) (w : World) (h : EPerson.AS w lo hi A xs) (h' : EUnion.AS w lo hi B ys) (hh : hi ≤ w.heap.size) :
    Calls Tryz.prog 38 #[.agg #[.slice A xs.length c, .slice B ys.length d], .string s] w (RetIntB w (idxM s xs)) := by
  by_cases hs : s = ⟨#[45]⟩
  · subst hs
    rw [idxM, if_pos rfl]
    go_enter Tryz.func38, Tryz.ntmps38
    go_wp2
    exact bodyPost_ret (v := .tuple #[.int .i64 (-1), .bool true]) (by simp [results, Tryz.results38, go_sem]) rfl ⟨rfl, by (with_reducible repeat' first | exact Below.refl _ _ | assumption | (refine Below.setCell ?_ (by first | omega | (simp; omega) | (simp; done) | (dsimp only; omega)) _) | (refine Below.alloc ?_ (by first | omega | (simp; omega) | (simp; done) | (dsimp only; omega)) _) | (refine below_drewN ?_ _) | (refine Below.drew ?_))⟩
  · rw [idxM, if_neg hs]
    have n1 : (s.toList == [45]) = false := by
      rw [beq_eq_false_iff_ne]
      intro e
      apply hs
      rw [ByteArray.toList_eq] at e
      exact ByteArray.ext (Array.toList_inj.1 e)
    obtain ⟨⟨q, qb⟩, hq⟩ : ∃ q, findFrom s xs 0 = q := ⟨_, rfl⟩
    have hf := fun W h1 h2 h3 => findPerson_any A B c d lo hi xs ys s W h1 h2 h3
    rw [hq] at hf ⊢
    clear hs hq
    go_enter Tryz.func38, Tryz.ntmps38
    go_wp2_with (go_at_call 34; (with_reducible refine (hf _ (h.same (by (with_reducible repeat' first | exact Same.refl _ _ _ | assumption | (refine Same.setCell ?_ (by first | omega | (simp; omega) | (simp; done) | (dsimp only; omega)) _) | (refine Same.alloc ?_ (by first | omega | (simp; omega) | (simp; done) | (dsimp only; omega)) _) | (refine Same.drewN ?_ _) | (refine Same.drew ?_)))) (h'.same (by (with_reducible repeat' first | exact Same.refl _ _ _ | assumption | (refine Same.setCell ?_ (by first | omega | (simp; omega) | (simp; done) | (dsimp only; omega)) _) | (refine Same.alloc ?_ (by first | omega | (simp; omega) | (simp; done) | (dsimp only; omega)) _) | (refine Same.drewN ?_ _) | (refine Same.drew ?_)))) (by simp; omega)).mono ?_); rintro e w1 ⟨rfl, hb1⟩)
    exact bodyPost_ret (v := .tuple #[.int .i64 q, .bool qb]) (by simp [results, Tryz.results38, go_sem]) rfl ⟨rfl, by (with_reducible repeat' first | exact Below.refl _ _ | assumption | (refine Below.setCell ?_ (by first | omega | (simp; omega) | (simp; done) | (dsimp only; omega)) _) | (refine Below.alloc ?_ (by first | omega | (simp; omega) | (simp; done) | (dsimp only; omega)) _) | (refine below_drewN ?_ _) | (refine Below.drew ?_) | (refine Below.trans ?_ (hb1.mono (by first | omega | (simp; omega) | (simp; done) | (dsimp only; omega)))))⟩
def sexM (s : ByteArray) : Int := if s = wMan then 1 else if s = wWoman then 2 else 0
theorem readSex_any (s : ByteArray) (w : World) : Calls Tryz.prog 37 #[.string s] w fun e w' => e = .returned (.int .i64 (sexM s)) ∧ w = w' := by
  by_cases h1 : s = ⟨#[109, 97, 110]⟩
  · subst h1
    rw [sexM, if_pos (show (⟨#[109, 97, 110]⟩ : ByteArray) = wMan from rfl)]
    go_enter Tryz.func37, Tryz.ntmps37
    go_wp2
    go_ret
    exact ⟨rfl, rfl⟩
  have n1 : (s.toList == [109, 97, 110]) = false := by
    rw [beq_eq_false_iff_ne]
    intro e
    apply h1
    rw [ByteArray.toList_eq] at e
    exact ByteArray.ext (Array.toList_inj.1 e)
  by_cases h2 : s = ⟨#[119, 111, 109, 97, 110]⟩
  · subst h2
    rw [sexM, if_neg (by decide), if_pos (show (⟨#[119, 111, 109, 97, 110]⟩ : ByteArray) = wWoman from rfl)]
    go_enter Tryz.func37, Tryz.ntmps37
    go_wp2
    go_ret
    exact ⟨rfl, rfl⟩
  have n2 : (s.toList == [119, 111, 109, 97, 110]) = false := by
    rw [beq_eq_false_iff_ne]
    intro e
    apply h2
    rw [ByteArray.toList_eq] at e
    exact ByteArray.ext (Array.toList_inj.1 e)
  rw [sexM, if_neg (show ¬ s = wMan from h1), if_neg (show ¬ s = wWoman from h2)]
  clear h1 h2
  go_enter Tryz.func37, Tryz.ntmps37
  go_wp2
  go_ret
  exact ⟨rfl, rfl⟩
end Go.Proofs.YthpcippgifmabaaGreatDoor
