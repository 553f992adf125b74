/-
  Sizes, copies and equality of relations.
-/
import Derived.Test.YtmgfpcchlonknaaConvInts
namespace Go.Proofs.Ytmgfpcchlonknaa
set_option maxRecDepth 100000
open Go.RowKit

structure Relation where
  size : Int
  rows : List (List Int)
  deriving DecidableEq

theorem szRelation_any (A : Option Addr) (c lo hi : Nat) (s : Int) (xs : List (List Int)) (left : Int) (w : World) (h : EIntS.AS w lo hi A xs) (h0 : 0 ≤ left) (h1 : left ≤ 1048576) (hh : hi ≤ w.heap.size) :
    Calls Try.prog 18 #[.agg #[.int .i64 s, .slice A xs.length c], .int .i64 left] w fun e w' => ∃ r, e = .returned (.int .i64 r) ∧ Below w.heap.size w w' ∧ Sz r left (xs.length + tot xs) := by
  go_enter Try.func18, Try.ntmps18
  go_wp2_with (go_at_call 67; refine (szIntSS_any A c lo hi xs left _ ?_ h0 h1).mono ?_; exact h.same ((Same.refl _ _ _).alloc hh _); rintro e w' ⟨r, rfl, rfl, hs⟩)
  · go_ret
    refine ⟨_, rfl, (Below.refl _ _).alloc (Nat.le_refl _) _, .inl ⟨rfl, ?_⟩⟩
    rcases hs with ⟨_, hs⟩ | ⟨hs, _⟩ <;> omega
  · go_ret
    exact ⟨_, rfl, (Below.refl _ _).alloc (Nat.le_refl _) _, hs⟩

theorem toRelation_any (A : Option Addr) (c lo hi : Nat) (s : Int) (xs : List (List Int)) (w : World) (h : EIntS.AS w lo hi A xs) (hh : hi ≤ w.heap.size) (hs : xs.length + tot xs ≤ 1048576) :
    Calls Try.prog 20 #[.agg #[.int .i64 s, .slice A xs.length c]] w fun e w' => ∃ A' c', e = .returned (.agg #[.int .i64 s, .slice A' xs.length c']) ∧
      EIntS.OS w' w.heap.size w'.heap.size (.slice A' xs.length c') xs ∧ Below w.heap.size w w' := by
  go_enter Try.func20, Try.ntmps20
  go_wp2_with (go_at_call 70; refine (toIntSS_any A c lo hi xs _ (h.same ?_) ?_ hs).mono ?_; (with_reducible repeat' first | exact Same.refl _ _ _ | assumption | (refine Same.setCell ?_ (by first | omega | (simp; omega) | (simp; done) | (dsimp only; omega)) _) | (refine Same.alloc ?_ (by first | omega | (simp; omega) | (simp; done) | (dsimp only; omega)) _) | (refine Same.drewN ?_ _) | (refine Same.drew ?_)); (first | omega | (simp; omega) | (simp; done) | (dsimp only; omega)); rintro e w1 ⟨A1, c1, rfl, hv, hb1⟩; (obtain ⟨hb1c, hb1f⟩ := bcell hb1); (have hb1z := hb1.size); (try simp only [szs] at hb1c hb1f hb1z))
  exact bodyPost_ret (v := .agg #[.int .i64 s, .slice A1 xs.length c1]) (by simp [results, Try.results20, go_sem, hb1c]) rfl ⟨_, _, rfl, (hv.same (by (with_reducible repeat' first | exact Same.refl _ _ _ | assumption | (refine Same.setCell ?_ (by first | omega | (simp; omega) | (simp; done) | (dsimp only; omega)) _) | (refine Same.alloc ?_ (by first | omega | (simp; omega) | (simp; done) | (dsimp only; omega)) _) | (refine Same.drewN ?_ _) | (refine Same.drew ?_)))).mono (by first | omega | (simp; omega) | (simp; done) | (dsimp only; omega)) (by first | omega | (simp; omega) | (simp; done) | (dsimp only; omega)), by (with_reducible repeat' first | exact Below.refl _ _ | assumption | (refine Below.setCell ?_ (by first | omega | (simp; omega) | (simp; done) | (dsimp only; omega)) _) | (refine Below.alloc ?_ (by first | omega | (simp; omega) | (simp; done) | (dsimp only; omega)) _) | (refine below_drewN ?_ _) | (refine Below.drew ?_) | (refine Below.trans ?_ (hb1.mono (by first | omega | (simp; omega) | (simp; done) | (dsimp only; omega)))))⟩

theorem eqRelation_any (A B : Option Addr) (c d lo hi lo' hi' : Nat) (s t : Int) (xs ys : List (List Int)) (w : World) (h : EIntS.AS w lo hi A xs) (h' : EIntS.AS w lo' hi' B ys) (hh : hi ≤ w.heap.size) (hh' : hi' ≤ w.heap.size) :
    Calls Try.prog 22 #[.agg #[.int .i64 s, .slice A xs.length c], .agg #[.int .i64 t, .slice B ys.length d]] w fun e w' => e = .returned (.bool (eqB (⟨s, xs⟩ : Relation) ⟨t, ys⟩)) ∧ Below w.heap.size w w' := by
  go_enter Try.func22, Try.ntmps22
  go_wp2_with (go_at_call 73; refine (eqIntSS_any A B c d lo hi lo' hi' xs ys _ (h.same ?_) (h'.same ?_)).mono ?_; (with_reducible repeat' first | exact Same.refl _ _ _ | assumption | (refine Same.setCell ?_ (by first | omega | (simp; omega) | (simp; done) | (dsimp only; omega)) _) | (refine Same.alloc ?_ (by first | omega | (simp; omega) | (simp; done) | (dsimp only; omega)) _) | (refine Same.drewN ?_ _) | (refine Same.drew ?_)); (with_reducible repeat' first | exact Same.refl _ _ _ | assumption | (refine Same.setCell ?_ (by first | omega | (simp; omega) | (simp; done) | (dsimp only; omega)) _) | (refine Same.alloc ?_ (by first | omega | (simp; omega) | (simp; done) | (dsimp only; omega)) _) | (refine Same.drewN ?_ _) | (refine Same.drew ?_)); rintro e w1 ⟨n, rfl, rfl⟩)
  all_goals (go_ret; exact ⟨ret_bool (by simp_all [eqB]), by (with_reducible repeat' first | exact Below.refl _ _ | assumption | (refine Below.setCell ?_ (by first | omega | (simp; omega) | (simp; done) | (dsimp only; omega)) _) | (refine Below.alloc ?_ (by first | omega | (simp; omega) | (simp; done) | (dsimp only; omega)) _) | (refine below_drewN ?_ _) | (refine Below.drew ?_))⟩)
end Go.Proofs.Ytmgfpcchlonknaa
