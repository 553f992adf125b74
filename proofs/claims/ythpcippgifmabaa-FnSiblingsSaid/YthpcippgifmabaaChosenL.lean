/-
  The comparison that sort.Slice is handed.
-/
import Derived.Test.YthpcippgifmabaaSibI
namespace Go.Proofs.Ythpcippgifmabaa
set_option maxRecDepth 100000
open Go.RowKit

set_option maxHeartbeats 8000000 in
/-- The comparison that sort.Slice is handed. -/
theorem chosenLess_any (A B D : Option Addr) (c d lo hi gf go n e : Nat) (xs : List Person) (ys : List Union) (i j a b : Nat) (w : World) (h : EPerson.AS w lo hi A xs) (h' : EUnion.AS w lo hi B ys) (hh : hi ≤ w.heap.size) (ha : a < xs.length) (hb : b < xs.length)
    (Ff : Blk w gf 26 #[.slice A xs.length c, .slice B ys.length d]) (Fo : Blk w go 29 #[.slice D n e]) (hi1 : i < n) (hj1 : j < n) {g : Nat} (hD : D = some ⟨g, 0, none⟩) (hci : w.cell? ⟨g, i, none⟩ = some (.int .i64 a)) (hcj : w.cell? ⟨g, j, none⟩ = some (.int .i64 b)) (_hn : n < 50) :
    Calls Try.prog 54 #[.int .i64 i, .int .i64 j, .pointer (some ⟨gf, 0, none⟩), .pointer (some ⟨go, 0, none⟩)] w fun e w' => e = .returned (.bool (elderAt xs a b)) ∧ Below w.heap.size w w' := by
  subst hD
  have e0 := Ff.cell (i := 0) rfl; have e1 := Ff.cell (i := 1) rfl; have e2 := Fo.cell (i := 0) rfl
  have l0 := Ff.lt; have l1 := Fo.lt
  obtain ⟨R, hR⟩ : ∃ R, elderAt xs a b = R := ⟨_, rfl⟩
  have HR := Lib.hid hR
  rw [hR]
  clear hR
  have i1 : (0 : Int) ≤ (i : Int) ∧ (i : Int) < (n : Int) := by omega
  have i2 : (0 : Int) ≤ (j : Int) ∧ (j : Int) < (n : Int) := by omega
  go_enter Try.func54, Try.ntmps54
  go_upto_region 1 with fail
  go_region_with (go_at_call 35; (with_reducible refine (isElder_any _ _ _ _ lo hi xs ys a b _ (h.same (by (with_reducible repeat' first | exact Same.refl _ _ _ | assumption | (refine Same.setCell ?_ (by first | omega | (simp; omega) | (simp; done) | (dsimp only; omega)) _) | (refine Same.alloc ?_ (by first | omega | (simp; omega) | (simp; done) | (dsimp only; omega)) _) | (refine Same.drewN ?_ _) | (refine Same.drew ?_)))) (h'.same (by (with_reducible repeat' first | exact Same.refl _ _ _ | assumption | (refine Same.setCell ?_ (by first | omega | (simp; omega) | (simp; done) | (dsimp only; omega)) _) | (refine Same.alloc ?_ (by first | omega | (simp; omega) | (simp; done) | (dsimp only; omega)) _) | (refine Same.drewN ?_ _) | (refine Same.drew ?_)))) (by first | omega | (simp; omega) | (simp; done) | (dsimp only; omega)) ha hb).mono ?_); rintro e w2 ⟨rfl, hb2⟩; simp only [HR.out])
  all_goals
    go_wp2_with fail
    go_ret
    exact ⟨rfl, by (with_reducible repeat' first | exact Below.refl _ _ | assumption | (refine Below.setCell ?_ (by first | omega | (simp; omega) | (simp; done) | (dsimp only; omega)) _) | (refine Below.alloc ?_ (by first | omega | (simp; omega) | (simp; done) | (dsimp only; omega)) _) | (refine below_drewN ?_ _) | (refine Below.drew ?_) | (refine Below.trans ?_ (hb2.mono (by first | omega | (simp; omega) | (simp; done) | (dsimp only; omega)))))⟩
end Go.Proofs.Ythpcippgifmabaa
