/-
  Equality of relations, continued.
-/
import Derived.Test.YtmgfpcchlonknaaRel4
namespace Go.Proofs.Ytmgfpcchlonknaa
set_option maxRecDepth 100000
open Go.RowKit

set_option maxHeartbeats 1000000 in
theorem specEqualRelations_any (s t : Int) (A B : Option Addr) (c d lo hi lo' hi' : Nat) (xs ys : List (List Int)) (w : World) (h : EIntS.AS w lo hi A xs) (h' : EIntS.AS w lo' hi' B ys) (hh : hi ≤ w.heap.size) (hh' : hi' ≤ w.heap.size) :
    Calls Try.prog 65 #[.agg #[.int .i64 s, .slice A xs.length c], .agg #[.int .i64 t, .slice B ys.length d]] w fun e w' => e = .returned (.bool (equalM ⟨s, xs⟩ ⟨t, ys⟩)) ∧ Below w.heap.size w w' := by
  cases hok : bothOk ⟨s, xs⟩ ⟨t, ys⟩ with
  | false =>
    have HO := Lib.hid hok; clear hok
    go_enter Try.func65, Try.ntmps65
    go_wp2_with fail
    generalize hW : (w.alloc (.cells #[.int .i64 s, .slice A xs.length c] 27)).alloc (.cells #[.int .i64 t, .slice B ys.length d] 27) = W
    have a0 : W.cell? ⟨w.heap.size, 0, none⟩ = some (.int .i64 s) := by subst hW; simp [go_sem]
    have a1 : W.cell? ⟨w.heap.size, 1, none⟩ = some (.slice A xs.length c) := by subst hW; simp [go_sem]
    have a2 : W.cell? ⟨w.heap.size + 1, 0, none⟩ = some (.int .i64 t) := by subst hW; simp [go_sem]
    have a3 : W.cell? ⟨w.heap.size + 1, 1, none⟩ = some (.slice B ys.length d) := by subst hW; simp [go_sem]
    have hb : Below w.heap.size w W := by subst hW; (with_reducible repeat' first | exact Below.refl _ _ | assumption | (refine Below.setCell ?_ (by first | omega | (simp; omega) | (simp; done) | (dsimp only; omega)) _) | (refine Below.alloc ?_ (by first | omega | (simp; omega) | (simp; done) | (dsimp only; omega)) _) | (refine below_drewN ?_ _) | (refine Below.drew ?_))
    have hz : w.heap.size + 1 + 1 ≤ W.heap.size := by subst hW; simp
    clear hW
    replace h : EIntS.AS W lo hi A xs := h.same (Same.of_below hb hh)
    replace h' : EIntS.AS W lo' hi' B ys := h'.same (Same.of_below hb hh')
    go_region_with (first | (go_at_call 68; refine (l2Both_any s t A B c d _ _ _ _ xs ys _ h.drew h'.drew ?_ ?_).mono ?_; (first | omega | (simp; omega) | (simp; done) | (dsimp only; omega)); (first | omega | (simp; omega) | (simp; done) | (dsimp only; omega)); rintro e w3 ⟨rfl, hb3⟩; simp only [HO.out]; replace hb3 := undrew hb3; have hb := hb.trans (hb3.mono (by first | omega | (simp; omega) | (simp; done) | (dsimp only; omega)))))
    all_goals (go_wp2; go_ret; exact ⟨ret_bool (by simp only [equalM, HO.out, Bool.false_and]), hb⟩)
  | true =>
    obtain ⟨p1, p2, p3⟩ := bothOk_parts hok
    obtain ⟨n, rfl, hn, hl1, hr1⟩ := relOk_parts p1
    subst p3
    obtain ⟨n', hnn, _, hl2, hr2⟩ := relOk_parts p2
    obtain rfl : n' = n := by omega
    have HO := Lib.hid hok; have H1 := Lib.hid hl1; have H2 := Lib.hid hl2; clear hok hnn hl1 hl2
    have P1 := Lib.hid p1; have P2 := Lib.hid p2; clear p1 p2
    go_enter Try.func65, Try.ntmps65
    go_wp2_with fail
    generalize hW : (w.alloc (.cells #[.int .i64 n', .slice A xs.length c] 27)).alloc (.cells #[.int .i64 n', .slice B ys.length d] 27) = W
    have a0 : W.cell? ⟨w.heap.size, 0, none⟩ = some (.int .i64 n') := by subst hW; simp [go_sem]
    have a1 : W.cell? ⟨w.heap.size, 1, none⟩ = some (.slice A xs.length c) := by subst hW; simp [go_sem]
    have a2 : W.cell? ⟨w.heap.size + 1, 0, none⟩ = some (.int .i64 n') := by subst hW; simp [go_sem]
    have a3 : W.cell? ⟨w.heap.size + 1, 1, none⟩ = some (.slice B ys.length d) := by subst hW; simp [go_sem]
    have hb : Below w.heap.size w W := by subst hW; (with_reducible repeat' first | exact Below.refl _ _ | assumption | (refine Below.setCell ?_ (by first | omega | (simp; omega) | (simp; done) | (dsimp only; omega)) _) | (refine Below.alloc ?_ (by first | omega | (simp; omega) | (simp; done) | (dsimp only; omega)) _) | (refine below_drewN ?_ _) | (refine Below.drew ?_))
    have hz : w.heap.size + 1 + 1 ≤ W.heap.size := by subst hW; simp
    clear hW
    replace h : EIntS.AS W lo hi A xs := h.same (Same.of_below hb hh)
    replace h' : EIntS.AS W lo' hi' B ys := h'.same (Same.of_below hb hh')
    go_region_held3 (fun w' => w'.cell? ⟨w.heap.size, 0, none⟩ = some (.int .i64 n') ∧ w'.cell? ⟨w.heap.size, 1, none⟩ = some (.slice A xs.length c) ∧ w'.cell? ⟨w.heap.size + 1, 0, none⟩ = some (.int .i64 n') ∧ w'.cell? ⟨w.heap.size + 1, 1, none⟩ = some (.slice B ys.length d)) (exact ⟨a0, a1, a2, a3⟩)
      (first
        | (go_at_call 68; refine (l2Both_any n' n' A B c d _ _ _ _ xs ys _ h.drew h'.drew ?_ ?_).mono ?_; (first | omega | (simp; omega) | (simp; done) | (dsimp only; omega)); (first | omega | (simp; omega) | (simp; done) | (dsimp only; omega)); rintro e w3 ⟨rfl, hb3⟩; simp only [HO.out]; replace hb3 := undrew hb3; (replace a0 := (hb3.cell (by first | omega | (simp; omega) | (simp; done) | (dsimp only; omega))).trans a0; replace a1 := (hb3.cell (by first | omega | (simp; omega) | (simp; done) | (dsimp only; omega))).trans a1; replace a2 := (hb3.cell (by first | omega | (simp; omega) | (simp; done) | (dsimp only; omega))).trans a2; replace a3 := (hb3.cell (by first | omega | (simp; omega) | (simp; done) | (dsimp only; omega))).trans a3; replace h := h.same (Same.of_below hb3 (by first | omega | (simp; omega) | (simp; done) | (dsimp only; omega))); replace h' := h'.same (Same.of_below hb3 (by first | omega | (simp; omega) | (simp; done) | (dsimp only; omega))); replace hb := hb.trans (hb3.mono (by first | omega | (simp; omega) | (simp; done) | (dsimp only; omega))); replace hz := Nat.le_trans hz hb3.size; have zhb3 := hb3.size; clear hb3))
        | (go_at_call 69; (with_reducible refine (l2Grid_any n' A c _ _ xs w3 h ?_ P1.out).mono ?_); (first | omega | (simp; omega) | (simp; done) | (dsimp only; omega)); rintro e w4 ⟨A4, c4, rfl, o4, hb4⟩; (replace a0 := (hb4.cell (by first | omega | (simp; omega) | (simp; done) | (dsimp only; omega))).trans a0; replace a1 := (hb4.cell (by first | omega | (simp; omega) | (simp; done) | (dsimp only; omega))).trans a1; replace a2 := (hb4.cell (by first | omega | (simp; omega) | (simp; done) | (dsimp only; omega))).trans a2; replace a3 := (hb4.cell (by first | omega | (simp; omega) | (simp; done) | (dsimp only; omega))).trans a3; replace h := h.same (Same.of_below hb4 (by first | omega | (simp; omega) | (simp; done) | (dsimp only; omega))); replace h' := h'.same (Same.of_below hb4 (by first | omega | (simp; omega) | (simp; done) | (dsimp only; omega))); replace hb := hb.trans (hb4.mono (by first | omega | (simp; omega) | (simp; done) | (dsimp only; omega))); replace hz := Nat.le_trans hz hb4.size; have zhb4 := hb4.size; clear hb4))
        | (go_at_call 69; (with_reducible refine (l2Grid_any n' B d _ _ ys w4 h' ?_ P2.out).mono ?_); (first | omega | (simp; omega) | (simp; done) | (dsimp only; omega)); rintro e w5 ⟨A5, c5, rfl, o5, hb5⟩; rw [H1.out] at o4 ⊢; rw [H2.out] at o5 ⊢; (replace a0 := (hb5.cell (by first | omega | (simp; omega) | (simp; done) | (dsimp only; omega))).trans a0; replace a1 := (hb5.cell (by first | omega | (simp; omega) | (simp; done) | (dsimp only; omega))).trans a1; replace a2 := (hb5.cell (by first | omega | (simp; omega) | (simp; done) | (dsimp only; omega))).trans a2; replace a3 := (hb5.cell (by first | omega | (simp; omega) | (simp; done) | (dsimp only; omega))).trans a3; replace h := h.same (Same.of_below hb5 (by first | omega | (simp; omega) | (simp; done) | (dsimp only; omega))); replace h' := h'.same (Same.of_below hb5 (by first | omega | (simp; omega) | (simp; done) | (dsimp only; omega))); replace o4 := o4.same (Same.of_below hb5 (by first | omega | (simp; omega) | (simp; done) | (dsimp only; omega))); replace hb := hb.trans (hb5.mono (by first | omega | (simp; omega) | (simp; done) | (dsimp only; omega))); replace hz := Nat.le_trans hz hb5.size; have zhb5 := hb5.size; clear hb5))
        | (go_at_call 118; refine (l2Same_any A4 A5 c4 c5 _ _ _ _ n' (gridP xs) (gridP ys) _ hn o4.read.as o5.read.as).mono ?_; rintro e w6 ⟨m, rfl, rfl⟩; replace a0 := (show (w5.drewN m).cell? _ = _ from a0); replace a1 := (show (w5.drewN m).cell? _ = _ from a1); replace a2 := (show (w5.drewN m).cell? _ = _ from a2); replace a3 := (show (w5.drewN m).cell? _ = _ from a3)))
    go_wp2
    go_ret
    refine ⟨ret_bool ?_, below_drewN hb _⟩
    rw [equalM, HO.out]
    exact grid_eq H1.out H2.out hr1 hr2
end Go.Proofs.Ytmgfpcchlonknaa
