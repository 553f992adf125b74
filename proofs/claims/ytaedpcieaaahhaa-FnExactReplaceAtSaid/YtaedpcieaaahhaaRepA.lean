/-
  Replacing where a rule fits, in the reference and in the program.
-/
import Derived.Test.YtaedpcieaaahhaaRepl
namespace Go.Proofs.Ytaedpcieaaahhaa
set_option maxRecDepth 100000
open Go.RowKit

theorem replAtM_no {r : Rule} {t : KinType} {i : Int} (h : fitsAtM r t i = false) : replAtM r t i = (zeroT, false) := by rw [replAtM, if_neg (by rw [h]; decide)]
theorem replAtM_yes {r : Rule} {t : KinType} {i : Int} (h : fitsAtM r t i = true) : replAtM r t i = (replM r t i.toNat, true) := by rw [replAtM, if_pos h]
set_option maxHeartbeats 4000000 in
theorem specReplaceAt_any (x0 : ByteArray) (x1 x2 : Int) (A B : Option Addr) (c d lo hi : Nat) (xs ys : List Step) (s : Int) (C : Option Addr) (ec lo' hi' : Nat) (zs : List Step) (i : Int) (w : World) (h : EStep.AS w lo hi A xs) (h' : EStep.AS w lo hi B ys) (h2 : EStep.AS w lo' hi' C zs) (hh : hi ≤ w.heap.size) (hh' : hi' ≤ w.heap.size) (hs : x0.size ≤ 140737488355328) (hi0 : -9223372036854775808 ≤ i ∧ i ≤ 9223372036854775807) (hec : zs.length ≤ ec ∧ ec ≤ maxLen) :
    Calls Try.prog 28 #[.agg #[.string x0, .int .i64 x1, .int .i64 x2, .slice A xs.length c, .slice B ys.length d], .agg #[.int .i64 s, .slice C zs.length ec], .int .i64 i] w (RetTypB w (replAtM ⟨x0, x1, x2, xs, ys⟩ ⟨s, zs⟩ i)) := by
  cases hf : fitsAtM ⟨x0, x1, x2, xs, ys⟩ ⟨s, zs⟩ i with
  | false =>
    rw [replAtM_no hf]
    have HF := Lib.hid hf; clear hf
    go_enter Try.func28, Try.ntmps28
    go_wp2_with fail
    generalize hW : ((w.alloc (.cells #[.string x0, .int .i64 x1, .int .i64 x2, .slice A xs.length c, .slice B ys.length d] 29)).alloc (.cells #[.int .i64 s, .slice C zs.length ec] 46)).alloc (.cells #[.int .i64 0, .slice none 0 0] 46) = W
    have R : Blk W (w.heap.size + 1 + 1) 46 #[.int .i64 0, .slice none 0 0] := by subst hW; exact Blk.new _ (by simp)
    have a0 : W.cell? ⟨w.heap.size, 0, none⟩ = some (.string x0) := by subst hW; simp [go_sem]
    have a1 : W.cell? ⟨w.heap.size, 1, none⟩ = some (.int .i64 x1) := by subst hW; simp [go_sem]
    have a2 : W.cell? ⟨w.heap.size, 2, none⟩ = some (.int .i64 x2) := by subst hW; simp [go_sem]
    have a3 : W.cell? ⟨w.heap.size, 3, none⟩ = some (.slice A xs.length c) := by subst hW; simp [go_sem]
    have a4 : W.cell? ⟨w.heap.size, 4, none⟩ = some (.slice B ys.length d) := by subst hW; simp [go_sem]
    have b0 : W.cell? ⟨w.heap.size + 1, 0, none⟩ = some (.int .i64 s) := by subst hW; simp [go_sem]
    have b1 : W.cell? ⟨w.heap.size + 1, 1, none⟩ = some (.slice C zs.length ec) := by subst hW; simp [go_sem]
    have hb : Below w.heap.size w W := by subst hW; (with_reducible repeat' first | exact Below.refl _ _ | assumption | (refine Below.setCell ?_ (by first | omega | (simp; omega) | (simp; done) | (dsimp only; omega)) _) | (refine Below.alloc ?_ (by first | omega | (simp; omega) | (simp; done) | (dsimp only; omega)) _) | (refine below_drewN ?_ _) | (refine Below.drew ?_))
    have z0 : w.heap.size + 1 + 1 + 1 ≤ W.heap.size := by subst hW; simp
    clear hW
    replace h := h.same (Same.of_below hb hh); replace h' := h'.same (Same.of_below hb hh); replace h2 := h2.same (Same.of_below hb hh')
    refine (specFitsAt_any x0 x1 x2 A B c d lo hi xs ys s C ec lo' hi' zs i _ h h' h2 (by first | omega | (simp; omega) | (simp; done) | (dsimp only; omega)) (by first | omega | (simp; omega) | (simp; done) | (dsimp only; omega)) hs hi0).mono ?_
    rintro e w1 ⟨rfl, hb1⟩
    simp only [HF.out]
    replace R := R.below hb1 (by first | omega | (simp; omega) | (simp; done) | (dsimp only; omega))
    (replace a0 := (hb1.cell (by first | omega | (simp; omega) | (simp; done) | (dsimp only; omega))).trans a0; replace a1 := (hb1.cell (by first | omega | (simp; omega) | (simp; done) | (dsimp only; omega))).trans a1; replace a2 := (hb1.cell (by first | omega | (simp; omega) | (simp; done) | (dsimp only; omega))).trans a2; replace a3 := (hb1.cell (by first | omega | (simp; omega) | (simp; done) | (dsimp only; omega))).trans a3; replace a4 := (hb1.cell (by first | omega | (simp; omega) | (simp; done) | (dsimp only; omega))).trans a4; replace b0 := (hb1.cell (by first | omega | (simp; omega) | (simp; done) | (dsimp only; omega))).trans b0; replace b1 := (hb1.cell (by first | omega | (simp; omega) | (simp; done) | (dsimp only; omega))).trans b1; replace h := h.same (Same.of_below hb1 (by first | omega | (simp; omega) | (simp; done) | (dsimp only; omega))); replace h' := h'.same (Same.of_below hb1 (by first | omega | (simp; omega) | (simp; done) | (dsimp only; omega))); replace h2 := h2.same (Same.of_below hb1 (by first | omega | (simp; omega) | (simp; done) | (dsimp only; omega))); replace hb := hb.trans (hb1.mono (by first | omega | (simp; omega) | (simp; done) | (dsimp only; omega))); replace z0 := Nat.le_trans z0 hb1.size; have zhb1 := hb1.size; clear hb1)
    have lw : w.heap.size < w1.heap.size := by omega
    have lw1 : w.heap.size + 1 < w1.heap.size := by omega
    have lw2 : w.heap.size + 1 + 1 < w1.heap.size := by omega
    have f0 := R.free 0; have f1 := R.free 1; have q0 := R.cell (i := 0) rfl; have q1 := R.cell (i := 1) rfl
    go_wp2_with fail
    have RR := (R.set 0 (.int .i64 0)).set 1 (.slice none 0 0)
    exact bodyPost_ret (v := .tuple #[.agg #[.int .i64 0, .slice none 0 0], .bool false]) (by simp [results, Try.results28, go_sem, RR.cell (i := 0) rfl, RR.cell (i := 1) rfl]) rfl (RetTypB.zero (by (with_reducible repeat' first | exact Below.refl _ _ | assumption | (refine Below.setCell ?_ (by first | omega | (simp; omega) | (simp; done) | (dsimp only; omega)) _) | (refine Below.alloc ?_ (by first | omega | (simp; omega) | (simp; done) | (dsimp only; omega)) _) | (refine below_drewN ?_ _) | (refine Below.drew ?_) | (refine Below.trans ?_ (hb.mono (by first | omega | (simp; omega) | (simp; done) | (dsimp only; omega)))))))
  | true =>
    rw [replAtM_yes hf]
    obtain ⟨q1, q2, q3, q4⟩ := fitsAtM_parts hf
    obtain ⟨j, rfl⟩ : ∃ j : Nat, i = (j : Int) := ⟨i.toNat, by omega⟩
    obtain ⟨_, _, _, _, p1, p2, _, l2, _⟩ := ruleOk_parts q1
    have q5 := typeOk_len q2
    have q6 := ruleOk_dst q1
    simp only [Int.toNat_natCast] at *
    have q7 : ys.length ≤ 4 := by omega
    have q8 : 1 ≤ xs.length := by omega
    replace q4 : j + xs.length ≤ zs.length := by omega
    have HF := Lib.hid hf; clear hf
    go_enter Try.func28, Try.ntmps28
    go_wp2_with fail
    generalize hW : ((w.alloc (.cells #[.string x0, .int .i64 x1, .int .i64 x2, .slice A xs.length c, .slice B ys.length d] 29)).alloc (.cells #[.int .i64 s, .slice C zs.length ec] 46)).alloc (.cells #[.int .i64 0, .slice none 0 0] 46) = W
    have R : Blk W (w.heap.size + 1 + 1) 46 #[.int .i64 0, .slice none 0 0] := by subst hW; exact Blk.new _ (by simp)
    have a0 : W.cell? ⟨w.heap.size, 0, none⟩ = some (.string x0) := by subst hW; simp [go_sem]
    have a1 : W.cell? ⟨w.heap.size, 1, none⟩ = some (.int .i64 x1) := by subst hW; simp [go_sem]
    have a2 : W.cell? ⟨w.heap.size, 2, none⟩ = some (.int .i64 x2) := by subst hW; simp [go_sem]
    have a3 : W.cell? ⟨w.heap.size, 3, none⟩ = some (.slice A xs.length c) := by subst hW; simp [go_sem]
    have a4 : W.cell? ⟨w.heap.size, 4, none⟩ = some (.slice B ys.length d) := by subst hW; simp [go_sem]
    have b0 : W.cell? ⟨w.heap.size + 1, 0, none⟩ = some (.int .i64 s) := by subst hW; simp [go_sem]
    have b1 : W.cell? ⟨w.heap.size + 1, 1, none⟩ = some (.slice C zs.length ec) := by subst hW; simp [go_sem]
    have hb : Below w.heap.size w W := by subst hW; (with_reducible repeat' first | exact Below.refl _ _ | assumption | (refine Below.setCell ?_ (by first | omega | (simp; omega) | (simp; done) | (dsimp only; omega)) _) | (refine Below.alloc ?_ (by first | omega | (simp; omega) | (simp; done) | (dsimp only; omega)) _) | (refine below_drewN ?_ _) | (refine Below.drew ?_))
    have z0 : w.heap.size + 1 + 1 + 1 ≤ W.heap.size := by subst hW; simp
    clear hW
    replace h := h.same (Same.of_below hb hh); replace h' := h'.same (Same.of_below hb hh); replace h2 := h2.same (Same.of_below hb hh')
    refine (specFitsAt_any x0 x1 x2 A B c d lo hi xs ys s C ec lo' hi' zs (j : Int) _ h h' h2 (by first | omega | (simp; omega) | (simp; done) | (dsimp only; omega)) (by first | omega | (simp; omega) | (simp; done) | (dsimp only; omega)) hs hi0).mono ?_
    rintro e w1 ⟨rfl, hb1⟩
    simp only [HF.out]
    replace R := R.below hb1 (by first | omega | (simp; omega) | (simp; done) | (dsimp only; omega))
    (replace a0 := (hb1.cell (by first | omega | (simp; omega) | (simp; done) | (dsimp only; omega))).trans a0; replace a1 := (hb1.cell (by first | omega | (simp; omega) | (simp; done) | (dsimp only; omega))).trans a1; replace a2 := (hb1.cell (by first | omega | (simp; omega) | (simp; done) | (dsimp only; omega))).trans a2; replace a3 := (hb1.cell (by first | omega | (simp; omega) | (simp; done) | (dsimp only; omega))).trans a3; replace a4 := (hb1.cell (by first | omega | (simp; omega) | (simp; done) | (dsimp only; omega))).trans a4; replace b0 := (hb1.cell (by first | omega | (simp; omega) | (simp; done) | (dsimp only; omega))).trans b0; replace b1 := (hb1.cell (by first | omega | (simp; omega) | (simp; done) | (dsimp only; omega))).trans b1; replace h := h.same (Same.of_below hb1 (by first | omega | (simp; omega) | (simp; done) | (dsimp only; omega))); replace h' := h'.same (Same.of_below hb1 (by first | omega | (simp; omega) | (simp; done) | (dsimp only; omega))); replace h2 := h2.same (Same.of_below hb1 (by first | omega | (simp; omega) | (simp; done) | (dsimp only; omega))); replace hb := hb.trans (hb1.mono (by first | omega | (simp; omega) | (simp; done) | (dsimp only; omega))); replace z0 := Nat.le_trans z0 hb1.size; have zhb1 := hb1.size; clear hb1)
    have lw : w.heap.size < w1.heap.size := by omega
    have lw1 : w.heap.size + 1 < w1.heap.size := by omega
    have lw2 : w.heap.size + 1 + 1 < w1.heap.size := by omega
    go_wp2_with fail
    refine (l4Replace_any x0 x1 x2 A B c d lo hi xs ys s C ec lo' hi' zs j _ h h' h2 (by first | omega | (simp; omega) | (simp; done) | (dsimp only; omega)) (by first | omega | (simp; omega) | (simp; done) | (dsimp only; omega)) hec q4 q5 q7 q8).mono ?_
    rintro e w2 ⟨A1, c1, rfl, ho, hb2⟩
    replace R := R.below hb2 (by first | omega | (simp; omega) | (simp; done) | (dsimp only; omega))
    replace hb : Below w.heap.size w w2 := (by (with_reducible repeat' first | exact Below.refl _ _ | assumption | (refine Below.setCell ?_ (by first | omega | (simp; omega) | (simp; done) | (dsimp only; omega)) _) | (refine Below.alloc ?_ (by first | omega | (simp; omega) | (simp; done) | (dsimp only; omega)) _) | (refine below_drewN ?_ _) | (refine Below.drew ?_) | (refine Below.trans ?_ (hb2.mono (by first | omega | (simp; omega) | (simp; done) | (dsimp only; omega)))) | (refine Below.trans ?_ (hb.mono (by first | omega | (simp; omega) | (simp; done) | (dsimp only; omega))))))
    have lw3 : w.heap.size + 1 + 1 < w2.heap.size := by have := hb2.size; omega
    have e1s : (replM ⟨x0, x1, x2, xs, ys⟩ ⟨s, zs⟩ j).ego = egoM ⟨s, zs⟩ := rfl
    generalize hrm : replM ⟨x0, x1, x2, xs, ys⟩ ⟨s, zs⟩ j = rm at *
    obtain ⟨re, rs⟩ := rm
    dsimp only at ho ⊢
    have f0 := R.free 0; have f1 := R.free 1; have q0 := R.cell (i := 0) rfl; have q1 := R.cell (i := 1) rfl
    clear e1s
    go_wp2_with fail
    have R8 := R.set 0 (.int .i64 re)
    have RR := R8.set 1 (.slice A1 rs.length c1)
    have t1 := flatStep.far (i := 0) (u := .int .i64 re) ho R (by decide)
    refine bodyPost_ret (v := .tuple #[.agg #[.int .i64 re, .slice A1 rs.length c1], .bool true]) (by simp [results, Try.results28, go_sem, RR.cell (i := 0) rfl, RR.cell (i := 1) rfl]) rfl ?_
    have hsm : Same w1.heap.size w2.heap.size w2 ((w2.setCell ⟨w.heap.size + 1 + 1, 0, none⟩ (.int .i64 re)).setCell ⟨w.heap.size + 1 + 1, 1, none⟩ (.slice A1 rs.length c1)) := by (with_reducible repeat' first | exact Same.refl _ _ _ | assumption | (refine Same.setCell ?_ (by first | omega | (simp; omega) | (simp; done) | (dsimp only; omega)) _) | (refine Same.alloc ?_ (by first | omega | (simp; omega) | (simp; done) | (dsimp only; omega)) _) | (refine Same.drewN ?_ _) | (refine Same.drew ?_))
    exact ⟨A1, c1, rfl, (ho.same hsm).mono (by first | omega | (simp; omega) | (simp; done) | (dsimp only; omega)) (by first | omega | (simp; omega) | (simp; done) | (dsimp only; omega)), by (with_reducible repeat' first | exact Below.refl _ _ | assumption | (refine Below.setCell ?_ (by first | omega | (simp; omega) | (simp; done) | (dsimp only; omega)) _) | (refine Below.alloc ?_ (by first | omega | (simp; omega) | (simp; done) | (dsimp only; omega)) _) | (refine below_drewN ?_ _) | (refine Below.drew ?_) | (refine Below.trans ?_ (hb.mono (by first | omega | (simp; omega) | (simp; done) | (dsimp only; omega)))))⟩
set_option maxHeartbeats 4000000 in
theorem implReplaceAt_any (x0 : ByteArray) (x1 x2 : Int) (A B : Option Addr) (c d lo hi : Nat) (xs ys : List Step) (s : Int) (C : Option Addr) (ec lo' hi' : Nat) (zs : List Step) (i : Int) (w : World) (h : EStep.AS w lo hi A xs) (h' : EStep.AS w lo hi B ys) (h2 : EStep.AS w lo' hi' C zs) (hh : hi ≤ w.heap.size) (hh' : hi' ≤ w.heap.size) (hs : x0.size ≤ 140737488355328) (hi0 : -9223372036854775808 ≤ i ∧ i ≤ 9223372036854775807) (hec : zs.length ≤ ec ∧ ec ≤ maxLen) :
    Calls Try.prog 29 #[.agg #[.string x0, .int .i64 x1, .int .i64 x2, .slice A xs.length c, .slice B ys.length d], .agg #[.int .i64 s, .slice C zs.length ec], .int .i64 i] w (RetTypB w (replAtM ⟨x0, x1, x2, xs, ys⟩ ⟨s, zs⟩ i)) := by
  cases hf : fitsAtM ⟨x0, x1, x2, xs, ys⟩ ⟨s, zs⟩ i with
  | false =>
    rw [replAtM_no hf]
    have HF := Lib.hid hf; clear hf
    go_enter Try.func29, Try.ntmps29
    go_wp2_with fail
    generalize hW : ((w.alloc (.cells #[.string x0, .int .i64 x1, .int .i64 x2, .slice A xs.length c, .slice B ys.length d] 29)).alloc (.cells #[.int .i64 s, .slice C zs.length ec] 46)).alloc (.cells #[.int .i64 0, .slice none 0 0] 46) = W
    have R : Blk W (w.heap.size + 1 + 1) 46 #[.int .i64 0, .slice none 0 0] := by subst hW; exact Blk.new _ (by simp)
    have a0 : W.cell? ⟨w.heap.size, 0, none⟩ = some (.string x0) := by subst hW; simp [go_sem]
    have a1 : W.cell? ⟨w.heap.size, 1, none⟩ = some (.int .i64 x1) := by subst hW; simp [go_sem]
    have a2 : W.cell? ⟨w.heap.size, 2, none⟩ = some (.int .i64 x2) := by subst hW; simp [go_sem]
    have a3 : W.cell? ⟨w.heap.size, 3, none⟩ = some (.slice A xs.length c) := by subst hW; simp [go_sem]
    have a4 : W.cell? ⟨w.heap.size, 4, none⟩ = some (.slice B ys.length d) := by subst hW; simp [go_sem]
    have b0 : W.cell? ⟨w.heap.size + 1, 0, none⟩ = some (.int .i64 s) := by subst hW; simp [go_sem]
    have b1 : W.cell? ⟨w.heap.size + 1, 1, none⟩ = some (.slice C zs.length ec) := by subst hW; simp [go_sem]
    have hb : Below w.heap.size w W := by subst hW; (with_reducible repeat' first | exact Below.refl _ _ | assumption | (refine Below.setCell ?_ (by first | omega | (simp; omega) | (simp; done) | (dsimp only; omega)) _) | (refine Below.alloc ?_ (by first | omega | (simp; omega) | (simp; done) | (dsimp only; omega)) _) | (refine below_drewN ?_ _) | (refine Below.drew ?_))
    have z0 : w.heap.size + 1 + 1 + 1 ≤ W.heap.size := by subst hW; simp
    clear hW
    replace h := h.same (Same.of_below hb hh); replace h' := h'.same (Same.of_below hb hh); replace h2 := h2.same (Same.of_below hb hh')
    refine (implFitsAt_any x0 x1 x2 A B c d lo hi xs ys s C ec lo' hi' zs i _ h h' h2 (by first | omega | (simp; omega) | (simp; done) | (dsimp only; omega)) (by first | omega | (simp; omega) | (simp; done) | (dsimp only; omega)) hs hi0).mono ?_
    rintro e w1 ⟨rfl, hb1⟩
    simp only [HF.out]
    replace R := R.below hb1 (by first | omega | (simp; omega) | (simp; done) | (dsimp only; omega))
    (replace a0 := (hb1.cell (by first | omega | (simp; omega) | (simp; done) | (dsimp only; omega))).trans a0; replace a1 := (hb1.cell (by first | omega | (simp; omega) | (simp; done) | (dsimp only; omega))).trans a1; replace a2 := (hb1.cell (by first | omega | (simp; omega) | (simp; done) | (dsimp only; omega))).trans a2; replace a3 := (hb1.cell (by first | omega | (simp; omega) | (simp; done) | (dsimp only; omega))).trans a3; replace a4 := (hb1.cell (by first | omega | (simp; omega) | (simp; done) | (dsimp only; omega))).trans a4; replace b0 := (hb1.cell (by first | omega | (simp; omega) | (simp; done) | (dsimp only; omega))).trans b0; replace b1 := (hb1.cell (by first | omega | (simp; omega) | (simp; done) | (dsimp only; omega))).trans b1; replace h := h.same (Same.of_below hb1 (by first | omega | (simp; omega) | (simp; done) | (dsimp only; omega))); replace h' := h'.same (Same.of_below hb1 (by first | omega | (simp; omega) | (simp; done) | (dsimp only; omega))); replace h2 := h2.same (Same.of_below hb1 (by first | omega | (simp; omega) | (simp; done) | (dsimp only; omega))); replace hb := hb.trans (hb1.mono (by first | omega | (simp; omega) | (simp; done) | (dsimp only; omega))); replace z0 := Nat.le_trans z0 hb1.size; have zhb1 := hb1.size; clear hb1)
    have lw : w.heap.size < w1.heap.size := by omega
    have lw1 : w.heap.size + 1 < w1.heap.size := by omega
    have lw2 : w.heap.size + 1 + 1 < w1.heap.size := by omega
    have f0 := R.free 0; have f1 := R.free 1; have q0 := R.cell (i := 0) rfl; have q1 := R.cell (i := 1) rfl
    go_wp2_with fail
    have RR := (R.set 0 (.int .i64 0)).set 1 (.slice none 0 0)
    exact bodyPost_ret (v := .tuple #[.agg #[.int .i64 0, .slice none 0 0], .bool false]) (by simp [results, Try.results29, go_sem, RR.cell (i := 0) rfl, RR.cell (i := 1) rfl]) rfl (RetTypB.zero (by (with_reducible repeat' first | exact Below.refl _ _ | assumption | (refine Below.setCell ?_ (by first | omega | (simp; omega) | (simp; done) | (dsimp only; omega)) _) | (refine Below.alloc ?_ (by first | omega | (simp; omega) | (simp; done) | (dsimp only; omega)) _) | (refine below_drewN ?_ _) | (refine Below.drew ?_) | (refine Below.trans ?_ (hb.mono (by first | omega | (simp; omega) | (simp; done) | (dsimp only; omega)))))))
  | true =>
    rw [replAtM_yes hf]
    obtain ⟨q1, q2, q3, q4⟩ := fitsAtM_parts hf
    obtain ⟨j, rfl⟩ : ∃ j : Nat, i = (j : Int) := ⟨i.toNat, by omega⟩
    obtain ⟨_, _, _, _, p1, p2, _, l2, _⟩ := ruleOk_parts q1
    have q5 := typeOk_len q2
    have q6 := ruleOk_dst q1
    simp only [Int.toNat_natCast] at *
    have q7 : ys.length ≤ 4 := by omega
    have q8 : 1 ≤ xs.length := by omega
    replace q4 : j + xs.length ≤ zs.length := by omega
    have HF := Lib.hid hf; clear hf
    go_enter Try.func29, Try.ntmps29
    go_wp2_with fail
    generalize hW : ((w.alloc (.cells #[.string x0, .int .i64 x1, .int .i64 x2, .slice A xs.length c, .slice B ys.length d] 29)).alloc (.cells #[.int .i64 s, .slice C zs.length ec] 46)).alloc (.cells #[.int .i64 0, .slice none 0 0] 46) = W
    have R : Blk W (w.heap.size + 1 + 1) 46 #[.int .i64 0, .slice none 0 0] := by subst hW; exact Blk.new _ (by simp)
    have a0 : W.cell? ⟨w.heap.size, 0, none⟩ = some (.string x0) := by subst hW; simp [go_sem]
    have a1 : W.cell? ⟨w.heap.size, 1, none⟩ = some (.int .i64 x1) := by subst hW; simp [go_sem]
    have a2 : W.cell? ⟨w.heap.size, 2, none⟩ = some (.int .i64 x2) := by subst hW; simp [go_sem]
    have a3 : W.cell? ⟨w.heap.size, 3, none⟩ = some (.slice A xs.length c) := by subst hW; simp [go_sem]
    have a4 : W.cell? ⟨w.heap.size, 4, none⟩ = some (.slice B ys.length d) := by subst hW; simp [go_sem]
    have b0 : W.cell? ⟨w.heap.size + 1, 0, none⟩ = some (.int .i64 s) := by subst hW; simp [go_sem]
    have b1 : W.cell? ⟨w.heap.size + 1, 1, none⟩ = some (.slice C zs.length ec) := by subst hW; simp [go_sem]
    have hb : Below w.heap.size w W := by subst hW; (with_reducible repeat' first | exact Below.refl _ _ | assumption | (refine Below.setCell ?_ (by first | omega | (simp; omega) | (simp; done) | (dsimp only; omega)) _) | (refine Below.alloc ?_ (by first | omega | (simp; omega) | (simp; done) | (dsimp only; omega)) _) | (refine below_drewN ?_ _) | (refine Below.drew ?_))
    have z0 : w.heap.size + 1 + 1 + 1 ≤ W.heap.size := by subst hW; simp
    clear hW
    replace h := h.same (Same.of_below hb hh); replace h' := h'.same (Same.of_below hb hh); replace h2 := h2.same (Same.of_below hb hh')
    refine (implFitsAt_any x0 x1 x2 A B c d lo hi xs ys s C ec lo' hi' zs (j : Int) _ h h' h2 (by first | omega | (simp; omega) | (simp; done) | (dsimp only; omega)) (by first | omega | (simp; omega) | (simp; done) | (dsimp only; omega)) hs hi0).mono ?_
    rintro e w1 ⟨rfl, hb1⟩
    simp only [HF.out]
    replace R := R.below hb1 (by first | omega | (simp; omega) | (simp; done) | (dsimp only; omega))
    (replace a0 := (hb1.cell (by first | omega | (simp; omega) | (simp; done) | (dsimp only; omega))).trans a0; replace a1 := (hb1.cell (by first | omega | (simp; omega) | (simp; done) | (dsimp only; omega))).trans a1; replace a2 := (hb1.cell (by first | omega | (simp; omega) | (simp; done) | (dsimp only; omega))).trans a2; replace a3 := (hb1.cell (by first | omega | (simp; omega) | (simp; done) | (dsimp only; omega))).trans a3; replace a4 := (hb1.cell (by first | omega | (simp; omega) | (simp; done) | (dsimp only; omega))).trans a4; replace b0 := (hb1.cell (by first | omega | (simp; omega) | (simp; done) | (dsimp only; omega))).trans b0; replace b1 := (hb1.cell (by first | omega | (simp; omega) | (simp; done) | (dsimp only; omega))).trans b1; replace h := h.same (Same.of_below hb1 (by first | omega | (simp; omega) | (simp; done) | (dsimp only; omega))); replace h' := h'.same (Same.of_below hb1 (by first | omega | (simp; omega) | (simp; done) | (dsimp only; omega))); replace h2 := h2.same (Same.of_below hb1 (by first | omega | (simp; omega) | (simp; done) | (dsimp only; omega))); replace hb := hb.trans (hb1.mono (by first | omega | (simp; omega) | (simp; done) | (dsimp only; omega))); replace z0 := Nat.le_trans z0 hb1.size; have zhb1 := hb1.size; clear hb1)
    have lw : w.heap.size < w1.heap.size := by omega
    have lw1 : w.heap.size + 1 < w1.heap.size := by omega
    have lw2 : w.heap.size + 1 + 1 < w1.heap.size := by omega
    go_wp2_with fail
    refine (replacedAt_any x0 x1 x2 A B c d lo hi xs ys s C ec lo' hi' zs j _ h h' h2 (by first | omega | (simp; omega) | (simp; done) | (dsimp only; omega)) (by first | omega | (simp; omega) | (simp; done) | (dsimp only; omega)) hec q4 q5 q7 q8).mono ?_
    rintro e w2 ⟨A1, c1, rfl, ho, hb2⟩
    replace R := R.below hb2 (by first | omega | (simp; omega) | (simp; done) | (dsimp only; omega))
    replace hb : Below w.heap.size w w2 := (by (with_reducible repeat' first | exact Below.refl _ _ | assumption | (refine Below.setCell ?_ (by first | omega | (simp; omega) | (simp; done) | (dsimp only; omega)) _) | (refine Below.alloc ?_ (by first | omega | (simp; omega) | (simp; done) | (dsimp only; omega)) _) | (refine below_drewN ?_ _) | (refine Below.drew ?_) | (refine Below.trans ?_ (hb2.mono (by first | omega | (simp; omega) | (simp; done) | (dsimp only; omega)))) | (refine Below.trans ?_ (hb.mono (by first | omega | (simp; omega) | (simp; done) | (dsimp only; omega))))))
    have lw3 : w.heap.size + 1 + 1 < w2.heap.size := by have := hb2.size; omega
    have e1s : (replM ⟨x0, x1, x2, xs, ys⟩ ⟨s, zs⟩ j).ego = egoM ⟨s, zs⟩ := rfl
    generalize hrm : replM ⟨x0, x1, x2, xs, ys⟩ ⟨s, zs⟩ j = rm at *
    obtain ⟨re, rs⟩ := rm
    dsimp only at ho ⊢
    have f0 := R.free 0; have f1 := R.free 1; have q0 := R.cell (i := 0) rfl; have q1 := R.cell (i := 1) rfl
    clear e1s
    go_wp2_with fail
    have R8 := R.set 0 (.int .i64 re)
    have RR := R8.set 1 (.slice A1 rs.length c1)
    have t1 := flatStep.far (i := 0) (u := .int .i64 re) ho R (by decide)
    refine bodyPost_ret (v := .tuple #[.agg #[.int .i64 re, .slice A1 rs.length c1], .bool true]) (by simp [results, Try.results29, go_sem, RR.cell (i := 0) rfl, RR.cell (i := 1) rfl]) rfl ?_
    have hsm : Same w1.heap.size w2.heap.size w2 ((w2.setCell ⟨w.heap.size + 1 + 1, 0, none⟩ (.int .i64 re)).setCell ⟨w.heap.size + 1 + 1, 1, none⟩ (.slice A1 rs.length c1)) := by (with_reducible repeat' first | exact Same.refl _ _ _ | assumption | (refine Same.setCell ?_ (by first | omega | (simp; omega) | (simp; done) | (dsimp only; omega)) _) | (refine Same.alloc ?_ (by first | omega | (simp; omega) | (simp; done) | (dsimp only; omega)) _) | (refine Same.drewN ?_ _) | (refine Same.drew ?_))
    exact ⟨A1, c1, rfl, (ho.same hsm).mono (by first | omega | (simp; omega) | (simp; done) | (dsimp only; omega)) (by first | omega | (simp; omega) | (simp; done) | (dsimp only; omega)), by (with_reducible repeat' first | exact Below.refl _ _ | assumption | (refine Below.setCell ?_ (by first | omega | (simp; omega) | (simp; done) | (dsimp only; omega)) _) | (refine Below.alloc ?_ (by first | omega | (simp; omega) | (simp; done) | (dsimp only; omega)) _) | (refine below_drewN ?_ _) | (refine Below.drew ?_) | (refine Below.trans ?_ (hb.mono (by first | omega | (simp; omega) | (simp; done) | (dsimp only; omega)))))⟩
end Go.Proofs.Ytaedpcieaaahhaa
