/-
  What steps lead to at last, of valid rules and a valid type, in the reference and in the program.
-/
import Derived.Test.YtnanlbglgflecaaNormS
import Derived.Test.YtnanlbglgflecaaAreRules
namespace Go.Proofs.Ytnanlbglgflecaa
set_option maxRecDepth 100000
open Go.RowKit

theorem normM_no {rs : List Rule} {t : KinType} (h : rulesOk rs = false ∨ typeOk t = false) : normM rs t = zeroT := by
  rw [normM, if_neg]; rcases h with h | h <;> simp [h]
theorem normM_yes {rs : List Rule} {t : KinType} (h : rulesOk rs = true) (h' : typeOk t = true) : normM rs t = normN rs (muS t.steps) t := by rw [normM, if_pos (by simp [h, h'])]
theorem RetType.zero {w w' : World} (h : Below w.heap.size w w') : RetType w zeroT (.returned (.agg #[.int .i64 0, .slice none 0 0])) w' := ⟨none, 0, rfl, Elem.OS.nil, h⟩
set_option maxHeartbeats 4000000 in
theorem specNormalForm_any (Ar : Option Addr) (cr lo hi : Nat) (rs : List Rule) (s : Int) (C : Option Addr) (ec lo' hi' : Nat) (zs : List Step) (w : World) (h : ERule.AS w lo hi Ar rs) (h2 : EStep.AS w lo' hi' C zs) (hh : hi ≤ w.heap.size) (hh' : hi' ≤ w.heap.size) (hec : zs.length ≤ ec ∧ ec ≤ maxLen) :
    Calls Try.prog 35 #[.slice Ar rs.length cr, .agg #[.int .i64 s, .slice C zs.length ec]] w (RetType w (normM rs ⟨s, zs⟩)) := by
  cases hr : rulesOk rs with
  | false =>
    rw [normM_no (.inl hr)]
    have HR := Lib.hid hr; clear hr
    go_enter Try.func35, Try.ntmps35
    go_wp2_with fail
    generalize hW : (w.alloc (.cells #[.int .i64 s, .slice C zs.length ec] 29)).alloc (.cells #[.int .i64 0, .slice none 0 0] 29) = W
    have b0 : W.cell? ⟨w.heap.size, 0, none⟩ = some (.int .i64 s) := by subst hW; simp [go_sem]
    have b1 : W.cell? ⟨w.heap.size, 1, none⟩ = some (.slice C zs.length ec) := by subst hW; simp [go_sem]
    have R : Blk W (w.heap.size + 1) 29 #[.int .i64 0, .slice none 0 0] := by subst hW; exact Blk.new _ (by simp)
    have hb : Below w.heap.size w W := by subst hW; (with_reducible repeat' first | exact Below.refl _ _ | assumption | (refine Below.setCell ?_ (by first | omega | (simp; omega) | (simp; done) | (dsimp only; omega)) _) | (refine Below.alloc ?_ (by first | omega | (simp; omega) | (simp; done) | (dsimp only; omega)) _) | (refine below_drewN ?_ _) | (refine Below.drew ?_))
    have z0 : w.heap.size + 1 + 1 ≤ W.heap.size := by subst hW; simp
    clear hW
    replace h := h.same (Same.of_below hb hh); replace h2 := h2.same (Same.of_below hb hh')
    refine (specAreRules_any Ar cr lo hi rs _ h (by first | omega | (simp; omega) | (simp; done) | (dsimp only; omega))).mono ?_
    rintro e w1 ⟨rfl, hb1⟩
    simp only [HR.out]
    replace R := R.below hb1 (by first | omega | (simp; omega) | (simp; done) | (dsimp only; omega))
    (replace b0 := (hb1.cell (by first | omega | (simp; omega) | (simp; done) | (dsimp only; omega))).trans b0; replace b1 := (hb1.cell (by first | omega | (simp; omega) | (simp; done) | (dsimp only; omega))).trans b1; replace h := h.same (Same.of_below hb1 (by first | omega | (simp; omega) | (simp; done) | (dsimp only; omega))); replace h2 := h2.same (Same.of_below hb1 (by first | omega | (simp; omega) | (simp; done) | (dsimp only; omega))); replace hb := hb.trans (hb1.mono (by first | omega | (simp; omega) | (simp; done) | (dsimp only; omega))); replace z0 := Nat.le_trans z0 hb1.size; have zhb1 := hb1.size; clear hb1)
    have lw : w.heap.size < w1.heap.size := by omega
    have lw1 : w.heap.size + 1 < w1.heap.size := by omega
    have f0 := R.free 0; have f1 := R.free 1; have q0 := R.cell (i := 0) rfl; have q1 := R.cell (i := 1) rfl
    go_wp2_with fail
    have RR := (R.set 0 (.int .i64 0)).set 1 (.slice none 0 0)
    exact bodyPost_ret (v := .agg #[.int .i64 0, .slice none 0 0]) (by simp [results, Try.results35, go_sem, RR.cell (i := 0) rfl, RR.cell (i := 1) rfl]) rfl (RetType.zero (by (with_reducible repeat' first | exact Below.refl _ _ | assumption | (refine Below.setCell ?_ (by first | omega | (simp; omega) | (simp; done) | (dsimp only; omega)) _) | (refine Below.alloc ?_ (by first | omega | (simp; omega) | (simp; done) | (dsimp only; omega)) _) | (refine below_drewN ?_ _) | (refine Below.drew ?_) | (refine Below.trans ?_ (hb.mono (by first | omega | (simp; omega) | (simp; done) | (dsimp only; omega)))))))
  | true =>
    have HR := Lib.hid hr
    cases ht : typeOk ⟨s, zs⟩ with
    | false =>
      rw [normM_no (.inr ht)]
      have HT := Lib.hid ht; clear ht hr
      go_enter Try.func35, Try.ntmps35
      go_wp2_with fail
      generalize hW : (w.alloc (.cells #[.int .i64 s, .slice C zs.length ec] 29)).alloc (.cells #[.int .i64 0, .slice none 0 0] 29) = W
      have b0 : W.cell? ⟨w.heap.size, 0, none⟩ = some (.int .i64 s) := by subst hW; simp [go_sem]
      have b1 : W.cell? ⟨w.heap.size, 1, none⟩ = some (.slice C zs.length ec) := by subst hW; simp [go_sem]
      have R : Blk W (w.heap.size + 1) 29 #[.int .i64 0, .slice none 0 0] := by subst hW; exact Blk.new _ (by simp)
      have hb : Below w.heap.size w W := by subst hW; (with_reducible repeat' first | exact Below.refl _ _ | assumption | (refine Below.setCell ?_ (by first | omega | (simp; omega) | (simp; done) | (dsimp only; omega)) _) | (refine Below.alloc ?_ (by first | omega | (simp; omega) | (simp; done) | (dsimp only; omega)) _) | (refine below_drewN ?_ _) | (refine Below.drew ?_))
      have z0 : w.heap.size + 1 + 1 ≤ W.heap.size := by subst hW; simp
      clear hW
      replace h := h.same (Same.of_below hb hh); replace h2 := h2.same (Same.of_below hb hh')
      refine (specAreRules_any Ar cr lo hi rs _ h (by first | omega | (simp; omega) | (simp; done) | (dsimp only; omega))).mono ?_
      rintro e w1 ⟨rfl, hb1⟩
      simp only [HR.out]
      replace R := R.below hb1 (by first | omega | (simp; omega) | (simp; done) | (dsimp only; omega))
      (replace b0 := (hb1.cell (by first | omega | (simp; omega) | (simp; done) | (dsimp only; omega))).trans b0; replace b1 := (hb1.cell (by first | omega | (simp; omega) | (simp; done) | (dsimp only; omega))).trans b1; replace h := h.same (Same.of_below hb1 (by first | omega | (simp; omega) | (simp; done) | (dsimp only; omega))); replace h2 := h2.same (Same.of_below hb1 (by first | omega | (simp; omega) | (simp; done) | (dsimp only; omega))); replace hb := hb.trans (hb1.mono (by first | omega | (simp; omega) | (simp; done) | (dsimp only; omega))); replace z0 := Nat.le_trans z0 hb1.size; have zhb1 := hb1.size; clear hb1)
      have lw : w.heap.size < w1.heap.size := by omega
      have lw1 : w.heap.size + 1 < w1.heap.size := by omega
      go_wp2_with fail
      refine (specIsType_any s C ec lo' hi' zs _ h2 (by first | omega | (simp; omega) | (simp; done) | (dsimp only; omega))).mono ?_
      rintro e w2 ⟨rfl, hb2⟩
      simp only [HT.out]
      replace R := R.below hb2 (by first | omega | (simp; omega) | (simp; done) | (dsimp only; omega))
      (replace b0 := (hb2.cell (by first | omega | (simp; omega) | (simp; done) | (dsimp only; omega))).trans b0; replace b1 := (hb2.cell (by first | omega | (simp; omega) | (simp; done) | (dsimp only; omega))).trans b1; replace h := h.same (Same.of_below hb2 (by first | omega | (simp; omega) | (simp; done) | (dsimp only; omega))); replace h2 := h2.same (Same.of_below hb2 (by first | omega | (simp; omega) | (simp; done) | (dsimp only; omega))); replace hb := hb.trans (hb2.mono (by first | omega | (simp; omega) | (simp; done) | (dsimp only; omega))); replace z0 := Nat.le_trans z0 hb2.size; have zhb2 := hb2.size; clear hb2)
      have lw2 : w.heap.size < w2.heap.size := by omega
      have lw3 : w.heap.size + 1 < w2.heap.size := by omega
      have f0 := R.free 0; have f1 := R.free 1; have q0 := R.cell (i := 0) rfl; have q1 := R.cell (i := 1) rfl
      go_wp2_with fail
      have RR := (R.set 0 (.int .i64 0)).set 1 (.slice none 0 0)
      exact bodyPost_ret (v := .agg #[.int .i64 0, .slice none 0 0]) (by simp [results, Try.results35, go_sem, RR.cell (i := 0) rfl, RR.cell (i := 1) rfl]) rfl (RetType.zero (by (with_reducible repeat' first | exact Below.refl _ _ | assumption | (refine Below.setCell ?_ (by first | omega | (simp; omega) | (simp; done) | (dsimp only; omega)) _) | (refine Below.alloc ?_ (by first | omega | (simp; omega) | (simp; done) | (dsimp only; omega)) _) | (refine below_drewN ?_ _) | (refine Below.drew ?_) | (refine Below.trans ?_ (hb.mono (by first | omega | (simp; omega) | (simp; done) | (dsimp only; omega)))))))
    | true =>
      rw [normM_yes hr ht]
      have HT := Lib.hid ht; clear ht hr
      go_enter Try.func35, Try.ntmps35
      go_wp2_with fail
      generalize hW : (w.alloc (.cells #[.int .i64 s, .slice C zs.length ec] 29)).alloc (.cells #[.int .i64 0, .slice none 0 0] 29) = W
      have b0 : W.cell? ⟨w.heap.size, 0, none⟩ = some (.int .i64 s) := by subst hW; simp [go_sem]
      have b1 : W.cell? ⟨w.heap.size, 1, none⟩ = some (.slice C zs.length ec) := by subst hW; simp [go_sem]
      have R : Blk W (w.heap.size + 1) 29 #[.int .i64 0, .slice none 0 0] := by subst hW; exact Blk.new _ (by simp)
      have hb : Below w.heap.size w W := by subst hW; (with_reducible repeat' first | exact Below.refl _ _ | assumption | (refine Below.setCell ?_ (by first | omega | (simp; omega) | (simp; done) | (dsimp only; omega)) _) | (refine Below.alloc ?_ (by first | omega | (simp; omega) | (simp; done) | (dsimp only; omega)) _) | (refine below_drewN ?_ _) | (refine Below.drew ?_))
      have z0 : w.heap.size + 1 + 1 ≤ W.heap.size := by subst hW; simp
      clear hW
      replace h := h.same (Same.of_below hb hh); replace h2 := h2.same (Same.of_below hb hh')
      refine (specAreRules_any Ar cr lo hi rs _ h (by first | omega | (simp; omega) | (simp; done) | (dsimp only; omega))).mono ?_
      rintro e w1 ⟨rfl, hb1⟩
      simp only [HR.out]
      replace R := R.below hb1 (by first | omega | (simp; omega) | (simp; done) | (dsimp only; omega))
      (replace b0 := (hb1.cell (by first | omega | (simp; omega) | (simp; done) | (dsimp only; omega))).trans b0; replace b1 := (hb1.cell (by first | omega | (simp; omega) | (simp; done) | (dsimp only; omega))).trans b1; replace h := h.same (Same.of_below hb1 (by first | omega | (simp; omega) | (simp; done) | (dsimp only; omega))); replace h2 := h2.same (Same.of_below hb1 (by first | omega | (simp; omega) | (simp; done) | (dsimp only; omega))); replace hb := hb.trans (hb1.mono (by first | omega | (simp; omega) | (simp; done) | (dsimp only; omega))); replace z0 := Nat.le_trans z0 hb1.size; have zhb1 := hb1.size; clear hb1)
      have lw : w.heap.size < w1.heap.size := by omega
      have lw1 : w.heap.size + 1 < w1.heap.size := by omega
      go_wp2_with fail
      refine (specIsType_any s C ec lo' hi' zs _ h2 (by first | omega | (simp; omega) | (simp; done) | (dsimp only; omega))).mono ?_
      rintro e w2 ⟨rfl, hb2⟩
      simp only [HT.out]
      replace R := R.below hb2 (by first | omega | (simp; omega) | (simp; done) | (dsimp only; omega))
      (replace b0 := (hb2.cell (by first | omega | (simp; omega) | (simp; done) | (dsimp only; omega))).trans b0; replace b1 := (hb2.cell (by first | omega | (simp; omega) | (simp; done) | (dsimp only; omega))).trans b1; replace h := h.same (Same.of_below hb2 (by first | omega | (simp; omega) | (simp; done) | (dsimp only; omega))); replace h2 := h2.same (Same.of_below hb2 (by first | omega | (simp; omega) | (simp; done) | (dsimp only; omega))); replace hb := hb.trans (hb2.mono (by first | omega | (simp; omega) | (simp; done) | (dsimp only; omega))); replace z0 := Nat.le_trans z0 hb2.size; have zhb2 := hb2.size; clear hb2)
      have lw2 : w.heap.size < w2.heap.size := by omega
      have lw3 : w.heap.size + 1 < w2.heap.size := by omega
      go_wp2_with fail
      refine (l4Normal_any Ar cr lo hi rs s C ec lo' hi' zs _ h h2 (by first | omega | (simp; omega) | (simp; done) | (dsimp only; omega)) (by first | omega | (simp; omega) | (simp; done) | (dsimp only; omega)) hec HR.out HT.out).mono ?_
      rintro e w3 ⟨A8, c8, rfl, ho, hb3⟩
      replace R := R.below hb3 (by first | omega | (simp; omega) | (simp; done) | (dsimp only; omega))
      replace hb : Below w.heap.size w w3 := (by (with_reducible repeat' first | exact Below.refl _ _ | assumption | (refine Below.setCell ?_ (by first | omega | (simp; omega) | (simp; done) | (dsimp only; omega)) _) | (refine Below.alloc ?_ (by first | omega | (simp; omega) | (simp; done) | (dsimp only; omega)) _) | (refine below_drewN ?_ _) | (refine Below.drew ?_) | (refine Below.trans ?_ (hb3.mono (by first | omega | (simp; omega) | (simp; done) | (dsimp only; omega)))) | (refine Below.trans ?_ (hb.mono (by first | omega | (simp; omega) | (simp; done) | (dsimp only; omega))))))
      have lw4 : w.heap.size + 1 < w3.heap.size := by have := hb3.size; omega
      have hsz3 := hb3.size
      generalize hrm : normN rs (muS zs) ⟨s, zs⟩ = rm at *
      obtain ⟨re, rq⟩ := rm
      dsimp only at ho ⊢
      have f0 := R.free 0; have f1 := R.free 1; have q0 := R.cell (i := 0) rfl; have q1 := R.cell (i := 1) rfl
      go_wp2_with fail
      have R8 := R.set 0 (.int .i64 re)
      have RR := R8.set 1 (.slice A8 rq.length c8)
      refine bodyPost_ret (v := .agg #[.int .i64 re, .slice A8 rq.length c8]) (by simp [results, Try.results35, go_sem, RR.cell (i := 0) rfl, RR.cell (i := 1) rfl]) rfl ?_
      have hsm : Same w2.heap.size w3.heap.size w3 ((w3.setCell ⟨w.heap.size + 1, 0, none⟩ (.int .i64 re)).setCell ⟨w.heap.size + 1, 1, none⟩ (.slice A8 rq.length c8)) := by (with_reducible repeat' first | exact Same.refl _ _ _ | assumption | (refine Same.setCell ?_ (by first | omega | (simp; omega) | (simp; done) | (dsimp only; omega)) _) | (refine Same.alloc ?_ (by first | omega | (simp; omega) | (simp; done) | (dsimp only; omega)) _) | (refine Same.drewN ?_ _) | (refine Same.drew ?_))
      exact ⟨A8, c8, rfl, (ho.same hsm).mono (by first | omega | (simp; omega) | (simp; done) | (dsimp only; omega)) (by first | omega | (simp; omega) | (simp; done) | (dsimp only; omega)), by (with_reducible repeat' first | exact Below.refl _ _ | assumption | (refine Below.setCell ?_ (by first | omega | (simp; omega) | (simp; done) | (dsimp only; omega)) _) | (refine Below.alloc ?_ (by first | omega | (simp; omega) | (simp; done) | (dsimp only; omega)) _) | (refine below_drewN ?_ _) | (refine Below.drew ?_) | (refine Below.trans ?_ (hb.mono (by first | omega | (simp; omega) | (simp; done) | (dsimp only; omega)))))⟩
set_option maxHeartbeats 4000000 in
theorem implNormalForm_any (Ar : Option Addr) (cr lo hi : Nat) (rs : List Rule) (s : Int) (C : Option Addr) (ec lo' hi' : Nat) (zs : List Step) (w : World) (h : ERule.AS w lo hi Ar rs) (h2 : EStep.AS w lo' hi' C zs) (hh : hi ≤ w.heap.size) (hh' : hi' ≤ w.heap.size) (hec : zs.length ≤ ec ∧ ec ≤ maxLen) :
    Calls Try.prog 36 #[.slice Ar rs.length cr, .agg #[.int .i64 s, .slice C zs.length ec]] w (RetType w (normM rs ⟨s, zs⟩)) := by
  cases hr : rulesOk rs with
  | false =>
    rw [normM_no (.inl hr)]
    have HR := Lib.hid hr; clear hr
    go_enter Try.func36, Try.ntmps36
    go_wp2_with fail
    generalize hW : (w.alloc (.cells #[.int .i64 s, .slice C zs.length ec] 29)).alloc (.cells #[.int .i64 0, .slice none 0 0] 29) = W
    have b0 : W.cell? ⟨w.heap.size, 0, none⟩ = some (.int .i64 s) := by subst hW; simp [go_sem]
    have b1 : W.cell? ⟨w.heap.size, 1, none⟩ = some (.slice C zs.length ec) := by subst hW; simp [go_sem]
    have R : Blk W (w.heap.size + 1) 29 #[.int .i64 0, .slice none 0 0] := by subst hW; exact Blk.new _ (by simp)
    have hb : Below w.heap.size w W := by subst hW; (with_reducible repeat' first | exact Below.refl _ _ | assumption | (refine Below.setCell ?_ (by first | omega | (simp; omega) | (simp; done) | (dsimp only; omega)) _) | (refine Below.alloc ?_ (by first | omega | (simp; omega) | (simp; done) | (dsimp only; omega)) _) | (refine below_drewN ?_ _) | (refine Below.drew ?_))
    have z0 : w.heap.size + 1 + 1 ≤ W.heap.size := by subst hW; simp
    clear hW
    replace h := h.same (Same.of_below hb hh); replace h2 := h2.same (Same.of_below hb hh')
    refine (implAreRules_any Ar cr lo hi rs _ h (by first | omega | (simp; omega) | (simp; done) | (dsimp only; omega))).mono ?_
    rintro e w1 ⟨rfl, hb1⟩
    simp only [HR.out]
    replace R := R.below hb1 (by first | omega | (simp; omega) | (simp; done) | (dsimp only; omega))
    (replace b0 := (hb1.cell (by first | omega | (simp; omega) | (simp; done) | (dsimp only; omega))).trans b0; replace b1 := (hb1.cell (by first | omega | (simp; omega) | (simp; done) | (dsimp only; omega))).trans b1; replace h := h.same (Same.of_below hb1 (by first | omega | (simp; omega) | (simp; done) | (dsimp only; omega))); replace h2 := h2.same (Same.of_below hb1 (by first | omega | (simp; omega) | (simp; done) | (dsimp only; omega))); replace hb := hb.trans (hb1.mono (by first | omega | (simp; omega) | (simp; done) | (dsimp only; omega))); replace z0 := Nat.le_trans z0 hb1.size; have zhb1 := hb1.size; clear hb1)
    have lw : w.heap.size < w1.heap.size := by omega
    have lw1 : w.heap.size + 1 < w1.heap.size := by omega
    have f0 := R.free 0; have f1 := R.free 1; have q0 := R.cell (i := 0) rfl; have q1 := R.cell (i := 1) rfl
    go_wp2_with fail
    have RR := (R.set 0 (.int .i64 0)).set 1 (.slice none 0 0)
    exact bodyPost_ret (v := .agg #[.int .i64 0, .slice none 0 0]) (by simp [results, Try.results36, go_sem, RR.cell (i := 0) rfl, RR.cell (i := 1) rfl]) rfl (RetType.zero (by (with_reducible repeat' first | exact Below.refl _ _ | assumption | (refine Below.setCell ?_ (by first | omega | (simp; omega) | (simp; done) | (dsimp only; omega)) _) | (refine Below.alloc ?_ (by first | omega | (simp; omega) | (simp; done) | (dsimp only; omega)) _) | (refine below_drewN ?_ _) | (refine Below.drew ?_) | (refine Below.trans ?_ (hb.mono (by first | omega | (simp; omega) | (simp; done) | (dsimp only; omega)))))))
  | true =>
    have HR := Lib.hid hr
    cases ht : typeOk ⟨s, zs⟩ with
    | false =>
      rw [normM_no (.inr ht)]
      have HT := Lib.hid ht; clear ht hr
      go_enter Try.func36, Try.ntmps36
      go_wp2_with fail
      generalize hW : (w.alloc (.cells #[.int .i64 s, .slice C zs.length ec] 29)).alloc (.cells #[.int .i64 0, .slice none 0 0] 29) = W
      have b0 : W.cell? ⟨w.heap.size, 0, none⟩ = some (.int .i64 s) := by subst hW; simp [go_sem]
      have b1 : W.cell? ⟨w.heap.size, 1, none⟩ = some (.slice C zs.length ec) := by subst hW; simp [go_sem]
      have R : Blk W (w.heap.size + 1) 29 #[.int .i64 0, .slice none 0 0] := by subst hW; exact Blk.new _ (by simp)
      have hb : Below w.heap.size w W := by subst hW; (with_reducible repeat' first | exact Below.refl _ _ | assumption | (refine Below.setCell ?_ (by first | omega | (simp; omega) | (simp; done) | (dsimp only; omega)) _) | (refine Below.alloc ?_ (by first | omega | (simp; omega) | (simp; done) | (dsimp only; omega)) _) | (refine below_drewN ?_ _) | (refine Below.drew ?_))
      have z0 : w.heap.size + 1 + 1 ≤ W.heap.size := by subst hW; simp
      clear hW
      replace h := h.same (Same.of_below hb hh); replace h2 := h2.same (Same.of_below hb hh')
      refine (implAreRules_any Ar cr lo hi rs _ h (by first | omega | (simp; omega) | (simp; done) | (dsimp only; omega))).mono ?_
      rintro e w1 ⟨rfl, hb1⟩
      simp only [HR.out]
      replace R := R.below hb1 (by first | omega | (simp; omega) | (simp; done) | (dsimp only; omega))
      (replace b0 := (hb1.cell (by first | omega | (simp; omega) | (simp; done) | (dsimp only; omega))).trans b0; replace b1 := (hb1.cell (by first | omega | (simp; omega) | (simp; done) | (dsimp only; omega))).trans b1; replace h := h.same (Same.of_below hb1 (by first | omega | (simp; omega) | (simp; done) | (dsimp only; omega))); replace h2 := h2.same (Same.of_below hb1 (by first | omega | (simp; omega) | (simp; done) | (dsimp only; omega))); replace hb := hb.trans (hb1.mono (by first | omega | (simp; omega) | (simp; done) | (dsimp only; omega))); replace z0 := Nat.le_trans z0 hb1.size; have zhb1 := hb1.size; clear hb1)
      have lw : w.heap.size < w1.heap.size := by omega
      have lw1 : w.heap.size + 1 < w1.heap.size := by omega
      go_wp2_with fail
      refine (implIsType_any s C ec lo' hi' zs _ h2 (by first | omega | (simp; omega) | (simp; done) | (dsimp only; omega))).mono ?_
      rintro e w2 ⟨rfl, hb2⟩
      simp only [HT.out]
      replace R := R.below hb2 (by first | omega | (simp; omega) | (simp; done) | (dsimp only; omega))
      (replace b0 := (hb2.cell (by first | omega | (simp; omega) | (simp; done) | (dsimp only; omega))).trans b0; replace b1 := (hb2.cell (by first | omega | (simp; omega) | (simp; done) | (dsimp only; omega))).trans b1; replace h := h.same (Same.of_below hb2 (by first | omega | (simp; omega) | (simp; done) | (dsimp only; omega))); replace h2 := h2.same (Same.of_below hb2 (by first | omega | (simp; omega) | (simp; done) | (dsimp only; omega))); replace hb := hb.trans (hb2.mono (by first | omega | (simp; omega) | (simp; done) | (dsimp only; omega))); replace z0 := Nat.le_trans z0 hb2.size; have zhb2 := hb2.size; clear hb2)
      have lw2 : w.heap.size < w2.heap.size := by omega
      have lw3 : w.heap.size + 1 < w2.heap.size := by omega
      have f0 := R.free 0; have f1 := R.free 1; have q0 := R.cell (i := 0) rfl; have q1 := R.cell (i := 1) rfl
      go_wp2_with fail
      have RR := (R.set 0 (.int .i64 0)).set 1 (.slice none 0 0)
      exact bodyPost_ret (v := .agg #[.int .i64 0, .slice none 0 0]) (by simp [results, Try.results36, go_sem, RR.cell (i := 0) rfl, RR.cell (i := 1) rfl]) rfl (RetType.zero (by (with_reducible repeat' first | exact Below.refl _ _ | assumption | (refine Below.setCell ?_ (by first | omega | (simp; omega) | (simp; done) | (dsimp only; omega)) _) | (refine Below.alloc ?_ (by first | omega | (simp; omega) | (simp; done) | (dsimp only; omega)) _) | (refine below_drewN ?_ _) | (refine Below.drew ?_) | (refine Below.trans ?_ (hb.mono (by first | omega | (simp; omega) | (simp; done) | (dsimp only; omega)))))))
    | true =>
      rw [normM_yes hr ht]
      have HT := Lib.hid ht; clear ht hr
      go_enter Try.func36, Try.ntmps36
      go_wp2_with fail
      generalize hW : (w.alloc (.cells #[.int .i64 s, .slice C zs.length ec] 29)).alloc (.cells #[.int .i64 0, .slice none 0 0] 29) = W
      have b0 : W.cell? ⟨w.heap.size, 0, none⟩ = some (.int .i64 s) := by subst hW; simp [go_sem]
      have b1 : W.cell? ⟨w.heap.size, 1, none⟩ = some (.slice C zs.length ec) := by subst hW; simp [go_sem]
      have R : Blk W (w.heap.size + 1) 29 #[.int .i64 0, .slice none 0 0] := by subst hW; exact Blk.new _ (by simp)
      have hb : Below w.heap.size w W := by subst hW; (with_reducible repeat' first | exact Below.refl _ _ | assumption | (refine Below.setCell ?_ (by first | omega | (simp; omega) | (simp; done) | (dsimp only; omega)) _) | (refine Below.alloc ?_ (by first | omega | (simp; omega) | (simp; done) | (dsimp only; omega)) _) | (refine below_drewN ?_ _) | (refine Below.drew ?_))
      have z0 : w.heap.size + 1 + 1 ≤ W.heap.size := by subst hW; simp
      clear hW
      replace h := h.same (Same.of_below hb hh); replace h2 := h2.same (Same.of_below hb hh')
      refine (implAreRules_any Ar cr lo hi rs _ h (by first | omega | (simp; omega) | (simp; done) | (dsimp only; omega))).mono ?_
      rintro e w1 ⟨rfl, hb1⟩
      simp only [HR.out]
      replace R := R.below hb1 (by first | omega | (simp; omega) | (simp; done) | (dsimp only; omega))
      (replace b0 := (hb1.cell (by first | omega | (simp; omega) | (simp; done) | (dsimp only; omega))).trans b0; replace b1 := (hb1.cell (by first | omega | (simp; omega) | (simp; done) | (dsimp only; omega))).trans b1; replace h := h.same (Same.of_below hb1 (by first | omega | (simp; omega) | (simp; done) | (dsimp only; omega))); replace h2 := h2.same (Same.of_below hb1 (by first | omega | (simp; omega) | (simp; done) | (dsimp only; omega))); replace hb := hb.trans (hb1.mono (by first | omega | (simp; omega) | (simp; done) | (dsimp only; omega))); replace z0 := Nat.le_trans z0 hb1.size; have zhb1 := hb1.size; clear hb1)
      have lw : w.heap.size < w1.heap.size := by omega
      have lw1 : w.heap.size + 1 < w1.heap.size := by omega
      go_wp2_with fail
      refine (implIsType_any s C ec lo' hi' zs _ h2 (by first | omega | (simp; omega) | (simp; done) | (dsimp only; omega))).mono ?_
      rintro e w2 ⟨rfl, hb2⟩
      simp only [HT.out]
      replace R := R.below hb2 (by first | omega | (simp; omega) | (simp; done) | (dsimp only; omega))
      (replace b0 := (hb2.cell (by first | omega | (simp; omega) | (simp; done) | (dsimp only; omega))).trans b0; replace b1 := (hb2.cell (by first | omega | (simp; omega) | (simp; done) | (dsimp only; omega))).trans b1; replace h := h.same (Same.of_below hb2 (by first | omega | (simp; omega) | (simp; done) | (dsimp only; omega))); replace h2 := h2.same (Same.of_below hb2 (by first | omega | (simp; omega) | (simp; done) | (dsimp only; omega))); replace hb := hb.trans (hb2.mono (by first | omega | (simp; omega) | (simp; done) | (dsimp only; omega))); replace z0 := Nat.le_trans z0 hb2.size; have zhb2 := hb2.size; clear hb2)
      have lw2 : w.heap.size < w2.heap.size := by omega
      have lw3 : w.heap.size + 1 < w2.heap.size := by omega
      go_wp2_with fail
      refine (normalForm_any Ar cr lo hi rs s C ec lo' hi' zs _ h h2 (by first | omega | (simp; omega) | (simp; done) | (dsimp only; omega)) (by first | omega | (simp; omega) | (simp; done) | (dsimp only; omega)) hec HR.out HT.out).mono ?_
      rintro e w3 ⟨A8, c8, rfl, ho, hb3⟩
      replace R := R.below hb3 (by first | omega | (simp; omega) | (simp; done) | (dsimp only; omega))
      replace hb : Below w.heap.size w w3 := (by (with_reducible repeat' first | exact Below.refl _ _ | assumption | (refine Below.setCell ?_ (by first | omega | (simp; omega) | (simp; done) | (dsimp only; omega)) _) | (refine Below.alloc ?_ (by first | omega | (simp; omega) | (simp; done) | (dsimp only; omega)) _) | (refine below_drewN ?_ _) | (refine Below.drew ?_) | (refine Below.trans ?_ (hb3.mono (by first | omega | (simp; omega) | (simp; done) | (dsimp only; omega)))) | (refine Below.trans ?_ (hb.mono (by first | omega | (simp; omega) | (simp; done) | (dsimp only; omega))))))
      have lw4 : w.heap.size + 1 < w3.heap.size := by have := hb3.size; omega
      have hsz3 := hb3.size
      generalize hrm : normN rs (muS zs) ⟨s, zs⟩ = rm at *
      obtain ⟨re, rq⟩ := rm
      dsimp only at ho ⊢
      have f0 := R.free 0; have f1 := R.free 1; have q0 := R.cell (i := 0) rfl; have q1 := R.cell (i := 1) rfl
      go_wp2_with fail
      have R8 := R.set 0 (.int .i64 re)
      have RR := R8.set 1 (.slice A8 rq.length c8)
      refine bodyPost_ret (v := .agg #[.int .i64 re, .slice A8 rq.length c8]) (by simp [results, Try.results36, go_sem, RR.cell (i := 0) rfl, RR.cell (i := 1) rfl]) rfl ?_
      have hsm : Same w2.heap.size w3.heap.size w3 ((w3.setCell ⟨w.heap.size + 1, 0, none⟩ (.int .i64 re)).setCell ⟨w.heap.size + 1, 1, none⟩ (.slice A8 rq.length c8)) := by (with_reducible repeat' first | exact Same.refl _ _ _ | assumption | (refine Same.setCell ?_ (by first | omega | (simp; omega) | (simp; done) | (dsimp only; omega)) _) | (refine Same.alloc ?_ (by first | omega | (simp; omega) | (simp; done) | (dsimp only; omega)) _) | (refine Same.drewN ?_ _) | (refine Same.drew ?_))
      exact ⟨A8, c8, rfl, (ho.same hsm).mono (by first | omega | (simp; omega) | (simp; done) | (dsimp only; omega)) (by first | omega | (simp; omega) | (simp; done) | (dsimp only; omega)), by (with_reducible repeat' first | exact Below.refl _ _ | assumption | (refine Below.setCell ?_ (by first | omega | (simp; omega) | (simp; done) | (dsimp only; omega)) _) | (refine Below.alloc ?_ (by first | omega | (simp; omega) | (simp; done) | (dsimp only; omega)) _) | (refine below_drewN ?_ _) | (refine Below.drew ?_) | (refine Below.trans ?_ (hb.mono (by first | omega | (simp; omega) | (simp; done) | (dsimp only; omega)))))⟩
end Go.Proofs.Ytnanlbglgflecaa
