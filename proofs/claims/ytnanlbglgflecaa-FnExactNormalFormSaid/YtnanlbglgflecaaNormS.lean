/-
  Steps until none fits, in the reference and in the program.
-/
import Derived.Test.YtnanlbglgflecaaRewS
import Derived.Test.YtnanlbglgflecaaMarkRule
import Derived.Deep.LoopGhost
namespace Go.Proofs.Ytnanlbglgflecaa
set_option maxRecDepth 100000
open Go.RowKit

theorem Elem.OS.empty {α : Type} {E : Elem α} (w : World) (lo : Nat) (h : lo ≤ w.heap.size) : E.OS (w.alloc (.cells #[] E.e)) lo (w.heap.size + 1) (.slice (some ⟨w.heap.size, 0, none⟩) 0 0) [] := by
  have hf := (Fill.new w E.e 0 #[] [] rfl).own (lo := lo) (n := 0) (sz := E.sz) (by omega) rfl h (Nat.zero_le _)
  rw [World.size_alloc] at hf
  exact ⟨[], hf, .nil, fun cs hcs => by cases hcs⟩
set_option maxHeartbeats 2000000 in
theorem l4Copy_any (s : Int) (A : Option Addr) (c lo hi : Nat) (xs : List Step) (w : World) (h : EStep.AS w lo hi A xs) (hh : hi ≤ w.heap.size) (hx : xs.length ≤ 1048576) :
    Calls Try.prog 187 #[.agg #[.int .i64 s, .slice A xs.length c]] w (RetType w ⟨s, xs⟩) := by
  go_enter Try.func187, Try.ntmps187
  go_wp2_with fail
  generalize hW : (w.alloc (.cells #[.int .i64 s, .slice A xs.length c] 29)).alloc (.cells #[.int .i64 0, .slice none 0 0] 29) = W
  have r0 : Blk W (w.heap.size + 1) 29 #[.int .i64 0, .slice none 0 0] := by subst hW; exact Blk.new _ (by simp)
  have a0 : W.cell? ⟨w.heap.size, 0, none⟩ = some (.int .i64 s) := by subst hW; simp [go_sem]
  have a1 : W.cell? ⟨w.heap.size, 1, none⟩ = some (.slice A xs.length c) := by subst hW; simp [go_sem]
  have hbw : Below w.heap.size w W := by subst hW; (with_reducible repeat' first | exact Below.refl _ _ | assumption | (refine Below.setCell ?_ (by first | omega | (simp; omega) | (simp; done) | (dsimp only; omega)) _) | (refine Below.alloc ?_ (by first | omega | (simp; omega) | (simp; done) | (dsimp only; omega)) _) | (refine below_drewN ?_ _) | (refine Below.drew ?_))
  have z0 : w.heap.size + 1 + 1 = W.heap.size := by subst hW; simp
  clear hW
  replace h := h.same (Same.of_below hbw hh)
  have hsz : (W.alloc (.cells #[] 81)).heap.size = W.heap.size + 1 := by simp
  have c0 : (W.alloc (.cells #[] 81)).cell? ⟨w.heap.size, 0, none⟩ = some (.int .i64 s) := (World.cell?_of_block (Below.heap_alloc _ _ _ (by simp; omega))).trans a0
  have c1 : (W.alloc (.cells #[] 81)).cell? ⟨w.heap.size, 1, none⟩ = some (.slice A xs.length c) := (World.cell?_of_block (Below.heap_alloc _ _ _ (by simp; omega))).trans a1
  have e0 : EStep.OS (W.alloc (.cells #[] 81)).drew W.heap.size (W.heap.size + 1) (.slice (some ⟨W.heap.size, 0, none⟩) 0 0) [] := (Elem.OS.empty (E := EStep) W W.heap.size (Nat.le_refl _)).same ⟨Nat.le_refl _, fun _ _ _ => rfl⟩
  have h5 : EStep.AS (W.alloc (.cells #[] 81)).drew lo hi A xs := h.same ((Same.refl _ _ _).alloc (by omega) _).drew
  have r5 : Blk (W.alloc (.cells #[] 81)).drew (w.heap.size + 1) 29 #[.int .i64 0, .slice none 0 0] := (r0.alloc _).drew
  have hlo5 : W.heap.size ≤ (W.alloc (.cells #[] 81)).drew.heap.size := by show W.heap.size ≤ (W.alloc (.cells #[] 81)).heap.size; omega
  clear hsz
  go_region_law (refine step_appN flatStep tyStepS (some ⟨W.heap.size, 0, none⟩) [] c e0 rfl h5 _ _ rfl rfl rfl (by simp [Act.eval]) (by simpa using hx) (by decide) hlo5 ?_; intro A' c' w' ho hg; have rr := r5.grown hg (by simp [Value.ownBlock]; omega); have f0 := rr.free 0; have f1 := rr.free 1; have q0 := rr.cell (i := 0) rfl; have q1 := rr.cell (i := 1) rfl; have b0 := hg.cell (show (W.alloc (.cells #[] 81)).drew.cell? ⟨w.heap.size, 0, none⟩ = some (.int .i64 s) from c0) (by simp [Value.ownBlock]; omega); have zg := hg.size; have lw0 : w.heap.size < w'.heap.size := (by have := Nat.le_trans hlo5 zg; omega))
  all_goals
    have R := (rr.set 0 (.int .i64 s)).set 1 (.slice A' xs.length c')
    have hb' : Below W.heap.size (W.alloc (.cells #[] 81)).drew w' := Below.grown (Below.refl _ _) hg hlo5 (fun k hk => by simp [Value.ownBlock] at hk; omega)
    simp only [List.nil_append] at ho
    have hb2 : Below W.heap.size W w' := (((Below.refl _ _).alloc (Nat.le_refl _) _).drew).trans hb'
    have zz := hb2.size
    go_wp2_with fail
    exact bodyPost_ret (v := .agg #[.int .i64 s, .slice A' xs.length c']) (by simp [results, Try.results187, go_sem, R.cell (i := 0) rfl, R.cell (i := 1) rfl]) rfl ⟨A', c', rfl, (ho.same (by (with_reducible repeat' first | exact Same.refl _ _ _ | assumption | (refine Same.setCell ?_ (by first | omega | (simp; omega) | (simp; done) | (dsimp only; omega)) _) | (refine Same.alloc ?_ (by first | omega | (simp; omega) | (simp; done) | (dsimp only; omega)) _) | (refine Same.drewN ?_ _) | (refine Same.drew ?_)))).mono (by first | omega | (simp; omega) | (simp; done) | (dsimp only; omega)) (by first | omega | (simp; omega) | (simp; done) | (dsimp only; omega)), by (with_reducible repeat' first | exact Below.refl _ _ | assumption | (refine Below.setCell ?_ (by first | omega | (simp; omega) | (simp; done) | (dsimp only; omega)) _) | (refine Below.alloc ?_ (by first | omega | (simp; omega) | (simp; done) | (dsimp only; omega)) _) | (refine below_drewN ?_ _) | (refine Below.drew ?_) | (refine Below.trans ?_ (hb2.mono (by first | omega | (simp; omega) | (simp; done) | (dsimp only; omega)))) | (refine Below.trans ?_ (hbw.mono (by first | omega | (simp; omega) | (simp; done) | (dsimp only; omega)))))⟩
--@mark
def NormRel (rs : List Rule) (M : KinType) (w : World) (b5 g : Nat) (wr : World) : Prop :=
  ∃ (te : Int) (tq : List Step) (A : Option Addr) (c : Nat), typeOk ⟨te, tq⟩ = true ∧ muS tq ≤ g ∧ normN rs g ⟨te, tq⟩ = M ∧ EStep.OS wr w.heap.size wr.heap.size (.slice A tq.length c) tq ∧ Blk wr b5 29 #[.int .i64 te, .slice A tq.length c] ∧ Blk wr (w.heap.size + 1) 29 #[.int .i64 0, .slice none 0 0] ∧ Below w.heap.size w wr ∧ b5 < wr.heap.size

set_option maxHeartbeats 4000000 in
theorem l4Normal_any (Ar : Option Addr) (cr lo hi : Nat) (rs : List Rule) (s : Int) (C : Option Addr) (ec lo' hi' : Nat) (zs : List Step) (w : World) (h : ERule.AS w lo hi Ar rs) (h2 : EStep.AS w lo' hi' C zs) (hh : hi ≤ w.heap.size) (hh' : hi' ≤ w.heap.size) (_hec : zs.length ≤ ec ∧ ec ≤ maxLen) (hr : rulesOk rs = true) (ht : typeOk ⟨s, zs⟩ = true) :
    Calls Try.prog 110 #[.slice Ar rs.length cr, .agg #[.int .i64 s, .slice C zs.length ec]] w (RetType w (normN rs (muS zs) ⟨s, zs⟩)) := by
  have hzl := typeOk_len ht
  simp only at hzl
  have HR := Lib.hid hr; have HT := Lib.hid ht; clear hr ht _hec
  generalize hM : normN rs (muS zs) ⟨s, zs⟩ = M
  have HM := Lib.hid hM; clear hM
  go_enter Try.func110, Try.ntmps110
  go_wp2_with fail
  generalize hW : (w.alloc (.cells #[.int .i64 s, .slice C zs.length ec] 29)).alloc (.cells #[.int .i64 0, .slice none 0 0] 29) = W
  have b0 : W.cell? ⟨w.heap.size, 0, none⟩ = some (.int .i64 s) := by subst hW; simp [go_sem]
  have b1 : W.cell? ⟨w.heap.size, 1, none⟩ = some (.slice C zs.length ec) := by subst hW; simp [go_sem]
  have R : Blk W (w.heap.size + 1) 29 #[.int .i64 0, .slice none 0 0] := by subst hW; exact Blk.new _ (by simp)
  have hb : Below w.heap.size w W := by subst hW; (with_reducible repeat' first | exact Below.refl _ _ | assumption | (refine Below.setCell ?_ (by first | omega | (simp; omega) | (simp; done) | (dsimp only; omega)) _) | (refine Below.alloc ?_ (by first | omega | (simp; omega) | (simp; done) | (dsimp only; omega)) _) | (refine below_drewN ?_ _) | (refine Below.drew ?_))
  have z0 : w.heap.size + 1 + 1 ≤ W.heap.size := by subst hW; simp
  clear hW
  replace h2 := h2.same (Same.of_below hb hh')
  refine (l4Copy_any s C ec lo' hi' zs _ h2 (by first | omega | (simp; omega) | (simp; done) | (dsimp only; omega)) (by omega)).mono ?_
  rintro e w1 ⟨A1, c1, rfl, o1, hb1⟩
  replace R := R.below hb1 (by first | omega | (simp; omega) | (simp; done) | (dsimp only; omega))
  have z1 := hb1.size
  replace hb : Below w.heap.size w w1 := (by (with_reducible repeat' first | exact Below.refl _ _ | assumption | (refine Below.setCell ?_ (by first | omega | (simp; omega) | (simp; done) | (dsimp only; omega)) _) | (refine Below.alloc ?_ (by first | omega | (simp; omega) | (simp; done) | (dsimp only; omega)) _) | (refine below_drewN ?_ _) | (refine Below.drew ?_) | (refine Below.trans ?_ (hb1.mono (by first | omega | (simp; omega) | (simp; done) | (dsimp only; omega)))) | (refine Below.trans ?_ (hb.mono (by first | omega | (simp; omega) | (simp; done) | (dsimp only; omega))))))
  have lw1 : w.heap.size + 1 < w1.heap.size := by omega
  clear b0 b1
  dsimp only at o1 ⊢
  go_wp2
  generalize hW2 : w1.alloc (.cells #[.int .i64 s, .slice A1 zs.length c1] 29) = W2
  have O : Blk W2 w1.heap.size 29 #[.int .i64 s, .slice A1 zs.length c1] := by subst hW2; exact Blk.new _ rfl
  have hb2 : Below w1.heap.size w1 W2 := by subst hW2; (with_reducible repeat' first | exact Below.refl _ _ | assumption | (refine Below.setCell ?_ (by first | omega | (simp; omega) | (simp; done) | (dsimp only; omega)) _) | (refine Below.alloc ?_ (by first | omega | (simp; omega) | (simp; done) | (dsimp only; omega)) _) | (refine below_drewN ?_ _) | (refine Below.drew ?_))
  have z2 : w1.heap.size + 1 ≤ W2.heap.size := by subst hW2; simp
  clear hW2
  replace R := R.below hb2 (by first | omega | (simp; omega) | (simp; done) | (dsimp only; omega))
  replace hb : Below w.heap.size w W2 := (by (with_reducible repeat' first | exact Below.refl _ _ | assumption | (refine Below.setCell ?_ (by first | omega | (simp; omega) | (simp; done) | (dsimp only; omega)) _) | (refine Below.alloc ?_ (by first | omega | (simp; omega) | (simp; done) | (dsimp only; omega)) _) | (refine below_drewN ?_ _) | (refine Below.drew ?_) | (refine Below.trans ?_ (hb2.mono (by first | omega | (simp; omega) | (simp; done) | (dsimp only; omega)))) | (refine Below.trans ?_ (hb.mono (by first | omega | (simp; omega) | (simp; done) | (dsimp only; omega))))))
  replace o1 : EStep.OS W2 w.heap.size W2.heap.size (.slice A1 zs.length c1) zs := (o1.same (Same.of_below hb2 (Nat.le_refl _))).mono (by first | omega | (simp; omega) | (simp; done) | (dsimp only; omega)) (by first | omega | (simp; omega) | (simp; done) | (dsimp only; omega))
  obtain ⟨b5, hb5⟩ : ∃ b5, b5 = w1.heap.size := ⟨_, rfl⟩
  rw [← hb5] at O z2 ⊢
  have l5 : w.heap.size + 1 < b5 := by omega
  clear hb5 hb1 z1 hb2 lw1
  go_loopg [12] (muS zs) (fun g v wr => NormRel rs M w b5 g wr)
  case atStart => exact ⟨s, zs, A1, c1, HT.out, Nat.le_refl _, HM.out, o1, O, R, hb, by omega⟩
  case round =>
    obtain ⟨te, tq, A, c, hto, hmu, hnm, ot, OB, RB, hbw, lwr⟩ := hrel
    have HTO := Lib.hid hto; have HMU := Lib.hid hmu; have HNM := Lib.hid hnm; clear hto hmu hnm
    have e0 := OB.cell (i := 0) rfl; have e1 := OB.cell (i := 1) rfl
    have ltq := typeOk_len HTO.out
    simp only at ltq
    have hcap := Lib.hid (OS_capR ot)
    have hR := h.same (Same.of_below hbw hh)
    have hz := hbw.size
    go_wp2_with fail
    refine (l4Step_any Ar cr lo hi rs te A c w.heap.size wr.heap.size tq wr hR ot.read.as (by first | omega | (simp; omega) | (simp; done) | (dsimp only; omega)) (Nat.le_refl _) hcap.out HR.out HTO.out).mono ?_
    rintro e w3 ⟨A3, c3, rfl, o3, hb3⟩
    have HD := Lib.hid (show (stepM rs ⟨te, tq⟩).2.2.2 = true → typeOk (stepM rs ⟨te, tq⟩).1 = true ∧ muS (stepM rs ⟨te, tq⟩).1.steps < muS tq from fun k => stepM_down HR.out HTO.out k)
    have HSTOP := Lib.hid (show (stepM rs ⟨te, tq⟩).2.2.2 = false → normN rs gk ⟨te, tq⟩ = ⟨te, tq⟩ from fun k => normN_stop k gk)
    have HGO := Lib.hid (show ∀ n, (stepM rs ⟨te, tq⟩).2.2.2 = true → normN rs (n + 1) ⟨te, tq⟩ = normN rs n (stepM rs ⟨te, tq⟩).1 from fun n k => normN_go k n)
    generalize stepM rs ⟨te, tq⟩ = N4 at *
    obtain ⟨⟨ne, nq⟩, n1, n2, n3⟩ := N4
    dsimp only at o3 ⊢
    have OB3 := OB.below hb3 (by first | omega | (simp; omega) | (simp; done) | (dsimp only; omega))
    have RB3 := RB.below hb3 (by first | omega | (simp; omega) | (simp; done) | (dsimp only; omega))
    have g0 := OB3.cell (i := 0) rfl; have g1 := OB3.cell (i := 1) rfl; have f0 := OB3.free 0; have f1 := OB3.free 1
    have hbw3 : Below w.heap.size w w3 := (by (with_reducible repeat' first | exact Below.refl _ _ | assumption | (refine Below.setCell ?_ (by first | omega | (simp; omega) | (simp; done) | (dsimp only; omega)) _) | (refine Below.alloc ?_ (by first | omega | (simp; omega) | (simp; done) | (dsimp only; omega)) _) | (refine below_drewN ?_ _) | (refine Below.drew ?_) | (refine Below.trans ?_ (hb3.mono (by first | omega | (simp; omega) | (simp; done) | (dsimp only; omega)))) | (refine Below.trans ?_ (hbw.mono (by first | omega | (simp; omega) | (simp; done) | (dsimp only; omega))))))
    have z3 := hb3.size
    have ot3 := ot.same (Same.of_below hb3 (Nat.le_refl _))
    have lb5 : b5 < w3.heap.size := by omega
    clear e0 e1 OB RB
    cases n3 with
    | false =>
      have hMt : M = ⟨te, tq⟩ := by rw [← HNM.out]; exact HSTOP.out rfl
      subst hMt
      have r0 := RB3.cell (i := 0) rfl; have r1 := RB3.cell (i := 1) rfl; have s0 := RB3.free 0; have s1 := RB3.free 1
      have lw3 : w.heap.size + 1 < w3.heap.size := by omega
      go_wp2_with fail
      have R8 := RB3.set 0 (.int .i64 te)
      have R9 := R8.set 1 (.slice A tq.length c)
      have RR := R9.alloc (.cells #[.int .i64 ne, .slice A3 nq.length c3] 29)
      refine bodyPost_ret (v := .agg #[.int .i64 te, .slice A tq.length c]) (by simp [results, Try.results110, go_sem, RR.cell (i := 0) rfl, RR.cell (i := 1) rfl]) rfl ?_
      have ot5 := flatStep.far (i := 0) (u := .int .i64 te) ot3 RB3 (by decide)
      have ot6 := flatStep.far (i := 1) (u := .slice A tq.length c) ot5 R8 (by decide)
      have ot7 : EStep.OS ((((w3.setCell ⟨w.heap.size + 1, 0, none⟩ (.int .i64 te)).setCell ⟨w.heap.size + 1, 1, none⟩ (.slice A tq.length c))).alloc (.cells #[.int .i64 ne, .slice A3 nq.length c3] 29)) w.heap.size wr.heap.size (.slice A tq.length c) tq := ot6.same ((Same.refl _ _ _).alloc (by simp [World.setCell]; omega) _)
      refine ⟨A, c, rfl, ?_, by (with_reducible repeat' first | exact Below.refl _ _ | assumption | (refine Below.setCell ?_ (by first | omega | (simp; omega) | (simp; done) | (dsimp only; omega)) _) | (refine Below.alloc ?_ (by first | omega | (simp; omega) | (simp; done) | (dsimp only; omega)) _) | (refine below_drewN ?_ _) | (refine Below.drew ?_) | (refine Below.trans ?_ (hbw3.mono (by first | omega | (simp; omega) | (simp; done) | (dsimp only; omega)))))⟩
      exact ot7.mono (Nat.le_refl _) (by simp [World.setCell]; omega)
    | true =>
      obtain ⟨hd1, hd2⟩ := HD.out rfl
      simp only at hd1 hd2
      have hmu := HMU.out
      obtain ⟨g', rfl⟩ : ∃ g', gk = g' + 1 := ⟨gk - 1, by omega⟩
      have hnm := HGO.out g' rfl
      rw [HNM.out] at hnm
      have HNM2 := Lib.hid hnm; have HD1 := Lib.hid hd1; have HD2 := Lib.hid (show muS nq ≤ g' by omega)
      clear hnm hd1 hd2 hmu
      go_wp2_with fail
      have O8 := OB3.set 0 (.int .i64 ne)
      have O9 := (O8.set 1 (.slice A3 nq.length c3)).alloc (.cells #[.int .i64 ne, .slice A3 nq.length c3] 29)
      have o35 := flatStep.far (i := 0) (u := .int .i64 ne) o3 OB3 (by decide)
      have o36 := flatStep.far (i := 1) (u := .slice A3 nq.length c3) o35 O8 (by decide)
      have o37 : EStep.OS ((((w3.setCell ⟨b5, 0, none⟩ (.int .i64 ne)).setCell ⟨b5, 1, none⟩ (.slice A3 nq.length c3))).alloc (.cells #[.int .i64 ne, .slice A3 nq.length c3] 29)) wr.heap.size w3.heap.size (.slice A3 nq.length c3) nq := o36.same ((Same.refl _ _ _).alloc (by simp [World.setCell]) _)
      have RB4 := ((RB3.far (p := ⟨b5, 0, none⟩) (by simp only; omega) (.int .i64 ne)).far (p := ⟨b5, 1, none⟩) (by simp only; omega) (.slice A3 nq.length c3)).alloc (.cells #[.int .i64 ne, .slice A3 nq.length c3] 29)
      go_roundg g'
      case measure => omega
      case rel => exact ⟨ne, nq, A3, c3, HD1.out, HD2.out, HNM2.out.symm, o37.mono (by omega) (by simp [World.setCell]), O9, RB4, by (with_reducible repeat' first | exact Below.refl _ _ | assumption | (refine Below.setCell ?_ (by first | omega | (simp; omega) | (simp; done) | (dsimp only; omega)) _) | (refine Below.alloc ?_ (by first | omega | (simp; omega) | (simp; done) | (dsimp only; omega)) _) | (refine below_drewN ?_ _) | (refine Below.drew ?_) | (refine Below.trans ?_ (hbw3.mono (by first | omega | (simp; omega) | (simp; done) | (dsimp only; omega))))), by simp [World.setCell]; omega⟩

set_option maxHeartbeats 4000000 in
theorem normalForm_any (Ar : Option Addr) (cr lo hi : Nat) (rs : List Rule) (s : Int) (C : Option Addr) (ec lo' hi' : Nat) (zs : List Step) (w : World) (h : ERule.AS w lo hi Ar rs) (h2 : EStep.AS w lo' hi' C zs) (hh : hi ≤ w.heap.size) (hh' : hi' ≤ w.heap.size) (_hec : zs.length ≤ ec ∧ ec ≤ maxLen) (hr : rulesOk rs = true) (ht : typeOk ⟨s, zs⟩ = true) :
    Calls Try.prog 111 #[.slice Ar rs.length cr, .agg #[.int .i64 s, .slice C zs.length ec]] w (RetType w (normN rs (muS zs) ⟨s, zs⟩)) := by
  have hzl := typeOk_len ht
  simp only at hzl
  have HR := Lib.hid hr; have HT := Lib.hid ht; clear hr ht _hec
  generalize hM : normN rs (muS zs) ⟨s, zs⟩ = M
  have HM := Lib.hid hM; clear hM
  go_enter Try.func111, Try.ntmps111
  go_wp2_with fail
  generalize hW : (w.alloc (.cells #[.int .i64 s, .slice C zs.length ec] 29)).alloc (.cells #[.int .i64 0, .slice none 0 0] 29) = W
  have b0 : W.cell? ⟨w.heap.size, 0, none⟩ = some (.int .i64 s) := by subst hW; simp [go_sem]
  have b1 : W.cell? ⟨w.heap.size, 1, none⟩ = some (.slice C zs.length ec) := by subst hW; simp [go_sem]
  have R : Blk W (w.heap.size + 1) 29 #[.int .i64 0, .slice none 0 0] := by subst hW; exact Blk.new _ (by simp)
  have hb : Below w.heap.size w W := by subst hW; (with_reducible repeat' first | exact Below.refl _ _ | assumption | (refine Below.setCell ?_ (by first | omega | (simp; omega) | (simp; done) | (dsimp only; omega)) _) | (refine Below.alloc ?_ (by first | omega | (simp; omega) | (simp; done) | (dsimp only; omega)) _) | (refine below_drewN ?_ _) | (refine Below.drew ?_))
  have z0 : w.heap.size + 1 + 1 ≤ W.heap.size := by subst hW; simp
  clear hW
  replace h2 := h2.same (Same.of_below hb hh')
  refine (copyType_any s C ec lo' hi' zs _ h2 (by first | omega | (simp; omega) | (simp; done) | (dsimp only; omega)) (by omega)).mono ?_
  rintro e w1 ⟨A1, c1, rfl, o1, hb1⟩
  replace R := R.below hb1 (by first | omega | (simp; omega) | (simp; done) | (dsimp only; omega))
  have z1 := hb1.size
  replace hb : Below w.heap.size w w1 := (by (with_reducible repeat' first | exact Below.refl _ _ | assumption | (refine Below.setCell ?_ (by first | omega | (simp; omega) | (simp; done) | (dsimp only; omega)) _) | (refine Below.alloc ?_ (by first | omega | (simp; omega) | (simp; done) | (dsimp only; omega)) _) | (refine below_drewN ?_ _) | (refine Below.drew ?_) | (refine Below.trans ?_ (hb1.mono (by first | omega | (simp; omega) | (simp; done) | (dsimp only; omega)))) | (refine Below.trans ?_ (hb.mono (by first | omega | (simp; omega) | (simp; done) | (dsimp only; omega))))))
  have lw1 : w.heap.size + 1 < w1.heap.size := by omega
  clear b0 b1
  dsimp only at o1 ⊢
  go_wp2
  generalize hW2 : w1.alloc (.cells #[.int .i64 s, .slice A1 zs.length c1] 29) = W2
  have O : Blk W2 w1.heap.size 29 #[.int .i64 s, .slice A1 zs.length c1] := by subst hW2; exact Blk.new _ rfl
  have hb2 : Below w1.heap.size w1 W2 := by subst hW2; (with_reducible repeat' first | exact Below.refl _ _ | assumption | (refine Below.setCell ?_ (by first | omega | (simp; omega) | (simp; done) | (dsimp only; omega)) _) | (refine Below.alloc ?_ (by first | omega | (simp; omega) | (simp; done) | (dsimp only; omega)) _) | (refine below_drewN ?_ _) | (refine Below.drew ?_))
  have z2 : w1.heap.size + 1 ≤ W2.heap.size := by subst hW2; simp
  clear hW2
  replace R := R.below hb2 (by first | omega | (simp; omega) | (simp; done) | (dsimp only; omega))
  replace hb : Below w.heap.size w W2 := (by (with_reducible repeat' first | exact Below.refl _ _ | assumption | (refine Below.setCell ?_ (by first | omega | (simp; omega) | (simp; done) | (dsimp only; omega)) _) | (refine Below.alloc ?_ (by first | omega | (simp; omega) | (simp; done) | (dsimp only; omega)) _) | (refine below_drewN ?_ _) | (refine Below.drew ?_) | (refine Below.trans ?_ (hb2.mono (by first | omega | (simp; omega) | (simp; done) | (dsimp only; omega)))) | (refine Below.trans ?_ (hb.mono (by first | omega | (simp; omega) | (simp; done) | (dsimp only; omega))))))
  replace o1 : EStep.OS W2 w.heap.size W2.heap.size (.slice A1 zs.length c1) zs := (o1.same (Same.of_below hb2 (Nat.le_refl _))).mono (by first | omega | (simp; omega) | (simp; done) | (dsimp only; omega)) (by first | omega | (simp; omega) | (simp; done) | (dsimp only; omega))
  obtain ⟨b5, hb5⟩ : ∃ b5, b5 = w1.heap.size := ⟨_, rfl⟩
  rw [← hb5] at O z2 ⊢
  have l5 : w.heap.size + 1 < b5 := by omega
  clear hb5 hb1 z1 hb2 lw1
  go_loopg [12] (muS zs) (fun g v wr => NormRel rs M w b5 g wr)
  case atStart => exact ⟨s, zs, A1, c1, HT.out, Nat.le_refl _, HM.out, o1, O, R, hb, by omega⟩
  case round =>
    obtain ⟨te, tq, A, c, hto, hmu, hnm, ot, OB, RB, hbw, lwr⟩ := hrel
    have HTO := Lib.hid hto; have HMU := Lib.hid hmu; have HNM := Lib.hid hnm; clear hto hmu hnm
    have e0 := OB.cell (i := 0) rfl; have e1 := OB.cell (i := 1) rfl
    have ltq := typeOk_len HTO.out
    simp only at ltq
    have hcap := Lib.hid (OS_capR ot)
    have hR := h.same (Same.of_below hbw hh)
    have hz := hbw.size
    go_wp2_with fail
    refine (rewrite_any Ar cr lo hi rs te A c w.heap.size wr.heap.size tq wr hR ot.read.as (by first | omega | (simp; omega) | (simp; done) | (dsimp only; omega)) (Nat.le_refl _) hcap.out HR.out HTO.out).mono ?_
    rintro e w3 ⟨A3, c3, rfl, o3, hb3⟩
    have HD := Lib.hid (show (stepM rs ⟨te, tq⟩).2.2.2 = true → typeOk (stepM rs ⟨te, tq⟩).1 = true ∧ muS (stepM rs ⟨te, tq⟩).1.steps < muS tq from fun k => stepM_down HR.out HTO.out k)
    have HSTOP := Lib.hid (show (stepM rs ⟨te, tq⟩).2.2.2 = false → normN rs gk ⟨te, tq⟩ = ⟨te, tq⟩ from fun k => normN_stop k gk)
    have HGO := Lib.hid (show ∀ n, (stepM rs ⟨te, tq⟩).2.2.2 = true → normN rs (n + 1) ⟨te, tq⟩ = normN rs n (stepM rs ⟨te, tq⟩).1 from fun n k => normN_go k n)
    generalize stepM rs ⟨te, tq⟩ = N4 at *
    obtain ⟨⟨ne, nq⟩, n1, n2, n3⟩ := N4
    dsimp only at o3 ⊢
    have OB3 := OB.below hb3 (by first | omega | (simp; omega) | (simp; done) | (dsimp only; omega))
    have RB3 := RB.below hb3 (by first | omega | (simp; omega) | (simp; done) | (dsimp only; omega))
    have g0 := OB3.cell (i := 0) rfl; have g1 := OB3.cell (i := 1) rfl; have f0 := OB3.free 0; have f1 := OB3.free 1
    have hbw3 : Below w.heap.size w w3 := (by (with_reducible repeat' first | exact Below.refl _ _ | assumption | (refine Below.setCell ?_ (by first | omega | (simp; omega) | (simp; done) | (dsimp only; omega)) _) | (refine Below.alloc ?_ (by first | omega | (simp; omega) | (simp; done) | (dsimp only; omega)) _) | (refine below_drewN ?_ _) | (refine Below.drew ?_) | (refine Below.trans ?_ (hb3.mono (by first | omega | (simp; omega) | (simp; done) | (dsimp only; omega)))) | (refine Below.trans ?_ (hbw.mono (by first | omega | (simp; omega) | (simp; done) | (dsimp only; omega))))))
    have z3 := hb3.size
    have ot3 := ot.same (Same.of_below hb3 (Nat.le_refl _))
    have lb5 : b5 < w3.heap.size := by omega
    clear e0 e1 OB RB
    cases n3 with
    | false =>
      have hMt : M = ⟨te, tq⟩ := by rw [← HNM.out]; exact HSTOP.out rfl
      subst hMt
      have r0 := RB3.cell (i := 0) rfl; have r1 := RB3.cell (i := 1) rfl; have s0 := RB3.free 0; have s1 := RB3.free 1
      have lw3 : w.heap.size + 1 < w3.heap.size := by omega
      go_wp2_with fail
      have R8 := RB3.set 0 (.int .i64 te)
      have R9 := R8.set 1 (.slice A tq.length c)
      have RR := R9.alloc (.cells #[.int .i64 ne, .slice A3 nq.length c3] 29)
      refine bodyPost_ret (v := .agg #[.int .i64 te, .slice A tq.length c]) (by simp [results, Try.results111, go_sem, RR.cell (i := 0) rfl, RR.cell (i := 1) rfl]) rfl ?_
      have ot5 := flatStep.far (i := 0) (u := .int .i64 te) ot3 RB3 (by decide)
      have ot6 := flatStep.far (i := 1) (u := .slice A tq.length c) ot5 R8 (by decide)
      have ot7 : EStep.OS ((((w3.setCell ⟨w.heap.size + 1, 0, none⟩ (.int .i64 te)).setCell ⟨w.heap.size + 1, 1, none⟩ (.slice A tq.length c))).alloc (.cells #[.int .i64 ne, .slice A3 nq.length c3] 29)) w.heap.size wr.heap.size (.slice A tq.length c) tq := ot6.same ((Same.refl _ _ _).alloc (by simp [World.setCell]; omega) _)
      refine ⟨A, c, rfl, ?_, by (with_reducible repeat' first | exact Below.refl _ _ | assumption | (refine Below.setCell ?_ (by first | omega | (simp; omega) | (simp; done) | (dsimp only; omega)) _) | (refine Below.alloc ?_ (by first | omega | (simp; omega) | (simp; done) | (dsimp only; omega)) _) | (refine below_drewN ?_ _) | (refine Below.drew ?_) | (refine Below.trans ?_ (hbw3.mono (by first | omega | (simp; omega) | (simp; done) | (dsimp only; omega)))))⟩
      exact ot7.mono (Nat.le_refl _) (by simp [World.setCell]; omega)
    | true =>
      obtain ⟨hd1, hd2⟩ := HD.out rfl
      simp only at hd1 hd2
      have hmu := HMU.out
      obtain ⟨g', rfl⟩ : ∃ g', gk = g' + 1 := ⟨gk - 1, by omega⟩
      have hnm := HGO.out g' rfl
      rw [HNM.out] at hnm
      have HNM2 := Lib.hid hnm; have HD1 := Lib.hid hd1; have HD2 := Lib.hid (show muS nq ≤ g' by omega)
      clear hnm hd1 hd2 hmu
      go_wp2_with fail
      have O8 := OB3.set 0 (.int .i64 ne)
      have O9 := (O8.set 1 (.slice A3 nq.length c3)).alloc (.cells #[.int .i64 ne, .slice A3 nq.length c3] 29)
      have o35 := flatStep.far (i := 0) (u := .int .i64 ne) o3 OB3 (by decide)
      have o36 := flatStep.far (i := 1) (u := .slice A3 nq.length c3) o35 O8 (by decide)
      have o37 : EStep.OS ((((w3.setCell ⟨b5, 0, none⟩ (.int .i64 ne)).setCell ⟨b5, 1, none⟩ (.slice A3 nq.length c3))).alloc (.cells #[.int .i64 ne, .slice A3 nq.length c3] 29)) wr.heap.size w3.heap.size (.slice A3 nq.length c3) nq := o36.same ((Same.refl _ _ _).alloc (by simp [World.setCell]) _)
      have RB4 := ((RB3.far (p := ⟨b5, 0, none⟩) (by simp only; omega) (.int .i64 ne)).far (p := ⟨b5, 1, none⟩) (by simp only; omega) (.slice A3 nq.length c3)).alloc (.cells #[.int .i64 ne, .slice A3 nq.length c3] 29)
      go_roundg g'
      case measure => omega
      case rel => exact ⟨ne, nq, A3, c3, HD1.out, HD2.out, HNM2.out.symm, o37.mono (by omega) (by simp [World.setCell]), O9, RB4, by (with_reducible repeat' first | exact Below.refl _ _ | assumption | (refine Below.setCell ?_ (by first | omega | (simp; omega) | (simp; done) | (dsimp only; omega)) _) | (refine Below.alloc ?_ (by first | omega | (simp; omega) | (simp; done) | (dsimp only; omega)) _) | (refine below_drewN ?_ _) | (refine Below.drew ?_) | (refine Below.trans ?_ (hbw3.mono (by first | omega | (simp; omega) | (simp; done) | (dsimp only; omega))))), by simp [World.setCell]; omega⟩
end Go.Proofs.Ytnanlbglgflecaa
