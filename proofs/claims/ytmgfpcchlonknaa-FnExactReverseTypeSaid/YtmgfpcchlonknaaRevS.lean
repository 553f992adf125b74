/-
  Kin types that lead back, in the reference.
-/
import Derived.Test.YtmgfpcchlonknaaRevM
import Derived.Test.YtmgfpcchlonknaaAppN
import Derived.Test.YtmgfpcchlonknaaTyp2
namespace Go.Proofs.Ytmgfpcchlonknaa
set_option maxRecDepth 100000
open Go.RowKit

/-- What is known at the head of the loop of the reference. -/
def RevRel (s : Int) (xs : List Step) (W : World) (sx v i : Value) (wr : World) : Prop :=
  ∃ (k : Nat) (A : Option Addr) (c : Nat), k ≤ xs.length ∧ i = .int .i64 k ∧ sx = .int .i64 (sexBM ⟨s, xs⟩ k) ∧ v = .slice A (revL s xs k).length c ∧ EStep.OS wr W.heap.size wr.heap.size (.slice A (revL s xs k).length c) (revL s xs k) ∧ Below W.heap.size W wr
set_option maxHeartbeats 8000000 in
theorem specReverseType_any (s : Int) (A : Option Addr) (c lo hi : Nat) (xs : List Step) (w : World) (h : EStep.AS w lo hi A xs) (hh : hi ≤ w.heap.size) :
    Calls Try.prog 60 #[.agg #[.int .i64 s, .slice A xs.length c]] w (RetTypB w (revT ⟨s, xs⟩)) := by
  have hx := h.le
  unfold BIG at hx
  cases hok : typeOk ⟨s, xs⟩ with
  | false =>
    rw [revT_bad hok]
    have HO := Lib.hid hok; clear hok
    go_enter Try.func60, Try.ntmps60
    go_wp2_with fail
    generalize hW : (w.alloc (.cells #[.int .i64 s, .slice A xs.length c] 53)).alloc (.cells #[.int .i64 0, .slice none 0 0] 53) = W
    have R : Blk W (w.heap.size + 1) 53 #[.int .i64 0, .slice none 0 0] := by subst hW; exact Blk.new _ (by simp)
    have a0 : W.cell? ⟨w.heap.size, 0, none⟩ = some (.int .i64 s) := by subst hW; simp [go_sem]
    have a1 : W.cell? ⟨w.heap.size, 1, none⟩ = some (.slice A xs.length c) := by subst hW; simp [go_sem]
    have hb : Below w.heap.size w W := by subst hW; (with_reducible repeat' first | exact Below.refl _ _ | assumption | (refine Below.setCell ?_ (by first | omega | (simp; omega) | (simp; done) | (dsimp only; omega)) _) | (refine Below.alloc ?_ (by first | omega | (simp; omega) | (simp; done) | (dsimp only; omega)) _) | (refine below_drewN ?_ _) | (refine Below.drew ?_))
    have z0 : w.heap.size + 1 + 1 ≤ W.heap.size := by subst hW; simp
    clear hW
    replace h := h.same (Same.of_below hb hh)
    refine (specIsType_any s A c lo hi xs _ h (by first | omega | (simp; omega) | (simp; done) | (dsimp only; omega))).mono ?_
    rintro e w1 ⟨rfl, hb1⟩
    simp only [HO.out]
    replace R := R.below hb1 (by first | omega | (simp; omega) | (simp; done) | (dsimp only; omega))
    (replace a0 := (hb1.cell (by first | omega | (simp; omega) | (simp; done) | (dsimp only; omega))).trans a0; replace a1 := (hb1.cell (by first | omega | (simp; omega) | (simp; done) | (dsimp only; omega))).trans a1; replace h := h.same (Same.of_below hb1 (by first | omega | (simp; omega) | (simp; done) | (dsimp only; omega))); replace hb := hb.trans (hb1.mono (by first | omega | (simp; omega) | (simp; done) | (dsimp only; omega))); replace z0 := Nat.le_trans z0 hb1.size; have zhb1 := hb1.size; clear hb1)
    have lw : w.heap.size < w1.heap.size := by omega
    have f0 := R.free 0; have f1 := R.free 1; have q0 := R.cell (i := 0) rfl; have q1 := R.cell (i := 1) rfl
    go_wp2_with fail
    have RR := (R.set 0 (.int .i64 0)).set 1 (.slice none 0 0)
    exact bodyPost_ret (v := .tuple #[.agg #[.int .i64 0, .slice none 0 0], .bool false]) (by simp [results, Try.results60, go_sem, RR.cell (i := 0) rfl, RR.cell (i := 1) rfl]) rfl (RetTypB.zero (by (with_reducible repeat' first | exact Below.refl _ _ | assumption | (refine Below.setCell ?_ (by first | omega | (simp; omega) | (simp; done) | (dsimp only; omega)) _) | (refine Below.alloc ?_ (by first | omega | (simp; omega) | (simp; done) | (dsimp only; omega)) _) | (refine below_drewN ?_ _) | (refine Below.drew ?_) | (refine Below.trans ?_ (hb.mono (by first | omega | (simp; omega) | (simp; done) | (dsimp only; omega)))))))
  | true =>
    have HO := Lib.hid hok; clear hok
    by_cases h0 : xs.length = 0
    · have HG : Hid (xs.length = 0 ∨ egoM ⟨s, xs⟩ ≠ 0) := Lib.hid (.inl h0)
      have HEG : Hid (0 < xs.length → egoM ⟨s, xs⟩ ≠ 0) := Lib.hid (fun hp => by omega)
      have n0 : ¬ 0 < xs.length := by omega
      clear h0
      go_enter Try.func60, Try.ntmps60
      go_wp2_with fail
      generalize hW : (w.alloc (.cells #[.int .i64 s, .slice A xs.length c] 53)).alloc (.cells #[.int .i64 0, .slice none 0 0] 53) = W
      have R : Blk W (w.heap.size + 1) 53 #[.int .i64 0, .slice none 0 0] := by subst hW; exact Blk.new _ (by simp)
      have a0 : W.cell? ⟨w.heap.size, 0, none⟩ = some (.int .i64 s) := by subst hW; simp [go_sem]
      have a1 : W.cell? ⟨w.heap.size, 1, none⟩ = some (.slice A xs.length c) := by subst hW; simp [go_sem]
      have hb : Below w.heap.size w W := by subst hW; (with_reducible repeat' first | exact Below.refl _ _ | assumption | (refine Below.setCell ?_ (by first | omega | (simp; omega) | (simp; done) | (dsimp only; omega)) _) | (refine Below.alloc ?_ (by first | omega | (simp; omega) | (simp; done) | (dsimp only; omega)) _) | (refine below_drewN ?_ _) | (refine Below.drew ?_))
      have z0 : w.heap.size + 1 + 1 ≤ W.heap.size := by subst hW; simp
      clear hW
      replace h := h.same (Same.of_below hb hh)
      refine (specIsType_any s A c lo hi xs _ h (by first | omega | (simp; omega) | (simp; done) | (dsimp only; omega))).mono ?_
      rintro e w1 ⟨rfl, hb1⟩
      simp only [HO.out]
      replace R := R.below hb1 (by first | omega | (simp; omega) | (simp; done) | (dsimp only; omega))
      (replace a0 := (hb1.cell (by first | omega | (simp; omega) | (simp; done) | (dsimp only; omega))).trans a0; replace a1 := (hb1.cell (by first | omega | (simp; omega) | (simp; done) | (dsimp only; omega))).trans a1; replace h := h.same (Same.of_below hb1 (by first | omega | (simp; omega) | (simp; done) | (dsimp only; omega))); replace hb := hb.trans (hb1.mono (by first | omega | (simp; omega) | (simp; done) | (dsimp only; omega))); replace z0 := Nat.le_trans z0 hb1.size; have zhb1 := hb1.size; clear hb1)
      have lw : w.heap.size < w1.heap.size := by omega
      go_wp2_with fail
      refine (l3Last_any s A c lo hi xs _ h (by first | omega | (simp; omega) | (simp; done) | (dsimp only; omega)) HO.out).mono ?_
      rintro e w2 ⟨rfl, hb2⟩
      replace R := R.below hb2 (by first | omega | (simp; omega) | (simp; done) | (dsimp only; omega))
      (replace a0 := (hb2.cell (by first | omega | (simp; omega) | (simp; done) | (dsimp only; omega))).trans a0; replace a1 := (hb2.cell (by first | omega | (simp; omega) | (simp; done) | (dsimp only; omega))).trans a1; replace h := h.same (Same.of_below hb2 (by first | omega | (simp; omega) | (simp; done) | (dsimp only; omega))); replace hb := hb.trans (hb2.mono (by first | omega | (simp; omega) | (simp; done) | (dsimp only; omega))); replace z0 := Nat.le_trans z0 hb2.size; have zhb2 := hb2.size; clear hb2)
      have lw2 : w.heap.size < w2.heap.size := by omega
      have z2k : w.heap.size + 1 + 1 ≤ w2.heap.size := z0
      generalize hsm : sexM ⟨s, xs⟩ = sm
      have HSM := Lib.hid hsm; clear hsm
      go_wp2_with fail
      generalize hW3 : w2.alloc (.cells #[.int .i64 sm, .slice none 0 0] 53) = W3
      have O : Blk W3 w2.heap.size 53 #[.int .i64 sm, .slice none 0 0] := by subst hW3; exact Blk.new _ rfl
      have hb3 : Below w2.heap.size w2 W3 := by subst hW3; (with_reducible repeat' first | exact Below.refl _ _ | assumption | (refine Below.setCell ?_ (by first | omega | (simp; omega) | (simp; done) | (dsimp only; omega)) _) | (refine Below.alloc ?_ (by first | omega | (simp; omega) | (simp; done) | (dsimp only; omega)) _) | (refine below_drewN ?_ _) | (refine Below.drew ?_))
      have z3 : w2.heap.size + 1 ≤ W3.heap.size := by subst hW3; simp
      clear hW3
      replace R := R.below hb3 (by first | omega | (simp; omega) | (simp; done) | (dsimp only; omega))
      (replace a0 := (hb3.cell (by first | omega | (simp; omega) | (simp; done) | (dsimp only; omega))).trans a0; replace a1 := (hb3.cell (by first | omega | (simp; omega) | (simp; done) | (dsimp only; omega))).trans a1; replace h := h.same (Same.of_below hb3 (by first | omega | (simp; omega) | (simp; done) | (dsimp only; omega))); replace hb := hb.trans (hb3.mono (by first | omega | (simp; omega) | (simp; done) | (dsimp only; omega))); replace z0 := Nat.le_trans z0 hb3.size; have zhb3 := hb3.size; clear hb3)
      refine (l3Ego_any s A c lo hi xs _ h (by first | omega | (simp; omega) | (simp; done) | (dsimp only; omega))).mono ?_
      rintro e w3 ⟨rfl, hb4⟩
      replace R := R.below hb4 (by first | omega | (simp; omega) | (simp; done) | (dsimp only; omega)); replace O := O.below hb4 (by first | omega | (simp; omega) | (simp; done) | (dsimp only; omega))
      (replace a0 := (hb4.cell (by first | omega | (simp; omega) | (simp; done) | (dsimp only; omega))).trans a0; replace a1 := (hb4.cell (by first | omega | (simp; omega) | (simp; done) | (dsimp only; omega))).trans a1; replace h := h.same (Same.of_below hb4 (by first | omega | (simp; omega) | (simp; done) | (dsimp only; omega))); replace hb := hb.trans (hb4.mono (by first | omega | (simp; omega) | (simp; done) | (dsimp only; omega))); replace z0 := Nat.le_trans z0 hb4.size; replace z3 := Nat.le_trans z3 hb4.size; have zhb4 := hb4.size; clear hb4)
      have lw3 : w.heap.size < w3.heap.size := by omega
      have HE0 := Lib.hid (show egoM ⟨s, xs⟩ = sexBM ⟨s, xs⟩ 0 by rw [sexBM, if_pos rfl])
      rw [HE0.out]
      have HA := Lib.hid h; clear h
      go_wp2
      go_loopw [5, 6, 33] (fun sx v i wr => RevRel s xs w3 sx v i wr) (fun _ _ i _ => xs.length - (intOf i).toNat)
      case atStart => exact ⟨0, _, _, Nat.zero_le _, rfl, rfl, rfl, Elem.OS.made0 _, by (with_reducible repeat' first | exact Below.refl _ _ | assumption | (refine Below.setCell ?_ (by first | omega | (simp; omega) | (simp; done) | (dsimp only; omega)) _) | (refine Below.alloc ?_ (by first | omega | (simp; omega) | (simp; done) | (dsimp only; omega)) _) | (refine below_drewN ?_ _) | (refine Below.drew ?_))⟩
      case round =>
        obtain ⟨k, A1, c1, hk, rfl, rfl, rfl, ho, hbr⟩ := hrel
        have zr := hbr.size
        by_cases hlt : k < xs.length
        · exfalso; omega
        · obtain rfl : k = xs.length := by omega
          replace R := R.below hbr (by first | omega | (simp; omega) | (simp; done) | (dsimp only; omega)); replace O := O.below hbr (by first | omega | (simp; omega) | (simp; done) | (dsimp only; omega))
          have e0 := O.cell (i := 0) rfl; have e1 := O.cell (i := 1) rfl; have fo := O.free 1
          have f0 := R.free 0; have f1 := R.free 1; have q0 := R.cell (i := 0) rfl; have q1 := R.cell (i := 1) rfl
          have hne : w.heap.size + 1 ≠ w2.heap.size := by omega
          go_wp2_with fail
          have RR := ((R.far (p := ⟨w2.heap.size, 1, none⟩) hne (.slice A1 (revL s xs xs.length).length c1)).set 0 (.int .i64 sm)).set 1 (.slice A1 (revL s xs xs.length).length c1)
          refine bodyPost_ret (v := .tuple #[.agg #[.int .i64 sm, .slice A1 (revL s xs xs.length).length c1], .bool true]) (by simp [results, Try.results60, go_sem, RR.cell (i := 0) rfl, RR.cell (i := 1) rfl]) rfl ?_
          rw [revT_good HO.out HG.out, HSM.out]
          exact ⟨A1, c1, rfl, (ho.same (by (with_reducible repeat' first | exact Same.refl _ _ _ | assumption | (refine Same.setCell ?_ (by first | omega | (simp; omega) | (simp; done) | (dsimp only; omega)) _) | (refine Same.alloc ?_ (by first | omega | (simp; omega) | (simp; done) | (dsimp only; omega)) _) | (refine Same.drewN ?_ _) | (refine Same.drew ?_)))).mono (by first | omega | (simp; omega) | (simp; done) | (dsimp only; omega)) (by first | omega | (simp; omega) | (simp; done) | (dsimp only; omega)), by (with_reducible repeat' first | exact Below.refl _ _ | assumption | (refine Below.setCell ?_ (by first | omega | (simp; omega) | (simp; done) | (dsimp only; omega)) _) | (refine Below.alloc ?_ (by first | omega | (simp; omega) | (simp; done) | (dsimp only; omega)) _) | (refine below_drewN ?_ _) | (refine Below.drew ?_) | (refine Below.trans ?_ (hbr.mono (by first | omega | (simp; omega) | (simp; done) | (dsimp only; omega)))) | (refine Below.trans ?_ (hb.mono (by first | omega | (simp; omega) | (simp; done) | (dsimp only; omega)))))⟩
    · have n0 : 0 < xs.length := by omega
      have H0 := Lib.hid h0; clear h0
      by_cases he : egoM ⟨s, xs⟩ = 0
      · rw [revT_ego H0.out he]
        have HE := Lib.hid he; clear he
        go_enter Try.func60, Try.ntmps60
        go_wp2_with fail
        generalize hW : (w.alloc (.cells #[.int .i64 s, .slice A xs.length c] 53)).alloc (.cells #[.int .i64 0, .slice none 0 0] 53) = W
        have R : Blk W (w.heap.size + 1) 53 #[.int .i64 0, .slice none 0 0] := by subst hW; exact Blk.new _ (by simp)
        have a0 : W.cell? ⟨w.heap.size, 0, none⟩ = some (.int .i64 s) := by subst hW; simp [go_sem]
        have a1 : W.cell? ⟨w.heap.size, 1, none⟩ = some (.slice A xs.length c) := by subst hW; simp [go_sem]
        have hb : Below w.heap.size w W := by subst hW; (with_reducible repeat' first | exact Below.refl _ _ | assumption | (refine Below.setCell ?_ (by first | omega | (simp; omega) | (simp; done) | (dsimp only; omega)) _) | (refine Below.alloc ?_ (by first | omega | (simp; omega) | (simp; done) | (dsimp only; omega)) _) | (refine below_drewN ?_ _) | (refine Below.drew ?_))
        have z0 : w.heap.size + 1 + 1 ≤ W.heap.size := by subst hW; simp
        clear hW
        replace h := h.same (Same.of_below hb hh)
        refine (specIsType_any s A c lo hi xs _ h (by first | omega | (simp; omega) | (simp; done) | (dsimp only; omega))).mono ?_
        rintro e w1 ⟨rfl, hb1⟩
        simp only [HO.out]
        replace R := R.below hb1 (by first | omega | (simp; omega) | (simp; done) | (dsimp only; omega))
        (replace a0 := (hb1.cell (by first | omega | (simp; omega) | (simp; done) | (dsimp only; omega))).trans a0; replace a1 := (hb1.cell (by first | omega | (simp; omega) | (simp; done) | (dsimp only; omega))).trans a1; replace h := h.same (Same.of_below hb1 (by first | omega | (simp; omega) | (simp; done) | (dsimp only; omega))); replace hb := hb.trans (hb1.mono (by first | omega | (simp; omega) | (simp; done) | (dsimp only; omega))); replace z0 := Nat.le_trans z0 hb1.size; have zhb1 := hb1.size; clear hb1)
        have lw : w.heap.size < w1.heap.size := by omega
        go_wp2_with fail
        refine (l3Ego_any s A c lo hi xs _ h (by first | omega | (simp; omega) | (simp; done) | (dsimp only; omega))).mono ?_
        rintro e w2 ⟨rfl, hb2⟩
        rw [HE.out]
        replace R := R.below hb2 (by first | omega | (simp; omega) | (simp; done) | (dsimp only; omega))
        (replace a0 := (hb2.cell (by first | omega | (simp; omega) | (simp; done) | (dsimp only; omega))).trans a0; replace a1 := (hb2.cell (by first | omega | (simp; omega) | (simp; done) | (dsimp only; omega))).trans a1; replace h := h.same (Same.of_below hb2 (by first | omega | (simp; omega) | (simp; done) | (dsimp only; omega))); replace hb := hb.trans (hb2.mono (by first | omega | (simp; omega) | (simp; done) | (dsimp only; omega))); replace z0 := Nat.le_trans z0 hb2.size; have zhb2 := hb2.size; clear hb2)
        have f0 := R.free 0; have f1 := R.free 1; have q0 := R.cell (i := 0) rfl; have q1 := R.cell (i := 1) rfl
        go_wp2_with fail
        have RR := (R.set 0 (.int .i64 0)).set 1 (.slice none 0 0)
        exact bodyPost_ret (v := .tuple #[.agg #[.int .i64 0, .slice none 0 0], .bool false]) (by simp [results, Try.results60, go_sem, RR.cell (i := 0) rfl, RR.cell (i := 1) rfl]) rfl (RetTypB.zero (by (with_reducible repeat' first | exact Below.refl _ _ | assumption | (refine Below.setCell ?_ (by first | omega | (simp; omega) | (simp; done) | (dsimp only; omega)) _) | (refine Below.alloc ?_ (by first | omega | (simp; omega) | (simp; done) | (dsimp only; omega)) _) | (refine below_drewN ?_ _) | (refine Below.drew ?_) | (refine Below.trans ?_ (hb.mono (by first | omega | (simp; omega) | (simp; done) | (dsimp only; omega)))))))
      · have HG : Hid (xs.length = 0 ∨ egoM ⟨s, xs⟩ ≠ 0) := Lib.hid (.inr he)
        have HEG : Hid (0 < xs.length → egoM ⟨s, xs⟩ ≠ 0) := Lib.hid (fun _ => he)
        have nE : (egoM ⟨s, xs⟩ == 0) = false := by simpa using he
        have NE := Lib.hid nE; clear nE he
        go_enter Try.func60, Try.ntmps60
        go_wp2_with fail
        generalize hW : (w.alloc (.cells #[.int .i64 s, .slice A xs.length c] 53)).alloc (.cells #[.int .i64 0, .slice none 0 0] 53) = W
        have R : Blk W (w.heap.size + 1) 53 #[.int .i64 0, .slice none 0 0] := by subst hW; exact Blk.new _ (by simp)
        have a0 : W.cell? ⟨w.heap.size, 0, none⟩ = some (.int .i64 s) := by subst hW; simp [go_sem]
        have a1 : W.cell? ⟨w.heap.size, 1, none⟩ = some (.slice A xs.length c) := by subst hW; simp [go_sem]
        have hb : Below w.heap.size w W := by subst hW; (with_reducible repeat' first | exact Below.refl _ _ | assumption | (refine Below.setCell ?_ (by first | omega | (simp; omega) | (simp; done) | (dsimp only; omega)) _) | (refine Below.alloc ?_ (by first | omega | (simp; omega) | (simp; done) | (dsimp only; omega)) _) | (refine below_drewN ?_ _) | (refine Below.drew ?_))
        have z0 : w.heap.size + 1 + 1 ≤ W.heap.size := by subst hW; simp
        clear hW
        replace h := h.same (Same.of_below hb hh)
        refine (specIsType_any s A c lo hi xs _ h (by first | omega | (simp; omega) | (simp; done) | (dsimp only; omega))).mono ?_
        rintro e w1 ⟨rfl, hb1⟩
        simp only [HO.out]
        replace R := R.below hb1 (by first | omega | (simp; omega) | (simp; done) | (dsimp only; omega))
        (replace a0 := (hb1.cell (by first | omega | (simp; omega) | (simp; done) | (dsimp only; omega))).trans a0; replace a1 := (hb1.cell (by first | omega | (simp; omega) | (simp; done) | (dsimp only; omega))).trans a1; replace h := h.same (Same.of_below hb1 (by first | omega | (simp; omega) | (simp; done) | (dsimp only; omega))); replace hb := hb.trans (hb1.mono (by first | omega | (simp; omega) | (simp; done) | (dsimp only; omega))); replace z0 := Nat.le_trans z0 hb1.size; have zhb1 := hb1.size; clear hb1)
        have lw : w.heap.size < w1.heap.size := by omega
        go_wp2_with fail
        refine (l3Ego_any s A c lo hi xs _ h (by first | omega | (simp; omega) | (simp; done) | (dsimp only; omega))).mono ?_
        rintro e w1b ⟨rfl, hb2⟩
        replace R := R.below hb2 (by first | omega | (simp; omega) | (simp; done) | (dsimp only; omega))
        (replace a0 := (hb2.cell (by first | omega | (simp; omega) | (simp; done) | (dsimp only; omega))).trans a0; replace a1 := (hb2.cell (by first | omega | (simp; omega) | (simp; done) | (dsimp only; omega))).trans a1; replace h := h.same (Same.of_below hb2 (by first | omega | (simp; omega) | (simp; done) | (dsimp only; omega))); replace hb := hb.trans (hb2.mono (by first | omega | (simp; omega) | (simp; done) | (dsimp only; omega))); replace z0 := Nat.le_trans z0 hb2.size; have zhb2 := hb2.size; clear hb2)
        have lwb : w.heap.size < w1b.heap.size := by omega
        have ne := NE.out
        go_wp2_with fail
        clear ne
        refine (l3Last_any s A c lo hi xs _ h (by first | omega | (simp; omega) | (simp; done) | (dsimp only; omega)) HO.out).mono ?_
        rintro e w2 ⟨rfl, hb2⟩
        replace R := R.below hb2 (by first | omega | (simp; omega) | (simp; done) | (dsimp only; omega))
        (replace a0 := (hb2.cell (by first | omega | (simp; omega) | (simp; done) | (dsimp only; omega))).trans a0; replace a1 := (hb2.cell (by first | omega | (simp; omega) | (simp; done) | (dsimp only; omega))).trans a1; replace h := h.same (Same.of_below hb2 (by first | omega | (simp; omega) | (simp; done) | (dsimp only; omega))); replace hb := hb.trans (hb2.mono (by first | omega | (simp; omega) | (simp; done) | (dsimp only; omega))); replace z0 := Nat.le_trans z0 hb2.size; have zhb2 := hb2.size; clear hb2)
        have lw2 : w.heap.size < w2.heap.size := by omega
        have z2k : w.heap.size + 1 + 1 ≤ w2.heap.size := z0
        generalize hsm : sexM ⟨s, xs⟩ = sm
        have HSM := Lib.hid hsm; clear hsm
        go_wp2_with fail
        generalize hW3 : w2.alloc (.cells #[.int .i64 sm, .slice none 0 0] 53) = W3
        have O : Blk W3 w2.heap.size 53 #[.int .i64 sm, .slice none 0 0] := by subst hW3; exact Blk.new _ rfl
        have hb3 : Below w2.heap.size w2 W3 := by subst hW3; (with_reducible repeat' first | exact Below.refl _ _ | assumption | (refine Below.setCell ?_ (by first | omega | (simp; omega) | (simp; done) | (dsimp only; omega)) _) | (refine Below.alloc ?_ (by first | omega | (simp; omega) | (simp; done) | (dsimp only; omega)) _) | (refine below_drewN ?_ _) | (refine Below.drew ?_))
        have z3 : w2.heap.size + 1 ≤ W3.heap.size := by subst hW3; simp
        clear hW3
        replace R := R.below hb3 (by first | omega | (simp; omega) | (simp; done) | (dsimp only; omega))
        (replace a0 := (hb3.cell (by first | omega | (simp; omega) | (simp; done) | (dsimp only; omega))).trans a0; replace a1 := (hb3.cell (by first | omega | (simp; omega) | (simp; done) | (dsimp only; omega))).trans a1; replace h := h.same (Same.of_below hb3 (by first | omega | (simp; omega) | (simp; done) | (dsimp only; omega))); replace hb := hb.trans (hb3.mono (by first | omega | (simp; omega) | (simp; done) | (dsimp only; omega))); replace z0 := Nat.le_trans z0 hb3.size; have zhb3 := hb3.size; clear hb3)
        refine (l3Ego_any s A c lo hi xs _ h (by first | omega | (simp; omega) | (simp; done) | (dsimp only; omega))).mono ?_
        rintro e w3 ⟨rfl, hb4⟩
        replace R := R.below hb4 (by first | omega | (simp; omega) | (simp; done) | (dsimp only; omega)); replace O := O.below hb4 (by first | omega | (simp; omega) | (simp; done) | (dsimp only; omega))
        (replace a0 := (hb4.cell (by first | omega | (simp; omega) | (simp; done) | (dsimp only; omega))).trans a0; replace a1 := (hb4.cell (by first | omega | (simp; omega) | (simp; done) | (dsimp only; omega))).trans a1; replace h := h.same (Same.of_below hb4 (by first | omega | (simp; omega) | (simp; done) | (dsimp only; omega))); replace hb := hb.trans (hb4.mono (by first | omega | (simp; omega) | (simp; done) | (dsimp only; omega))); replace z0 := Nat.le_trans z0 hb4.size; replace z3 := Nat.le_trans z3 hb4.size; have zhb4 := hb4.size; clear hb4)
        have lw3 : w.heap.size < w3.heap.size := by omega
        have HE0 := Lib.hid (show egoM ⟨s, xs⟩ = sexBM ⟨s, xs⟩ 0 by rw [sexBM, if_pos rfl])
        rw [HE0.out]
        have HA := Lib.hid h; clear h
        go_wp2
        go_loopw [5, 6, 33] (fun sx v i wr => RevRel s xs w3 sx v i wr) (fun _ _ i _ => xs.length - (intOf i).toNat)
        case atStart => exact ⟨0, _, _, Nat.zero_le _, rfl, rfl, rfl, Elem.OS.made0 _, by (with_reducible repeat' first | exact Below.refl _ _ | assumption | (refine Below.setCell ?_ (by first | omega | (simp; omega) | (simp; done) | (dsimp only; omega)) _) | (refine Below.alloc ?_ (by first | omega | (simp; omega) | (simp; done) | (dsimp only; omega)) _) | (refine below_drewN ?_ _) | (refine Below.drew ?_))⟩
        case round =>
          obtain ⟨k, A1, c1, hk, rfl, rfl, rfl, ho, hbr⟩ := hrel
          have zr := hbr.size
          by_cases hlt : k < xs.length
          · obtain ⟨b, off, ⟨x, y⟩, rfl, _, hbh, _, hxk, hc1, hc2⟩ := AStep.at_ (HA.out.same (Same.of_below hbr (by first | omega | (simp; omega) | (simp; done) | (dsimp only; omega)))) hlt
            have hl8 := typeOk_len HO.out
            simp only at hl8
            have hK := typeOk_at HO.out hxk
            have hY := typeOk_age HO.out hxk
            have hS := sexBM_in HO.out (HEG.out (by omega)) k
            simp only at hK hY hc1 hc2
            have HZ := Lib.hid (show [backM ⟨x, y⟩ (sexBM ⟨s, xs⟩ k)] ++ revL s xs k = revL s xs (k + 1) by rw [revL_succ, bk_at hxk])
            have HSB := Lib.hid (sexBM_succ (t := ⟨s, xs⟩) hxk)
            have HL := Lib.hid (show 1 + (revL s xs k).length ≤ 1048576 by rw [revL_len]; omega)
            clear hxk
            have lb : b < wr.heap.size := by omega
            have HK := Lib.hid hK; clear hK
            generalize hsx : sexBM ⟨s, xs⟩ k = sx at hS HZ
            clear hsx
            generalize hbm : backM ⟨x, y⟩ sx = bm at HZ
            have HBM := Lib.hid hbm; clear hbm
            have HS := Lib.hid hS; have HY := Lib.hid hY; clear hS hY
            go_wp2_with fail
            generalize hW5 : wr.alloc (.cells #[.int .i64 x, .int .i64 y] 93) = W5
            have t0 : W5.cell? ⟨wr.heap.size, 0, none⟩ = some (.int .i64 x) := by subst hW5; simp [go_sem]
            have hb5 : Below wr.heap.size wr W5 := by subst hW5; (with_reducible repeat' first | exact Below.refl _ _ | assumption | (refine Below.setCell ?_ (by first | omega | (simp; omega) | (simp; done) | (dsimp only; omega)) _) | (refine Below.alloc ?_ (by first | omega | (simp; omega) | (simp; done) | (dsimp only; omega)) _) | (refine below_drewN ?_ _) | (refine Below.drew ?_))
            have z5 : wr.heap.size + 1 ≤ W5.heap.size := by subst hW5; simp
            clear hW5
            refine (l3Back_any x y sx W5 HK.out HY.out HS.out).mono ?_
            rintro e w6 ⟨rfl, hb6⟩
            rw [HBM.out]
            replace t0 := (hb6.cell (p := ⟨wr.heap.size, 0, none⟩) (by first | omega | (simp; omega) | (simp; done) | (dsimp only; omega))).trans t0
            have z6 := hb6.size
            have hb7 : Below w3.heap.size w3 w6 := by (with_reducible repeat' first | exact Below.refl _ _ | assumption | (refine Below.setCell ?_ (by first | omega | (simp; omega) | (simp; done) | (dsimp only; omega)) _) | (refine Below.alloc ?_ (by first | omega | (simp; omega) | (simp; done) | (dsimp only; omega)) _) | (refine below_drewN ?_ _) | (refine Below.drew ?_) | (refine Below.trans ?_ (hb6.mono (by first | omega | (simp; omega) | (simp; done) | (dsimp only; omega)))) | (refine Below.trans ?_ (hb5.mono (by first | omega | (simp; omega) | (simp; done) | (dsimp only; omega)))) | (refine Below.trans ?_ (hbr.mono (by first | omega | (simp; omega) | (simp; done) | (dsimp only; omega)))))
            have ho6 := ho.same (Same.of_below hb5 (Nat.le_refl _))
            replace ho6 := ho6.same (Same.of_below hb6 (by first | omega | (simp; omega) | (simp; done) | (dsimp only; omega)))
            go_wp2_with (first
              | (at_builtin; refine wpList_appN flatStep tyStepS (some ⟨w6.heap.size, 0, none⟩) [bm] c1 (one_step w6 bm) rfl (ho6.read.as.same (by (with_reducible repeat' first | exact Same.refl _ _ _ | assumption | (refine Same.setCell ?_ (by first | omega | (simp; omega) | (simp; done) | (dsimp only; omega)) _) | (refine Same.alloc ?_ (by first | omega | (simp; omega) | (simp; done) | (dsimp only; omega)) _) | (refine Same.drewN ?_ _) | (refine Same.drew ?_)))) _ _ rfl rfl rfl rfl HL.out (by decide) (by simp) ?_; intro A7 c7 w7 o7 hg7; rw [HZ.out] at o7 ⊢; (have t1 := grown_cell hg7 t0 (by simp [Value.ownBlock]; omega)); (have hb8 : Below w3.heap.size w3 w7 := Below.grown (w := w6.alloc _) (by (with_reducible repeat' first | exact Below.refl _ _ | assumption | (refine Below.setCell ?_ (by first | omega | (simp; omega) | (simp; done) | (dsimp only; omega)) _) | (refine Below.alloc ?_ (by first | omega | (simp; omega) | (simp; done) | (dsimp only; omega)) _) | (refine below_drewN ?_ _) | (refine Below.drew ?_) | (refine Below.trans ?_ (hb7.mono (by first | omega | (simp; omega) | (simp; done) | (dsimp only; omega)))))) hg7 (by simp; omega) (fun j hj => by simp [Value.ownBlock] at hj; omega)); (have z7 := hb8.size); clear t0)
              | (go_at_call 112; (with_reducible refine (l3Sex_any x _ HK.out.1 HK.out.2).mono ?_); rintro e w8 ⟨rfl, rfl⟩))
            exact ⟨⟨k + 1, A7, c7, by omega, by go_num, by rw [HSB.out], rfl, o7.mono (by first | omega | (simp; omega) | (simp; done) | (dsimp only; omega)) (Nat.le_refl _), hb8⟩, by simp [intOf]; omega⟩
          · obtain rfl : k = xs.length := by omega
            replace R := R.below hbr (by first | omega | (simp; omega) | (simp; done) | (dsimp only; omega)); replace O := O.below hbr (by first | omega | (simp; omega) | (simp; done) | (dsimp only; omega))
            have e0 := O.cell (i := 0) rfl; have e1 := O.cell (i := 1) rfl; have fo := O.free 1
            have f0 := R.free 0; have f1 := R.free 1; have q0 := R.cell (i := 0) rfl; have q1 := R.cell (i := 1) rfl
            have hne : w.heap.size + 1 ≠ w2.heap.size := by omega
            go_wp2_with fail
            have RR := ((R.far (p := ⟨w2.heap.size, 1, none⟩) hne (.slice A1 (revL s xs xs.length).length c1)).set 0 (.int .i64 sm)).set 1 (.slice A1 (revL s xs xs.length).length c1)
            refine bodyPost_ret (v := .tuple #[.agg #[.int .i64 sm, .slice A1 (revL s xs xs.length).length c1], .bool true]) (by simp [results, Try.results60, go_sem, RR.cell (i := 0) rfl, RR.cell (i := 1) rfl]) rfl ?_
            rw [revT_good HO.out HG.out, HSM.out]
            exact ⟨A1, c1, rfl, (ho.same (by (with_reducible repeat' first | exact Same.refl _ _ _ | assumption | (refine Same.setCell ?_ (by first | omega | (simp; omega) | (simp; done) | (dsimp only; omega)) _) | (refine Same.alloc ?_ (by first | omega | (simp; omega) | (simp; done) | (dsimp only; omega)) _) | (refine Same.drewN ?_ _) | (refine Same.drew ?_)))).mono (by first | omega | (simp; omega) | (simp; done) | (dsimp only; omega)) (by first | omega | (simp; omega) | (simp; done) | (dsimp only; omega)), by (with_reducible repeat' first | exact Below.refl _ _ | assumption | (refine Below.setCell ?_ (by first | omega | (simp; omega) | (simp; done) | (dsimp only; omega)) _) | (refine Below.alloc ?_ (by first | omega | (simp; omega) | (simp; done) | (dsimp only; omega)) _) | (refine below_drewN ?_ _) | (refine Below.drew ?_) | (refine Below.trans ?_ (hbr.mono (by first | omega | (simp; omega) | (simp; done) | (dsimp only; omega)))) | (refine Below.trans ?_ (hb.mono (by first | omega | (simp; omega) | (simp; done) | (dsimp only; omega)))))⟩
end Go.Proofs.Ytmgfpcchlonknaa
