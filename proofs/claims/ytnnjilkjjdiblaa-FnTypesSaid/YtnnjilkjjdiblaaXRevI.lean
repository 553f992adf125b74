/-
  Kin types that lead back, in the program.
-/
import Derived.Test.YtnnjilkjjdiblaaXGRev
import Derived.Test.YtnnjilkjjdiblaaAppN
import Derived.Test.YtnnjilkjjdiblaaTyp2
import Derived.Deep.RegionHeld3
namespace Go.Proofs.Ytnnjilkjjdiblaa
set_option maxRecDepth 100000
open Go.RowKit

/-- What is known at the head of the loop of the program. -/
def RevI (s : Int) (xs : List Step) (sm : Int) (b4 : Nat) (A : Option Addr) (c : Nat) (w : World) (i : Value) (wr : World) : Prop :=
  ∃ (m : Nat) (A1 : Option Addr) (c1 : Nat), m ≤ xs.length ∧ i = .int .i64 ((m : Int) - 1) ∧ Below w.heap.size w wr ∧ wr.cell? ⟨w.heap.size, 0, none⟩ = some (.int .i64 s) ∧ wr.cell? ⟨w.heap.size, 1, none⟩ = some (.slice A xs.length c) ∧
    Blk wr (w.heap.size + 1) 30 #[.int .i64 0, .slice none 0 0] ∧ Blk wr b4 30 #[.int .i64 sm, .slice A1 (downL s xs xs.length m).length c1] ∧ EStep.OS wr (b4 + 1) wr.heap.size (.slice A1 (downL s xs xs.length m).length c1) (downL s xs xs.length m)

set_option maxHeartbeats 8000000 in
theorem implReverseType_any (s : Int) (A : Option Addr) (c lo hi : Nat) (xs : List Step) (w : World) (h : EStep.AS w lo hi A xs) (hh : hi ≤ w.heap.size) :
    Calls Try.prog 21 #[.agg #[.int .i64 s, .slice A xs.length c]] w (RetTypB w (revT ⟨s, xs⟩)) := by
  have hx := h.le
  unfold BIG at hx
  have HAA := Lib.hid h
  cases hok : typeOk ⟨s, xs⟩ with
  | false =>
    rw [revT_bad hok]
    have HO := Lib.hid hok; clear hok
    go_enter Try.func21, Try.ntmps21
    go_wp2_with fail
    generalize hW : (w.alloc (.cells #[.int .i64 s, .slice A xs.length c] 30)).alloc (.cells #[.int .i64 0, .slice none 0 0] 30) = W
    have R : Blk W (w.heap.size + 1) 30 #[.int .i64 0, .slice none 0 0] := by subst hW; exact Blk.new _ (by simp)
    have a0 : W.cell? ⟨w.heap.size, 0, none⟩ = some (.int .i64 s) := by subst hW; simp [go_sem]
    have a1 : W.cell? ⟨w.heap.size, 1, none⟩ = some (.slice A xs.length c) := by subst hW; simp [go_sem]
    have hb : Below w.heap.size w W := by subst hW; (with_reducible repeat' first | exact Below.refl _ _ | assumption | (refine Below.setCell ?_ (by first | omega | (simp; omega) | (simp; done) | (dsimp only; omega)) _) | (refine Below.alloc ?_ (by first | omega | (simp; omega) | (simp; done) | (dsimp only; omega)) _) | (refine below_drewN ?_ _) | (refine Below.drew ?_))
    have z0 : w.heap.size + 1 + 1 ≤ W.heap.size := by subst hW; simp
    clear hW
    replace h := h.same (Same.of_below hb hh)
    refine (implIsType_any s A c lo hi xs _ h (by first | omega | (simp; omega) | (simp; done) | (dsimp only; omega))).mono ?_
    rintro e w1 ⟨rfl, hb1⟩
    simp only [HO.out]
    replace R := R.below hb1 (by first | omega | (simp; omega) | (simp; done) | (dsimp only; omega))
    (replace a0 := (hb1.cell (by first | omega | (simp; omega) | (simp; done) | (dsimp only; omega))).trans a0; replace a1 := (hb1.cell (by first | omega | (simp; omega) | (simp; done) | (dsimp only; omega))).trans a1; replace h := h.same (Same.of_below hb1 (by first | omega | (simp; omega) | (simp; done) | (dsimp only; omega))); replace hb := hb.trans (hb1.mono (by first | omega | (simp; omega) | (simp; done) | (dsimp only; omega))); replace z0 := Nat.le_trans z0 hb1.size; have zhb1 := hb1.size; clear hb1)
    have lw : w.heap.size < w1.heap.size := by omega
    have f0 := R.free 0; have f1 := R.free 1; have q0 := R.cell (i := 0) rfl; have q1 := R.cell (i := 1) rfl
    go_wp2_with fail
    have RR := (R.set 0 (.int .i64 0)).set 1 (.slice none 0 0)
    exact bodyPost_ret (v := .tuple #[.agg #[.int .i64 0, .slice none 0 0], .bool false]) (by simp [results, Try.results21, go_sem, RR.cell (i := 0) rfl, RR.cell (i := 1) rfl]) rfl (RetTypB.zero (by (with_reducible repeat' first | exact Below.refl _ _ | assumption | (refine Below.setCell ?_ (by first | omega | (simp; omega) | (simp; done) | (dsimp only; omega)) _) | (refine Below.alloc ?_ (by first | omega | (simp; omega) | (simp; done) | (dsimp only; omega)) _) | (refine below_drewN ?_ _) | (refine Below.drew ?_) | (refine Below.trans ?_ (hb.mono (by first | omega | (simp; omega) | (simp; done) | (dsimp only; omega)))))))
  | true =>
    have HO := Lib.hid hok; clear hok
    by_cases h0 : xs.length = 0
    · have HG : Hid (xs.length = 0 ∨ egoM ⟨s, xs⟩ ≠ 0) := Lib.hid (.inl h0)
      have n0 : ¬ 0 < xs.length := by omega
      clear h0
      go_enter Try.func21, Try.ntmps21
      go_wp2_with fail
      generalize hW : (w.alloc (.cells #[.int .i64 s, .slice A xs.length c] 30)).alloc (.cells #[.int .i64 0, .slice none 0 0] 30) = W
      have R : Blk W (w.heap.size + 1) 30 #[.int .i64 0, .slice none 0 0] := by subst hW; exact Blk.new _ (by simp)
      have a0 : W.cell? ⟨w.heap.size, 0, none⟩ = some (.int .i64 s) := by subst hW; simp [go_sem]
      have a1 : W.cell? ⟨w.heap.size, 1, none⟩ = some (.slice A xs.length c) := by subst hW; simp [go_sem]
      have hb : Below w.heap.size w W := by subst hW; (with_reducible repeat' first | exact Below.refl _ _ | assumption | (refine Below.setCell ?_ (by first | omega | (simp; omega) | (simp; done) | (dsimp only; omega)) _) | (refine Below.alloc ?_ (by first | omega | (simp; omega) | (simp; done) | (dsimp only; omega)) _) | (refine below_drewN ?_ _) | (refine Below.drew ?_))
      have z0 : w.heap.size + 1 + 1 ≤ W.heap.size := by subst hW; simp
      clear hW
      replace h := h.same (Same.of_below hb hh)
      refine (implIsType_any s A c lo hi xs _ h (by first | omega | (simp; omega) | (simp; done) | (dsimp only; omega))).mono ?_
      rintro e w1 ⟨rfl, hb1⟩
      simp only [HO.out]
      replace R := R.below hb1 (by first | omega | (simp; omega) | (simp; done) | (dsimp only; omega))
      (replace a0 := (hb1.cell (by first | omega | (simp; omega) | (simp; done) | (dsimp only; omega))).trans a0; replace a1 := (hb1.cell (by first | omega | (simp; omega) | (simp; done) | (dsimp only; omega))).trans a1; replace h := h.same (Same.of_below hb1 (by first | omega | (simp; omega) | (simp; done) | (dsimp only; omega))); replace hb := hb.trans (hb1.mono (by first | omega | (simp; omega) | (simp; done) | (dsimp only; omega))); replace z0 := Nat.le_trans z0 hb1.size; have zhb1 := hb1.size; clear hb1)
      have lw : w.heap.size < w1.heap.size := by omega
      go_wp2_with fail
      refine (sexOf_any s A c lo hi xs _ h (by first | omega | (simp; omega) | (simp; done) | (dsimp only; omega)) HO.out).mono ?_
      rintro e w2 ⟨rfl, hb2⟩
      replace R := R.below hb2 (by first | omega | (simp; omega) | (simp; done) | (dsimp only; omega))
      (replace a0 := (hb2.cell (by first | omega | (simp; omega) | (simp; done) | (dsimp only; omega))).trans a0; replace a1 := (hb2.cell (by first | omega | (simp; omega) | (simp; done) | (dsimp only; omega))).trans a1; replace h := h.same (Same.of_below hb2 (by first | omega | (simp; omega) | (simp; done) | (dsimp only; omega))); replace hb := hb.trans (hb2.mono (by first | omega | (simp; omega) | (simp; done) | (dsimp only; omega))); replace z0 := Nat.le_trans z0 hb2.size; have zhb2 := hb2.size; clear hb2)
      have lw2 : w.heap.size < w2.heap.size := by omega
      have z2k : w.heap.size + 1 + 1 ≤ w2.heap.size := z0
      generalize hsm : sexM ⟨s, xs⟩ = sm
      have HSM := Lib.hid hsm; clear hsm
      go_wp2
      generalize hW3 : w2.alloc (.cells #[.int .i64 sm, .slice none 0 0] 30) = W3
      have O : Blk W3 w2.heap.size 30 #[.int .i64 sm, .slice none 0 0] := by subst hW3; exact Blk.new _ rfl
      have hb3 : Below w2.heap.size w2 W3 := by subst hW3; (with_reducible repeat' first | exact Below.refl _ _ | assumption | (refine Below.setCell ?_ (by first | omega | (simp; omega) | (simp; done) | (dsimp only; omega)) _) | (refine Below.alloc ?_ (by first | omega | (simp; omega) | (simp; done) | (dsimp only; omega)) _) | (refine below_drewN ?_ _) | (refine Below.drew ?_))
      have z3 : w2.heap.size + 1 ≤ W3.heap.size := by subst hW3; simp
      clear hW3
      replace R := R.below hb3 (by first | omega | (simp; omega) | (simp; done) | (dsimp only; omega))
      (replace a0 := (hb3.cell (by first | omega | (simp; omega) | (simp; done) | (dsimp only; omega))).trans a0; replace a1 := (hb3.cell (by first | omega | (simp; omega) | (simp; done) | (dsimp only; omega))).trans a1; replace h := h.same (Same.of_below hb3 (by first | omega | (simp; omega) | (simp; done) | (dsimp only; omega))); replace hb := hb.trans (hb3.mono (by first | omega | (simp; omega) | (simp; done) | (dsimp only; omega))); replace z0 := Nat.le_trans z0 hb3.size; have zhb3 := hb3.size; clear hb3)
      have HA := HAA; clear h
      obtain ⟨b4, hb4e⟩ : ∃ b4, b4 = w2.heap.size := ⟨_, rfl⟩
      rw [← hb4e] at O lw2 z2k z3 ⊢
      clear hb4e
      go_loopw [5] (fun i wr => RevI s xs sm b4 A c w i wr) (fun i _ => (intOf i + 1).toNat)
      case atStart => exact ⟨xs.length, none, 0, Nat.le_refl _, rfl, hb, a0, a1, R, by rw [downL_start]; exact O, by rw [downL_start]; exact Elem.OS.nil⟩
      case round =>
        clear a0 a1 R O hb
        obtain ⟨m, A1, c1, hm, rfl, hb, a0, a1, R, O, ho⟩ := hrel
        have zr := hb.size
        have hlo := O.lt
        have h := HA.out.same (Same.of_below (w := w) (w' := wr) hb hh)
        cases m with
        | succ j => exfalso; omega
        | zero =>
          have e0 := O.cell (i := 0) rfl; have e1 := O.cell (i := 1) rfl
          have f0 := R.free 0; have f1 := R.free 1; have q0 := R.cell (i := 0) rfl; have q1 := R.cell (i := 1) rfl
          rw [downL_end] at e1 ho O
          go_wp2_with fail
          have RR := (R.set 0 (.int .i64 sm)).set 1 (.slice A1 (revL s xs xs.length).length c1)
          refine bodyPost_ret (v := .tuple #[.agg #[.int .i64 sm, .slice A1 (revL s xs xs.length).length c1], .bool true]) (by simp [results, Try.results21, go_sem, RR.cell (i := 0) rfl, RR.cell (i := 1) rfl]) rfl ?_
          rw [revT_good HO.out HG.out, HSM.out]
          exact ⟨A1, c1, rfl, (ho.same (by (with_reducible repeat' first | exact Same.refl _ _ _ | assumption | (refine Same.setCell ?_ (by first | omega | (simp; omega) | (simp; done) | (dsimp only; omega)) _) | (refine Same.alloc ?_ (by first | omega | (simp; omega) | (simp; done) | (dsimp only; omega)) _) | (refine Same.drewN ?_ _) | (refine Same.drew ?_)))).mono (by first | omega | (simp; omega) | (simp; done) | (dsimp only; omega)) (by first | omega | (simp; omega) | (simp; done) | (dsimp only; omega)), by (with_reducible repeat' first | exact Below.refl _ _ | assumption | (refine Below.setCell ?_ (by first | omega | (simp; omega) | (simp; done) | (dsimp only; omega)) _) | (refine Below.alloc ?_ (by first | omega | (simp; omega) | (simp; done) | (dsimp only; omega)) _) | (refine below_drewN ?_ _) | (refine Below.drew ?_) | (refine Below.trans ?_ (hb.mono (by first | omega | (simp; omega) | (simp; done) | (dsimp only; omega)))))⟩
    · have n0 : 0 < xs.length := by omega
      have H0 := Lib.hid h0; clear h0
      by_cases he : egoM ⟨s, xs⟩ = 0
      · rw [revT_ego H0.out he]
        have HE := Lib.hid he; clear he
        go_enter Try.func21, Try.ntmps21
        go_wp2_with fail
        generalize hW : (w.alloc (.cells #[.int .i64 s, .slice A xs.length c] 30)).alloc (.cells #[.int .i64 0, .slice none 0 0] 30) = W
        have R : Blk W (w.heap.size + 1) 30 #[.int .i64 0, .slice none 0 0] := by subst hW; exact Blk.new _ (by simp)
        have a0 : W.cell? ⟨w.heap.size, 0, none⟩ = some (.int .i64 s) := by subst hW; simp [go_sem]
        have a1 : W.cell? ⟨w.heap.size, 1, none⟩ = some (.slice A xs.length c) := by subst hW; simp [go_sem]
        have hb : Below w.heap.size w W := by subst hW; (with_reducible repeat' first | exact Below.refl _ _ | assumption | (refine Below.setCell ?_ (by first | omega | (simp; omega) | (simp; done) | (dsimp only; omega)) _) | (refine Below.alloc ?_ (by first | omega | (simp; omega) | (simp; done) | (dsimp only; omega)) _) | (refine below_drewN ?_ _) | (refine Below.drew ?_))
        have z0 : w.heap.size + 1 + 1 ≤ W.heap.size := by subst hW; simp
        clear hW
        replace h := h.same (Same.of_below hb hh)
        refine (implIsType_any s A c lo hi xs _ h (by first | omega | (simp; omega) | (simp; done) | (dsimp only; omega))).mono ?_
        rintro e w1 ⟨rfl, hb1⟩
        simp only [HO.out]
        replace R := R.below hb1 (by first | omega | (simp; omega) | (simp; done) | (dsimp only; omega))
        (replace a0 := (hb1.cell (by first | omega | (simp; omega) | (simp; done) | (dsimp only; omega))).trans a0; replace a1 := (hb1.cell (by first | omega | (simp; omega) | (simp; done) | (dsimp only; omega))).trans a1; replace h := h.same (Same.of_below hb1 (by first | omega | (simp; omega) | (simp; done) | (dsimp only; omega))); replace hb := hb.trans (hb1.mono (by first | omega | (simp; omega) | (simp; done) | (dsimp only; omega))); replace z0 := Nat.le_trans z0 hb1.size; have zhb1 := hb1.size; clear hb1)
        have lw : w.heap.size < w1.heap.size := by omega
        go_wp2_with fail
        refine (egoOf_any s A c lo hi xs _ h (by first | omega | (simp; omega) | (simp; done) | (dsimp only; omega))).mono ?_
        rintro e w2 ⟨rfl, hb2⟩
        rw [HE.out]
        replace R := R.below hb2 (by first | omega | (simp; omega) | (simp; done) | (dsimp only; omega))
        (replace a0 := (hb2.cell (by first | omega | (simp; omega) | (simp; done) | (dsimp only; omega))).trans a0; replace a1 := (hb2.cell (by first | omega | (simp; omega) | (simp; done) | (dsimp only; omega))).trans a1; replace h := h.same (Same.of_below hb2 (by first | omega | (simp; omega) | (simp; done) | (dsimp only; omega))); replace hb := hb.trans (hb2.mono (by first | omega | (simp; omega) | (simp; done) | (dsimp only; omega))); replace z0 := Nat.le_trans z0 hb2.size; have zhb2 := hb2.size; clear hb2)
        have f0 := R.free 0; have f1 := R.free 1; have q0 := R.cell (i := 0) rfl; have q1 := R.cell (i := 1) rfl
        go_wp2_with fail
        have RR := (R.set 0 (.int .i64 0)).set 1 (.slice none 0 0)
        exact bodyPost_ret (v := .tuple #[.agg #[.int .i64 0, .slice none 0 0], .bool false]) (by simp [results, Try.results21, go_sem, RR.cell (i := 0) rfl, RR.cell (i := 1) rfl]) rfl (RetTypB.zero (by (with_reducible repeat' first | exact Below.refl _ _ | assumption | (refine Below.setCell ?_ (by first | omega | (simp; omega) | (simp; done) | (dsimp only; omega)) _) | (refine Below.alloc ?_ (by first | omega | (simp; omega) | (simp; done) | (dsimp only; omega)) _) | (refine below_drewN ?_ _) | (refine Below.drew ?_) | (refine Below.trans ?_ (hb.mono (by first | omega | (simp; omega) | (simp; done) | (dsimp only; omega)))))))
      · have HG : Hid (xs.length = 0 ∨ egoM ⟨s, xs⟩ ≠ 0) := Lib.hid (.inr he)
        have HEG : Hid (0 < xs.length → egoM ⟨s, xs⟩ ≠ 0) := Lib.hid (fun _ => he)
        have nE : (egoM ⟨s, xs⟩ == 0) = false := by simpa using he
        have NE := Lib.hid nE; clear nE he
        go_enter Try.func21, Try.ntmps21
        go_wp2_with fail
        generalize hW : (w.alloc (.cells #[.int .i64 s, .slice A xs.length c] 30)).alloc (.cells #[.int .i64 0, .slice none 0 0] 30) = W
        have R : Blk W (w.heap.size + 1) 30 #[.int .i64 0, .slice none 0 0] := by subst hW; exact Blk.new _ (by simp)
        have a0 : W.cell? ⟨w.heap.size, 0, none⟩ = some (.int .i64 s) := by subst hW; simp [go_sem]
        have a1 : W.cell? ⟨w.heap.size, 1, none⟩ = some (.slice A xs.length c) := by subst hW; simp [go_sem]
        have hb : Below w.heap.size w W := by subst hW; (with_reducible repeat' first | exact Below.refl _ _ | assumption | (refine Below.setCell ?_ (by first | omega | (simp; omega) | (simp; done) | (dsimp only; omega)) _) | (refine Below.alloc ?_ (by first | omega | (simp; omega) | (simp; done) | (dsimp only; omega)) _) | (refine below_drewN ?_ _) | (refine Below.drew ?_))
        have z0 : w.heap.size + 1 + 1 ≤ W.heap.size := by subst hW; simp
        clear hW
        replace h := h.same (Same.of_below hb hh)
        refine (implIsType_any s A c lo hi xs _ h (by first | omega | (simp; omega) | (simp; done) | (dsimp only; omega))).mono ?_
        rintro e w1 ⟨rfl, hb1⟩
        simp only [HO.out]
        replace R := R.below hb1 (by first | omega | (simp; omega) | (simp; done) | (dsimp only; omega))
        (replace a0 := (hb1.cell (by first | omega | (simp; omega) | (simp; done) | (dsimp only; omega))).trans a0; replace a1 := (hb1.cell (by first | omega | (simp; omega) | (simp; done) | (dsimp only; omega))).trans a1; replace h := h.same (Same.of_below hb1 (by first | omega | (simp; omega) | (simp; done) | (dsimp only; omega))); replace hb := hb.trans (hb1.mono (by first | omega | (simp; omega) | (simp; done) | (dsimp only; omega))); replace z0 := Nat.le_trans z0 hb1.size; have zhb1 := hb1.size; clear hb1)
        have lw : w.heap.size < w1.heap.size := by omega
        go_wp2_with fail
        refine (egoOf_any s A c lo hi xs _ h (by first | omega | (simp; omega) | (simp; done) | (dsimp only; omega))).mono ?_
        rintro e w1b ⟨rfl, hb2⟩
        replace R := R.below hb2 (by first | omega | (simp; omega) | (simp; done) | (dsimp only; omega))
        (replace a0 := (hb2.cell (by first | omega | (simp; omega) | (simp; done) | (dsimp only; omega))).trans a0; replace a1 := (hb2.cell (by first | omega | (simp; omega) | (simp; done) | (dsimp only; omega))).trans a1; replace h := h.same (Same.of_below hb2 (by first | omega | (simp; omega) | (simp; done) | (dsimp only; omega))); replace hb := hb.trans (hb2.mono (by first | omega | (simp; omega) | (simp; done) | (dsimp only; omega))); replace z0 := Nat.le_trans z0 hb2.size; have zhb2 := hb2.size; clear hb2)
        have lwb : w.heap.size < w1b.heap.size := by omega
        have ne := NE.out
        go_wp2_with fail
        clear ne
        refine (sexOf_any s A c lo hi xs _ h (by first | omega | (simp; omega) | (simp; done) | (dsimp only; omega)) HO.out).mono ?_
        rintro e w2 ⟨rfl, hb2⟩
        replace R := R.below hb2 (by first | omega | (simp; omega) | (simp; done) | (dsimp only; omega))
        (replace a0 := (hb2.cell (by first | omega | (simp; omega) | (simp; done) | (dsimp only; omega))).trans a0; replace a1 := (hb2.cell (by first | omega | (simp; omega) | (simp; done) | (dsimp only; omega))).trans a1; replace h := h.same (Same.of_below hb2 (by first | omega | (simp; omega) | (simp; done) | (dsimp only; omega))); replace hb := hb.trans (hb2.mono (by first | omega | (simp; omega) | (simp; done) | (dsimp only; omega))); replace z0 := Nat.le_trans z0 hb2.size; have zhb2 := hb2.size; clear hb2)
        have lw2 : w.heap.size < w2.heap.size := by omega
        have z2k : w.heap.size + 1 + 1 ≤ w2.heap.size := z0
        generalize hsm : sexM ⟨s, xs⟩ = sm
        have HSM := Lib.hid hsm; clear hsm
        go_wp2
        generalize hW3 : w2.alloc (.cells #[.int .i64 sm, .slice none 0 0] 30) = W3
        have O : Blk W3 w2.heap.size 30 #[.int .i64 sm, .slice none 0 0] := by subst hW3; exact Blk.new _ rfl
        have hb3 : Below w2.heap.size w2 W3 := by subst hW3; (with_reducible repeat' first | exact Below.refl _ _ | assumption | (refine Below.setCell ?_ (by first | omega | (simp; omega) | (simp; done) | (dsimp only; omega)) _) | (refine Below.alloc ?_ (by first | omega | (simp; omega) | (simp; done) | (dsimp only; omega)) _) | (refine below_drewN ?_ _) | (refine Below.drew ?_))
        have z3 : w2.heap.size + 1 ≤ W3.heap.size := by subst hW3; simp
        clear hW3
        replace R := R.below hb3 (by first | omega | (simp; omega) | (simp; done) | (dsimp only; omega))
        (replace a0 := (hb3.cell (by first | omega | (simp; omega) | (simp; done) | (dsimp only; omega))).trans a0; replace a1 := (hb3.cell (by first | omega | (simp; omega) | (simp; done) | (dsimp only; omega))).trans a1; replace h := h.same (Same.of_below hb3 (by first | omega | (simp; omega) | (simp; done) | (dsimp only; omega))); replace hb := hb.trans (hb3.mono (by first | omega | (simp; omega) | (simp; done) | (dsimp only; omega))); replace z0 := Nat.le_trans z0 hb3.size; have zhb3 := hb3.size; clear hb3)
        have HA := HAA; clear h
        obtain ⟨b4, hb4e⟩ : ∃ b4, b4 = w2.heap.size := ⟨_, rfl⟩
        rw [← hb4e] at O lw2 z2k z3 ⊢
        clear hb4e
        go_loopw [5] (fun i wr => RevI s xs sm b4 A c w i wr) (fun i _ => (intOf i + 1).toNat)
        case atStart => exact ⟨xs.length, none, 0, Nat.le_refl _, rfl, hb, a0, a1, R, by rw [downL_start]; exact O, by rw [downL_start]; exact Elem.OS.nil⟩
        case round =>
          clear a0 a1 R O hb
          obtain ⟨m, A1, c1, hm, rfl, hb, a0, a1, R, O, ho⟩ := hrel
          have zr := hb.size
          have hlo := O.lt
          have h := HA.out.same (Same.of_below (w := w) (w' := wr) hb hh)
          cases m with
          | succ j =>
            obtain ⟨b, off, ⟨x, y⟩, rfl, _, hbh, _, hxk, s0, s1⟩ := AStep.at_ h (show j < xs.length by omega)
            rw [show (((j + 1 : Nat) : Int) - 1) = (j : Int) from by omega]
            have hl8 := typeOk_len HO.out
            simp only at hl8
            have hK := typeOk_at HO.out hxk
            have hY := typeOk_age HO.out hxk
            have hS := sexBM_in HO.out (HEG.out (by omega)) j
            simp only at hK hY s0 s1
            have HZ := Lib.hid (show downL s xs xs.length (j + 1) ++ [backM ⟨x, y⟩ (sexBM ⟨s, xs⟩ j)] = downL s xs xs.length j by rw [downL_succ s xs (show j < xs.length by omega), bk_at hxk])
            have HL := Lib.hid (show (downL s xs xs.length (j + 1)).length + 1 ≤ 1048576 by rw [downL_len]; omega)
            clear hxk
            have lb : b < wr.heap.size := by omega
            have HK := Lib.hid hK; clear hK
            generalize hsx : sexBM ⟨s, xs⟩ j = sx at hS HZ
            have HSX := Lib.hid hsx; clear hsx
            generalize hbm : backM ⟨x, y⟩ sx = bm at HZ
            have HBM := Lib.hid hbm; clear hbm
            have HS := Lib.hid hS; have HY := Lib.hid hY; clear hS hY
            have d1 := O.cell (i := 1) rfl
            have lwr : w.heap.size < wr.heap.size := by omega
            have hdw : hi ≤ wr.drew.heap.size := show hi ≤ wr.heap.size by omega
            have i1 : (0 : Int) ≤ (j : Int) ∧ (j : Int) < (xs.length : Int) := by omega
            go_wp2
            refine wp_region_held_drew (S := fun w' => w'.cell? ⟨w.heap.size, 0, none⟩ = some (.int .i64 s) ∧ w'.cell? ⟨w.heap.size, 1, none⟩ = some (.slice (some ⟨b, off, none⟩) xs.length c) ∧ w'.cell? ⟨b, off + j * 2, none⟩ = some (.int .i64 x) ∧ w'.cell? ⟨b, off + j * 2 + 1, none⟩ = some (.int .i64 y)) (by kernel_rfl) ⟨a0, a1, s0, s1⟩ (fun hHeld => ?_)
            refine wpAnyH_take (i := 0) (oi := { dst := some 32, op := _, type := _, pos := _, after := _, guard := _ }) (v := ?_) rfl (by kernel_rfl) (by kernel_rfl) (by kernel_rfl) (fun _ _ _ h => h) (Or.inl ⟨by rfl, ?_⟩) (by assumption) ?_; rotate_left; (intro w hSw; (try dsimp only at hSw); go_simp); (try with_reducible rfl); (try simp only [Act.put, List.setIfInBounds_toArray, List.set_cons_zero, List.set_cons_succ])
            refine wpAnyH_take (i := 2) (oi := { dst := some 34, op := _, type := _, pos := _, after := _, guard := _ }) (v := ?_) rfl (by kernel_rfl) (by kernel_rfl) (by kernel_rfl) (fun _ _ _ h => h) (Or.inl ⟨by rfl, ?_⟩) (by assumption) ?_; rotate_left; (intro w hSw; (try dsimp only at hSw); go_simp); (try with_reducible rfl); (try simp only [Act.put, List.setIfInBounds_toArray, List.set_cons_zero, List.set_cons_succ])
            refine wpAnyH_take (i := 3) (oi := { dst := some 35, op := _, type := _, pos := _, after := _, guard := _ }) (v := ?_) rfl (by kernel_rfl) (by kernel_rfl) (by kernel_rfl) (fun _ _ _ h => h) (Or.inl ⟨by rfl, ?_⟩) (by assumption) ?_; rotate_left; (intro w hSw; (try dsimp only at hSw); go_simp); (try with_reducible rfl); (try simp only [Act.put, List.setIfInBounds_toArray, List.set_cons_zero, List.set_cons_succ])
            refine wpAnyH_take (i := 4) (oi := { dst := some 36, op := _, type := _, pos := _, after := _, guard := _ }) (v := ?_) rfl (by kernel_rfl) (by kernel_rfl) (by kernel_rfl) (fun _ _ _ h => h) (Or.inl ⟨by rfl, ?_⟩) (by assumption) ?_; rotate_left; (intro w hSw; (try dsimp only at hSw); go_simp); (try with_reducible rfl); (try simp only [Act.put, List.setIfInBounds_toArray, List.set_cons_zero, List.set_cons_succ])
            refine wpAnyH_take (i := 5) (oi := { dst := some 37, op := _, type := _, pos := _, after := _, guard := _ }) (v := ?_) rfl (by kernel_rfl) (by kernel_rfl) (by kernel_rfl) (fun _ _ _ h => h) (Or.inl ⟨by rfl, ?_⟩) (by assumption) ?_; rotate_left; (intro w hSw; (try dsimp only at hSw); go_simp); (try with_reducible rfl); (try simp only [Act.put, List.setIfInBounds_toArray, List.set_cons_zero, List.set_cons_succ])
            refine wpAnyH_take (i := 6) (oi := { dst := some 38, op := _, type := _, pos := _, after := _, guard := _ }) (v := ?_) rfl (by kernel_rfl) (by kernel_rfl) (by kernel_rfl) (fun _ _ _ h => h) (Or.inl ⟨by rfl, ?_⟩) (by assumption) ?_; rotate_left; (intro w hSw; (try dsimp only at hSw); go_simp); (try with_reducible rfl); (try simp only [Act.put, List.setIfInBounds_toArray, List.set_cons_zero, List.set_cons_succ])
            refine wpAnyH_take (i := 7) (oi := { dst := some 39, op := _, type := _, pos := _, after := _, guard := _ }) (v := ?_) rfl (by kernel_rfl) (by kernel_rfl) (by kernel_rfl) (fun _ _ _ h => h) (Or.inl ⟨by rfl, ?_⟩) (by assumption) ?_; rotate_left; (intro w hSw; (try dsimp only at hSw); go_simp); (try with_reducible rfl); (try simp only [Act.put, List.setIfInBounds_toArray, List.set_cons_zero, List.set_cons_succ])
            refine wpAnyH_take (i := 8) (oi := { dst := some 40, op := _, type := _, pos := _, after := _, guard := _ }) (v := ?_) rfl (by kernel_rfl) (by kernel_rfl) (by kernel_rfl) (fun _ _ _ h => h) (Or.inl ⟨by rfl, ?_⟩) (by assumption) ?_; rotate_left; (intro w hSw; (try dsimp only at hSw); go_simp); (try with_reducible rfl); (try simp only [Act.put, List.setIfInBounds_toArray, List.set_cons_zero, List.set_cons_succ])
            refine wpAnyH_ready (rs := [1, 9]) (by kernel_rfl) (by simp) ?_
            refine AllReadyH.cons (o := { dst := some 33, op := _, type := _, pos := _, after := _, guard := _ }) rfl (fun K hK => ?_) (AllReadyH.cons (o := { dst := some 41, op := _, type := _, pos := _, after := _, guard := _ }) rfl (fun K hK => ?_) (AllReadyH.nil))
            ·
              go_simp
              refine hK.out _ _ (by assumption) (fun hHeld => ?_)
              clear hK K; (try simp only [Act.put, List.setIfInBounds_toArray, List.set_cons_zero, List.set_cons_succ])
              refine wpAnyH_ready (rs := [9]) (by kernel_rfl) (by simp) ?_
              refine AllReadyH.cons (o := { dst := some 41, op := _, type := _, pos := _, after := _, guard := _ }) rfl (fun K hK => ?_) AllReadyH.nil
              go_simp
              (go_at_call 90; (with_reducible refine (sexBefore_any s (some ⟨b, off, none⟩) c lo hi xs j _ h.drew hdw HO.out (by omega)).mono ?_); rintro e w4 ⟨rfl, hb4⟩; rw [HSX.out]; replace hb4 := undrew hb4; replace R := R.below hb4 (by omega); replace O := O.below hb4 (by omega); (replace a0 := (hb4.cell (by first | omega | (simp; omega) | (simp; done) | (dsimp only; omega))).trans a0; replace a1 := (hb4.cell (by first | omega | (simp; omega) | (simp; done) | (dsimp only; omega))).trans a1; replace s0 := (hb4.cell (by first | omega | (simp; omega) | (simp; done) | (dsimp only; omega))).trans s0; replace s1 := (hb4.cell (by first | omega | (simp; omega) | (simp; done) | (dsimp only; omega))).trans s1; replace d1 := (hb4.cell (by first | omega | (simp; omega) | (simp; done) | (dsimp only; omega))).trans d1; replace h := h.same (Same.of_below hb4 (by first | omega | (simp; omega) | (simp; done) | (dsimp only; omega))); replace ho := ho.same (Same.of_below hb4 (by first | omega | (simp; omega) | (simp; done) | (dsimp only; omega))); replace hb := hb.trans (hb4.mono (by first | omega | (simp; omega) | (simp; done) | (dsimp only; omega))); have zhb4 := hb4.size; clear hb4); (have l4 : w.heap.size < w4.heap.size := by omega))
              try go_wp2_with fail
              refine hK.out _ _ ⟨a0, a1, s0, s1⟩ (fun hHeld => ?_)
              clear hK K; (try simp only [Act.put, List.setIfInBounds_toArray, List.set_cons_zero, List.set_cons_succ])
              refine wpAnyH_ready (rs := [10]) (by kernel_rfl) (by simp) ?_
              refine AllReadyH.cons (o := { dst := some 42, op := _, type := _, pos := _, after := _, guard := _ }) rfl (fun K hK => ?_) AllReadyH.nil
              go_simp
              (go_at_call 89; (with_reducible refine (backStep_any x y sx w4 HK.out HY.out HS.out).mono ?_); rintro e w6 ⟨rfl, hb6⟩; rw [HBM.out]; replace R := R.below hb6 (by omega); replace O := O.below hb6 (by omega); (replace a0 := (hb6.cell (by first | omega | (simp; omega) | (simp; done) | (dsimp only; omega))).trans a0; replace a1 := (hb6.cell (by first | omega | (simp; omega) | (simp; done) | (dsimp only; omega))).trans a1; replace s0 := (hb6.cell (by first | omega | (simp; omega) | (simp; done) | (dsimp only; omega))).trans s0; replace s1 := (hb6.cell (by first | omega | (simp; omega) | (simp; done) | (dsimp only; omega))).trans s1; replace d1 := (hb6.cell (by first | omega | (simp; omega) | (simp; done) | (dsimp only; omega))).trans d1; replace h := h.same (Same.of_below hb6 (by first | omega | (simp; omega) | (simp; done) | (dsimp only; omega))); replace ho := ho.same (Same.of_below hb6 (by first | omega | (simp; omega) | (simp; done) | (dsimp only; omega))); replace hb := hb.trans (hb6.mono (by first | omega | (simp; omega) | (simp; done) | (dsimp only; omega))); have zhb6 := hb6.size; clear hb6); (have l6 : w.heap.size < w6.heap.size := by omega); (have lb4 : b4 < w6.heap.size := O.lt))
              try go_wp2_with fail
              refine hK.out _ _ ⟨a0, a1, s0, s1⟩ (fun hHeld => ?_)
              clear hK K; (try simp only [Act.put, List.setIfInBounds_toArray, List.set_cons_zero, List.set_cons_succ])
              refine wpAnyH_ready (rs := [11]) (by kernel_rfl) (by simp) ?_
              refine AllReadyH.cons (o := { dst := some 43, op := _, type := _, pos := _, after := _, guard := _ }) rfl (fun K hK => ?_) AllReadyH.nil
              go_simp
              refine hK.out _ _ ⟨(Below.cell (w := w6) (show Below w6.heap.size w6 _ by (with_reducible repeat' first | exact Below.refl _ _ | assumption | (refine Below.setCell ?_ (by first | omega | (simp; omega) | (simp; done) | (dsimp only; omega)) _) | (refine Below.alloc ?_ (by first | omega | (simp; omega) | (simp; done) | (dsimp only; omega)) _) | (refine below_drewN ?_ _) | (refine Below.drew ?_))) (p := ⟨w.heap.size, 0, none⟩) (by first | omega | (simp; omega) | (simp; done) | (dsimp only; omega))).trans a0, (Below.cell (w := w6) (show Below w6.heap.size w6 _ by (with_reducible repeat' first | exact Below.refl _ _ | assumption | (refine Below.setCell ?_ (by first | omega | (simp; omega) | (simp; done) | (dsimp only; omega)) _) | (refine Below.alloc ?_ (by first | omega | (simp; omega) | (simp; done) | (dsimp only; omega)) _) | (refine below_drewN ?_ _) | (refine Below.drew ?_))) (p := ⟨w.heap.size, 1, none⟩) (by first | omega | (simp; omega) | (simp; done) | (dsimp only; omega))).trans a1, (Below.cell (w := w6) (show Below w6.heap.size w6 _ by (with_reducible repeat' first | exact Below.refl _ _ | assumption | (refine Below.setCell ?_ (by first | omega | (simp; omega) | (simp; done) | (dsimp only; omega)) _) | (refine Below.alloc ?_ (by first | omega | (simp; omega) | (simp; done) | (dsimp only; omega)) _) | (refine below_drewN ?_ _) | (refine Below.drew ?_))) (p := ⟨b, off + j * 2, none⟩) (by first | omega | (simp; omega) | (simp; done) | (dsimp only; omega))).trans s0, (Below.cell (w := w6) (show Below w6.heap.size w6 _ by (with_reducible repeat' first | exact Below.refl _ _ | assumption | (refine Below.setCell ?_ (by first | omega | (simp; omega) | (simp; done) | (dsimp only; omega)) _) | (refine Below.alloc ?_ (by first | omega | (simp; omega) | (simp; done) | (dsimp only; omega)) _) | (refine below_drewN ?_ _) | (refine Below.drew ?_))) (p := ⟨b, off + j * 2 + 1, none⟩) (by first | omega | (simp; omega) | (simp; done) | (dsimp only; omega))).trans s1⟩ (fun hHeld => ?_)
              clear hK K; (try simp only [Act.put, List.setIfInBounds_toArray, List.set_cons_zero, List.set_cons_succ])
              refine wpAnyH_ready (rs := [12]) (by kernel_rfl) (by simp) ?_
              refine AllReadyH.cons (o := { dst := some 44, op := _, type := _, pos := _, after := _, guard := _ }) rfl (fun K hK => ?_) AllReadyH.nil
              (refine step_appN flatStep tyStepS A1 (downL s xs xs.length (j + 1)) 1 (ho.same (by (with_reducible repeat' first | exact Same.refl _ _ _ | assumption | (refine Same.setCell ?_ (by first | omega | (simp; omega) | (simp; done) | (dsimp only; omega)) _) | (refine Same.alloc ?_ (by first | omega | (simp; omega) | (simp; done) | (dsimp only; omega)) _) | (refine Same.drewN ?_ _) | (refine Same.drew ?_)))) rfl ((one_step w6 bm).read.as) _ _ rfl rfl rfl rfl HL.out (by decide) (by simp; omega) ?_); intro A7 c7 w7 o7 hg7; rw [HZ.out] at o7 ⊢; (have hnr : ∀ g, g ≤ b4 → some g ≠ (Value.slice A1 (downL s xs xs.length (j + 1)).length c1).ownBlock := fun g hg e => by have := (ho.blkv _ e.symm).1; omega); (have a0' := grown_cell hg7 a0 (hnr w.heap.size (by omega))); (have a1' := grown_cell hg7 a1 (hnr w.heap.size (by omega))); (have s0' := grown_cell hg7 s0 (hnr b (by omega))); (have s1' := grown_cell hg7 s1 (hnr b (by omega))); (have R7 := (R.alloc (.cells #[.int .i64 bm.kind, .int .i64 bm.age] 72)).grown hg7 (hnr (w.heap.size + 1) (by omega))); (have O7 := (O.alloc (.cells #[.int .i64 bm.kind, .int .i64 bm.age] 72)).grown hg7 (hnr b4 (Nat.le_refl _))); (have hb7 : Below w.heap.size w w7 := Below.grown (w := w6.alloc _) (by (with_reducible repeat' first | exact Below.refl _ _ | assumption | (refine Below.setCell ?_ (by first | omega | (simp; omega) | (simp; done) | (dsimp only; omega)) _) | (refine Below.alloc ?_ (by first | omega | (simp; omega) | (simp; done) | (dsimp only; omega)) _) | (refine below_drewN ?_ _) | (refine Below.drew ?_) | (refine Below.trans ?_ (hb.mono (by first | omega | (simp; omega) | (simp; done) | (dsimp only; omega)))))) hg7 (by simp; omega) (fun q hq => by have := (ho.blkv _ hq).1; omega)); (have f7 := O7.free 1); (have q7 := O7.cell (i := 1) rfl); (have z7 := hg7.size); (have HN := Lib.hid hnr); clear hnr
              refine hK.out _ _ ⟨a0', a1', s0', s1'⟩ (fun hHeld => ?_)
              clear hK K; (try simp only [Act.put, List.setIfInBounds_toArray, List.set_cons_zero, List.set_cons_succ])
              refine wpAnyH_take (i := 13) (oi := { dst := some 45, op := _, type := _, pos := _, after := _, guard := _ }) (v := ?_) rfl (by kernel_rfl) (by kernel_rfl) (by kernel_rfl) (fun _ _ _ h => h) (Or.inl ⟨by rfl, ?_⟩) (by assumption) ?_; rotate_left; (intro w hSw; (try dsimp only at hSw); go_simp); (try with_reducible rfl); (try simp only [Act.put, List.setIfInBounds_toArray, List.set_cons_zero, List.set_cons_succ])
              refine wpAnyH_ready (rs := [14]) (by kernel_rfl) (by simp) ?_
              refine AllReadyH.cons (o := { dst := none, op := _, type := _, pos := _, after := _, guard := _ }) rfl (fun K hK => ?_) AllReadyH.nil
              go_simp
              refine hK.out _ _ ⟨(World.cell?_of_block (a := ⟨w.heap.size, 0, none⟩) (Below.heap_setCell _ _ _ _ (show w.heap.size ≠ b4 by omega))).trans a0', (World.cell?_of_block (a := ⟨w.heap.size, 1, none⟩) (Below.heap_setCell _ _ _ _ (show w.heap.size ≠ b4 by omega))).trans a1', (World.cell?_of_block (a := ⟨b, off + j * 2, none⟩) (Below.heap_setCell _ _ _ _ (show b ≠ b4 by omega))).trans s0', (World.cell?_of_block (a := ⟨b, off + j * 2 + 1, none⟩) (Below.heap_setCell _ _ _ _ (show b ≠ b4 by omega))).trans s1'⟩ (fun hHeld => ?_)
              clear hK K; (try simp only [Act.put, List.setIfInBounds_toArray, List.set_cons_zero, List.set_cons_succ])
              refine wpAnyH_done (by kernel_rfl) ?_ _
              go_wp2_with fail
              exact ⟨⟨j, A7, c7, by omega, rfl, hb7.setCell (by show w.heap.size ≤ b4; omega) _, (World.cell?_of_block (a := ⟨w.heap.size, 0, none⟩) (Below.heap_setCell _ _ _ _ (show w.heap.size ≠ b4 by omega))).trans a0', (World.cell?_of_block (a := ⟨w.heap.size, 1, none⟩) (Below.heap_setCell _ _ _ _ (show w.heap.size ≠ b4 by omega))).trans a1', R7.far (p := ⟨b4, 1, none⟩) (show w.heap.size + 1 ≠ b4 by omega) _, O7.set 1 _, (flatStep.far (i := 1) (u := .slice A7 (downL s xs xs.length j).length c7) o7 O7 (by decide)).mono (Nat.le_refl _) (by simp [World.setCell])⟩, by first | (simp [intOf]; done) | (simp [intOf]; omega)⟩
            ·
              go_simp
              (go_at_call 90; (with_reducible refine (sexBefore_any s (some ⟨b, off, none⟩) c lo hi xs j _ h.drew hdw HO.out (by omega)).mono ?_); rintro e w4 ⟨rfl, hb4⟩; rw [HSX.out]; replace hb4 := undrew hb4; replace R := R.below hb4 (by omega); replace O := O.below hb4 (by omega); (replace a0 := (hb4.cell (by first | omega | (simp; omega) | (simp; done) | (dsimp only; omega))).trans a0; replace a1 := (hb4.cell (by first | omega | (simp; omega) | (simp; done) | (dsimp only; omega))).trans a1; replace s0 := (hb4.cell (by first | omega | (simp; omega) | (simp; done) | (dsimp only; omega))).trans s0; replace s1 := (hb4.cell (by first | omega | (simp; omega) | (simp; done) | (dsimp only; omega))).trans s1; replace d1 := (hb4.cell (by first | omega | (simp; omega) | (simp; done) | (dsimp only; omega))).trans d1; replace h := h.same (Same.of_below hb4 (by first | omega | (simp; omega) | (simp; done) | (dsimp only; omega))); replace ho := ho.same (Same.of_below hb4 (by first | omega | (simp; omega) | (simp; done) | (dsimp only; omega))); replace hb := hb.trans (hb4.mono (by first | omega | (simp; omega) | (simp; done) | (dsimp only; omega))); have zhb4 := hb4.size; clear hb4); (have l4 : w.heap.size < w4.heap.size := by omega))
              try go_wp2_with fail
              refine hK.out _ _ ⟨a0, a1, s0, s1⟩ (fun hHeld => ?_)
              clear hK K; (try simp only [Act.put, List.setIfInBounds_toArray, List.set_cons_zero, List.set_cons_succ])
              refine wpAnyH_ready (rs := [1, 10]) (by kernel_rfl) (by simp) ?_
              refine AllReadyH.cons (o := { dst := some 33, op := _, type := _, pos := _, after := _, guard := _ }) rfl (fun K hK => ?_) (AllReadyH.cons (o := { dst := some 42, op := _, type := _, pos := _, after := _, guard := _ }) rfl (fun K hK => ?_) (AllReadyH.nil))
              ·
                go_simp
                refine hK.out _ _ (by assumption) (fun hHeld => ?_)
                clear hK K; (try simp only [Act.put, List.setIfInBounds_toArray, List.set_cons_zero, List.set_cons_succ])
                refine wpAnyH_ready (rs := [10]) (by kernel_rfl) (by simp) ?_
                refine AllReadyH.cons (o := { dst := some 42, op := _, type := _, pos := _, after := _, guard := _ }) rfl (fun K hK => ?_) AllReadyH.nil
                go_simp
                (go_at_call 89; (with_reducible refine (backStep_any x y sx w4 HK.out HY.out HS.out).mono ?_); rintro e w6 ⟨rfl, hb6⟩; rw [HBM.out]; replace R := R.below hb6 (by omega); replace O := O.below hb6 (by omega); (replace a0 := (hb6.cell (by first | omega | (simp; omega) | (simp; done) | (dsimp only; omega))).trans a0; replace a1 := (hb6.cell (by first | omega | (simp; omega) | (simp; done) | (dsimp only; omega))).trans a1; replace s0 := (hb6.cell (by first | omega | (simp; omega) | (simp; done) | (dsimp only; omega))).trans s0; replace s1 := (hb6.cell (by first | omega | (simp; omega) | (simp; done) | (dsimp only; omega))).trans s1; replace d1 := (hb6.cell (by first | omega | (simp; omega) | (simp; done) | (dsimp only; omega))).trans d1; replace h := h.same (Same.of_below hb6 (by first | omega | (simp; omega) | (simp; done) | (dsimp only; omega))); replace ho := ho.same (Same.of_below hb6 (by first | omega | (simp; omega) | (simp; done) | (dsimp only; omega))); replace hb := hb.trans (hb6.mono (by first | omega | (simp; omega) | (simp; done) | (dsimp only; omega))); have zhb6 := hb6.size; clear hb6); (have l6 : w.heap.size < w6.heap.size := by omega); (have lb4 : b4 < w6.heap.size := O.lt))
                try go_wp2_with fail
                refine hK.out _ _ ⟨a0, a1, s0, s1⟩ (fun hHeld => ?_)
                clear hK K; (try simp only [Act.put, List.setIfInBounds_toArray, List.set_cons_zero, List.set_cons_succ])
                refine wpAnyH_ready (rs := [11]) (by kernel_rfl) (by simp) ?_
                refine AllReadyH.cons (o := { dst := some 43, op := _, type := _, pos := _, after := _, guard := _ }) rfl (fun K hK => ?_) AllReadyH.nil
                go_simp
                refine hK.out _ _ ⟨(Below.cell (w := w6) (show Below w6.heap.size w6 _ by (with_reducible repeat' first | exact Below.refl _ _ | assumption | (refine Below.setCell ?_ (by first | omega | (simp; omega) | (simp; done) | (dsimp only; omega)) _) | (refine Below.alloc ?_ (by first | omega | (simp; omega) | (simp; done) | (dsimp only; omega)) _) | (refine below_drewN ?_ _) | (refine Below.drew ?_))) (p := ⟨w.heap.size, 0, none⟩) (by first | omega | (simp; omega) | (simp; done) | (dsimp only; omega))).trans a0, (Below.cell (w := w6) (show Below w6.heap.size w6 _ by (with_reducible repeat' first | exact Below.refl _ _ | assumption | (refine Below.setCell ?_ (by first | omega | (simp; omega) | (simp; done) | (dsimp only; omega)) _) | (refine Below.alloc ?_ (by first | omega | (simp; omega) | (simp; done) | (dsimp only; omega)) _) | (refine below_drewN ?_ _) | (refine Below.drew ?_))) (p := ⟨w.heap.size, 1, none⟩) (by first | omega | (simp; omega) | (simp; done) | (dsimp only; omega))).trans a1, (Below.cell (w := w6) (show Below w6.heap.size w6 _ by (with_reducible repeat' first | exact Below.refl _ _ | assumption | (refine Below.setCell ?_ (by first | omega | (simp; omega) | (simp; done) | (dsimp only; omega)) _) | (refine Below.alloc ?_ (by first | omega | (simp; omega) | (simp; done) | (dsimp only; omega)) _) | (refine below_drewN ?_ _) | (refine Below.drew ?_))) (p := ⟨b, off + j * 2, none⟩) (by first | omega | (simp; omega) | (simp; done) | (dsimp only; omega))).trans s0, (Below.cell (w := w6) (show Below w6.heap.size w6 _ by (with_reducible repeat' first | exact Below.refl _ _ | assumption | (refine Below.setCell ?_ (by first | omega | (simp; omega) | (simp; done) | (dsimp only; omega)) _) | (refine Below.alloc ?_ (by first | omega | (simp; omega) | (simp; done) | (dsimp only; omega)) _) | (refine below_drewN ?_ _) | (refine Below.drew ?_))) (p := ⟨b, off + j * 2 + 1, none⟩) (by first | omega | (simp; omega) | (simp; done) | (dsimp only; omega))).trans s1⟩ (fun hHeld => ?_)
                clear hK K; (try simp only [Act.put, List.setIfInBounds_toArray, List.set_cons_zero, List.set_cons_succ])
                refine wpAnyH_ready (rs := [12]) (by kernel_rfl) (by simp) ?_
                refine AllReadyH.cons (o := { dst := some 44, op := _, type := _, pos := _, after := _, guard := _ }) rfl (fun K hK => ?_) AllReadyH.nil
                (refine step_appN flatStep tyStepS A1 (downL s xs xs.length (j + 1)) 1 (ho.same (by (with_reducible repeat' first | exact Same.refl _ _ _ | assumption | (refine Same.setCell ?_ (by first | omega | (simp; omega) | (simp; done) | (dsimp only; omega)) _) | (refine Same.alloc ?_ (by first | omega | (simp; omega) | (simp; done) | (dsimp only; omega)) _) | (refine Same.drewN ?_ _) | (refine Same.drew ?_)))) rfl ((one_step w6 bm).read.as) _ _ rfl rfl rfl rfl HL.out (by decide) (by simp; omega) ?_); intro A7 c7 w7 o7 hg7; rw [HZ.out] at o7 ⊢; (have hnr : ∀ g, g ≤ b4 → some g ≠ (Value.slice A1 (downL s xs xs.length (j + 1)).length c1).ownBlock := fun g hg e => by have := (ho.blkv _ e.symm).1; omega); (have a0' := grown_cell hg7 a0 (hnr w.heap.size (by omega))); (have a1' := grown_cell hg7 a1 (hnr w.heap.size (by omega))); (have s0' := grown_cell hg7 s0 (hnr b (by omega))); (have s1' := grown_cell hg7 s1 (hnr b (by omega))); (have R7 := (R.alloc (.cells #[.int .i64 bm.kind, .int .i64 bm.age] 72)).grown hg7 (hnr (w.heap.size + 1) (by omega))); (have O7 := (O.alloc (.cells #[.int .i64 bm.kind, .int .i64 bm.age] 72)).grown hg7 (hnr b4 (Nat.le_refl _))); (have hb7 : Below w.heap.size w w7 := Below.grown (w := w6.alloc _) (by (with_reducible repeat' first | exact Below.refl _ _ | assumption | (refine Below.setCell ?_ (by first | omega | (simp; omega) | (simp; done) | (dsimp only; omega)) _) | (refine Below.alloc ?_ (by first | omega | (simp; omega) | (simp; done) | (dsimp only; omega)) _) | (refine below_drewN ?_ _) | (refine Below.drew ?_) | (refine Below.trans ?_ (hb.mono (by first | omega | (simp; omega) | (simp; done) | (dsimp only; omega)))))) hg7 (by simp; omega) (fun q hq => by have := (ho.blkv _ hq).1; omega)); (have f7 := O7.free 1); (have q7 := O7.cell (i := 1) rfl); (have z7 := hg7.size); (have HN := Lib.hid hnr); clear hnr
                refine hK.out _ _ ⟨a0', a1', s0', s1'⟩ (fun hHeld => ?_)
                clear hK K; (try simp only [Act.put, List.setIfInBounds_toArray, List.set_cons_zero, List.set_cons_succ])
                refine wpAnyH_take (i := 13) (oi := { dst := some 45, op := _, type := _, pos := _, after := _, guard := _ }) (v := ?_) rfl (by kernel_rfl) (by kernel_rfl) (by kernel_rfl) (fun _ _ _ h => h) (Or.inl ⟨by rfl, ?_⟩) (by assumption) ?_; rotate_left; (intro w hSw; (try dsimp only at hSw); go_simp); (try with_reducible rfl); (try simp only [Act.put, List.setIfInBounds_toArray, List.set_cons_zero, List.set_cons_succ])
                refine wpAnyH_ready (rs := [14]) (by kernel_rfl) (by simp) ?_
                refine AllReadyH.cons (o := { dst := none, op := _, type := _, pos := _, after := _, guard := _ }) rfl (fun K hK => ?_) AllReadyH.nil
                go_simp
                refine hK.out _ _ ⟨(World.cell?_of_block (a := ⟨w.heap.size, 0, none⟩) (Below.heap_setCell _ _ _ _ (show w.heap.size ≠ b4 by omega))).trans a0', (World.cell?_of_block (a := ⟨w.heap.size, 1, none⟩) (Below.heap_setCell _ _ _ _ (show w.heap.size ≠ b4 by omega))).trans a1', (World.cell?_of_block (a := ⟨b, off + j * 2, none⟩) (Below.heap_setCell _ _ _ _ (show b ≠ b4 by omega))).trans s0', (World.cell?_of_block (a := ⟨b, off + j * 2 + 1, none⟩) (Below.heap_setCell _ _ _ _ (show b ≠ b4 by omega))).trans s1'⟩ (fun hHeld => ?_)
                clear hK K; (try simp only [Act.put, List.setIfInBounds_toArray, List.set_cons_zero, List.set_cons_succ])
                refine wpAnyH_done (by kernel_rfl) ?_ _
                go_wp2_with fail
                exact ⟨⟨j, A7, c7, by omega, rfl, hb7.setCell (by show w.heap.size ≤ b4; omega) _, (World.cell?_of_block (a := ⟨w.heap.size, 0, none⟩) (Below.heap_setCell _ _ _ _ (show w.heap.size ≠ b4 by omega))).trans a0', (World.cell?_of_block (a := ⟨w.heap.size, 1, none⟩) (Below.heap_setCell _ _ _ _ (show w.heap.size ≠ b4 by omega))).trans a1', R7.far (p := ⟨b4, 1, none⟩) (show w.heap.size + 1 ≠ b4 by omega) _, O7.set 1 _, (flatStep.far (i := 1) (u := .slice A7 (downL s xs xs.length j).length c7) o7 O7 (by decide)).mono (Nat.le_refl _) (by simp [World.setCell])⟩, by first | (simp [intOf]; done) | (simp [intOf]; omega)⟩
              ·
                go_simp
                (go_at_call 89; (with_reducible refine (backStep_any x y sx w4 HK.out HY.out HS.out).mono ?_); rintro e w6 ⟨rfl, hb6⟩; rw [HBM.out]; replace R := R.below hb6 (by omega); replace O := O.below hb6 (by omega); (replace a0 := (hb6.cell (by first | omega | (simp; omega) | (simp; done) | (dsimp only; omega))).trans a0; replace a1 := (hb6.cell (by first | omega | (simp; omega) | (simp; done) | (dsimp only; omega))).trans a1; replace s0 := (hb6.cell (by first | omega | (simp; omega) | (simp; done) | (dsimp only; omega))).trans s0; replace s1 := (hb6.cell (by first | omega | (simp; omega) | (simp; done) | (dsimp only; omega))).trans s1; replace d1 := (hb6.cell (by first | omega | (simp; omega) | (simp; done) | (dsimp only; omega))).trans d1; replace h := h.same (Same.of_below hb6 (by first | omega | (simp; omega) | (simp; done) | (dsimp only; omega))); replace ho := ho.same (Same.of_below hb6 (by first | omega | (simp; omega) | (simp; done) | (dsimp only; omega))); replace hb := hb.trans (hb6.mono (by first | omega | (simp; omega) | (simp; done) | (dsimp only; omega))); have zhb6 := hb6.size; clear hb6); (have l6 : w.heap.size < w6.heap.size := by omega); (have lb4 : b4 < w6.heap.size := O.lt))
                try go_wp2_with fail
                refine hK.out _ _ ⟨a0, a1, s0, s1⟩ (fun hHeld => ?_)
                clear hK K; (try simp only [Act.put, List.setIfInBounds_toArray, List.set_cons_zero, List.set_cons_succ])
                refine wpAnyH_ready (rs := [1, 11]) (by kernel_rfl) (by simp) ?_
                refine AllReadyH.cons (o := { dst := some 33, op := _, type := _, pos := _, after := _, guard := _ }) rfl (fun K hK => ?_) (AllReadyH.cons (o := { dst := some 43, op := _, type := _, pos := _, after := _, guard := _ }) rfl (fun K hK => ?_) (AllReadyH.nil))
                ·
                  go_simp
                  refine hK.out _ _ (by assumption) (fun hHeld => ?_)
                  clear hK K; (try simp only [Act.put, List.setIfInBounds_toArray, List.set_cons_zero, List.set_cons_succ])
                  refine wpAnyH_ready (rs := [11]) (by kernel_rfl) (by simp) ?_
                  refine AllReadyH.cons (o := { dst := some 43, op := _, type := _, pos := _, after := _, guard := _ }) rfl (fun K hK => ?_) AllReadyH.nil
                  go_simp
                  refine hK.out _ _ ⟨(Below.cell (w := w6) (show Below w6.heap.size w6 _ by (with_reducible repeat' first | exact Below.refl _ _ | assumption | (refine Below.setCell ?_ (by first | omega | (simp; omega) | (simp; done) | (dsimp only; omega)) _) | (refine Below.alloc ?_ (by first | omega | (simp; omega) | (simp; done) | (dsimp only; omega)) _) | (refine below_drewN ?_ _) | (refine Below.drew ?_))) (p := ⟨w.heap.size, 0, none⟩) (by first | omega | (simp; omega) | (simp; done) | (dsimp only; omega))).trans a0, (Below.cell (w := w6) (show Below w6.heap.size w6 _ by (with_reducible repeat' first | exact Below.refl _ _ | assumption | (refine Below.setCell ?_ (by first | omega | (simp; omega) | (simp; done) | (dsimp only; omega)) _) | (refine Below.alloc ?_ (by first | omega | (simp; omega) | (simp; done) | (dsimp only; omega)) _) | (refine below_drewN ?_ _) | (refine Below.drew ?_))) (p := ⟨w.heap.size, 1, none⟩) (by first | omega | (simp; omega) | (simp; done) | (dsimp only; omega))).trans a1, (Below.cell (w := w6) (show Below w6.heap.size w6 _ by (with_reducible repeat' first | exact Below.refl _ _ | assumption | (refine Below.setCell ?_ (by first | omega | (simp; omega) | (simp; done) | (dsimp only; omega)) _) | (refine Below.alloc ?_ (by first | omega | (simp; omega) | (simp; done) | (dsimp only; omega)) _) | (refine below_drewN ?_ _) | (refine Below.drew ?_))) (p := ⟨b, off + j * 2, none⟩) (by first | omega | (simp; omega) | (simp; done) | (dsimp only; omega))).trans s0, (Below.cell (w := w6) (show Below w6.heap.size w6 _ by (with_reducible repeat' first | exact Below.refl _ _ | assumption | (refine Below.setCell ?_ (by first | omega | (simp; omega) | (simp; done) | (dsimp only; omega)) _) | (refine Below.alloc ?_ (by first | omega | (simp; omega) | (simp; done) | (dsimp only; omega)) _) | (refine below_drewN ?_ _) | (refine Below.drew ?_))) (p := ⟨b, off + j * 2 + 1, none⟩) (by first | omega | (simp; omega) | (simp; done) | (dsimp only; omega))).trans s1⟩ (fun hHeld => ?_)
                  clear hK K; (try simp only [Act.put, List.setIfInBounds_toArray, List.set_cons_zero, List.set_cons_succ])
                  refine wpAnyH_ready (rs := [12]) (by kernel_rfl) (by simp) ?_
                  refine AllReadyH.cons (o := { dst := some 44, op := _, type := _, pos := _, after := _, guard := _ }) rfl (fun K hK => ?_) AllReadyH.nil
                  (refine step_appN flatStep tyStepS A1 (downL s xs xs.length (j + 1)) 1 (ho.same (by (with_reducible repeat' first | exact Same.refl _ _ _ | assumption | (refine Same.setCell ?_ (by first | omega | (simp; omega) | (simp; done) | (dsimp only; omega)) _) | (refine Same.alloc ?_ (by first | omega | (simp; omega) | (simp; done) | (dsimp only; omega)) _) | (refine Same.drewN ?_ _) | (refine Same.drew ?_)))) rfl ((one_step w6 bm).read.as) _ _ rfl rfl rfl rfl HL.out (by decide) (by simp; omega) ?_); intro A7 c7 w7 o7 hg7; rw [HZ.out] at o7 ⊢; (have hnr : ∀ g, g ≤ b4 → some g ≠ (Value.slice A1 (downL s xs xs.length (j + 1)).length c1).ownBlock := fun g hg e => by have := (ho.blkv _ e.symm).1; omega); (have a0' := grown_cell hg7 a0 (hnr w.heap.size (by omega))); (have a1' := grown_cell hg7 a1 (hnr w.heap.size (by omega))); (have s0' := grown_cell hg7 s0 (hnr b (by omega))); (have s1' := grown_cell hg7 s1 (hnr b (by omega))); (have R7 := (R.alloc (.cells #[.int .i64 bm.kind, .int .i64 bm.age] 72)).grown hg7 (hnr (w.heap.size + 1) (by omega))); (have O7 := (O.alloc (.cells #[.int .i64 bm.kind, .int .i64 bm.age] 72)).grown hg7 (hnr b4 (Nat.le_refl _))); (have hb7 : Below w.heap.size w w7 := Below.grown (w := w6.alloc _) (by (with_reducible repeat' first | exact Below.refl _ _ | assumption | (refine Below.setCell ?_ (by first | omega | (simp; omega) | (simp; done) | (dsimp only; omega)) _) | (refine Below.alloc ?_ (by first | omega | (simp; omega) | (simp; done) | (dsimp only; omega)) _) | (refine below_drewN ?_ _) | (refine Below.drew ?_) | (refine Below.trans ?_ (hb.mono (by first | omega | (simp; omega) | (simp; done) | (dsimp only; omega)))))) hg7 (by simp; omega) (fun q hq => by have := (ho.blkv _ hq).1; omega)); (have f7 := O7.free 1); (have q7 := O7.cell (i := 1) rfl); (have z7 := hg7.size); (have HN := Lib.hid hnr); clear hnr
                  refine hK.out _ _ ⟨a0', a1', s0', s1'⟩ (fun hHeld => ?_)
                  clear hK K; (try simp only [Act.put, List.setIfInBounds_toArray, List.set_cons_zero, List.set_cons_succ])
                  refine wpAnyH_take (i := 13) (oi := { dst := some 45, op := _, type := _, pos := _, after := _, guard := _ }) (v := ?_) rfl (by kernel_rfl) (by kernel_rfl) (by kernel_rfl) (fun _ _ _ h => h) (Or.inl ⟨by rfl, ?_⟩) (by assumption) ?_; rotate_left; (intro w hSw; (try dsimp only at hSw); go_simp); (try with_reducible rfl); (try simp only [Act.put, List.setIfInBounds_toArray, List.set_cons_zero, List.set_cons_succ])
                  refine wpAnyH_ready (rs := [14]) (by kernel_rfl) (by simp) ?_
                  refine AllReadyH.cons (o := { dst := none, op := _, type := _, pos := _, after := _, guard := _ }) rfl (fun K hK => ?_) AllReadyH.nil
                  go_simp
                  refine hK.out _ _ ⟨(World.cell?_of_block (a := ⟨w.heap.size, 0, none⟩) (Below.heap_setCell _ _ _ _ (show w.heap.size ≠ b4 by omega))).trans a0', (World.cell?_of_block (a := ⟨w.heap.size, 1, none⟩) (Below.heap_setCell _ _ _ _ (show w.heap.size ≠ b4 by omega))).trans a1', (World.cell?_of_block (a := ⟨b, off + j * 2, none⟩) (Below.heap_setCell _ _ _ _ (show b ≠ b4 by omega))).trans s0', (World.cell?_of_block (a := ⟨b, off + j * 2 + 1, none⟩) (Below.heap_setCell _ _ _ _ (show b ≠ b4 by omega))).trans s1'⟩ (fun hHeld => ?_)
                  clear hK K; (try simp only [Act.put, List.setIfInBounds_toArray, List.set_cons_zero, List.set_cons_succ])
                  refine wpAnyH_done (by kernel_rfl) ?_ _
                  go_wp2_with fail
                  exact ⟨⟨j, A7, c7, by omega, rfl, hb7.setCell (by show w.heap.size ≤ b4; omega) _, (World.cell?_of_block (a := ⟨w.heap.size, 0, none⟩) (Below.heap_setCell _ _ _ _ (show w.heap.size ≠ b4 by omega))).trans a0', (World.cell?_of_block (a := ⟨w.heap.size, 1, none⟩) (Below.heap_setCell _ _ _ _ (show w.heap.size ≠ b4 by omega))).trans a1', R7.far (p := ⟨b4, 1, none⟩) (show w.heap.size + 1 ≠ b4 by omega) _, O7.set 1 _, (flatStep.far (i := 1) (u := .slice A7 (downL s xs xs.length j).length c7) o7 O7 (by decide)).mono (Nat.le_refl _) (by simp [World.setCell])⟩, by first | (simp [intOf]; done) | (simp [intOf]; omega)⟩
                ·
                  go_simp
                  refine hK.out _ _ ⟨(Below.cell (w := w6) (show Below w6.heap.size w6 _ by (with_reducible repeat' first | exact Below.refl _ _ | assumption | (refine Below.setCell ?_ (by first | omega | (simp; omega) | (simp; done) | (dsimp only; omega)) _) | (refine Below.alloc ?_ (by first | omega | (simp; omega) | (simp; done) | (dsimp only; omega)) _) | (refine below_drewN ?_ _) | (refine Below.drew ?_))) (p := ⟨w.heap.size, 0, none⟩) (by first | omega | (simp; omega) | (simp; done) | (dsimp only; omega))).trans a0, (Below.cell (w := w6) (show Below w6.heap.size w6 _ by (with_reducible repeat' first | exact Below.refl _ _ | assumption | (refine Below.setCell ?_ (by first | omega | (simp; omega) | (simp; done) | (dsimp only; omega)) _) | (refine Below.alloc ?_ (by first | omega | (simp; omega) | (simp; done) | (dsimp only; omega)) _) | (refine below_drewN ?_ _) | (refine Below.drew ?_))) (p := ⟨w.heap.size, 1, none⟩) (by first | omega | (simp; omega) | (simp; done) | (dsimp only; omega))).trans a1, (Below.cell (w := w6) (show Below w6.heap.size w6 _ by (with_reducible repeat' first | exact Below.refl _ _ | assumption | (refine Below.setCell ?_ (by first | omega | (simp; omega) | (simp; done) | (dsimp only; omega)) _) | (refine Below.alloc ?_ (by first | omega | (simp; omega) | (simp; done) | (dsimp only; omega)) _) | (refine below_drewN ?_ _) | (refine Below.drew ?_))) (p := ⟨b, off + j * 2, none⟩) (by first | omega | (simp; omega) | (simp; done) | (dsimp only; omega))).trans s0, (Below.cell (w := w6) (show Below w6.heap.size w6 _ by (with_reducible repeat' first | exact Below.refl _ _ | assumption | (refine Below.setCell ?_ (by first | omega | (simp; omega) | (simp; done) | (dsimp only; omega)) _) | (refine Below.alloc ?_ (by first | omega | (simp; omega) | (simp; done) | (dsimp only; omega)) _) | (refine below_drewN ?_ _) | (refine Below.drew ?_))) (p := ⟨b, off + j * 2 + 1, none⟩) (by first | omega | (simp; omega) | (simp; done) | (dsimp only; omega))).trans s1⟩ (fun hHeld => ?_)
                  clear hK K; (try simp only [Act.put, List.setIfInBounds_toArray, List.set_cons_zero, List.set_cons_succ])
                  refine wpAnyH_ready (rs := [1]) (by kernel_rfl) (by simp) ?_
                  refine AllReadyH.cons (o := { dst := some 33, op := _, type := _, pos := _, after := _, guard := _ }) rfl (fun K hK => ?_) AllReadyH.nil
                  go_simp
                  refine hK.out _ _ (by assumption) (fun hHeld => ?_)
                  clear hK K; (try simp only [Act.put, List.setIfInBounds_toArray, List.set_cons_zero, List.set_cons_succ])
                  refine wpAnyH_ready (rs := [12]) (by kernel_rfl) (by simp) ?_
                  refine AllReadyH.cons (o := { dst := some 44, op := _, type := _, pos := _, after := _, guard := _ }) rfl (fun K hK => ?_) AllReadyH.nil
                  (refine step_appN flatStep tyStepS A1 (downL s xs xs.length (j + 1)) 1 (ho.same (by (with_reducible repeat' first | exact Same.refl _ _ _ | assumption | (refine Same.setCell ?_ (by first | omega | (simp; omega) | (simp; done) | (dsimp only; omega)) _) | (refine Same.alloc ?_ (by first | omega | (simp; omega) | (simp; done) | (dsimp only; omega)) _) | (refine Same.drewN ?_ _) | (refine Same.drew ?_)))) rfl ((one_step w6 bm).read.as) _ _ rfl rfl rfl rfl HL.out (by decide) (by simp; omega) ?_); intro A7 c7 w7 o7 hg7; rw [HZ.out] at o7 ⊢; (have hnr : ∀ g, g ≤ b4 → some g ≠ (Value.slice A1 (downL s xs xs.length (j + 1)).length c1).ownBlock := fun g hg e => by have := (ho.blkv _ e.symm).1; omega); (have a0' := grown_cell hg7 a0 (hnr w.heap.size (by omega))); (have a1' := grown_cell hg7 a1 (hnr w.heap.size (by omega))); (have s0' := grown_cell hg7 s0 (hnr b (by omega))); (have s1' := grown_cell hg7 s1 (hnr b (by omega))); (have R7 := (R.alloc (.cells #[.int .i64 bm.kind, .int .i64 bm.age] 72)).grown hg7 (hnr (w.heap.size + 1) (by omega))); (have O7 := (O.alloc (.cells #[.int .i64 bm.kind, .int .i64 bm.age] 72)).grown hg7 (hnr b4 (Nat.le_refl _))); (have hb7 : Below w.heap.size w w7 := Below.grown (w := w6.alloc _) (by (with_reducible repeat' first | exact Below.refl _ _ | assumption | (refine Below.setCell ?_ (by first | omega | (simp; omega) | (simp; done) | (dsimp only; omega)) _) | (refine Below.alloc ?_ (by first | omega | (simp; omega) | (simp; done) | (dsimp only; omega)) _) | (refine below_drewN ?_ _) | (refine Below.drew ?_) | (refine Below.trans ?_ (hb.mono (by first | omega | (simp; omega) | (simp; done) | (dsimp only; omega)))))) hg7 (by simp; omega) (fun q hq => by have := (ho.blkv _ hq).1; omega)); (have f7 := O7.free 1); (have q7 := O7.cell (i := 1) rfl); (have z7 := hg7.size); (have HN := Lib.hid hnr); clear hnr
                  refine hK.out _ _ ⟨a0', a1', s0', s1'⟩ (fun hHeld => ?_)
                  clear hK K; (try simp only [Act.put, List.setIfInBounds_toArray, List.set_cons_zero, List.set_cons_succ])
                  refine wpAnyH_take (i := 13) (oi := { dst := some 45, op := _, type := _, pos := _, after := _, guard := _ }) (v := ?_) rfl (by kernel_rfl) (by kernel_rfl) (by kernel_rfl) (fun _ _ _ h => h) (Or.inl ⟨by rfl, ?_⟩) (by assumption) ?_; rotate_left; (intro w hSw; (try dsimp only at hSw); go_simp); (try with_reducible rfl); (try simp only [Act.put, List.setIfInBounds_toArray, List.set_cons_zero, List.set_cons_succ])
                  refine wpAnyH_ready (rs := [14]) (by kernel_rfl) (by simp) ?_
                  refine AllReadyH.cons (o := { dst := none, op := _, type := _, pos := _, after := _, guard := _ }) rfl (fun K hK => ?_) AllReadyH.nil
                  go_simp
                  refine hK.out _ _ ⟨(World.cell?_of_block (a := ⟨w.heap.size, 0, none⟩) (Below.heap_setCell _ _ _ _ (show w.heap.size ≠ b4 by omega))).trans a0', (World.cell?_of_block (a := ⟨w.heap.size, 1, none⟩) (Below.heap_setCell _ _ _ _ (show w.heap.size ≠ b4 by omega))).trans a1', (World.cell?_of_block (a := ⟨b, off + j * 2, none⟩) (Below.heap_setCell _ _ _ _ (show b ≠ b4 by omega))).trans s0', (World.cell?_of_block (a := ⟨b, off + j * 2 + 1, none⟩) (Below.heap_setCell _ _ _ _ (show b ≠ b4 by omega))).trans s1'⟩ (fun hHeld => ?_)
                  clear hK K; (try simp only [Act.put, List.setIfInBounds_toArray, List.set_cons_zero, List.set_cons_succ])
                  refine wpAnyH_done (by kernel_rfl) ?_ _
                  go_wp2_with fail
                  exact ⟨⟨j, A7, c7, by omega, rfl, hb7.setCell (by show w.heap.size ≤ b4; omega) _, (World.cell?_of_block (a := ⟨w.heap.size, 0, none⟩) (Below.heap_setCell _ _ _ _ (show w.heap.size ≠ b4 by omega))).trans a0', (World.cell?_of_block (a := ⟨w.heap.size, 1, none⟩) (Below.heap_setCell _ _ _ _ (show w.heap.size ≠ b4 by omega))).trans a1', R7.far (p := ⟨b4, 1, none⟩) (show w.heap.size + 1 ≠ b4 by omega) _, O7.set 1 _, (flatStep.far (i := 1) (u := .slice A7 (downL s xs xs.length j).length c7) o7 O7 (by decide)).mono (Nat.le_refl _) (by simp [World.setCell])⟩, by first | (simp [intOf]; done) | (simp [intOf]; omega)⟩
          | zero =>
            have e0 := O.cell (i := 0) rfl; have e1 := O.cell (i := 1) rfl
            have f0 := R.free 0; have f1 := R.free 1; have q0 := R.cell (i := 0) rfl; have q1 := R.cell (i := 1) rfl
            rw [downL_end] at e1 ho O
            go_wp2_with fail
            have RR := (R.set 0 (.int .i64 sm)).set 1 (.slice A1 (revL s xs xs.length).length c1)
            refine bodyPost_ret (v := .tuple #[.agg #[.int .i64 sm, .slice A1 (revL s xs xs.length).length c1], .bool true]) (by simp [results, Try.results21, go_sem, RR.cell (i := 0) rfl, RR.cell (i := 1) rfl]) rfl ?_
            rw [revT_good HO.out HG.out, HSM.out]
            exact ⟨A1, c1, rfl, (ho.same (by (with_reducible repeat' first | exact Same.refl _ _ _ | assumption | (refine Same.setCell ?_ (by first | omega | (simp; omega) | (simp; done) | (dsimp only; omega)) _) | (refine Same.alloc ?_ (by first | omega | (simp; omega) | (simp; done) | (dsimp only; omega)) _) | (refine Same.drewN ?_ _) | (refine Same.drew ?_)))).mono (by first | omega | (simp; omega) | (simp; done) | (dsimp only; omega)) (by first | omega | (simp; omega) | (simp; done) | (dsimp only; omega)), by (with_reducible repeat' first | exact Below.refl _ _ | assumption | (refine Below.setCell ?_ (by first | omega | (simp; omega) | (simp; done) | (dsimp only; omega)) _) | (refine Below.alloc ?_ (by first | omega | (simp; omega) | (simp; done) | (dsimp only; omega)) _) | (refine below_drewN ?_ _) | (refine Below.drew ?_) | (refine Below.trans ?_ (hb.mono (by first | omega | (simp; omega) | (simp; done) | (dsimp only; omega)))))⟩
end Go.Proofs.Ytnnjilkjjdiblaa
