/-
  Where a rule fits, in the reference.
-/
import Derived.Test.YtnanlbglgflecaaFitM
import Derived.Test.YtnanlbglgflecaaTyp2
import Derived.Deep.Cut
import Derived.Deep.DeepCutAuto
namespace Go.Proofs.Ytnanlbglgflecaa
set_option maxRecDepth 100000
open Go.RowKit

/-- The rests fit just if the wholes do. -/
def FitRel (xs zs : List Step) (j : Nat) (W : World) (i : Value) (wr : World) : Prop :=
  ∃ k : Nat, k ≤ xs.length ∧ i = .int .i64 k ∧ Below W.heap.size W wr ∧ stepsFit (xs.drop k) (zs.drop (j + k)) = stepsFit xs (zs.drop j)
theorem place_cases (x2 : Int) (j n len : Nat) (h0 : 0 ≤ x2) (h2 : x2 ≤ 2) : (x2 = 0 ∧ placeBad x2 j n len = false) ∨ (x2 = 1 ∧ j = 0 ∧ placeBad x2 j n len = false) ∨ (x2 = 1 ∧ j ≠ 0 ∧ placeBad x2 j n len = true) ∨ (x2 = 2 ∧ j + n = len ∧ placeBad x2 j n len = false) ∨ (x2 = 2 ∧ j + n ≠ len ∧ placeBad x2 j n len = true) := by
  rcases (by omega : x2 = 0 ∨ x2 = 1 ∨ x2 = 2) with rfl | rfl | rfl
  · exact .inl ⟨rfl, by simp [placeBad]⟩
  · by_cases hj : j = 0
    · exact .inr (.inl ⟨rfl, hj, by simp [placeBad, hj]⟩)
    · exact .inr (.inr (.inl ⟨rfl, hj, by simp [placeBad, hj]⟩))
  · by_cases hj : j + n = len
    · exact .inr (.inr (.inr (.inl ⟨rfl, hj, by simp [placeBad, hj]⟩)))
    · exact .inr (.inr (.inr (.inr ⟨rfl, hj, by simp [placeBad, hj]⟩)))
theorem sex_cases (x1 sx : Int) : (x1 = 0 ∧ sexBad x1 sx = false) ∨ (x1 ≠ 0 ∧ x1 = sx ∧ sexBad x1 sx = false) ∨ (x1 ≠ 0 ∧ x1 ≠ sx ∧ sexBad x1 sx = true) := by
  by_cases h1 : x1 = 0
  · exact .inl ⟨h1, by simp [sexBad, h1]⟩
  · by_cases h2 : x1 = sx
    · exact .inr (.inl ⟨h1, h2, by simp [sexBad, h2]⟩)
    · exact .inr (.inr ⟨h1, h2, by simp [sexBad, h1, h2]⟩)
theorem fit_cases (s x : Step) : (x.kind ≠ s.kind ∧ fitStep s x = false) ∨ (x.kind = s.kind ∧ s.age = 0 ∧ fitStep s x = true) ∨ (x.kind = s.kind ∧ s.age ≠ 0 ∧ s.age = x.age ∧ fitStep s x = true) ∨ (x.kind = s.kind ∧ s.age ≠ 0 ∧ s.age ≠ x.age ∧ fitStep s x = false) := by
  by_cases h1 : x.kind = s.kind
  · by_cases h2 : s.age = 0
    · exact .inr (.inl ⟨h1, h2, fitStep_any h1 h2⟩)
    · by_cases h3 : s.age = x.age
      · exact .inr (.inr (.inl ⟨h1, h2, h3, fitStep_same h1 h3⟩))
      · exact .inr (.inr (.inr ⟨h1, h2, h3, fitStep_age h2 h3⟩))
  · exact .inl ⟨h1, fitStep_kind h1⟩
theorem drop_at {xs : List Step} {k : Nat} {x : Step} (h : xs[k]? = some x) : xs.drop k = x :: xs.drop (k + 1) := by
  rw [List.drop_eq_getElem_cons (List.getElem?_eq_some_iff.1 h).1, (List.getElem?_eq_some_iff.1 h).2]

set_option maxHeartbeats 8000000 in
theorem l4Fits_any (x0 : ByteArray) (x1 x2 : Int) (A B : Option Addr) (c d lo hi : Nat) (xs ys : List Step) (s : Int) (C : Option Addr) (e lo' hi' : Nat) (zs : List Step) (i : Int) (w : World)
    (h : EStep.AS w lo hi A xs) (h2 : EStep.AS w lo' hi' C zs) (hh : hi ≤ w.heap.size) (hh' : hi' ≤ w.heap.size) (hi0 : -9223372036854775808 ≤ i ∧ i ≤ 9223372036854775807) (hx2 : 0 ≤ x2 ∧ x2 ≤ 2) (hl1 : xs.length ≤ 4) (hok : typeOk ⟨s, zs⟩ = true) :
    Calls Try.prog 183 #[.agg #[.string x0, .int .i64 x1, .int .i64 x2, .slice A xs.length c, .slice B ys.length d], .agg #[.int .i64 s, .slice C zs.length e], .int .i64 i] w fun e' w' => e' = .returned (.bool (fitsM ⟨x0, x1, x2, xs, ys⟩ ⟨s, zs⟩ i)) ∧ Below w.heap.size w w' := by
  have hz8 := typeOk_len hok
  simp only at hz8
  have HO := Lib.hid hok; clear hok
  by_cases hr : 0 ≤ i ∧ i + xs.length ≤ zs.length
  · obtain ⟨j, rfl⟩ := Int.eq_ofNat_of_zero_le hr.1
    have hjn : j + xs.length ≤ zs.length := by omega
    rw [fitsM_in (r := ⟨x0, x1, x2, xs, ys⟩) (t := ⟨s, zs⟩) hjn]
    clear hr hi0
    generalize hR : fitsIn ⟨x0, x1, x2, xs, ys⟩ ⟨s, zs⟩ j = R
    have HR := Lib.hid hR; clear hR
    have i0 : ¬ (j : Int) < 0 := by omega
    have i1 : ¬ (zs.length : Int) - (xs.length : Int) < (j : Int) := by omega
    go_enter Try.func183, Try.ntmps183
    go_upto_region 4 with fail
    generalize hW : (w.alloc (.cells #[.string x0, .int .i64 x1, .int .i64 x2, .slice A xs.length c, .slice B ys.length d] 51)).alloc (.cells #[.int .i64 s, .slice C zs.length e] 29) = W
    have a1 : W.cell? ⟨w.heap.size, 1, none⟩ = some (.int .i64 x1) := by subst hW; simp [go_sem]
    have a2 : W.cell? ⟨w.heap.size, 2, none⟩ = some (.int .i64 x2) := by subst hW; simp [go_sem]
    have a3 : W.cell? ⟨w.heap.size, 3, none⟩ = some (.slice A xs.length c) := by subst hW; simp [go_sem]
    have b0 : W.cell? ⟨w.heap.size + 1, 0, none⟩ = some (.int .i64 s) := by subst hW; simp [go_sem]
    have b1 : W.cell? ⟨w.heap.size + 1, 1, none⟩ = some (.slice C zs.length e) := by subst hW; simp [go_sem]
    have hb : Below w.heap.size w W := by subst hW; (with_reducible repeat' first | exact Below.refl _ _ | assumption | (refine Below.setCell ?_ (by first | omega | (simp; omega) | (simp; done) | (dsimp only; omega)) _) | (refine Below.alloc ?_ (by first | omega | (simp; omega) | (simp; done) | (dsimp only; omega)) _) | (refine below_drewN ?_ _) | (refine Below.drew ?_))
    have z0 : w.heap.size + 1 + 1 ≤ W.heap.size := by subst hW; simp
    clear hW
    replace h := h.same (Same.of_below hb hh); replace h2 := h2.same (Same.of_below hb hh')
    have lw : w.heap.size < W.heap.size := by omega
    have lw1 : w.heap.size + 1 < W.heap.size := by omega
--@mark
    go_cut [46] (fun v wx => v = .bool (placeBad x2 j xs.length zs.length) ∧ W = wx)
    case first =>
      rcases place_cases x2 j xs.length zs.length hx2.1 hx2.2 with ⟨rfl, hp⟩ | ⟨rfl, hj, hp⟩ | ⟨rfl, hj, hp⟩ | ⟨rfl, hj, hp⟩ | ⟨rfl, hj, hp⟩
      · have HP := Lib.hid hp; clear hp
        go_wp2_with fail
        go_meet
        exact ⟨by rw [HP.out], rfl⟩
      · have HP := Lib.hid hp; clear hp
        have n1 : ((j : Int) != 0) = false := by simp [hj]
        clear hj
        go_wp2_with fail
        go_meet
        exact ⟨by rw [HP.out], rfl⟩
      · have HP := Lib.hid hp; clear hp
        have n1 : ((j : Int) != 0) = true := by simp [hj]
        clear hj
        go_wp2_with fail
        go_meet
        exact ⟨by rw [HP.out], rfl⟩
      · have HP := Lib.hid hp; clear hp
        have n1 : ((j : Int) + (xs.length : Int) != (zs.length : Int)) = false := by simp; omega
        clear hj
        go_wp2_with fail
        go_meet
        exact ⟨by rw [HP.out], rfl⟩
      · have HP := Lib.hid hp; clear hp
        have n1 : ((j : Int) + (xs.length : Int) != (zs.length : Int)) = true := by simp; omega
        clear hj
        go_wp2_with fail
        go_meet
        exact ⟨by rw [HP.out], rfl⟩
    case rest =>
      obtain ⟨rfl, rfl⟩ := hcut
      cases hp : placeBad x2 j xs.length zs.length with
      | true =>
        have HP := Lib.hid hp; clear hp
        have HN := Lib.hid (show R = false by rw [← HR.out]; exact fitsIn_place HP.out)
        go_wp2
        go_ret
        exact ⟨ret_bool (by rw [HN.out]), hb⟩
      | false =>
        have HP := Lib.hid hp; clear hp
        go_wp2_with fail
        refine (l3Ego_any s C e lo' hi' zs _ h2 (by first | omega | (simp; omega) | (simp; done) | (dsimp only; omega))).mono ?_
        rintro e' W2 ⟨rfl, hb2⟩
        (replace a1 := (hb2.cell (by first | omega | (simp; omega) | (simp; done) | (dsimp only; omega))).trans a1; replace a2 := (hb2.cell (by first | omega | (simp; omega) | (simp; done) | (dsimp only; omega))).trans a2; replace a3 := (hb2.cell (by first | omega | (simp; omega) | (simp; done) | (dsimp only; omega))).trans a3; replace b0 := (hb2.cell (by first | omega | (simp; omega) | (simp; done) | (dsimp only; omega))).trans b0; replace b1 := (hb2.cell (by first | omega | (simp; omega) | (simp; done) | (dsimp only; omega))).trans b1; replace h := h.same (Same.of_below hb2 (by first | omega | (simp; omega) | (simp; done) | (dsimp only; omega))); replace h2 := h2.same (Same.of_below hb2 (by first | omega | (simp; omega) | (simp; done) | (dsimp only; omega))); replace hb := hb.trans (hb2.mono (by first | omega | (simp; omega) | (simp; done) | (dsimp only; omega))); replace z0 := Nat.le_trans z0 hb2.size; replace lw := Nat.le_trans lw hb2.size; replace lw1 := Nat.le_trans lw1 hb2.size; have zhb2 := hb2.size; clear hb2)
        by_cases hj0 : j = 0
        · have HE0 := Lib.hid (show egoM ⟨s, zs⟩ = sexBM ⟨s, zs⟩ j by rw [sexBM, if_pos hj0])
          have hj1 : ¬ (0 : Int) < (j : Int) := by omega
          clear hj0
          rw [HE0.out]
          generalize hsx : sexBM ⟨s, zs⟩ j = sx
          have HX := Lib.hid hsx; clear hsx
          rcases sex_cases x1 sx with ⟨t1, t2⟩ | ⟨t1, t3, t2⟩ | ⟨t1, t3, t2⟩
          · have HSB := Lib.hid (show sexBad x1 (sexBM ⟨s, zs⟩ j) = false by rw [HX.out]; exact t2)
            have n1 : (x1 != 0) = false := by simp [t1]
            clear t1 t2
            go_wp2
            go_loopw [71] (fun i wr => FitRel xs zs j W2 i wr) (fun i _ => xs.length - (intOf i).toNat)
            case atStart => exact ⟨0, Nat.zero_le _, rfl, Below.refl _ _, rfl⟩
            case round =>
              obtain ⟨k, hk, rfl, hbr, he⟩ := hrel
              have HE := Lib.hid he; clear he
              have zr := hbr.size
              have l1 : w.heap.size < wr.heap.size := by omega
              have l2 : w.heap.size + 1 < wr.heap.size := by omega
              have b1 := (hbr.cell (p := ⟨w.heap.size + 1, 1, none⟩) (by first | omega | (simp; omega) | (simp; done) | (dsimp only; omega))).trans b1
              by_cases hlt : k < xs.length
              · obtain ⟨g1, o1, ⟨sk, sa⟩, rfl, _, m1, _, hx1, p0, p1⟩ := AStep.at_ (h.same (Same.of_below hbr (by first | omega | (simp; omega) | (simp; done) | (dsimp only; omega)))) hlt
                obtain ⟨g2, o2, ⟨zk, za⟩, rfl, _, m2, _, hx2', r0, r1⟩ := AStep.at_ (h2.same (Same.of_below hbr (by first | omega | (simp; omega) | (simp; done) | (dsimp only; omega)))) (show j + k < zs.length by omega)
                have HD1 := Lib.hid (drop_at hx1); have HD2 := Lib.hid (drop_at hx2'); clear hx1 hx2'
                simp only at p0 p1 r0 r1
                have lg1 : g1 < wr.heap.size := by omega
                have lg2 : g2 < wr.heap.size := by omega
                have q1 : (0 : Int) ≤ (k : Int) ∧ (k : Int) < (xs.length : Int) := by omega
                have q2 : (0 : Int) ≤ (j : Int) + (k : Int) ∧ (j : Int) + (k : Int) < (zs.length : Int) := by omega
                have q3 : ((j : Int) + (k : Int)).toNat = j + k := by omega
                rcases fit_cases ⟨sk, sa⟩ ⟨zk, za⟩ with ⟨c1, c4⟩ | ⟨c1, c2, c4⟩ | ⟨c1, c2, c3, c4⟩ | ⟨c1, c2, c3, c4⟩
                all_goals
                  simp only at c1
                  have HC := Lib.hid c4; clear c4
                · have n1 : (sk != zk) = true := by simp; first | exact c1 | exact fun e => c1 e.symm
                  clear c1
                  have HN := Lib.hid (show R = false by rw [← HR.out]; exact fitsIn_steps (fit_no HE.out HD1.out HD2.out HC.out))
                  go_wp2
                  go_ret
                  exact ⟨ret_bool (by rw [HN.out]), by (with_reducible repeat' first | exact Below.refl _ _ | assumption | (refine Below.setCell ?_ (by first | omega | (simp; omega) | (simp; done) | (dsimp only; omega)) _) | (refine Below.alloc ?_ (by first | omega | (simp; omega) | (simp; done) | (dsimp only; omega)) _) | (refine below_drewN ?_ _) | (refine Below.drew ?_) | (refine Below.trans ?_ (hbr.mono (by first | omega | (simp; omega) | (simp; done) | (dsimp only; omega)))) | (refine Below.trans ?_ (hb.mono (by first | omega | (simp; omega) | (simp; done) | (dsimp only; omega)))))⟩
                · simp only at c2
                  have n1 : (sk != zk) = false := by simp [c1]
                  have n2 : (sa != 0) = false := by simp [c2]
                  clear c1 c2
                  go_wp2
                  exact ⟨⟨k + 1, by omega, by go_num, by (with_reducible repeat' first | exact Below.refl _ _ | assumption | (refine Below.setCell ?_ (by first | omega | (simp; omega) | (simp; done) | (dsimp only; omega)) _) | (refine Below.alloc ?_ (by first | omega | (simp; omega) | (simp; done) | (dsimp only; omega)) _) | (refine below_drewN ?_ _) | (refine Below.drew ?_) | (refine Below.trans ?_ (hbr.mono (by first | omega | (simp; omega) | (simp; done) | (dsimp only; omega))))), fit_yes HE.out HD1.out HD2.out HC.out⟩, by simp [intOf]; omega⟩
                · simp only at c2 c3
                  have n1 : (sk != zk) = false := by simp [c1]
                  have n2 : (sa != 0) = true := by simp [c2]
                  have n3 : (sa != za) = false := by simp [c3]
                  clear c1 c2 c3
                  go_wp2
                  exact ⟨⟨k + 1, by omega, by go_num, by (with_reducible repeat' first | exact Below.refl _ _ | assumption | (refine Below.setCell ?_ (by first | omega | (simp; omega) | (simp; done) | (dsimp only; omega)) _) | (refine Below.alloc ?_ (by first | omega | (simp; omega) | (simp; done) | (dsimp only; omega)) _) | (refine below_drewN ?_ _) | (refine Below.drew ?_) | (refine Below.trans ?_ (hbr.mono (by first | omega | (simp; omega) | (simp; done) | (dsimp only; omega))))), fit_yes HE.out HD1.out HD2.out HC.out⟩, by simp [intOf]; omega⟩
                · simp only at c2 c3
                  have n1 : (sk != zk) = false := by simp [c1]
                  have n2 : (sa != 0) = true := by simp [c2]
                  have n3 : (sa != za) = true := by simp [c3]
                  clear c1 c2 c3
                  have HN := Lib.hid (show R = false by rw [← HR.out]; exact fitsIn_steps (fit_no HE.out HD1.out HD2.out HC.out))
                  go_wp2
                  go_ret
                  exact ⟨ret_bool (by rw [HN.out]), by (with_reducible repeat' first | exact Below.refl _ _ | assumption | (refine Below.setCell ?_ (by first | omega | (simp; omega) | (simp; done) | (dsimp only; omega)) _) | (refine Below.alloc ?_ (by first | omega | (simp; omega) | (simp; done) | (dsimp only; omega)) _) | (refine below_drewN ?_ _) | (refine Below.drew ?_) | (refine Below.trans ?_ (hbr.mono (by first | omega | (simp; omega) | (simp; done) | (dsimp only; omega)))) | (refine Below.trans ?_ (hb.mono (by first | omega | (simp; omega) | (simp; done) | (dsimp only; omega)))))⟩
              · obtain rfl : k = xs.length := by omega
                have HFS := Lib.hid (fit_end HE.out (Nat.le_refl _))
                have HN := Lib.hid (show R = true by rw [← HR.out]; exact fitsIn_yes HP.out HSB.out HFS.out)
                go_wp2
                go_ret
                exact ⟨ret_bool (by rw [HN.out]), by (with_reducible repeat' first | exact Below.refl _ _ | assumption | (refine Below.setCell ?_ (by first | omega | (simp; omega) | (simp; done) | (dsimp only; omega)) _) | (refine Below.alloc ?_ (by first | omega | (simp; omega) | (simp; done) | (dsimp only; omega)) _) | (refine below_drewN ?_ _) | (refine Below.drew ?_) | (refine Below.trans ?_ (hbr.mono (by first | omega | (simp; omega) | (simp; done) | (dsimp only; omega)))) | (refine Below.trans ?_ (hb.mono (by first | omega | (simp; omega) | (simp; done) | (dsimp only; omega)))))⟩
          · have HSB := Lib.hid (show sexBad x1 (sexBM ⟨s, zs⟩ j) = false by rw [HX.out]; exact t2)
            have n1 : (x1 != 0) = true := by simp [t1]
            have n2 : (x1 != sx) = false := by simp [t3]
            clear t1 t2 t3
            go_wp2
            go_loopw [71] (fun i wr => FitRel xs zs j W2 i wr) (fun i _ => xs.length - (intOf i).toNat)
            case atStart => exact ⟨0, Nat.zero_le _, rfl, Below.refl _ _, rfl⟩
            case round =>
              obtain ⟨k, hk, rfl, hbr, he⟩ := hrel
              have HE := Lib.hid he; clear he
              have zr := hbr.size
              have l1 : w.heap.size < wr.heap.size := by omega
              have l2 : w.heap.size + 1 < wr.heap.size := by omega
              have b1 := (hbr.cell (p := ⟨w.heap.size + 1, 1, none⟩) (by first | omega | (simp; omega) | (simp; done) | (dsimp only; omega))).trans b1
              by_cases hlt : k < xs.length
              · obtain ⟨g1, o1, ⟨sk, sa⟩, rfl, _, m1, _, hx1, p0, p1⟩ := AStep.at_ (h.same (Same.of_below hbr (by first | omega | (simp; omega) | (simp; done) | (dsimp only; omega)))) hlt
                obtain ⟨g2, o2, ⟨zk, za⟩, rfl, _, m2, _, hx2', r0, r1⟩ := AStep.at_ (h2.same (Same.of_below hbr (by first | omega | (simp; omega) | (simp; done) | (dsimp only; omega)))) (show j + k < zs.length by omega)
                have HD1 := Lib.hid (drop_at hx1); have HD2 := Lib.hid (drop_at hx2'); clear hx1 hx2'
                simp only at p0 p1 r0 r1
                have lg1 : g1 < wr.heap.size := by omega
                have lg2 : g2 < wr.heap.size := by omega
                have q1 : (0 : Int) ≤ (k : Int) ∧ (k : Int) < (xs.length : Int) := by omega
                have q2 : (0 : Int) ≤ (j : Int) + (k : Int) ∧ (j : Int) + (k : Int) < (zs.length : Int) := by omega
                have q3 : ((j : Int) + (k : Int)).toNat = j + k := by omega
                rcases fit_cases ⟨sk, sa⟩ ⟨zk, za⟩ with ⟨c1, c4⟩ | ⟨c1, c2, c4⟩ | ⟨c1, c2, c3, c4⟩ | ⟨c1, c2, c3, c4⟩
                all_goals
                  simp only at c1
                  have HC := Lib.hid c4; clear c4
                · have n1 : (sk != zk) = true := by simp; first | exact c1 | exact fun e => c1 e.symm
                  clear c1
                  have HN := Lib.hid (show R = false by rw [← HR.out]; exact fitsIn_steps (fit_no HE.out HD1.out HD2.out HC.out))
                  go_wp2
                  go_ret
                  exact ⟨ret_bool (by rw [HN.out]), by (with_reducible repeat' first | exact Below.refl _ _ | assumption | (refine Below.setCell ?_ (by first | omega | (simp; omega) | (simp; done) | (dsimp only; omega)) _) | (refine Below.alloc ?_ (by first | omega | (simp; omega) | (simp; done) | (dsimp only; omega)) _) | (refine below_drewN ?_ _) | (refine Below.drew ?_) | (refine Below.trans ?_ (hbr.mono (by first | omega | (simp; omega) | (simp; done) | (dsimp only; omega)))) | (refine Below.trans ?_ (hb.mono (by first | omega | (simp; omega) | (simp; done) | (dsimp only; omega)))))⟩
                · simp only at c2
                  have n1 : (sk != zk) = false := by simp [c1]
                  have n2 : (sa != 0) = false := by simp [c2]
                  clear c1 c2
                  go_wp2
                  exact ⟨⟨k + 1, by omega, by go_num, by (with_reducible repeat' first | exact Below.refl _ _ | assumption | (refine Below.setCell ?_ (by first | omega | (simp; omega) | (simp; done) | (dsimp only; omega)) _) | (refine Below.alloc ?_ (by first | omega | (simp; omega) | (simp; done) | (dsimp only; omega)) _) | (refine below_drewN ?_ _) | (refine Below.drew ?_) | (refine Below.trans ?_ (hbr.mono (by first | omega | (simp; omega) | (simp; done) | (dsimp only; omega))))), fit_yes HE.out HD1.out HD2.out HC.out⟩, by simp [intOf]; omega⟩
                · simp only at c2 c3
                  have n1 : (sk != zk) = false := by simp [c1]
                  have n2 : (sa != 0) = true := by simp [c2]
                  have n3 : (sa != za) = false := by simp [c3]
                  clear c1 c2 c3
                  go_wp2
                  exact ⟨⟨k + 1, by omega, by go_num, by (with_reducible repeat' first | exact Below.refl _ _ | assumption | (refine Below.setCell ?_ (by first | omega | (simp; omega) | (simp; done) | (dsimp only; omega)) _) | (refine Below.alloc ?_ (by first | omega | (simp; omega) | (simp; done) | (dsimp only; omega)) _) | (refine below_drewN ?_ _) | (refine Below.drew ?_) | (refine Below.trans ?_ (hbr.mono (by first | omega | (simp; omega) | (simp; done) | (dsimp only; omega))))), fit_yes HE.out HD1.out HD2.out HC.out⟩, by simp [intOf]; omega⟩
                · simp only at c2 c3
                  have n1 : (sk != zk) = false := by simp [c1]
                  have n2 : (sa != 0) = true := by simp [c2]
                  have n3 : (sa != za) = true := by simp [c3]
                  clear c1 c2 c3
                  have HN := Lib.hid (show R = false by rw [← HR.out]; exact fitsIn_steps (fit_no HE.out HD1.out HD2.out HC.out))
                  go_wp2
                  go_ret
                  exact ⟨ret_bool (by rw [HN.out]), by (with_reducible repeat' first | exact Below.refl _ _ | assumption | (refine Below.setCell ?_ (by first | omega | (simp; omega) | (simp; done) | (dsimp only; omega)) _) | (refine Below.alloc ?_ (by first | omega | (simp; omega) | (simp; done) | (dsimp only; omega)) _) | (refine below_drewN ?_ _) | (refine Below.drew ?_) | (refine Below.trans ?_ (hbr.mono (by first | omega | (simp; omega) | (simp; done) | (dsimp only; omega)))) | (refine Below.trans ?_ (hb.mono (by first | omega | (simp; omega) | (simp; done) | (dsimp only; omega)))))⟩
              · obtain rfl : k = xs.length := by omega
                have HFS := Lib.hid (fit_end HE.out (Nat.le_refl _))
                have HN := Lib.hid (show R = true by rw [← HR.out]; exact fitsIn_yes HP.out HSB.out HFS.out)
                go_wp2
                go_ret
                exact ⟨ret_bool (by rw [HN.out]), by (with_reducible repeat' first | exact Below.refl _ _ | assumption | (refine Below.setCell ?_ (by first | omega | (simp; omega) | (simp; done) | (dsimp only; omega)) _) | (refine Below.alloc ?_ (by first | omega | (simp; omega) | (simp; done) | (dsimp only; omega)) _) | (refine below_drewN ?_ _) | (refine Below.drew ?_) | (refine Below.trans ?_ (hbr.mono (by first | omega | (simp; omega) | (simp; done) | (dsimp only; omega)))) | (refine Below.trans ?_ (hb.mono (by first | omega | (simp; omega) | (simp; done) | (dsimp only; omega)))))⟩
          · have HSB := Lib.hid (show sexBad x1 (sexBM ⟨s, zs⟩ j) = true by rw [HX.out]; exact t2)
            have HN := Lib.hid (show R = false by rw [← HR.out]; exact fitsIn_sex HSB.out)
            have n1 : (x1 != 0) = true := by simp [t1]
            have n2 : (x1 != sx) = true := by simp [t3]
            clear t1 t2 t3
            go_wp2
            go_ret
            exact ⟨ret_bool (by rw [HN.out]), hb⟩
        · have hj1 : (0 : Int) < (j : Int) := by omega
          obtain ⟨g0, o0, ⟨zk0, za0⟩, rfl, _, mg, _, hxz, u0, u1⟩ := AStep.at_ h2 (show j - 1 < zs.length by omega)
          have hkz := typeOk_at HO.out hxz
          have hsb := sexBM_pos (t := ⟨s, zs⟩) (show 0 < j by omega) hxz
          simp only at hkz u0 u1 hsb
          obtain ⟨kk1, kk2⟩ := hkz
          have e1 : ((j : Int) - 1) = ((j - 1 : Nat) : Int) := by omega
          have E1 := Lib.hid e1; clear e1 hxz hj0
          have t9 : ((j : Int) - 1).toNat = j - 1 := by omega
          have t8 : (0 : Int) ≤ (j : Int) - 1 ∧ (j : Int) - 1 < (zs.length : Int) := by omega
          have lg0 : g0 < W2.heap.size := by omega
          generalize hsx : sexBM ⟨s, zs⟩ j = sx at hsb
          have HX := Lib.hid hsx; clear hsx
          have HZS := Lib.hid hsb.symm; clear hsb
          rcases sex_cases x1 sx with ⟨t1, t2⟩ | ⟨t1, t3, t2⟩ | ⟨t1, t3, t2⟩
          · have HSB := Lib.hid (show sexBad x1 (sexBM ⟨s, zs⟩ j) = false by rw [HX.out]; exact t2)
            have n1 : (x1 != 0) = false := by simp [t1]
            clear t1 t2
            go_wp2_with (go_at_call 178; (with_reducible refine (l3Sex_any zk0 _ kk1 kk2).mono ?_); rintro e' w3 ⟨rfl, rfl⟩; rw [HZS.out])
            go_loopw [71] (fun i wr => FitRel xs zs j W2 i wr) (fun i _ => xs.length - (intOf i).toNat)
            case atStart => exact ⟨0, Nat.zero_le _, rfl, Below.refl _ _, rfl⟩
            case round =>
              obtain ⟨k, hk, rfl, hbr, he⟩ := hrel
              have HE := Lib.hid he; clear he
              have zr := hbr.size
              have l1 : w.heap.size < wr.heap.size := by omega
              have l2 : w.heap.size + 1 < wr.heap.size := by omega
              have b1 := (hbr.cell (p := ⟨w.heap.size + 1, 1, none⟩) (by first | omega | (simp; omega) | (simp; done) | (dsimp only; omega))).trans b1
              by_cases hlt : k < xs.length
              · obtain ⟨g1, o1, ⟨sk, sa⟩, rfl, _, m1, _, hx1, p0, p1⟩ := AStep.at_ (h.same (Same.of_below hbr (by first | omega | (simp; omega) | (simp; done) | (dsimp only; omega)))) hlt
                obtain ⟨g2, o2, ⟨zk, za⟩, hA, _, m2, _, hx2', r0, r1⟩ := AStep.at_ (h2.same (Same.of_below hbr (by first | omega | (simp; omega) | (simp; done) | (dsimp only; omega)))) (show j + k < zs.length by omega)
                injection hA with hA; injection hA with hA1 hA2 _; subst hA1; subst hA2
                have HD1 := Lib.hid (drop_at hx1); have HD2 := Lib.hid (drop_at hx2'); clear hx1 hx2'
                simp only at p0 p1 r0 r1
                have lg1 : g1 < wr.heap.size := by omega
                have lg2 : g0 < wr.heap.size := by omega
                have q1 : (0 : Int) ≤ (k : Int) ∧ (k : Int) < (xs.length : Int) := by omega
                have q2 : (0 : Int) ≤ (j : Int) + (k : Int) ∧ (j : Int) + (k : Int) < (zs.length : Int) := by omega
                have q3 : ((j : Int) + (k : Int)).toNat = j + k := by omega
                rcases fit_cases ⟨sk, sa⟩ ⟨zk, za⟩ with ⟨c1, c4⟩ | ⟨c1, c2, c4⟩ | ⟨c1, c2, c3, c4⟩ | ⟨c1, c2, c3, c4⟩
                all_goals
                  simp only at c1
                  have HC := Lib.hid c4; clear c4
                · have n1 : (sk != zk) = true := by simp; first | exact c1 | exact fun e => c1 e.symm
                  clear c1
                  have HN := Lib.hid (show R = false by rw [← HR.out]; exact fitsIn_steps (fit_no HE.out HD1.out HD2.out HC.out))
                  go_wp2
                  go_ret
                  exact ⟨ret_bool (by rw [HN.out]), by (with_reducible repeat' first | exact Below.refl _ _ | assumption | (refine Below.setCell ?_ (by first | omega | (simp; omega) | (simp; done) | (dsimp only; omega)) _) | (refine Below.alloc ?_ (by first | omega | (simp; omega) | (simp; done) | (dsimp only; omega)) _) | (refine below_drewN ?_ _) | (refine Below.drew ?_) | (refine Below.trans ?_ (hbr.mono (by first | omega | (simp; omega) | (simp; done) | (dsimp only; omega)))) | (refine Below.trans ?_ (hb.mono (by first | omega | (simp; omega) | (simp; done) | (dsimp only; omega)))))⟩
                · simp only at c2
                  have n1 : (sk != zk) = false := by simp [c1]
                  have n2 : (sa != 0) = false := by simp [c2]
                  clear c1 c2
                  go_wp2
                  exact ⟨⟨k + 1, by omega, by go_num, by (with_reducible repeat' first | exact Below.refl _ _ | assumption | (refine Below.setCell ?_ (by first | omega | (simp; omega) | (simp; done) | (dsimp only; omega)) _) | (refine Below.alloc ?_ (by first | omega | (simp; omega) | (simp; done) | (dsimp only; omega)) _) | (refine below_drewN ?_ _) | (refine Below.drew ?_) | (refine Below.trans ?_ (hbr.mono (by first | omega | (simp; omega) | (simp; done) | (dsimp only; omega))))), fit_yes HE.out HD1.out HD2.out HC.out⟩, by simp [intOf]; omega⟩
                · simp only at c2 c3
                  have n1 : (sk != zk) = false := by simp [c1]
                  have n2 : (sa != 0) = true := by simp [c2]
                  have n3 : (sa != za) = false := by simp [c3]
                  clear c1 c2 c3
                  go_wp2
                  exact ⟨⟨k + 1, by omega, by go_num, by (with_reducible repeat' first | exact Below.refl _ _ | assumption | (refine Below.setCell ?_ (by first | omega | (simp; omega) | (simp; done) | (dsimp only; omega)) _) | (refine Below.alloc ?_ (by first | omega | (simp; omega) | (simp; done) | (dsimp only; omega)) _) | (refine below_drewN ?_ _) | (refine Below.drew ?_) | (refine Below.trans ?_ (hbr.mono (by first | omega | (simp; omega) | (simp; done) | (dsimp only; omega))))), fit_yes HE.out HD1.out HD2.out HC.out⟩, by simp [intOf]; omega⟩
                · simp only at c2 c3
                  have n1 : (sk != zk) = false := by simp [c1]
                  have n2 : (sa != 0) = true := by simp [c2]
                  have n3 : (sa != za) = true := by simp [c3]
                  clear c1 c2 c3
                  have HN := Lib.hid (show R = false by rw [← HR.out]; exact fitsIn_steps (fit_no HE.out HD1.out HD2.out HC.out))
                  go_wp2
                  go_ret
                  exact ⟨ret_bool (by rw [HN.out]), by (with_reducible repeat' first | exact Below.refl _ _ | assumption | (refine Below.setCell ?_ (by first | omega | (simp; omega) | (simp; done) | (dsimp only; omega)) _) | (refine Below.alloc ?_ (by first | omega | (simp; omega) | (simp; done) | (dsimp only; omega)) _) | (refine below_drewN ?_ _) | (refine Below.drew ?_) | (refine Below.trans ?_ (hbr.mono (by first | omega | (simp; omega) | (simp; done) | (dsimp only; omega)))) | (refine Below.trans ?_ (hb.mono (by first | omega | (simp; omega) | (simp; done) | (dsimp only; omega)))))⟩
              · obtain rfl : k = xs.length := by omega
                have HFS := Lib.hid (fit_end HE.out (Nat.le_refl _))
                have HN := Lib.hid (show R = true by rw [← HR.out]; exact fitsIn_yes HP.out HSB.out HFS.out)
                go_wp2
                go_ret
                exact ⟨ret_bool (by rw [HN.out]), by (with_reducible repeat' first | exact Below.refl _ _ | assumption | (refine Below.setCell ?_ (by first | omega | (simp; omega) | (simp; done) | (dsimp only; omega)) _) | (refine Below.alloc ?_ (by first | omega | (simp; omega) | (simp; done) | (dsimp only; omega)) _) | (refine below_drewN ?_ _) | (refine Below.drew ?_) | (refine Below.trans ?_ (hbr.mono (by first | omega | (simp; omega) | (simp; done) | (dsimp only; omega)))) | (refine Below.trans ?_ (hb.mono (by first | omega | (simp; omega) | (simp; done) | (dsimp only; omega)))))⟩
          · have HSB := Lib.hid (show sexBad x1 (sexBM ⟨s, zs⟩ j) = false by rw [HX.out]; exact t2)
            have n1 : (x1 != 0) = true := by simp [t1]
            have n2 : (x1 != sx) = false := by simp [t3]
            clear t1 t2 t3
            go_wp2_with (go_at_call 178; (with_reducible refine (l3Sex_any zk0 _ kk1 kk2).mono ?_); rintro e' w3 ⟨rfl, rfl⟩; rw [HZS.out])
            go_loopw [71] (fun i wr => FitRel xs zs j W2 i wr) (fun i _ => xs.length - (intOf i).toNat)
            case atStart => exact ⟨0, Nat.zero_le _, rfl, Below.refl _ _, rfl⟩
            case round =>
              obtain ⟨k, hk, rfl, hbr, he⟩ := hrel
              have HE := Lib.hid he; clear he
              have zr := hbr.size
              have l1 : w.heap.size < wr.heap.size := by omega
              have l2 : w.heap.size + 1 < wr.heap.size := by omega
              have b1 := (hbr.cell (p := ⟨w.heap.size + 1, 1, none⟩) (by first | omega | (simp; omega) | (simp; done) | (dsimp only; omega))).trans b1
              by_cases hlt : k < xs.length
              · obtain ⟨g1, o1, ⟨sk, sa⟩, rfl, _, m1, _, hx1, p0, p1⟩ := AStep.at_ (h.same (Same.of_below hbr (by first | omega | (simp; omega) | (simp; done) | (dsimp only; omega)))) hlt
                obtain ⟨g2, o2, ⟨zk, za⟩, hA, _, m2, _, hx2', r0, r1⟩ := AStep.at_ (h2.same (Same.of_below hbr (by first | omega | (simp; omega) | (simp; done) | (dsimp only; omega)))) (show j + k < zs.length by omega)
                injection hA with hA; injection hA with hA1 hA2 _; subst hA1; subst hA2
                have HD1 := Lib.hid (drop_at hx1); have HD2 := Lib.hid (drop_at hx2'); clear hx1 hx2'
                simp only at p0 p1 r0 r1
                have lg1 : g1 < wr.heap.size := by omega
                have lg2 : g0 < wr.heap.size := by omega
                have q1 : (0 : Int) ≤ (k : Int) ∧ (k : Int) < (xs.length : Int) := by omega
                have q2 : (0 : Int) ≤ (j : Int) + (k : Int) ∧ (j : Int) + (k : Int) < (zs.length : Int) := by omega
                have q3 : ((j : Int) + (k : Int)).toNat = j + k := by omega
                rcases fit_cases ⟨sk, sa⟩ ⟨zk, za⟩ with ⟨c1, c4⟩ | ⟨c1, c2, c4⟩ | ⟨c1, c2, c3, c4⟩ | ⟨c1, c2, c3, c4⟩
                all_goals
                  simp only at c1
                  have HC := Lib.hid c4; clear c4
                · have n1 : (sk != zk) = true := by simp; first | exact c1 | exact fun e => c1 e.symm
                  clear c1
                  have HN := Lib.hid (show R = false by rw [← HR.out]; exact fitsIn_steps (fit_no HE.out HD1.out HD2.out HC.out))
                  go_wp2
                  go_ret
                  exact ⟨ret_bool (by rw [HN.out]), by (with_reducible repeat' first | exact Below.refl _ _ | assumption | (refine Below.setCell ?_ (by first | omega | (simp; omega) | (simp; done) | (dsimp only; omega)) _) | (refine Below.alloc ?_ (by first | omega | (simp; omega) | (simp; done) | (dsimp only; omega)) _) | (refine below_drewN ?_ _) | (refine Below.drew ?_) | (refine Below.trans ?_ (hbr.mono (by first | omega | (simp; omega) | (simp; done) | (dsimp only; omega)))) | (refine Below.trans ?_ (hb.mono (by first | omega | (simp; omega) | (simp; done) | (dsimp only; omega)))))⟩
                · simp only at c2
                  have n1 : (sk != zk) = false := by simp [c1]
                  have n2 : (sa != 0) = false := by simp [c2]
                  clear c1 c2
                  go_wp2
                  exact ⟨⟨k + 1, by omega, by go_num, by (with_reducible repeat' first | exact Below.refl _ _ | assumption | (refine Below.setCell ?_ (by first | omega | (simp; omega) | (simp; done) | (dsimp only; omega)) _) | (refine Below.alloc ?_ (by first | omega | (simp; omega) | (simp; done) | (dsimp only; omega)) _) | (refine below_drewN ?_ _) | (refine Below.drew ?_) | (refine Below.trans ?_ (hbr.mono (by first | omega | (simp; omega) | (simp; done) | (dsimp only; omega))))), fit_yes HE.out HD1.out HD2.out HC.out⟩, by simp [intOf]; omega⟩
                · simp only at c2 c3
                  have n1 : (sk != zk) = false := by simp [c1]
                  have n2 : (sa != 0) = true := by simp [c2]
                  have n3 : (sa != za) = false := by simp [c3]
                  clear c1 c2 c3
                  go_wp2
                  exact ⟨⟨k + 1, by omega, by go_num, by (with_reducible repeat' first | exact Below.refl _ _ | assumption | (refine Below.setCell ?_ (by first | omega | (simp; omega) | (simp; done) | (dsimp only; omega)) _) | (refine Below.alloc ?_ (by first | omega | (simp; omega) | (simp; done) | (dsimp only; omega)) _) | (refine below_drewN ?_ _) | (refine Below.drew ?_) | (refine Below.trans ?_ (hbr.mono (by first | omega | (simp; omega) | (simp; done) | (dsimp only; omega))))), fit_yes HE.out HD1.out HD2.out HC.out⟩, by simp [intOf]; omega⟩
                · simp only at c2 c3
                  have n1 : (sk != zk) = false := by simp [c1]
                  have n2 : (sa != 0) = true := by simp [c2]
                  have n3 : (sa != za) = true := by simp [c3]
                  clear c1 c2 c3
                  have HN := Lib.hid (show R = false by rw [← HR.out]; exact fitsIn_steps (fit_no HE.out HD1.out HD2.out HC.out))
                  go_wp2
                  go_ret
                  exact ⟨ret_bool (by rw [HN.out]), by (with_reducible repeat' first | exact Below.refl _ _ | assumption | (refine Below.setCell ?_ (by first | omega | (simp; omega) | (simp; done) | (dsimp only; omega)) _) | (refine Below.alloc ?_ (by first | omega | (simp; omega) | (simp; done) | (dsimp only; omega)) _) | (refine below_drewN ?_ _) | (refine Below.drew ?_) | (refine Below.trans ?_ (hbr.mono (by first | omega | (simp; omega) | (simp; done) | (dsimp only; omega)))) | (refine Below.trans ?_ (hb.mono (by first | omega | (simp; omega) | (simp; done) | (dsimp only; omega)))))⟩
              · obtain rfl : k = xs.length := by omega
                have HFS := Lib.hid (fit_end HE.out (Nat.le_refl _))
                have HN := Lib.hid (show R = true by rw [← HR.out]; exact fitsIn_yes HP.out HSB.out HFS.out)
                go_wp2
                go_ret
                exact ⟨ret_bool (by rw [HN.out]), by (with_reducible repeat' first | exact Below.refl _ _ | assumption | (refine Below.setCell ?_ (by first | omega | (simp; omega) | (simp; done) | (dsimp only; omega)) _) | (refine Below.alloc ?_ (by first | omega | (simp; omega) | (simp; done) | (dsimp only; omega)) _) | (refine below_drewN ?_ _) | (refine Below.drew ?_) | (refine Below.trans ?_ (hbr.mono (by first | omega | (simp; omega) | (simp; done) | (dsimp only; omega)))) | (refine Below.trans ?_ (hb.mono (by first | omega | (simp; omega) | (simp; done) | (dsimp only; omega)))))⟩
          · have HSB := Lib.hid (show sexBad x1 (sexBM ⟨s, zs⟩ j) = true by rw [HX.out]; exact t2)
            have HN := Lib.hid (show R = false by rw [← HR.out]; exact fitsIn_sex HSB.out)
            have n1 : (x1 != 0) = true := by simp [t1]
            have n2 : (x1 != sx) = true := by simp [t3]
            clear t1 t2 t3
            go_wp2_with (go_at_call 178; (with_reducible refine (l3Sex_any zk0 _ kk1 kk2).mono ?_); rintro e' w3 ⟨rfl, rfl⟩; rw [HZS.out])
            go_ret
            exact ⟨ret_bool (by rw [HN.out]), hb⟩
  · rw [fitsM_out hr]
    rcases (by omega : i < 0 ∨ 0 ≤ i ∧ (zs.length : Int) - xs.length < i) with i0 | ⟨i0, i1⟩
    · go_enter Try.func183, Try.ntmps183
      go_wp2
      go_ret
      exact ⟨rfl, by (with_reducible repeat' first | exact Below.refl _ _ | assumption | (refine Below.setCell ?_ (by first | omega | (simp; omega) | (simp; done) | (dsimp only; omega)) _) | (refine Below.alloc ?_ (by first | omega | (simp; omega) | (simp; done) | (dsimp only; omega)) _) | (refine below_drewN ?_ _) | (refine Below.drew ?_))⟩
    · go_enter Try.func183, Try.ntmps183
      go_wp2
      go_ret
      exact ⟨rfl, by (with_reducible repeat' first | exact Below.refl _ _ | assumption | (refine Below.setCell ?_ (by first | omega | (simp; omega) | (simp; done) | (dsimp only; omega)) _) | (refine Below.alloc ?_ (by first | omega | (simp; omega) | (simp; done) | (dsimp only; omega)) _) | (refine below_drewN ?_ _) | (refine Below.drew ?_))⟩
end Go.Proofs.Ytnanlbglgflecaa
