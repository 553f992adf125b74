/-
  Where a rule fits, in the program.
-/
import Derived.Test.YtnanlbglgflecaaFitS
import Derived.Deep.RegionHeld3
namespace Go.Proofs.Ytnanlbglgflecaa
set_option maxRecDepth 100000
open Go.RowKit

set_option maxHeartbeats 8000000 in
theorem fitsAt_any (x0 : ByteArray) (x1 x2 : Int) (A B : Option Addr) (c d lo hi : Nat) (xs ys : List Step) (s : Int) (C : Option Addr) (e lo' hi' : Nat) (zs : List Step) (i : Int) (w : World)
    (h : EStep.AS w lo hi A xs) (h2 : EStep.AS w lo' hi' C zs) (hh : hi ≤ w.heap.size) (hh' : hi' ≤ w.heap.size) (hi0 : -9223372036854775808 ≤ i ∧ i ≤ 9223372036854775807) (hx2 : 0 ≤ x2 ∧ x2 ≤ 2) (hl1 : xs.length ≤ 4) (hok : typeOk ⟨s, zs⟩ = true) :
    Calls Try.prog 185 #[.agg #[.string x0, .int .i64 x1, .int .i64 x2, .slice A xs.length c, .slice B ys.length d], .agg #[.int .i64 s, .slice C zs.length e], .int .i64 i] w fun e' w' => e' = .returned (.bool (fitsM ⟨x0, x1, x2, xs, ys⟩ ⟨s, zs⟩ i)) ∧ Below w.heap.size w w' := by
  have hz8 := typeOk_len hok
  simp only at hz8
  have HO := Lib.hid hok; clear hok
  by_cases hr : 0 ≤ i ∧ i + xs.length ≤ zs.length
  · obtain ⟨j, rfl⟩ := Int.eq_ofNat_of_zero_le hr.1
    have hjn : j + xs.length ≤ zs.length := by omega
    rw [fitsM_in (r := ⟨x0, x1, x2, xs, ys⟩) (t := ⟨s, zs⟩) hjn]
    clear hr hi0
    generalize hR : fitsIn ⟨x0, x1, x2, xs, ys⟩ ⟨s, zs⟩ j = R
    have HR := Lib.hid hR; clear hR
    have i0 : ¬ (j : Int) < 0 := by omega
    have i1 : ¬ (zs.length : Int) - (xs.length : Int) < (j : Int) := by omega
    go_enter Try.func185, Try.ntmps185
    go_upto_region 4 with fail
    generalize hW : (w.alloc (.cells #[.string x0, .int .i64 x1, .int .i64 x2, .slice A xs.length c, .slice B ys.length d] 51)).alloc (.cells #[.int .i64 s, .slice C zs.length e] 29) = W
    have a1 : W.cell? ⟨w.heap.size, 1, none⟩ = some (.int .i64 x1) := by subst hW; simp [go_sem]
    have a2 : W.cell? ⟨w.heap.size, 2, none⟩ = some (.int .i64 x2) := by subst hW; simp [go_sem]
    have a3 : W.cell? ⟨w.heap.size, 3, none⟩ = some (.slice A xs.length c) := by subst hW; simp [go_sem]
    have b0 : W.cell? ⟨w.heap.size + 1, 0, none⟩ = some (.int .i64 s) := by subst hW; simp [go_sem]
    have b1 : W.cell? ⟨w.heap.size + 1, 1, none⟩ = some (.slice C zs.length e) := by subst hW; simp [go_sem]
    have hb : Below w.heap.size w W := by subst hW; (with_reducible repeat' first | exact Below.refl _ _ | assumption | (refine Below.setCell ?_ (by first | omega | (simp; omega) | (simp; done) | (dsimp only; omega)) _) | (refine Below.alloc ?_ (by first | omega | (simp; omega) | (simp; done) | (dsimp only; omega)) _) | (refine below_drewN ?_ _) | (refine Below.drew ?_))
    have z0 : w.heap.size + 1 + 1 ≤ W.heap.size := by subst hW; simp
    clear hW
    replace h := h.same (Same.of_below hb hh); replace h2 := h2.same (Same.of_below hb hh')
    have lw : w.heap.size < W.heap.size := by omega
    have lw1 : w.heap.size + 1 < W.heap.size := by omega
    go_wp2
    go_loopw [28] (fun i wr => FitRel xs zs j W i wr) (fun i _ => xs.length - (intOf i).toNat)
    case atStart => exact ⟨0, Nat.zero_le _, rfl, Below.refl _ _, rfl⟩
    case round =>
      obtain ⟨k, hk, rfl, hbr, he⟩ := hrel
      have HE := Lib.hid he; clear he
      have zr := hbr.size
      have l1 : w.heap.size < wr.heap.size := by omega
      have l2 : w.heap.size + 1 < wr.heap.size := by omega
      have a1 := (hbr.cell (p := ⟨w.heap.size, 1, none⟩) (by first | omega | (simp; omega) | (simp; done) | (dsimp only; omega))).trans a1
      have a2 := (hbr.cell (p := ⟨w.heap.size, 2, none⟩) (by first | omega | (simp; omega) | (simp; done) | (dsimp only; omega))).trans a2
      have b0 := (hbr.cell (p := ⟨w.heap.size + 1, 0, none⟩) (by first | omega | (simp; omega) | (simp; done) | (dsimp only; omega))).trans b0
      have b1 := (hbr.cell (p := ⟨w.heap.size + 1, 1, none⟩) (by first | omega | (simp; omega) | (simp; done) | (dsimp only; omega))).trans b1
      by_cases hlt : k < xs.length
      · obtain ⟨g1, o1, ⟨sk, sa⟩, rfl, _, m1, _, hx1, p0, p1⟩ := AStep.at_ (h.same (Same.of_below hbr (by first | omega | (simp; omega) | (simp; done) | (dsimp only; omega)))) hlt
        obtain ⟨g2, o2, ⟨zk, za⟩, rfl, _, m2, _, hx2', r0, r1⟩ := AStep.at_ (h2.same (Same.of_below hbr (by first | omega | (simp; omega) | (simp; done) | (dsimp only; omega)))) (show j + k < zs.length by omega)
        have HD1 := Lib.hid (drop_at hx1); have HD2 := Lib.hid (drop_at hx2'); clear hx1 hx2'
        simp only at p0 p1 r0 r1
        have lg1 : g1 < wr.heap.size := by omega
        have lg2 : g2 < wr.heap.size := by omega
        have q1 : (0 : Int) ≤ (k : Int) ∧ (k : Int) < (xs.length : Int) := by omega
        have q2 : (0 : Int) ≤ (j : Int) + (k : Int) ∧ (j : Int) + (k : Int) < (zs.length : Int) := by omega
        have q3 : ((j : Int) + (k : Int)).toNat = j + k := by omega
        rcases fit_cases ⟨sk, sa⟩ ⟨zk, za⟩ with ⟨c1, c4⟩ | ⟨c1, c2, c4⟩ | ⟨c1, c2, c3, c4⟩ | ⟨c1, c2, c3, c4⟩
        all_goals
          simp only at c1
          have HC := Lib.hid c4; clear c4
        · have n1 : (zk != sk) = true := by simp; first | exact c1 | exact fun e => c1 e.symm
          clear c1
          have HN := Lib.hid (show R = false by rw [← HR.out]; exact fitsIn_steps (fit_no HE.out HD1.out HD2.out HC.out))
          go_wp2
          go_ret
          exact ⟨ret_bool (by rw [HN.out]), by (with_reducible repeat' first | exact Below.refl _ _ | assumption | (refine Below.setCell ?_ (by first | omega | (simp; omega) | (simp; done) | (dsimp only; omega)) _) | (refine Below.alloc ?_ (by first | omega | (simp; omega) | (simp; done) | (dsimp only; omega)) _) | (refine below_drewN ?_ _) | (refine Below.drew ?_) | (refine Below.trans ?_ (hbr.mono (by first | omega | (simp; omega) | (simp; done) | (dsimp only; omega)))) | (refine Below.trans ?_ (hb.mono (by first | omega | (simp; omega) | (simp; done) | (dsimp only; omega)))))⟩
        · simp only at c2
          have n1 : (zk != sk) = false := by simp [c1]
          have n2 : (sa != 0) = false := by simp [c2]
          clear c1 c2
          go_wp2
          exact ⟨⟨k + 1, by omega, by go_num, by (with_reducible repeat' first | exact Below.refl _ _ | assumption | (refine Below.setCell ?_ (by first | omega | (simp; omega) | (simp; done) | (dsimp only; omega)) _) | (refine Below.alloc ?_ (by first | omega | (simp; omega) | (simp; done) | (dsimp only; omega)) _) | (refine below_drewN ?_ _) | (refine Below.drew ?_) | (refine Below.trans ?_ (hbr.mono (by first | omega | (simp; omega) | (simp; done) | (dsimp only; omega))))), fit_yes HE.out HD1.out HD2.out HC.out⟩, by simp [intOf]; omega⟩
        · simp only at c2 c3
          have n1 : (zk != sk) = false := by simp [c1]
          have n2 : (sa != 0) = true := by simp [c2]
          have n3 : (sa != za) = false := by simp [c3]
          clear c1 c2 c3
          go_wp2
          exact ⟨⟨k + 1, by omega, by go_num, by (with_reducible repeat' first | exact Below.refl _ _ | assumption | (refine Below.setCell ?_ (by first | omega | (simp; omega) | (simp; done) | (dsimp only; omega)) _) | (refine Below.alloc ?_ (by first | omega | (simp; omega) | (simp; done) | (dsimp only; omega)) _) | (refine below_drewN ?_ _) | (refine Below.drew ?_) | (refine Below.trans ?_ (hbr.mono (by first | omega | (simp; omega) | (simp; done) | (dsimp only; omega))))), fit_yes HE.out HD1.out HD2.out HC.out⟩, by simp [intOf]; omega⟩
        · simp only at c2 c3
          have n1 : (zk != sk) = false := by simp [c1]
          have n2 : (sa != 0) = true := by simp [c2]
          have n3 : (sa != za) = true := by simp [c3]
          clear c1 c2 c3
          have HN := Lib.hid (show R = false by rw [← HR.out]; exact fitsIn_steps (fit_no HE.out HD1.out HD2.out HC.out))
          go_wp2
          go_ret
          exact ⟨ret_bool (by rw [HN.out]), by (with_reducible repeat' first | exact Below.refl _ _ | assumption | (refine Below.setCell ?_ (by first | omega | (simp; omega) | (simp; done) | (dsimp only; omega)) _) | (refine Below.alloc ?_ (by first | omega | (simp; omega) | (simp; done) | (dsimp only; omega)) _) | (refine below_drewN ?_ _) | (refine Below.drew ?_) | (refine Below.trans ?_ (hbr.mono (by first | omega | (simp; omega) | (simp; done) | (dsimp only; omega)))) | (refine Below.trans ?_ (hb.mono (by first | omega | (simp; omega) | (simp; done) | (dsimp only; omega)))))⟩
      · obtain rfl : k = xs.length := by omega
        have HFS := Lib.hid (fit_end HE.out (Nat.le_refl _))
        have hdw : hi' ≤ wr.drew.heap.size := show hi' ≤ wr.heap.size by omega
        have h2r := h2.same (Same.of_below hbr (by first | omega | (simp; omega) | (simp; done) | (dsimp only; omega)))
        generalize hsx : sexBM ⟨s, zs⟩ j = sx
        have HX := Lib.hid hsx; clear hsx
        go_wp2_with fail
        rcases sex_cases x1 sx with ⟨t1, t2⟩ | ⟨t1, t3, t2⟩ | ⟨t1, t3, t2⟩
        · have HSB := Lib.hid (show sexBad x1 (sexBM ⟨s, zs⟩ j) = false by rw [HX.out]; exact t2)
          have n1 : (x1 != 0) = false := by simp [t1]
          clear t1 t2
          refine wp_region_held_drew (S := fun w' => w'.cell? ⟨w.heap.size, 1, none⟩ = some (.int .i64 x1) ∧ w'.cell? ⟨w.heap.size + 1, 0, none⟩ = some (.int .i64 s) ∧ w'.cell? ⟨w.heap.size + 1, 1, none⟩ = some (.slice C zs.length e)) (by kernel_rfl) ⟨a1, b0, b1⟩ (fun hHeld => ?_)
          refine wpAnyH_take (i := 0) (oi := { dst := some 58, op := _, type := _, pos := _, after := _, guard := _ }) (v := ?_) rfl (by kernel_rfl) (by kernel_rfl) (by kernel_rfl) (fun _ _ _ h => h) (Or.inl ⟨by rfl, ?_⟩) (by assumption) ?_; rotate_left; (intro w hSw; (try dsimp only at hSw); go_simp); (try with_reducible rfl); (try simp only [Act.put, List.setIfInBounds_toArray, List.set_cons_zero, List.set_cons_succ])
          refine wpAnyH_take (i := 1) (oi := { dst := some 59, op := _, type := _, pos := _, after := _, guard := _ }) (v := ?_) rfl (by kernel_rfl) (by kernel_rfl) (by kernel_rfl) (fun _ _ _ h => h) (Or.inl ⟨by rfl, ?_⟩) (by assumption) ?_; rotate_left; (intro w hSw; (try dsimp only at hSw); go_simp); (try with_reducible rfl); (try simp only [Act.put, List.setIfInBounds_toArray, List.set_cons_zero, List.set_cons_succ])
          refine wpAnyH_take (i := 2) (oi := { dst := some 60, op := _, type := _, pos := _, after := _, guard := _ }) (v := ?_) rfl (by kernel_rfl) (by kernel_rfl) (by kernel_rfl) (fun _ _ _ h => h) (Or.inl ⟨by rfl, ?_⟩) (by assumption) ?_; rotate_left; (intro w hSw; (try dsimp only at hSw); go_simp); (try with_reducible rfl); (try simp only [Act.put, List.setIfInBounds_toArray, List.set_cons_zero, List.set_cons_succ])
          refine wpAnyH_take (i := 3) (oi := { dst := some 61, op := _, type := _, pos := _, after := _, guard := _ }) (v := ?_) rfl (by kernel_rfl) (by kernel_rfl) (by kernel_rfl) (fun _ _ _ h => h) (Or.inl ⟨by rfl, ?_⟩) (by assumption) ?_; rotate_left; (intro w hSw; (try dsimp only at hSw); go_simp); (try with_reducible rfl); (try simp only [Act.put, List.setIfInBounds_toArray, List.set_cons_zero, List.set_cons_succ])
          refine wpAnyH_take (i := 4) (oi := { dst := some 62, op := _, type := _, pos := _, after := _, guard := _ }) (v := _) rfl (by kernel_rfl) (by kernel_rfl) (by kernel_rfl) (fun _ _ _ h => h) (Or.inr ⟨by kernel_rfl, rfl⟩) (by assumption) ?_; (try simp only [Act.put, List.setIfInBounds_toArray, List.set_cons_zero, List.set_cons_succ])
          refine wpAnyH_take (i := 5) (oi := { dst := some 63, op := _, type := _, pos := _, after := _, guard := _ }) (v := _) rfl (by kernel_rfl) (by kernel_rfl) (by kernel_rfl) (fun _ _ _ h => h) (Or.inr ⟨by kernel_rfl, rfl⟩) (by assumption) ?_; (try simp only [Act.put, List.setIfInBounds_toArray, List.set_cons_zero, List.set_cons_succ])
          refine wpAnyH_take (i := 6) (oi := { dst := some 64, op := _, type := _, pos := _, after := _, guard := _ }) (v := _) rfl (by kernel_rfl) (by kernel_rfl) (by kernel_rfl) (fun _ _ _ h => h) (Or.inr ⟨by kernel_rfl, rfl⟩) (by assumption) ?_; (try simp only [Act.put, List.setIfInBounds_toArray, List.set_cons_zero, List.set_cons_succ])
          refine wpAnyH_take (i := 7) (oi := { dst := some 65, op := _, type := _, pos := _, after := _, guard := _ }) (v := _) rfl (by kernel_rfl) (by kernel_rfl) (by kernel_rfl) (fun _ _ _ h => h) (Or.inr ⟨by kernel_rfl, rfl⟩) (by assumption) ?_; (try simp only [Act.put, List.setIfInBounds_toArray, List.set_cons_zero, List.set_cons_succ])
          refine wpAnyH_take (i := 8) (oi := { dst := some 66, op := _, type := _, pos := _, after := _, guard := _ }) (v := _) rfl (by kernel_rfl) (by kernel_rfl) (by kernel_rfl) (fun _ _ _ h => h) (Or.inr ⟨by kernel_rfl, rfl⟩) (by assumption) ?_; (try simp only [Act.put, List.setIfInBounds_toArray, List.set_cons_zero, List.set_cons_succ])
          refine wpAnyH_take (i := 9) (oi := { dst := some 67, op := _, type := _, pos := _, after := _, guard := _ }) (v := _) rfl (by kernel_rfl) (by kernel_rfl) (by kernel_rfl) (fun _ _ _ h => h) (Or.inr ⟨by kernel_rfl, rfl⟩) (by assumption) ?_; (try simp only [Act.put, List.setIfInBounds_toArray, List.set_cons_zero, List.set_cons_succ])
          refine wpAnyH_take (i := 10) (oi := { dst := some 68, op := _, type := _, pos := _, after := _, guard := _ }) (v := ?_) rfl (by kernel_rfl) (by kernel_rfl) (by kernel_rfl) (fun _ _ _ h => h) (Or.inl ⟨by rfl, ?_⟩) (by assumption) ?_; rotate_left; (intro w hSw; (try dsimp only at hSw); go_simp); (try with_reducible rfl); (try simp only [Act.put, List.setIfInBounds_toArray, List.set_cons_zero, List.set_cons_succ])
          refine wpAnyH_done (by kernel_rfl) ?_ _
          go_upto_region 13 with fail
          rcases place_cases x2 j xs.length zs.length hx2.1 hx2.2 with ⟨rfl, hp⟩ | ⟨rfl, hj, hp⟩ | ⟨rfl, hj, hp⟩ | ⟨rfl, hj, hp⟩ | ⟨rfl, hj, hp⟩
          · have HN := Lib.hid (show R = true by rw [← HR.out]; exact fitsIn_yes hp HSB.out HFS.out)
            clear hp
            skip
            go_wp2_with fail
            go_ret
            exact ⟨ret_bool (by rw [HN.out]; first | done | rfl | (simp; done)), by (with_reducible repeat' first | exact Below.refl _ _ | assumption | (refine Below.setCell ?_ (by first | omega | (simp; omega) | (simp; done) | (dsimp only; omega)) _) | (refine Below.alloc ?_ (by first | omega | (simp; omega) | (simp; done) | (dsimp only; omega)) _) | (refine below_drewN ?_ _) | (refine Below.drew ?_) | (refine Below.trans ?_ (hbr.mono (by first | omega | (simp; omega) | (simp; done) | (dsimp only; omega)))) | (refine Below.trans ?_ (hb.mono (by first | omega | (simp; omega) | (simp; done) | (dsimp only; omega)))))⟩
          · have HN := Lib.hid (show R = true by rw [← HR.out]; exact fitsIn_yes hp HSB.out HFS.out)
            clear hp
            have n3 : ((j : Int) == 0) = true := by simp [hj]
            clear hj
            go_wp2_with fail
            go_ret
            exact ⟨ret_bool (by rw [HN.out]; first | done | rfl | (simp; done)), by (with_reducible repeat' first | exact Below.refl _ _ | assumption | (refine Below.setCell ?_ (by first | omega | (simp; omega) | (simp; done) | (dsimp only; omega)) _) | (refine Below.alloc ?_ (by first | omega | (simp; omega) | (simp; done) | (dsimp only; omega)) _) | (refine below_drewN ?_ _) | (refine Below.drew ?_) | (refine Below.trans ?_ (hbr.mono (by first | omega | (simp; omega) | (simp; done) | (dsimp only; omega)))) | (refine Below.trans ?_ (hb.mono (by first | omega | (simp; omega) | (simp; done) | (dsimp only; omega)))))⟩
          · have HN := Lib.hid (show R = false by rw [← HR.out]; exact fitsIn_place hp)
            clear hp
            have n3 : ((j : Int) == 0) = false := by simp [hj]
            clear hj
            go_wp2_with fail
            go_ret
            exact ⟨ret_bool (by rw [HN.out]; first | done | rfl | (simp; done)), by (with_reducible repeat' first | exact Below.refl _ _ | assumption | (refine Below.setCell ?_ (by first | omega | (simp; omega) | (simp; done) | (dsimp only; omega)) _) | (refine Below.alloc ?_ (by first | omega | (simp; omega) | (simp; done) | (dsimp only; omega)) _) | (refine below_drewN ?_ _) | (refine Below.drew ?_) | (refine Below.trans ?_ (hbr.mono (by first | omega | (simp; omega) | (simp; done) | (dsimp only; omega)))) | (refine Below.trans ?_ (hb.mono (by first | omega | (simp; omega) | (simp; done) | (dsimp only; omega)))))⟩
          · have HN := Lib.hid (show R = true by rw [← HR.out]; exact fitsIn_yes hp HSB.out HFS.out)
            clear hp
            have n3 : ((j : Int) + (xs.length : Int) == (zs.length : Int)) = true := by simp; omega
            clear hj
            go_wp2_with fail
            go_ret
            exact ⟨ret_bool (by rw [HN.out]; first | done | rfl | (simp; done)), by (with_reducible repeat' first | exact Below.refl _ _ | assumption | (refine Below.setCell ?_ (by first | omega | (simp; omega) | (simp; done) | (dsimp only; omega)) _) | (refine Below.alloc ?_ (by first | omega | (simp; omega) | (simp; done) | (dsimp only; omega)) _) | (refine below_drewN ?_ _) | (refine Below.drew ?_) | (refine Below.trans ?_ (hbr.mono (by first | omega | (simp; omega) | (simp; done) | (dsimp only; omega)))) | (refine Below.trans ?_ (hb.mono (by first | omega | (simp; omega) | (simp; done) | (dsimp only; omega)))))⟩
          · have HN := Lib.hid (show R = false by rw [← HR.out]; exact fitsIn_place hp)
            clear hp
            have n3 : ((j : Int) + (xs.length : Int) == (zs.length : Int)) = false := by simp; omega
            clear hj
            go_wp2_with fail
            go_ret
            exact ⟨ret_bool (by rw [HN.out]; first | done | rfl | (simp; done)), by (with_reducible repeat' first | exact Below.refl _ _ | assumption | (refine Below.setCell ?_ (by first | omega | (simp; omega) | (simp; done) | (dsimp only; omega)) _) | (refine Below.alloc ?_ (by first | omega | (simp; omega) | (simp; done) | (dsimp only; omega)) _) | (refine below_drewN ?_ _) | (refine Below.drew ?_) | (refine Below.trans ?_ (hbr.mono (by first | omega | (simp; omega) | (simp; done) | (dsimp only; omega)))) | (refine Below.trans ?_ (hb.mono (by first | omega | (simp; omega) | (simp; done) | (dsimp only; omega)))))⟩
        · have HSB := Lib.hid (show sexBad x1 (sexBM ⟨s, zs⟩ j) = false by rw [HX.out]; exact t2)
          have n1 : (x1 != 0) = true := by simp [t1]
          have n2 : (x1 != sx) = false := by simp [t3]
          clear t1 t2 t3
          refine wp_region_held_drew (S := fun w' => w'.cell? ⟨w.heap.size, 1, none⟩ = some (.int .i64 x1) ∧ w'.cell? ⟨w.heap.size + 1, 0, none⟩ = some (.int .i64 s) ∧ w'.cell? ⟨w.heap.size + 1, 1, none⟩ = some (.slice C zs.length e)) (by kernel_rfl) ⟨a1, b0, b1⟩ (fun hHeld => ?_)
          refine wpAnyH_take (i := 0) (oi := { dst := some 58, op := _, type := _, pos := _, after := _, guard := _ }) (v := ?_) rfl (by kernel_rfl) (by kernel_rfl) (by kernel_rfl) (fun _ _ _ h => h) (Or.inl ⟨by rfl, ?_⟩) (by assumption) ?_; rotate_left; (intro w hSw; (try dsimp only at hSw); go_simp); (try with_reducible rfl); (try simp only [Act.put, List.setIfInBounds_toArray, List.set_cons_zero, List.set_cons_succ])
          refine wpAnyH_take (i := 1) (oi := { dst := some 59, op := _, type := _, pos := _, after := _, guard := _ }) (v := ?_) rfl (by kernel_rfl) (by kernel_rfl) (by kernel_rfl) (fun _ _ _ h => h) (Or.inl ⟨by rfl, ?_⟩) (by assumption) ?_; rotate_left; (intro w hSw; (try dsimp only at hSw); go_simp); (try with_reducible rfl); (try simp only [Act.put, List.setIfInBounds_toArray, List.set_cons_zero, List.set_cons_succ])
          refine wpAnyH_take (i := 2) (oi := { dst := some 60, op := _, type := _, pos := _, after := _, guard := _ }) (v := ?_) rfl (by kernel_rfl) (by kernel_rfl) (by kernel_rfl) (fun _ _ _ h => h) (Or.inl ⟨by rfl, ?_⟩) (by assumption) ?_; rotate_left; (intro w hSw; (try dsimp only at hSw); go_simp); (try with_reducible rfl); (try simp only [Act.put, List.setIfInBounds_toArray, List.set_cons_zero, List.set_cons_succ])
          refine wpAnyH_take (i := 3) (oi := { dst := some 61, op := _, type := _, pos := _, after := _, guard := _ }) (v := ?_) rfl (by kernel_rfl) (by kernel_rfl) (by kernel_rfl) (fun _ _ _ h => h) (Or.inl ⟨by rfl, ?_⟩) (by assumption) ?_; rotate_left; (intro w hSw; (try dsimp only at hSw); go_simp); (try with_reducible rfl); (try simp only [Act.put, List.setIfInBounds_toArray, List.set_cons_zero, List.set_cons_succ])
          refine wpAnyH_take (i := 4) (oi := { dst := some 62, op := _, type := _, pos := _, after := _, guard := _ }) (v := ?_) rfl (by kernel_rfl) (by kernel_rfl) (by kernel_rfl) (fun _ _ _ h => h) (Or.inl ⟨by rfl, ?_⟩) (by assumption) ?_; rotate_left; (intro w hSw; (try dsimp only at hSw); go_simp); (try with_reducible rfl); (try simp only [Act.put, List.setIfInBounds_toArray, List.set_cons_zero, List.set_cons_succ])
          refine wpAnyH_take (i := 5) (oi := { dst := some 63, op := _, type := _, pos := _, after := _, guard := _ }) (v := ?_) rfl (by kernel_rfl) (by kernel_rfl) (by kernel_rfl) (fun _ _ _ h => h) (Or.inl ⟨by rfl, ?_⟩) (by assumption) ?_; rotate_left; (intro w hSw; (try dsimp only at hSw); go_simp); (try with_reducible rfl); (try simp only [Act.put, List.setIfInBounds_toArray, List.set_cons_zero, List.set_cons_succ])
          refine wpAnyH_take (i := 6) (oi := { dst := some 64, op := _, type := _, pos := _, after := _, guard := _ }) (v := ?_) rfl (by kernel_rfl) (by kernel_rfl) (by kernel_rfl) (fun _ _ _ h => h) (Or.inl ⟨by rfl, ?_⟩) (by assumption) ?_; rotate_left; (intro w hSw; (try dsimp only at hSw); go_simp); (try with_reducible rfl); (try simp only [Act.put, List.setIfInBounds_toArray, List.set_cons_zero, List.set_cons_succ])
          refine wpAnyH_take (i := 7) (oi := { dst := some 65, op := _, type := _, pos := _, after := _, guard := _ }) (v := ?_) rfl (by kernel_rfl) (by kernel_rfl) (by kernel_rfl) (fun _ _ _ h => h) (Or.inl ⟨by rfl, ?_⟩) (by assumption) ?_; rotate_left; (intro w hSw; (try dsimp only at hSw); go_simp); (try with_reducible rfl); (try simp only [Act.put, List.setIfInBounds_toArray, List.set_cons_zero, List.set_cons_succ])
          refine wpAnyH_ready (rs := [8]) (by kernel_rfl) (by simp) ?_
          refine AllReadyH.cons (o := { dst := some 66, op := _, type := _, pos := _, after := _, guard := _ }) rfl (fun K hK => ?_) AllReadyH.nil
          go_simp
          (go_at_call 162; (with_reducible refine (sexBefore_any s C e lo' hi' zs j _ h2r.drew hdw HO.out (by omega)).mono ?_); rintro e' w5 ⟨rfl, hb5⟩; rw [HX.out]; replace hb5 := undrew hb5; (replace a1 := (hb5.cell (by first | omega | (simp; omega) | (simp; done) | (dsimp only; omega))).trans a1; replace a2 := (hb5.cell (by first | omega | (simp; omega) | (simp; done) | (dsimp only; omega))).trans a2; replace b0 := (hb5.cell (by first | omega | (simp; omega) | (simp; done) | (dsimp only; omega))).trans b0; replace b1 := (hb5.cell (by first | omega | (simp; omega) | (simp; done) | (dsimp only; omega))).trans b1; replace h2r := h2r.same (Same.of_below hb5 (by first | omega | (simp; omega) | (simp; done) | (dsimp only; omega))); replace hbr := hbr.trans (hb5.mono (by first | omega | (simp; omega) | (simp; done) | (dsimp only; omega))); have zhb5 := hb5.size; clear hb5))
          try go_wp2_with fail
          refine hK.out _ _ ⟨a1, b0, b1⟩ (fun hHeld => ?_)
          clear hK K; (try simp only [Act.put, List.setIfInBounds_toArray, List.set_cons_zero, List.set_cons_succ])
          refine wpAnyH_take (i := 9) (oi := { dst := some 67, op := _, type := _, pos := _, after := _, guard := _ }) (v := ?_) rfl (by kernel_rfl) (by kernel_rfl) (by kernel_rfl) (fun _ _ _ h => h) (Or.inl ⟨by rfl, ?_⟩) (by assumption) ?_; rotate_left; (intro w hSw; (try dsimp only at hSw); go_simp); (try with_reducible rfl); (try simp only [Act.put, List.setIfInBounds_toArray, List.set_cons_zero, List.set_cons_succ])
          refine wpAnyH_take (i := 10) (oi := { dst := some 68, op := _, type := _, pos := _, after := _, guard := _ }) (v := ?_) rfl (by kernel_rfl) (by kernel_rfl) (by kernel_rfl) (fun _ _ _ h => h) (Or.inl ⟨by rfl, ?_⟩) (by assumption) ?_; rotate_left; (intro w hSw; (try dsimp only at hSw); go_simp); (try with_reducible rfl); (try simp only [Act.put, List.setIfInBounds_toArray, List.set_cons_zero, List.set_cons_succ])
          refine wpAnyH_done (by kernel_rfl) ?_ _
          go_upto_region 13 with fail
          rcases place_cases x2 j xs.length zs.length hx2.1 hx2.2 with ⟨rfl, hp⟩ | ⟨rfl, hj, hp⟩ | ⟨rfl, hj, hp⟩ | ⟨rfl, hj, hp⟩ | ⟨rfl, hj, hp⟩
          · have HN := Lib.hid (show R = true by rw [← HR.out]; exact fitsIn_yes hp HSB.out HFS.out)
            clear hp
            skip
            go_wp2_with fail
            go_ret
            exact ⟨ret_bool (by rw [HN.out]; first | done | rfl | (simp; done)), by (with_reducible repeat' first | exact Below.refl _ _ | assumption | (refine Below.setCell ?_ (by first | omega | (simp; omega) | (simp; done) | (dsimp only; omega)) _) | (refine Below.alloc ?_ (by first | omega | (simp; omega) | (simp; done) | (dsimp only; omega)) _) | (refine below_drewN ?_ _) | (refine Below.drew ?_) | (refine Below.trans ?_ (hbr.mono (by first | omega | (simp; omega) | (simp; done) | (dsimp only; omega)))) | (refine Below.trans ?_ (hb.mono (by first | omega | (simp; omega) | (simp; done) | (dsimp only; omega)))))⟩
          · have HN := Lib.hid (show R = true by rw [← HR.out]; exact fitsIn_yes hp HSB.out HFS.out)
            clear hp
            have n3 : ((j : Int) == 0) = true := by simp [hj]
            clear hj
            go_wp2_with fail
            go_ret
            exact ⟨ret_bool (by rw [HN.out]; first | done | rfl | (simp; done)), by (with_reducible repeat' first | exact Below.refl _ _ | assumption | (refine Below.setCell ?_ (by first | omega | (simp; omega) | (simp; done) | (dsimp only; omega)) _) | (refine Below.alloc ?_ (by first | omega | (simp; omega) | (simp; done) | (dsimp only; omega)) _) | (refine below_drewN ?_ _) | (refine Below.drew ?_) | (refine Below.trans ?_ (hbr.mono (by first | omega | (simp; omega) | (simp; done) | (dsimp only; omega)))) | (refine Below.trans ?_ (hb.mono (by first | omega | (simp; omega) | (simp; done) | (dsimp only; omega)))))⟩
          · have HN := Lib.hid (show R = false by rw [← HR.out]; exact fitsIn_place hp)
            clear hp
            have n3 : ((j : Int) == 0) = false := by simp [hj]
            clear hj
            go_wp2_with fail
            go_ret
            exact ⟨ret_bool (by rw [HN.out]; first | done | rfl | (simp; done)), by (with_reducible repeat' first | exact Below.refl _ _ | assumption | (refine Below.setCell ?_ (by first | omega | (simp; omega) | (simp; done) | (dsimp only; omega)) _) | (refine Below.alloc ?_ (by first | omega | (simp; omega) | (simp; done) | (dsimp only; omega)) _) | (refine below_drewN ?_ _) | (refine Below.drew ?_) | (refine Below.trans ?_ (hbr.mono (by first | omega | (simp; omega) | (simp; done) | (dsimp only; omega)))) | (refine Below.trans ?_ (hb.mono (by first | omega | (simp; omega) | (simp; done) | (dsimp only; omega)))))⟩
          · have HN := Lib.hid (show R = true by rw [← HR.out]; exact fitsIn_yes hp HSB.out HFS.out)
            clear hp
            have n3 : ((j : Int) + (xs.length : Int) == (zs.length : Int)) = true := by simp; omega
            clear hj
            go_wp2_with fail
            go_ret
            exact ⟨ret_bool (by rw [HN.out]; first | done | rfl | (simp; done)), by (with_reducible repeat' first | exact Below.refl _ _ | assumption | (refine Below.setCell ?_ (by first | omega | (simp; omega) | (simp; done) | (dsimp only; omega)) _) | (refine Below.alloc ?_ (by first | omega | (simp; omega) | (simp; done) | (dsimp only; omega)) _) | (refine below_drewN ?_ _) | (refine Below.drew ?_) | (refine Below.trans ?_ (hbr.mono (by first | omega | (simp; omega) | (simp; done) | (dsimp only; omega)))) | (refine Below.trans ?_ (hb.mono (by first | omega | (simp; omega) | (simp; done) | (dsimp only; omega)))))⟩
          · have HN := Lib.hid (show R = false by rw [← HR.out]; exact fitsIn_place hp)
            clear hp
            have n3 : ((j : Int) + (xs.length : Int) == (zs.length : Int)) = false := by simp; omega
            clear hj
            go_wp2_with fail
            go_ret
            exact ⟨ret_bool (by rw [HN.out]; first | done | rfl | (simp; done)), by (with_reducible repeat' first | exact Below.refl _ _ | assumption | (refine Below.setCell ?_ (by first | omega | (simp; omega) | (simp; done) | (dsimp only; omega)) _) | (refine Below.alloc ?_ (by first | omega | (simp; omega) | (simp; done) | (dsimp only; omega)) _) | (refine below_drewN ?_ _) | (refine Below.drew ?_) | (refine Below.trans ?_ (hbr.mono (by first | omega | (simp; omega) | (simp; done) | (dsimp only; omega)))) | (refine Below.trans ?_ (hb.mono (by first | omega | (simp; omega) | (simp; done) | (dsimp only; omega)))))⟩
        · have HSB := Lib.hid (show sexBad x1 (sexBM ⟨s, zs⟩ j) = true by rw [HX.out]; exact t2)
          have HN := Lib.hid (show R = false by rw [← HR.out]; exact fitsIn_sex HSB.out)
          have n1 : (x1 != 0) = true := by simp [t1]
          have n2 : (x1 != sx) = true := by simp [t3]
          clear t1 t2 t3
          refine wp_region_held_drew (S := fun w' => w'.cell? ⟨w.heap.size, 1, none⟩ = some (.int .i64 x1) ∧ w'.cell? ⟨w.heap.size + 1, 0, none⟩ = some (.int .i64 s) ∧ w'.cell? ⟨w.heap.size + 1, 1, none⟩ = some (.slice C zs.length e)) (by kernel_rfl) ⟨a1, b0, b1⟩ (fun hHeld => ?_)
          refine wpAnyH_take (i := 0) (oi := { dst := some 58, op := _, type := _, pos := _, after := _, guard := _ }) (v := ?_) rfl (by kernel_rfl) (by kernel_rfl) (by kernel_rfl) (fun _ _ _ h => h) (Or.inl ⟨by rfl, ?_⟩) (by assumption) ?_; rotate_left; (intro w hSw; (try dsimp only at hSw); go_simp); (try with_reducible rfl); (try simp only [Act.put, List.setIfInBounds_toArray, List.set_cons_zero, List.set_cons_succ])
          refine wpAnyH_take (i := 1) (oi := { dst := some 59, op := _, type := _, pos := _, after := _, guard := _ }) (v := ?_) rfl (by kernel_rfl) (by kernel_rfl) (by kernel_rfl) (fun _ _ _ h => h) (Or.inl ⟨by rfl, ?_⟩) (by assumption) ?_; rotate_left; (intro w hSw; (try dsimp only at hSw); go_simp); (try with_reducible rfl); (try simp only [Act.put, List.setIfInBounds_toArray, List.set_cons_zero, List.set_cons_succ])
          refine wpAnyH_take (i := 2) (oi := { dst := some 60, op := _, type := _, pos := _, after := _, guard := _ }) (v := ?_) rfl (by kernel_rfl) (by kernel_rfl) (by kernel_rfl) (fun _ _ _ h => h) (Or.inl ⟨by rfl, ?_⟩) (by assumption) ?_; rotate_left; (intro w hSw; (try dsimp only at hSw); go_simp); (try with_reducible rfl); (try simp only [Act.put, List.setIfInBounds_toArray, List.set_cons_zero, List.set_cons_succ])
          refine wpAnyH_take (i := 3) (oi := { dst := some 61, op := _, type := _, pos := _, after := _, guard := _ }) (v := ?_) rfl (by kernel_rfl) (by kernel_rfl) (by kernel_rfl) (fun _ _ _ h => h) (Or.inl ⟨by rfl, ?_⟩) (by assumption) ?_; rotate_left; (intro w hSw; (try dsimp only at hSw); go_simp); (try with_reducible rfl); (try simp only [Act.put, List.setIfInBounds_toArray, List.set_cons_zero, List.set_cons_succ])
          refine wpAnyH_take (i := 4) (oi := { dst := some 62, op := _, type := _, pos := _, after := _, guard := _ }) (v := ?_) rfl (by kernel_rfl) (by kernel_rfl) (by kernel_rfl) (fun _ _ _ h => h) (Or.inl ⟨by rfl, ?_⟩) (by assumption) ?_; rotate_left; (intro w hSw; (try dsimp only at hSw); go_simp); (try with_reducible rfl); (try simp only [Act.put, List.setIfInBounds_toArray, List.set_cons_zero, List.set_cons_succ])
          refine wpAnyH_take (i := 5) (oi := { dst := some 63, op := _, type := _, pos := _, after := _, guard := _ }) (v := ?_) rfl (by kernel_rfl) (by kernel_rfl) (by kernel_rfl) (fun _ _ _ h => h) (Or.inl ⟨by rfl, ?_⟩) (by assumption) ?_; rotate_left; (intro w hSw; (try dsimp only at hSw); go_simp); (try with_reducible rfl); (try simp only [Act.put, List.setIfInBounds_toArray, List.set_cons_zero, List.set_cons_succ])
          refine wpAnyH_take (i := 6) (oi := { dst := some 64, op := _, type := _, pos := _, after := _, guard := _ }) (v := ?_) rfl (by kernel_rfl) (by kernel_rfl) (by kernel_rfl) (fun _ _ _ h => h) (Or.inl ⟨by rfl, ?_⟩) (by assumption) ?_; rotate_left; (intro w hSw; (try dsimp only at hSw); go_simp); (try with_reducible rfl); (try simp only [Act.put, List.setIfInBounds_toArray, List.set_cons_zero, List.set_cons_succ])
          refine wpAnyH_take (i := 7) (oi := { dst := some 65, op := _, type := _, pos := _, after := _, guard := _ }) (v := ?_) rfl (by kernel_rfl) (by kernel_rfl) (by kernel_rfl) (fun _ _ _ h => h) (Or.inl ⟨by rfl, ?_⟩) (by assumption) ?_; rotate_left; (intro w hSw; (try dsimp only at hSw); go_simp); (try with_reducible rfl); (try simp only [Act.put, List.setIfInBounds_toArray, List.set_cons_zero, List.set_cons_succ])
          refine wpAnyH_ready (rs := [8]) (by kernel_rfl) (by simp) ?_
          refine AllReadyH.cons (o := { dst := some 66, op := _, type := _, pos := _, after := _, guard := _ }) rfl (fun K hK => ?_) AllReadyH.nil
          go_simp
          (go_at_call 162; (with_reducible refine (sexBefore_any s C e lo' hi' zs j _ h2r.drew hdw HO.out (by omega)).mono ?_); rintro e' w5 ⟨rfl, hb5⟩; rw [HX.out]; replace hb5 := undrew hb5; (replace a1 := (hb5.cell (by first | omega | (simp; omega) | (simp; done) | (dsimp only; omega))).trans a1; replace a2 := (hb5.cell (by first | omega | (simp; omega) | (simp; done) | (dsimp only; omega))).trans a2; replace b0 := (hb5.cell (by first | omega | (simp; omega) | (simp; done) | (dsimp only; omega))).trans b0; replace b1 := (hb5.cell (by first | omega | (simp; omega) | (simp; done) | (dsimp only; omega))).trans b1; replace h2r := h2r.same (Same.of_below hb5 (by first | omega | (simp; omega) | (simp; done) | (dsimp only; omega))); replace hbr := hbr.trans (hb5.mono (by first | omega | (simp; omega) | (simp; done) | (dsimp only; omega))); have zhb5 := hb5.size; clear hb5))
          try go_wp2_with fail
          refine hK.out _ _ ⟨a1, b0, b1⟩ (fun hHeld => ?_)
          clear hK K; (try simp only [Act.put, List.setIfInBounds_toArray, List.set_cons_zero, List.set_cons_succ])
          refine wpAnyH_take (i := 9) (oi := { dst := some 67, op := _, type := _, pos := _, after := _, guard := _ }) (v := ?_) rfl (by kernel_rfl) (by kernel_rfl) (by kernel_rfl) (fun _ _ _ h => h) (Or.inl ⟨by rfl, ?_⟩) (by assumption) ?_; rotate_left; (intro w hSw; (try dsimp only at hSw); go_simp); (try with_reducible rfl); (try simp only [Act.put, List.setIfInBounds_toArray, List.set_cons_zero, List.set_cons_succ])
          refine wpAnyH_take (i := 10) (oi := { dst := some 68, op := _, type := _, pos := _, after := _, guard := _ }) (v := ?_) rfl (by kernel_rfl) (by kernel_rfl) (by kernel_rfl) (fun _ _ _ h => h) (Or.inl ⟨by rfl, ?_⟩) (by assumption) ?_; rotate_left; (intro w hSw; (try dsimp only at hSw); go_simp); (try with_reducible rfl); (try simp only [Act.put, List.setIfInBounds_toArray, List.set_cons_zero, List.set_cons_succ])
          refine wpAnyH_done (by kernel_rfl) ?_ _
          go_wp2_with fail
          go_ret
          exact ⟨ret_bool (by rw [HN.out]), by (with_reducible repeat' first | exact Below.refl _ _ | assumption | (refine Below.setCell ?_ (by first | omega | (simp; omega) | (simp; done) | (dsimp only; omega)) _) | (refine Below.alloc ?_ (by first | omega | (simp; omega) | (simp; done) | (dsimp only; omega)) _) | (refine below_drewN ?_ _) | (refine Below.drew ?_) | (refine Below.trans ?_ (hbr.mono (by first | omega | (simp; omega) | (simp; done) | (dsimp only; omega)))) | (refine Below.trans ?_ (hb.mono (by first | omega | (simp; omega) | (simp; done) | (dsimp only; omega)))))⟩
  · rw [fitsM_out hr]
    rcases (by omega : i < 0 ∨ 0 ≤ i ∧ (zs.length : Int) - xs.length < i) with i0 | ⟨i0, i1⟩
    · go_enter Try.func185, Try.ntmps185
      go_wp2
      go_ret
      exact ⟨rfl, by (with_reducible repeat' first | exact Below.refl _ _ | assumption | (refine Below.setCell ?_ (by first | omega | (simp; omega) | (simp; done) | (dsimp only; omega)) _) | (refine Below.alloc ?_ (by first | omega | (simp; omega) | (simp; done) | (dsimp only; omega)) _) | (refine below_drewN ?_ _) | (refine Below.drew ?_))⟩
    · go_enter Try.func185, Try.ntmps185
      go_wp2
      go_ret
      exact ⟨rfl, by (with_reducible repeat' first | exact Below.refl _ _ | assumption | (refine Below.setCell ?_ (by first | omega | (simp; omega) | (simp; done) | (dsimp only; omega)) _) | (refine Below.alloc ?_ (by first | omega | (simp; omega) | (simp; done) | (dsimp only; omega)) _) | (refine below_drewN ?_ _) | (refine Below.drew ?_))⟩
end Go.Proofs.Ytnanlbglgflecaa
