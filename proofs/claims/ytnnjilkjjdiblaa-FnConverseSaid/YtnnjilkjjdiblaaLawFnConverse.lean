/-
  The law FnConverse: the walk.
-/
import Derived.Test.YtnnjilkjjdiblaaCrowd
import Derived.Test.YtnnjilkjjdiblaaWaysI
import Derived.Test.YtnnjilkjjdiblaaRevI
import Derived.Test.YtnnjilkjjdiblaaGAlg
import Derived.Test.YtnnjilkjjdiblaaOpen
import Derived.Deep.DeepCutAuto
import Derived.Deep.RegionHeld3
namespace Go.Proofs.Ytnnjilkjjdiblaa
set_option maxRecDepth 100000
open Go.ChangeShapes Go.WideShapes Go.ChangeAt Go.RowKit

set_option maxHeartbeats 16000000 in
theorem FnConverse_walk (A : Option Addr) (c : Nat) (bs : List Int) (w : World) (k0 : EByte.AS w 0 w.heap.size A bs) (hbs : ∀ x ∈ bs, 0 ≤ x ∧ x ≤ 255) :
    Calls Try.prog 3 #[.slice A bs.length c] w fun e w' => e = .returned (.bool true) ∧ Below w.heap.size w w' := by
  by_cases hl : bs.length ≤ 1048576
  rotate_left
  · have hl2 : (1048576 : Int) < (bs.length : Int) := by omega
    go_enter Try.func3, Try.ntmps3
    go_wp2
    go_ret
    exact ⟨rfl, Below.refl _ _⟩
  go_enter Try.func3, Try.ntmps3
  have H := crowd_any A c 0 w.heap.size 14 bs w k0 (Nat.le_refl _) hl hbs (by omega)
  rw [show ((14 : Nat) : Int) = 14 from rfl] at H
  go_upto_region 4 with (go_at_call 18; (with_reducible refine H.mono ?_); rintro e w1 ⟨xs, ys, A1, B1, c1, d1, rfl, o1, u1, _, hx40, _, hnm, hb1⟩)
  generalize hV : w1.alloc (.cells #[.slice A1 xs.length c1, .slice B1 ys.length d1] 26) = W1
  obtain ⟨fb, hfb⟩ : ∃ m, m = w1.heap.size := ⟨_, rfl⟩
  rw [← hfb]
  have FB : Blk W1 fb 26 #[.slice A1 xs.length c1, .slice B1 ys.length d1] := by subst hV; rw [hfb]; exact Blk.new _ rfl
  clear hfb
  have hdc := os_cap u1
  have hs : totP xs ≤ 1048576 := by have := totP_two hnm; omega
  have z1 := hb1.size
  have hbW : Below w.heap.size w W1 := by subst hV; (with_reducible repeat' first | exact Below.refl _ _ | assumption | (refine Below.setCell ?_ (by first | omega | (simp; omega) | (simp; done) | (dsimp only; omega)) _) | (refine Below.alloc ?_ (by first | omega | (simp; omega) | (simp; done) | (dsimp only; omega)) _) | (refine below_drewN ?_ _) | (refine Below.drew ?_) | (refine Below.trans ?_ (hb1.mono (by first | omega | (simp; omega) | (simp; done) | (dsimp only; omega)))))
  have hX1 : EPerson.AS W1 w.heap.size w1.heap.size A1 xs := by subst hV; exact o1.read.as.same (by (with_reducible repeat' first | exact Same.refl _ _ _ | assumption | (refine Same.setCell ?_ (by first | omega | (simp; omega) | (simp; done) | (dsimp only; omega)) _) | (refine Same.alloc ?_ (by first | omega | (simp; omega) | (simp; done) | (dsimp only; omega)) _) | (refine Same.drewN ?_ _) | (refine Same.drew ?_)))
  have hY1 : EUnion.AS W1 w.heap.size w1.heap.size B1 ys := by subst hV; exact u1.read.as.same (by (with_reducible repeat' first | exact Same.refl _ _ _ | assumption | (refine Same.setCell ?_ (by first | omega | (simp; omega) | (simp; done) | (dsimp only; omega)) _) | (refine Same.alloc ?_ (by first | omega | (simp; omega) | (simp; done) | (dsimp only; omega)) _) | (refine Same.drewN ?_ _) | (refine Same.drew ?_)))
  have hxw1 : w1.heap.size ≤ W1.heap.size := by subst hV; simp
  clear hV H o1 u1 hb1
  replace k0 := k0.same (Same.of_below hbW (Nat.le_refl _))
  have zW1 := hbW.size
  have H := fresh_any A c 0 w.heap.size bs 3 W1 k0 zW1 hl (by omega) (by omega)
  go_upto_region 5 with (first
    | (go_at_call 20; (with_reducible refine H.mono ?_); rintro e w2 ⟨A2, c2, bs2, rfl, o2, hl2, hb2⟩; (have H2 := makeType_any A2 c2 W1.heap.size w2.heap.size 5 bs2 w2 o2.read.as (Nat.le_refl _) (by omega) (by omega)); (rw [show ((5 : Nat) : Int) = 5 from rfl] at H2))
    | (go_at_call 19; (with_reducible refine H2.mono ?_); rintro e w3 ⟨ego, zs, A3, c3, rfl, ht, hego, _, o3, hb3⟩))
  have hb23 : Below W1.heap.size W1 w3 := hb2.trans (hb3.mono hb2.size)
  have z23 := hb23.size
  generalize hV : w3.alloc (.cells #[.int .i64 ego, .slice A3 zs.length c3] 30) = W3
  obtain ⟨tb, htb⟩ : ∃ m, m = w3.heap.size := ⟨_, rfl⟩
  rw [← htb]
  have TB : Blk W3 tb 30 #[.int .i64 ego, .slice A3 zs.length c3] := by subst hV; rw [htb]; exact Blk.new _ rfl
  clear htb
  have hb3W : Below W1.heap.size W1 W3 := by subst hV; (with_reducible repeat' first | exact Below.refl _ _ | assumption | (refine Below.setCell ?_ (by first | omega | (simp; omega) | (simp; done) | (dsimp only; omega)) _) | (refine Below.alloc ?_ (by first | omega | (simp; omega) | (simp; done) | (dsimp only; omega)) _) | (refine below_drewN ?_ _) | (refine Below.drew ?_) | (refine Below.trans ?_ (hb23.mono (by first | omega | (simp; omega) | (simp; done) | (dsimp only; omega)))))
  have hT3 : EStep.AS W3 w2.heap.size w3.heap.size A3 zs := by subst hV; exact o3.read.as.same (by (with_reducible repeat' first | exact Same.refl _ _ _ | assumption | (refine Same.setCell ?_ (by first | omega | (simp; omega) | (simp; done) | (dsimp only; omega)) _) | (refine Same.alloc ?_ (by first | omega | (simp; omega) | (simp; done) | (dsimp only; omega)) _) | (refine Same.drewN ?_ _) | (refine Same.drew ?_)))
  have htw3 : w3.heap.size ≤ W3.heap.size := by subst hV; simp
  have FB3 := FB.below hb3W FB.lt
  have hX3 := hX1.same (Same.of_below hb3W hxw1)
  have hY3 := hY1.same (Same.of_below hb3W hxw1)
  have hbW3 : Below w.heap.size w W3 := hbW.trans (hb3W.mono zW1)
  have z3W := hb3W.size
  clear hV H H2 o2 o3 hb2 hb3 hb23 z23 hb3W FB hX1 hY1 k0 hbW
  have he : zs.length = 0 ∨ egoM ⟨ego, zs⟩ ≠ 0 := .inr (by rw [egoM_bare (by show ego ≠ 0; omega)]; show ego ≠ 0; omega)
  have hlaw := converse_law xs ys (t := ⟨ego, zs⟩) ht he
  have hrt : (revT ⟨ego, zs⟩).2 = true := by rw [revT_good ht he]
  have H := implReverseType_any ego A3 c3 w2.heap.size w3.heap.size zs W3 hT3 htw3
  generalize revT ⟨ego, zs⟩ = rr at hlaw hrt H
  obtain ⟨⟨re, rz⟩, ok⟩ := rr
  simp only at hrt
  subst hrt
  have t0 := TB.cell (i := 0) rfl; have t1 := TB.cell (i := 1) rfl
  go_upto_region 6 with (go_at_call 21; go_loud (with_reducible refine H.mono ?_); rintro e w4 ⟨A4, c4, rfl, o4, hb4⟩)
  replace o4 : EStep.OS w4 W3.heap.size w4.heap.size (.slice A4 rz.length c4) rz := o4
  generalize hV : w4.alloc (.cells #[.int .i64 re, .slice A4 rz.length c4] 30) = W
  obtain ⟨rb, hrb⟩ : ∃ m, m = w4.heap.size := ⟨_, rfl⟩
  rw [← hrb]
  have RB : Blk W rb 30 #[.int .i64 re, .slice A4 rz.length c4] := by subst hV; rw [hrb]; exact Blk.new _ rfl
  clear hrb
  have z4 := hb4.size
  have hb4W : Below W3.heap.size W3 W := by subst hV; (with_reducible repeat' first | exact Below.refl _ _ | assumption | (refine Below.setCell ?_ (by first | omega | (simp; omega) | (simp; done) | (dsimp only; omega)) _) | (refine Below.alloc ?_ (by first | omega | (simp; omega) | (simp; done) | (dsimp only; omega)) _) | (refine below_drewN ?_ _) | (refine Below.drew ?_) | (refine Below.trans ?_ (hb4.mono (by first | omega | (simp; omega) | (simp; done) | (dsimp only; omega)))))
  have hR : EStep.AS W W3.heap.size w4.heap.size A4 rz := by subst hV; exact o4.read.as.same (by (with_reducible repeat' first | exact Same.refl _ _ _ | assumption | (refine Same.setCell ?_ (by first | omega | (simp; omega) | (simp; done) | (dsimp only; omega)) _) | (refine Same.alloc ?_ (by first | omega | (simp; omega) | (simp; done) | (dsimp only; omega)) _) | (refine Same.drewN ?_ _) | (refine Same.drew ?_)))
  have hrw : w4.heap.size ≤ W.heap.size := by subst hV; simp
  have FBW := FB3.below hb4W FB3.lt
  have TBW := TB.below hb4W TB.lt
  have hX := hX3.same (Same.of_below hb4W (by omega))
  have hY := hY3.same (Same.of_below hb4W (by omega))
  have hT := hT3.same (Same.of_below hb4W htw3)
  have hbw : Below w.heap.size w W := hbW3.trans (hb4W.mono (by omega))
  have zWW := hb4W.size
  have hxw : w1.heap.size ≤ W.heap.size := by omega
  have htw : w3.heap.size ≤ W.heap.size := by omega
  clear hV H o4 hb4 hb4W FB3 TB hX3 hY3 hT3 hbW3 t0 t1
  obtain ⟨xlo, hxlo⟩ : ∃ m, m = w.heap.size := ⟨_, rfl⟩
  obtain ⟨xhi, hxhi⟩ : ∃ m, m = w1.heap.size := ⟨_, rfl⟩
  obtain ⟨tlo, htlo⟩ : ∃ m, m = w2.heap.size := ⟨_, rfl⟩
  obtain ⟨thi, hthi⟩ : ∃ m, m = w3.heap.size := ⟨_, rfl⟩
  obtain ⟨rlo, hrlo⟩ : ∃ m, m = W3.heap.size := ⟨_, rfl⟩
  obtain ⟨rhi, hrhi⟩ : ∃ m, m = w4.heap.size := ⟨_, rfl⟩
  rw [← hxlo, ← hxhi] at hX hY
  rw [← htlo, ← hthi] at hT
  rw [← hrlo, ← hrhi] at hR
  rw [← hxhi] at hxw
  rw [← hthi] at htw
  rw [← hrhi] at hrw
  have lfb : fb < W.heap.size := FBW.lt
  have ltb : tb < W.heap.size := TBW.lt
  have lrb : rb < W.heap.size := RB.lt
  have hxw' := hxw; have htw' := htw; have hrw' := hrw
  clear hxlo hxhi htlo hthi hrlo hrhi zWW z4 z3W zW1 z1 hxw1 htw3
  obtain ⟨⟨s1, r1⟩, hm1⟩ : ∃ m, relForM xs ys ⟨re, rz⟩ = m := ⟨_, rfl⟩
  obtain ⟨⟨s2, r2⟩, hm2⟩ : ∃ m, relForM xs ys ⟨ego, zs⟩ = m := ⟨_, rfl⟩
  obtain ⟨⟨s3, r3⟩, hm3⟩ : ∃ m, convM ⟨s2, r2⟩ = m := ⟨_, rfl⟩
  replace hlaw : equalM (relForM xs ys ⟨re, rz⟩) (convM (relForM xs ys ⟨ego, zs⟩)) = true := hlaw
  rw [hm1, hm2, hm3] at hlaw
  have HA := Lib.hid hm1; have HB := Lib.hid hm2; have HC := Lib.hid hm3; have HL := Lib.hid hlaw
  clear hm1 hm2 hm3 hlaw ht hego he hnm hx40
  go_upto_region 6 with fail
  have cf0 : W.drew.cell? ⟨fb, 0, none⟩ = some (.slice A1 xs.length c1) := FBW.cell (i := 0) rfl
  have cf1 : W.drew.cell? ⟨fb, 1, none⟩ = some (.slice B1 ys.length d1) := FBW.cell (i := 1) rfl
  have ct0 : W.drew.cell? ⟨tb, 0, none⟩ = some (.int .i64 ego) := TBW.cell (i := 0) rfl
  have ct1 : W.drew.cell? ⟨tb, 1, none⟩ = some (.slice A3 zs.length c3) := TBW.cell (i := 1) rfl
  have cr0 : W.drew.cell? ⟨rb, 0, none⟩ = some (.int .i64 re) := RB.cell (i := 0) rfl
  have cr1 : W.drew.cell? ⟨rb, 1, none⟩ = some (.slice A4 rz.length c4) := RB.cell (i := 1) rfl
  have hb0 : Below W.heap.size W W.drew := (Below.refl _ _).drew
  refine wp_region_held_drew (S := fun w' => w'.cell? ⟨fb, 0, none⟩ = some (.slice A1 xs.length c1) ∧ w'.cell? ⟨fb, 1, none⟩ = some (.slice B1 ys.length d1) ∧ w'.cell? ⟨tb, 0, none⟩ = some (.int .i64 ego) ∧ w'.cell? ⟨tb, 1, none⟩ = some (.slice A3 zs.length c3) ∧ w'.cell? ⟨rb, 0, none⟩ = some (.int .i64 re) ∧ w'.cell? ⟨rb, 1, none⟩ = some (.slice A4 rz.length c4)) (by kernel_rfl) ⟨cf0, cf1, ct0, ct1, cr0, cr1⟩ (fun hHeld => ?_)
  refine wpAnyH_take (i := 0) (oi := { dst := some 20, op := _, type := _, pos := _, after := _, guard := _ }) (v := ?_) rfl (by kernel_rfl) (by kernel_rfl) (by kernel_rfl) (fun _ _ _ h => h) (Or.inl ⟨by rfl, ?_⟩) (by assumption) ?_; rotate_left; (intro w hSw; (try dsimp only at hSw); go_simp); (try with_reducible rfl); (try simp only [Act.put, List.setIfInBounds_toArray, List.set_cons_zero, List.set_cons_succ])
  refine wpAnyH_take (i := 1) (oi := { dst := some 21, op := _, type := _, pos := _, after := _, guard := _ }) (v := ?_) rfl (by kernel_rfl) (by kernel_rfl) (by kernel_rfl) (fun _ _ _ h => h) (Or.inl ⟨by rfl, ?_⟩) (by assumption) ?_; rotate_left; (intro w hSw; (try dsimp only at hSw); go_simp); (try with_reducible rfl); (try simp only [Act.put, List.setIfInBounds_toArray, List.set_cons_zero, List.set_cons_succ])
  refine wpAnyH_take (i := 2) (oi := { dst := some 22, op := _, type := _, pos := _, after := _, guard := _ }) (v := ?_) rfl (by kernel_rfl) (by kernel_rfl) (by kernel_rfl) (fun _ _ _ h => h) (Or.inl ⟨by rfl, ?_⟩) (by assumption) ?_; rotate_left; (intro w hSw; (try dsimp only at hSw); go_simp); (try with_reducible rfl); (try simp only [Act.put, List.setIfInBounds_toArray, List.set_cons_zero, List.set_cons_succ])
  refine wpAnyH_take (i := 3) (oi := { dst := some 23, op := _, type := _, pos := _, after := _, guard := _ }) (v := ?_) rfl (by kernel_rfl) (by kernel_rfl) (by kernel_rfl) (fun _ _ _ h => h) (Or.inl ⟨by rfl, ?_⟩) (by assumption) ?_; rotate_left; (intro w hSw; (try dsimp only at hSw); go_simp); (try with_reducible rfl); (try simp only [Act.put, List.setIfInBounds_toArray, List.set_cons_zero, List.set_cons_succ])
  refine wpAnyH_take (i := 5) (oi := { dst := some 25, op := _, type := _, pos := _, after := _, guard := _ }) (v := ?_) rfl (by kernel_rfl) (by kernel_rfl) (by kernel_rfl) (fun _ _ _ h => h) (Or.inl ⟨by rfl, ?_⟩) (by assumption) ?_; rotate_left; (intro w hSw; (try dsimp only at hSw); go_simp); (try with_reducible rfl); (try simp only [Act.put, List.setIfInBounds_toArray, List.set_cons_zero, List.set_cons_succ])
  refine wpAnyH_take (i := 6) (oi := { dst := some 26, op := _, type := _, pos := _, after := _, guard := _ }) (v := ?_) rfl (by kernel_rfl) (by kernel_rfl) (by kernel_rfl) (fun _ _ _ h => h) (Or.inl ⟨by rfl, ?_⟩) (by assumption) ?_; rotate_left; (intro w hSw; (try dsimp only at hSw); go_simp); (try with_reducible rfl); (try simp only [Act.put, List.setIfInBounds_toArray, List.set_cons_zero, List.set_cons_succ])
  refine wpAnyH_ready (rs := [4]) (by kernel_rfl) (by simp) ?_
  refine AllReadyH.cons (o := { dst := some 24, op := _, type := _, pos := _, after := _, guard := _ }) rfl (fun K hK => ?_) (AllReadyH.nil)
  go_simp
  have H := implRelationFor_any A1 B1 A4 c1 d1 c4 xlo xhi rlo rhi xs ys re rz W.drew (hX.same (Same.of_below hb0 hxw)) (hY.same (Same.of_below hb0 hxw)) (hR.same (Same.of_below hb0 hrw)) (Nat.le_trans hxw hb0.size) (Nat.le_trans hrw hb0.size) hdc hs
  rw [HA.out] at H
  (go_at_call 23; (with_reducible refine H.mono ?_); rintro e v1 ⟨Ra, ka, rfl, oa, hq⟩)
  have hb1 : Below W.heap.size W v1 := hb0.trans (hq.mono hb0.size)
  try go_wp2_with fail
  refine hK.out _ _ ⟨(hb1.cell (p := ⟨fb, 0, none⟩) lfb).trans cf0, (hb1.cell (p := ⟨fb, 1, none⟩) lfb).trans cf1, (hb1.cell (p := ⟨tb, 0, none⟩) ltb).trans ct0, (hb1.cell (p := ⟨tb, 1, none⟩) ltb).trans ct1, (hb1.cell (p := ⟨rb, 0, none⟩) lrb).trans cr0, (hb1.cell (p := ⟨rb, 1, none⟩) lrb).trans cr1⟩ (fun hHeld => ?_)
  clear hK K; (try simp only [Act.put, List.setIfInBounds_toArray, List.set_cons_zero, List.set_cons_succ])
  have aa := oa.read.as
  have haa := Nat.le_refl v1.heap.size
  clear H hq hb0 oa
  refine wpAnyH_ready (rs := [7]) (by kernel_rfl) (by simp) ?_
  refine AllReadyH.cons (o := { dst := some 27, op := _, type := _, pos := _, after := _, guard := _ }) rfl (fun K hK => ?_) (AllReadyH.nil)
  go_simp
  have H := implRelationFor_any A1 B1 A3 c1 d1 c3 xlo xhi tlo thi xs ys ego zs v1 (hX.same (Same.of_below hb1 hxw)) (hY.same (Same.of_below hb1 hxw)) (hT.same (Same.of_below hb1 htw)) (Nat.le_trans hxw hb1.size) (Nat.le_trans htw hb1.size) hdc hs
  rw [HB.out] at H
  (go_at_call 23; (with_reducible refine H.mono ?_); rintro e v2 ⟨Rb, kb, rfl, ob, hq⟩)
  have hb2 : Below W.heap.size W v2 := hb1.trans (hq.mono hb1.size)
  try go_wp2_with fail
  refine hK.out _ _ ⟨(hb2.cell (p := ⟨fb, 0, none⟩) lfb).trans cf0, (hb2.cell (p := ⟨fb, 1, none⟩) lfb).trans cf1, (hb2.cell (p := ⟨tb, 0, none⟩) ltb).trans ct0, (hb2.cell (p := ⟨tb, 1, none⟩) ltb).trans ct1, (hb2.cell (p := ⟨rb, 0, none⟩) lrb).trans cr0, (hb2.cell (p := ⟨rb, 1, none⟩) lrb).trans cr1⟩ (fun hHeld => ?_)
  clear hK K; (try simp only [Act.put, List.setIfInBounds_toArray, List.set_cons_zero, List.set_cons_succ])
  replace aa := aa.same (Same.of_below hq haa)
  replace haa := Nat.le_trans haa hq.size
  have ab := ob.read.as
  have hab := Nat.le_refl v2.heap.size
  clear H hq hb1 ob
  refine wpAnyH_ready (rs := [8]) (by kernel_rfl) (by simp) ?_
  refine AllReadyH.cons (o := { dst := some 28, op := _, type := _, pos := _, after := _, guard := _ }) rfl (fun K hK => ?_) (AllReadyH.nil)
  go_simp
  have H := specConverseRelation_any s2 Rb kb _ _ r2 v2 ab (Nat.le_refl _)
  rw [HC.out] at H
  (go_at_call 24; (with_reducible refine H.mono ?_); rintro e v3 ⟨Rc, kc, rfl, oc, hq⟩)
  have hb3 : Below W.heap.size W v3 := hb2.trans (hq.mono hb2.size)
  try go_wp2_with fail
  refine hK.out _ _ ⟨(hb3.cell (p := ⟨fb, 0, none⟩) lfb).trans cf0, (hb3.cell (p := ⟨fb, 1, none⟩) lfb).trans cf1, (hb3.cell (p := ⟨tb, 0, none⟩) ltb).trans ct0, (hb3.cell (p := ⟨tb, 1, none⟩) ltb).trans ct1, (hb3.cell (p := ⟨rb, 0, none⟩) lrb).trans cr0, (hb3.cell (p := ⟨rb, 1, none⟩) lrb).trans cr1⟩ (fun hHeld => ?_)
  clear hK K; (try simp only [Act.put, List.setIfInBounds_toArray, List.set_cons_zero, List.set_cons_succ])
  replace aa := aa.same (Same.of_below hq haa)
  replace haa := Nat.le_trans haa hq.size
  replace ab := ab.same (Same.of_below hq hab)
  replace hab := Nat.le_trans hab hq.size
  have ac := oc.read.as
  have hac := Nat.le_refl v3.heap.size
  clear H hq hb2 oc
  refine wpAnyH_ready (rs := [9]) (by kernel_rfl) (by simp) ?_
  refine AllReadyH.cons (o := { dst := some 29, op := _, type := _, pos := _, after := _, guard := _ }) rfl (fun K hK => ?_) (AllReadyH.nil)
  go_simp
  have H := specEqualRelations_any s1 s3 Ra Rc ka kc _ _ _ _ r1 r3 v3 aa ac haa hac
  rw [HL.out] at H
  (go_at_call 22; (with_reducible refine H.mono ?_); rintro e v4 ⟨rfl, hq⟩)
  have hb4 : Below W.heap.size W v4 := hb3.trans (hq.mono hb3.size)
  try go_wp2_with fail
  refine hK.out _ _ ⟨(hb4.cell (p := ⟨fb, 0, none⟩) lfb).trans cf0, (hb4.cell (p := ⟨fb, 1, none⟩) lfb).trans cf1, (hb4.cell (p := ⟨tb, 0, none⟩) ltb).trans ct0, (hb4.cell (p := ⟨tb, 1, none⟩) ltb).trans ct1, (hb4.cell (p := ⟨rb, 0, none⟩) lrb).trans cr0, (hb4.cell (p := ⟨rb, 1, none⟩) lrb).trans cr1⟩ (fun hHeld => ?_)
  clear hK K; (try simp only [Act.put, List.setIfInBounds_toArray, List.set_cons_zero, List.set_cons_succ])
  replace aa := aa.same (Same.of_below hq haa)
  replace haa := Nat.le_trans haa hq.size
  replace ab := ab.same (Same.of_below hq hab)
  replace hab := Nat.le_trans hab hq.size
  replace ac := ac.same (Same.of_below hq hac)
  replace hac := Nat.le_trans hac hq.size
  clear H hq hb3
  refine wpAnyH_take (i := 10) (oi := { dst := some 30, op := _, type := _, pos := _, after := _, guard := _ }) (v := ?_) rfl (by kernel_rfl) (by kernel_rfl) (by kernel_rfl) (fun _ _ _ h => h) (Or.inl ⟨by rfl, ?_⟩) (by assumption) ?_; rotate_left; (intro w hSw; (try dsimp only at hSw); go_simp); (try with_reducible rfl); (try simp only [Act.put, List.setIfInBounds_toArray, List.set_cons_zero, List.set_cons_succ])
  refine wpAnyH_take (i := 11) (oi := { dst := some 2, op := _, type := _, pos := _, after := _, guard := _ }) (v := ?_) rfl (by kernel_rfl) (by kernel_rfl) (by kernel_rfl) (fun _ _ _ h => h) (Or.inl ⟨by rfl, ?_⟩) (by assumption) ?_; rotate_left; (intro w hSw; (try dsimp only at hSw); go_simp); (try with_reducible rfl); (try simp only [Act.put, List.setIfInBounds_toArray, List.set_cons_zero, List.set_cons_succ])
  refine wpAnyH_done (by kernel_rfl) ?_ _
  go_wp2_with fail
  go_ret
  exact ⟨rfl, hbw.trans (hb4.mono hbw.size)⟩
end Go.Proofs.Ytnnjilkjjdiblaa
