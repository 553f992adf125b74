/-
  The law FnTypes: from the walk to the statement.
-/
import Derived.Test.YtnnjilkjjdiblaaXCrowd
import Derived.Test.YtnnjilkjjdiblaaXSameT
import Derived.Test.YtnnjilkjjdiblaaXGParse
import Derived.Test.YtnnjilkjjdiblaaXJoinT2
import Derived.Test.YtnnjilkjjdiblaaXJoinT3
import Derived.Test.YtnnjilkjjdiblaaXWaysI
import Derived.Test.YtnnjilkjjdiblaaXRevI
import Derived.Test.YtnnjilkjjdiblaaXGAlg
import Derived.Test.YtnnjilkjjdiblaaOpen
import Derived.Deep.DeepCutAuto
import Derived.Deep.RegionHeld3
import Derived.Test.YtnnjilkjjdiblaaXOpenBytes
import Derived.Test.YtnnjilkjjdiblaaFacts
import Derived.JoinedOf
namespace Go.Proofs.Ytnnjilkjjdiblaa
set_option maxRecDepth 100000
open Go.ChangeShapes Go.WideShapes Go.ChangeAt Go.RowKit

theorem textT_size {t : KinType} (h : typeOk t = true) : (textT t).size ≤ 100 := by
  have h1 := typeOk_len h
  have h2 := preT_size t.ego
  have h3 := stepsT_size t.steps
  have h4 := dotT_size (stepsT t.steps)
  rw [textT, if_pos h, ByteArray.size_append, wordT]
  omega
set_option maxHeartbeats 32000000 in
theorem FnTypes_walk (A : Option Addr) (c : Nat) (bs : List Int) (w : World) (k0 : EByte.AS w 0 w.heap.size A bs) (_hbs : ∀ x ∈ bs, 0 ≤ x ∧ x ≤ 255) :
    Calls Try.prog 13 #[.slice A bs.length c] w fun e w' => e = .returned (.bool true) ∧ Below w.heap.size w w' := by
  by_cases hl : bs.length ≤ 1048576
  rotate_left
  · have hl2 : (1048576 : Int) < (bs.length : Int) := by omega
    go_enter Try.func13, Try.ntmps13
    go_wp2
    go_ret
    exact ⟨rfl, Below.refl _ _⟩
  go_enter Try.func13, Try.ntmps13
  obtain ⟨klo, khi, k0, hk0⟩ : ∃ lo hi, EByte.AS w lo hi A bs ∧ hi ≤ w.heap.size := ⟨_, _, k0, Nat.le_refl _⟩
  have H2 := makeAnyType_any A c klo khi 6 bs w k0 hk0 hl (by omega)
  rw [show ((6 : Nat) : Int) = 6 from rfl] at H2
  go_upto_region 4 with (go_at_call 65; (with_reducible refine H2.mono ?_); rintro e wm ⟨te, tz, A1, c1, rfl, ht, _ht0, _, o1, hm⟩)
  replace o1 := o1
  have hc1 := os_cap o1
  generalize hV : World.alloc wm (.cells #[.int .i64 te, .slice A1 tz.length c1] 30) = W1
  obtain ⟨tb, hN⟩ : ∃ m, m = wm.heap.size := ⟨_, rfl⟩
  rw [← hN]
  have TB : Blk W1 tb 30 #[.int .i64 te, .slice A1 tz.length c1] := by subst hV; rw [hN]; exact Blk.new _ rfl
  clear hN
  have z := hm.size
  have hq : Below w.heap.size w W1 := by subst hV; (with_reducible repeat' first | exact Below.refl _ _ | assumption | (refine Below.setCell ?_ (by first | omega | (simp; omega) | (simp; done) | (dsimp only; omega)) _) | (refine Below.alloc ?_ (by first | omega | (simp; omega) | (simp; done) | (dsimp only; omega)) _) | (refine below_drewN ?_ _) | (refine Below.drew ?_) | (refine Below.trans ?_ (hm.mono (by first | omega | (simp; omega) | (simp; done) | (dsimp only; omega)))))
  obtain ⟨htzlo, htzhi, htz, hhtz⟩ : ∃ lo hi, EStep.AS W1 lo hi A1 tz ∧ hi ≤ W1.heap.size := ⟨_, _, by subst hV; exact o1.read.as.same (by (with_reducible repeat' first | exact Same.refl _ _ _ | assumption | (refine Same.setCell ?_ (by first | omega | (simp; omega) | (simp; done) | (dsimp only; omega)) _) | (refine Same.alloc ?_ (by first | omega | (simp; omega) | (simp; done) | (dsimp only; omega)) _) | (refine Same.drewN ?_ _) | (refine Same.drew ?_))), by subst hV; simp⟩
  replace k0 := k0.same (Same.of_below hq hk0)
  replace hk0 := Nat.le_trans hk0 hq.size
  have hbw := hq
  clear hV hq z hm o1
  clear H2
  have H := fresh_any A c klo khi bs 3 W1 k0 hk0 hl (by omega) (by omega)
  go_upto_region 5 with (first
    | (go_at_call 20; (with_reducible refine H.mono ?_); rintro e wf ⟨Af, cf, bf, rfl, of, hlf, hf⟩; (have H2 := makeAnyType_any Af cf W1.heap.size wf.heap.size 4 bf wf of.read.as (Nat.le_refl _) (by omega) (by omega)); (rw [show ((4 : Nat) : Int) = 4 from rfl] at H2))
    | (go_at_call 65; (with_reducible refine H2.mono ?_); rintro e wm ⟨ue, uz, A2, c2, rfl, hu, _hu0, _, o2, hm⟩))
  have hc2 := os_cap o2
  have hmm : Below W1.heap.size W1 wm := hf.trans (hm.mono hf.size)
  generalize hV : World.alloc wm (.cells #[.int .i64 ue, .slice A2 uz.length c2] 30) = W2
  obtain ⟨ub, hN⟩ : ∃ m, m = wm.heap.size := ⟨_, rfl⟩
  rw [← hN]
  have UB : Blk W2 ub 30 #[.int .i64 ue, .slice A2 uz.length c2] := by subst hV; rw [hN]; exact Blk.new _ rfl
  clear hN
  have z := hmm.size
  have hq : Below W1.heap.size W1 W2 := by subst hV; (with_reducible repeat' first | exact Below.refl _ _ | assumption | (refine Below.setCell ?_ (by first | omega | (simp; omega) | (simp; done) | (dsimp only; omega)) _) | (refine Below.alloc ?_ (by first | omega | (simp; omega) | (simp; done) | (dsimp only; omega)) _) | (refine below_drewN ?_ _) | (refine Below.drew ?_) | (refine Below.trans ?_ (hmm.mono (by first | omega | (simp; omega) | (simp; done) | (dsimp only; omega)))))
  obtain ⟨huzlo, huzhi, huz, hhuz⟩ : ∃ lo hi, EStep.AS W2 lo hi A2 uz ∧ hi ≤ W2.heap.size := ⟨_, _, by subst hV; exact o2.read.as.same (by (with_reducible repeat' first | exact Same.refl _ _ _ | assumption | (refine Same.setCell ?_ (by first | omega | (simp; omega) | (simp; done) | (dsimp only; omega)) _) | (refine Same.alloc ?_ (by first | omega | (simp; omega) | (simp; done) | (dsimp only; omega)) _) | (refine Same.drewN ?_ _) | (refine Same.drew ?_))), by subst hV; simp⟩
  replace k0 := k0.same (Same.of_below hq hk0)
  replace hk0 := Nat.le_trans hk0 hq.size
  replace htz := htz.same (Same.of_below hq hhtz)
  replace hhtz := Nat.le_trans hhtz hq.size
  replace TB := TB.below hq TB.lt
  replace hbw := hbw.trans (hq.mono hbw.size)
  clear hV hq z hmm o2
  clear H2 H of hf hm hlf
  have H := fresh_any A c klo khi bs 5 W2 k0 hk0 hl (by omega) (by omega)
  go_upto_region 6 with (first
    | (go_at_call 20; (with_reducible refine H.mono ?_); rintro e wf ⟨Af, cf, bf, rfl, of, hlf, hf⟩; (have H2 := makeType_any Af cf W2.heap.size wf.heap.size 6 bf wf of.read.as (Nat.le_refl _) (by omega) (by omega)); (rw [show ((6 : Nat) : Int) = 6 from rfl] at H2))
    | (go_at_call 19; (with_reducible refine H2.mono ?_); rintro e wm ⟨ve, vz, A3, c3, rfl, hv, hve, _, o3, hm⟩))
  have hc3 := os_cap o3
  have hmm : Below W2.heap.size W2 wm := hf.trans (hm.mono hf.size)
  generalize hV : World.alloc wm (.cells #[.int .i64 ve, .slice A3 vz.length c3] 30) = W3
  obtain ⟨vb, hN⟩ : ∃ m, m = wm.heap.size := ⟨_, rfl⟩
  rw [← hN]
  have VB : Blk W3 vb 30 #[.int .i64 ve, .slice A3 vz.length c3] := by subst hV; rw [hN]; exact Blk.new _ rfl
  clear hN
  have z := hmm.size
  have hq : Below W2.heap.size W2 W3 := by subst hV; (with_reducible repeat' first | exact Below.refl _ _ | assumption | (refine Below.setCell ?_ (by first | omega | (simp; omega) | (simp; done) | (dsimp only; omega)) _) | (refine Below.alloc ?_ (by first | omega | (simp; omega) | (simp; done) | (dsimp only; omega)) _) | (refine below_drewN ?_ _) | (refine Below.drew ?_) | (refine Below.trans ?_ (hmm.mono (by first | omega | (simp; omega) | (simp; done) | (dsimp only; omega)))))
  obtain ⟨hvzlo, hvzhi, hvz, hhvz⟩ : ∃ lo hi, EStep.AS W3 lo hi A3 vz ∧ hi ≤ W3.heap.size := ⟨_, _, by subst hV; exact o3.read.as.same (by (with_reducible repeat' first | exact Same.refl _ _ _ | assumption | (refine Same.setCell ?_ (by first | omega | (simp; omega) | (simp; done) | (dsimp only; omega)) _) | (refine Same.alloc ?_ (by first | omega | (simp; omega) | (simp; done) | (dsimp only; omega)) _) | (refine Same.drewN ?_ _) | (refine Same.drew ?_))), by subst hV; simp⟩
  replace k0 := k0.same (Same.of_below hq hk0)
  replace hk0 := Nat.le_trans hk0 hq.size
  replace htz := htz.same (Same.of_below hq hhtz)
  replace hhtz := Nat.le_trans hhtz hq.size
  replace huz := huz.same (Same.of_below hq hhuz)
  replace hhuz := Nat.le_trans hhuz hq.size
  replace TB := TB.below hq TB.lt
  replace UB := UB.below hq UB.lt
  replace hbw := hbw.trans (hq.mono hbw.size)
  clear hV hq z hmm o3
  clear H2 H of hf hm hlf
  have H := fresh_any A c klo khi bs 7 W3 k0 hk0 hl (by omega) (by omega)
  go_upto_region 7 with (first
    | (go_at_call 20; (with_reducible refine H.mono ?_); rintro e wf ⟨Af, cf, bf, rfl, of, hlf, hf⟩; (have H2 := crowd_free Af cf W3.heap.size wf.heap.size 12 bf wf of.read.as (Nat.le_refl _) (by omega) (by omega)); (rw [show ((12 : Nat) : Int) = 12 from rfl] at H2))
    | (go_at_call 18; (with_reducible refine H2.mono ?_); rintro e wm ⟨xs, ys, A4, B4, c4, d4, rfl, o4, u4, hx1, hx40, hy1, hnm, hm⟩))
  have hmm : Below W3.heap.size W3 wm := hf.trans (hm.mono hf.size)
  have hdc := os_cap u4
  have hs : totP xs ≤ 1048576 := by have := totP_two hnm; omega
  generalize hV : World.alloc wm (.cells #[.slice A4 xs.length c4, .slice B4 ys.length d4] 26) = W4
  obtain ⟨fb, hN⟩ : ∃ m, m = wm.heap.size := ⟨_, rfl⟩
  rw [← hN]
  have FB : Blk W4 fb 26 #[.slice A4 xs.length c4, .slice B4 ys.length d4] := by subst hV; rw [hN]; exact Blk.new _ rfl
  clear hN
  have z := hmm.size
  have hq : Below W3.heap.size W3 W4 := by subst hV; (with_reducible repeat' first | exact Below.refl _ _ | assumption | (refine Below.setCell ?_ (by first | omega | (simp; omega) | (simp; done) | (dsimp only; omega)) _) | (refine Below.alloc ?_ (by first | omega | (simp; omega) | (simp; done) | (dsimp only; omega)) _) | (refine below_drewN ?_ _) | (refine Below.drew ?_) | (refine Below.trans ?_ (hmm.mono (by first | omega | (simp; omega) | (simp; done) | (dsimp only; omega)))))
  obtain ⟨hXlo, hXhi, hX, hY, hhX⟩ : ∃ lo hi, EPerson.AS W4 lo hi A4 xs ∧ EUnion.AS W4 lo hi B4 ys ∧ hi ≤ W4.heap.size := ⟨_, _, by subst hV; exact o4.read.as.same (by (with_reducible repeat' first | exact Same.refl _ _ _ | assumption | (refine Same.setCell ?_ (by first | omega | (simp; omega) | (simp; done) | (dsimp only; omega)) _) | (refine Same.alloc ?_ (by first | omega | (simp; omega) | (simp; done) | (dsimp only; omega)) _) | (refine Same.drewN ?_ _) | (refine Same.drew ?_))), by subst hV; exact u4.read.as.same (by (with_reducible repeat' first | exact Same.refl _ _ _ | assumption | (refine Same.setCell ?_ (by first | omega | (simp; omega) | (simp; done) | (dsimp only; omega)) _) | (refine Same.alloc ?_ (by first | omega | (simp; omega) | (simp; done) | (dsimp only; omega)) _) | (refine Same.drewN ?_ _) | (refine Same.drew ?_))), by subst hV; simp⟩
  have hhY := hhX
  replace k0 := k0.same (Same.of_below hq hk0)
  replace hk0 := Nat.le_trans hk0 hq.size
  replace htz := htz.same (Same.of_below hq hhtz)
  replace hhtz := Nat.le_trans hhtz hq.size
  replace huz := huz.same (Same.of_below hq hhuz)
  replace hhuz := Nat.le_trans hhuz hq.size
  replace hvz := hvz.same (Same.of_below hq hhvz)
  replace hhvz := Nat.le_trans hhvz hq.size
  replace TB := TB.below hq TB.lt
  replace UB := UB.below hq UB.lt
  replace VB := VB.below hq VB.lt
  replace hbw := hbw.trans (hq.mono hbw.size)
  clear hV hq z hmm o4 u4
  clear hy1 hnm hx1 hx40
  clear H2 H of hf hm hlf
  have qTB0 := TB.cell (i := 0) rfl
  have qTB1 := TB.cell (i := 1) rfl
  have lTB := TB.lt
  have H := implFormatType_any te A1 c1 htzlo htzhi tz W4 htz hhtz
  have hsz := textT_size ht
  have HP := fun w => implParseType_any (textT ⟨te, tz⟩) w (by omega)
  rw [parse_text ht] at HP
  generalize textT ⟨te, tz⟩ = txt at *
  go_upto_region 8 with (first
    | (go_at_call 66; (with_reducible refine H.mono ?_); rintro e wf ⟨rfl, hf⟩; have H2 := HP wf)
    | (go_at_call 38; (with_reducible refine H2.mono ?_); rintro e wm ⟨A5, c5, rfl, o5, hm⟩))
  replace o5 : EStep.OS wm wf.heap.size wm.heap.size (.slice A5 tz.length c5) tz := o5
  have hmm : Below W4.heap.size W4 wm := hf.trans (hm.mono hf.size)
  clear H H2 HP hsz hf hm qTB0 qTB1 lTB
  generalize hV : World.alloc wm (.cells #[.int .i64 te, .slice A5 tz.length c5] 30) = W5
  obtain ⟨rb, hN⟩ : ∃ m, m = wm.heap.size := ⟨_, rfl⟩
  rw [← hN]
  have RB : Blk W5 rb 30 #[.int .i64 te, .slice A5 tz.length c5] := by subst hV; rw [hN]; exact Blk.new _ rfl
  clear hN
  have z := hmm.size
  have hq : Below W4.heap.size W4 W5 := by subst hV; (with_reducible repeat' first | exact Below.refl _ _ | assumption | (refine Below.setCell ?_ (by first | omega | (simp; omega) | (simp; done) | (dsimp only; omega)) _) | (refine Below.alloc ?_ (by first | omega | (simp; omega) | (simp; done) | (dsimp only; omega)) _) | (refine below_drewN ?_ _) | (refine Below.drew ?_) | (refine Below.trans ?_ (hmm.mono (by first | omega | (simp; omega) | (simp; done) | (dsimp only; omega)))))
  obtain ⟨hRlo, hRhi, hR, hhR⟩ : ∃ lo hi, EStep.AS W5 lo hi A5 tz ∧ hi ≤ W5.heap.size := ⟨_, _, by subst hV; exact o5.read.as.same (by (with_reducible repeat' first | exact Same.refl _ _ _ | assumption | (refine Same.setCell ?_ (by first | omega | (simp; omega) | (simp; done) | (dsimp only; omega)) _) | (refine Same.alloc ?_ (by first | omega | (simp; omega) | (simp; done) | (dsimp only; omega)) _) | (refine Same.drewN ?_ _) | (refine Same.drew ?_))), by subst hV; simp⟩
  replace k0 := k0.same (Same.of_below hq hk0)
  replace hk0 := Nat.le_trans hk0 hq.size
  replace htz := htz.same (Same.of_below hq hhtz)
  replace hhtz := Nat.le_trans hhtz hq.size
  replace huz := huz.same (Same.of_below hq hhuz)
  replace hhuz := Nat.le_trans hhuz hq.size
  replace hvz := hvz.same (Same.of_below hq hhvz)
  replace hhvz := Nat.le_trans hhvz hq.size
  replace hX := hX.same (Same.of_below hq hhX)
  replace hhX := Nat.le_trans hhX hq.size
  replace hY := hY.same (Same.of_below hq hhY)
  replace hhY := Nat.le_trans hhY hq.size
  replace TB := TB.below hq TB.lt
  replace UB := UB.below hq UB.lt
  replace VB := VB.below hq VB.lt
  replace FB := FB.below hq FB.lt
  replace hbw := hbw.trans (hq.mono hbw.size)
  clear hV hq z hmm o5
  have qVB0 := VB.cell (i := 0) rfl
  have qVB1 := VB.cell (i := 1) rfl
  have lVB := VB.lt
  have hv0 : ve ≠ 0 := by omega
  have hrv : (revT ⟨ve, vz⟩).2 = true := by rw [revT_good hv (.inr (by rw [egoM_bare (by exact hv0)]; exact hv0))]
  have hr2 := rev_twice hv hv0
  have H := implReverseType_any ve A3 c3 hvzlo hvzhi vz W5 hvz hhvz
  generalize revT ⟨ve, vz⟩ = rr at hrv hr2 H
  obtain ⟨⟨be, bz⟩, ok⟩ := rr
  simp only at hrv
  subst hrv
  replace hr2 : revT ⟨be, bz⟩ = (⟨ve, vz⟩, true) := hr2
  go_upto_region 9 with (go_at_call 21; (with_reducible refine H.mono ?_); rintro e wm ⟨A6, c6, rfl, o6, hm⟩)
  replace o6 : EStep.OS wm W5.heap.size wm.heap.size (.slice A6 bz.length c6) bz := o6
  clear H qVB0 qVB1 lVB
  generalize hV : World.alloc wm (.cells #[.int .i64 be, .slice A6 bz.length c6] 30) = W6
  obtain ⟨bb, hN⟩ : ∃ m, m = wm.heap.size := ⟨_, rfl⟩
  rw [← hN]
  have BB : Blk W6 bb 30 #[.int .i64 be, .slice A6 bz.length c6] := by subst hV; rw [hN]; exact Blk.new _ rfl
  clear hN
  have z := hm.size
  have hq : Below W5.heap.size W5 W6 := by subst hV; (with_reducible repeat' first | exact Below.refl _ _ | assumption | (refine Below.setCell ?_ (by first | omega | (simp; omega) | (simp; done) | (dsimp only; omega)) _) | (refine Below.alloc ?_ (by first | omega | (simp; omega) | (simp; done) | (dsimp only; omega)) _) | (refine below_drewN ?_ _) | (refine Below.drew ?_) | (refine Below.trans ?_ (hm.mono (by first | omega | (simp; omega) | (simp; done) | (dsimp only; omega)))))
  obtain ⟨hbzlo, hbzhi, hbz, hhbz⟩ : ∃ lo hi, EStep.AS W6 lo hi A6 bz ∧ hi ≤ W6.heap.size := ⟨_, _, by subst hV; exact o6.read.as.same (by (with_reducible repeat' first | exact Same.refl _ _ _ | assumption | (refine Same.setCell ?_ (by first | omega | (simp; omega) | (simp; done) | (dsimp only; omega)) _) | (refine Same.alloc ?_ (by first | omega | (simp; omega) | (simp; done) | (dsimp only; omega)) _) | (refine Same.drewN ?_ _) | (refine Same.drew ?_))), by subst hV; simp⟩
  replace k0 := k0.same (Same.of_below hq hk0)
  replace hk0 := Nat.le_trans hk0 hq.size
  replace htz := htz.same (Same.of_below hq hhtz)
  replace hhtz := Nat.le_trans hhtz hq.size
  replace huz := huz.same (Same.of_below hq hhuz)
  replace hhuz := Nat.le_trans hhuz hq.size
  replace hvz := hvz.same (Same.of_below hq hhvz)
  replace hhvz := Nat.le_trans hhvz hq.size
  replace hX := hX.same (Same.of_below hq hhX)
  replace hhX := Nat.le_trans hhX hq.size
  replace hY := hY.same (Same.of_below hq hhY)
  replace hhY := Nat.le_trans hhY hq.size
  replace hR := hR.same (Same.of_below hq hhR)
  replace hhR := Nat.le_trans hhR hq.size
  replace TB := TB.below hq TB.lt
  replace UB := UB.below hq UB.lt
  replace VB := VB.below hq VB.lt
  replace FB := FB.below hq FB.lt
  replace RB := RB.below hq RB.lt
  replace hbw := hbw.trans (hq.mono hbw.size)
  clear hV hq z hm o6
  have qBB0 := BB.cell (i := 0) rfl
  have qBB1 := BB.cell (i := 1) rfl
  have lBB := BB.lt
  have H := implReverseType_any be A6 c6 hbzlo hbzhi bz W6 hbz hhbz
  rw [hr2] at H
  clear hr2
  go_upto_region 10 with (go_at_call 21; (with_reducible refine H.mono ?_); rintro e wm ⟨A7, c7, rfl, o7, hm⟩)
  replace o7 : EStep.OS wm W6.heap.size wm.heap.size (.slice A7 vz.length c7) vz := o7
  have hc7 := os_cap o7
  clear H qBB0 qBB1 lBB
  generalize hV : World.alloc wm (.cells #[.int .i64 ve, .slice A7 vz.length c7] 30) = W7
  obtain ⟨ab, hN⟩ : ∃ m, m = wm.heap.size := ⟨_, rfl⟩
  rw [← hN]
  have AB : Blk W7 ab 30 #[.int .i64 ve, .slice A7 vz.length c7] := by subst hV; rw [hN]; exact Blk.new _ rfl
  clear hN
  have z := hm.size
  have hq : Below W6.heap.size W6 W7 := by subst hV; (with_reducible repeat' first | exact Below.refl _ _ | assumption | (refine Below.setCell ?_ (by first | omega | (simp; omega) | (simp; done) | (dsimp only; omega)) _) | (refine Below.alloc ?_ (by first | omega | (simp; omega) | (simp; done) | (dsimp only; omega)) _) | (refine below_drewN ?_ _) | (refine Below.drew ?_) | (refine Below.trans ?_ (hm.mono (by first | omega | (simp; omega) | (simp; done) | (dsimp only; omega)))))
  obtain ⟨hAlo, hAhi, hA, hhA⟩ : ∃ lo hi, EStep.AS W7 lo hi A7 vz ∧ hi ≤ W7.heap.size := ⟨_, _, by subst hV; exact o7.read.as.same (by (with_reducible repeat' first | exact Same.refl _ _ _ | assumption | (refine Same.setCell ?_ (by first | omega | (simp; omega) | (simp; done) | (dsimp only; omega)) _) | (refine Same.alloc ?_ (by first | omega | (simp; omega) | (simp; done) | (dsimp only; omega)) _) | (refine Same.drewN ?_ _) | (refine Same.drew ?_))), by subst hV; simp⟩
  replace k0 := k0.same (Same.of_below hq hk0)
  replace hk0 := Nat.le_trans hk0 hq.size
  replace htz := htz.same (Same.of_below hq hhtz)
  replace hhtz := Nat.le_trans hhtz hq.size
  replace huz := huz.same (Same.of_below hq hhuz)
  replace hhuz := Nat.le_trans hhuz hq.size
  replace hvz := hvz.same (Same.of_below hq hhvz)
  replace hhvz := Nat.le_trans hhvz hq.size
  replace hX := hX.same (Same.of_below hq hhX)
  replace hhX := Nat.le_trans hhX hq.size
  replace hY := hY.same (Same.of_below hq hhY)
  replace hhY := Nat.le_trans hhY hq.size
  replace hR := hR.same (Same.of_below hq hhR)
  replace hhR := Nat.le_trans hhR hq.size
  replace hbz := hbz.same (Same.of_below hq hhbz)
  replace hhbz := Nat.le_trans hhbz hq.size
  replace TB := TB.below hq TB.lt
  replace UB := UB.below hq UB.lt
  replace VB := VB.below hq VB.lt
  replace FB := FB.below hq FB.lt
  replace RB := RB.below hq RB.lt
  replace BB := BB.below hq BB.lt
  replace hbw := hbw.trans (hq.mono hbw.size)
  clear hV hq z hm o7
  have hego : egoT ⟨ve, vz⟩ = ve := by rw [egoT, if_pos hv, egoM_bare (by exact hv0)]
  have hvn : (ve != ve) = false := by simp
  go_upto_region 10 with fail
  have zrb0 : W7.drew.cell? ⟨rb, 0, none⟩ = some (.int .i64 te) := RB.cell (i := 0) rfl
  have zrb1 : W7.drew.cell? ⟨rb, 1, none⟩ = some (.slice A5 tz.length c5) := RB.cell (i := 1) rfl
  have ztb0 : W7.drew.cell? ⟨tb, 0, none⟩ = some (.int .i64 te) := TB.cell (i := 0) rfl
  have ztb1 : W7.drew.cell? ⟨tb, 1, none⟩ = some (.slice A1 tz.length c1) := TB.cell (i := 1) rfl
  have zab0 : W7.drew.cell? ⟨ab, 0, none⟩ = some (.int .i64 ve) := AB.cell (i := 0) rfl
  have zab1 : W7.drew.cell? ⟨ab, 1, none⟩ = some (.slice A7 vz.length c7) := AB.cell (i := 1) rfl
  have zvb0 : W7.drew.cell? ⟨vb, 0, none⟩ = some (.int .i64 ve) := VB.cell (i := 0) rfl
  have zvb1 : W7.drew.cell? ⟨vb, 1, none⟩ = some (.slice A3 vz.length c3) := VB.cell (i := 1) rfl
  have yab : ab < W7.heap.size := AB.lt
  have yrb : rb < W7.heap.size := RB.lt
  have ytb : tb < W7.heap.size := TB.lt
  have yvb : vb < W7.heap.size := VB.lt
  have hb0 : Below W7.heap.size W7 W7.drew := (Below.refl _ _).drew
  go_cut [81] (fun v wc => v = .bool false ∧ Below W7.heap.size W7 wc)
  case first =>
    refine wp_region_held_drew (S := fun w' => w'.cell? ⟨rb, 0, none⟩ = some (.int .i64 te) ∧ w'.cell? ⟨rb, 1, none⟩ = some (.slice A5 tz.length c5) ∧ w'.cell? ⟨tb, 0, none⟩ = some (.int .i64 te) ∧ w'.cell? ⟨tb, 1, none⟩ = some (.slice A1 tz.length c1) ∧ w'.cell? ⟨ab, 0, none⟩ = some (.int .i64 ve) ∧ w'.cell? ⟨ab, 1, none⟩ = some (.slice A7 vz.length c7) ∧ w'.cell? ⟨vb, 0, none⟩ = some (.int .i64 ve) ∧ w'.cell? ⟨vb, 1, none⟩ = some (.slice A3 vz.length c3)) (by kernel_rfl) ⟨zrb0, zrb1, ztb0, ztb1, zab0, zab1, zvb0, zvb1⟩ (fun hHeld => ?_)
    refine wpAnyH_take (i := 0) (oi := { dst := some 47, op := _, type := _, pos := _, after := _, guard := _ }) (v := ?_) rfl (by kernel_rfl) (by kernel_rfl) (by kernel_rfl) (fun _ _ _ h => h) (Or.inl ⟨by rfl, ?_⟩) (by assumption) ?_; rotate_left; (intro w hSw; (try dsimp only at hSw); go_simp); (try with_reducible rfl); (try simp only [Act.put, List.setIfInBounds_toArray, List.set_cons_zero, List.set_cons_succ])
    refine wpAnyH_take (i := 1) (oi := { dst := some 48, op := _, type := _, pos := _, after := _, guard := _ }) (v := ?_) rfl (by kernel_rfl) (by kernel_rfl) (by kernel_rfl) (fun _ _ _ h => h) (Or.inl ⟨by rfl, ?_⟩) (by assumption) ?_; rotate_left; (intro w hSw; (try dsimp only at hSw); go_simp); (try with_reducible rfl); (try simp only [Act.put, List.setIfInBounds_toArray, List.set_cons_zero, List.set_cons_succ])
    refine wpAnyH_take (i := 2) (oi := { dst := some 49, op := _, type := _, pos := _, after := _, guard := _ }) (v := ?_) rfl (by kernel_rfl) (by kernel_rfl) (by kernel_rfl) (fun _ _ _ h => h) (Or.inl ⟨by rfl, ?_⟩) (by assumption) ?_; rotate_left; (intro w hSw; (try dsimp only at hSw); go_simp); (try with_reducible rfl); (try simp only [Act.put, List.setIfInBounds_toArray, List.set_cons_zero, List.set_cons_succ])
    refine wpAnyH_take (i := 3) (oi := { dst := some 50, op := _, type := _, pos := _, after := _, guard := _ }) (v := ?_) rfl (by kernel_rfl) (by kernel_rfl) (by kernel_rfl) (fun _ _ _ h => h) (Or.inl ⟨by rfl, ?_⟩) (by assumption) ?_; rotate_left; (intro w hSw; (try dsimp only at hSw); go_simp); (try with_reducible rfl); (try simp only [Act.put, List.setIfInBounds_toArray, List.set_cons_zero, List.set_cons_succ])
    refine wpAnyH_take (i := 4) (oi := { dst := some 51, op := _, type := _, pos := _, after := _, guard := _ }) (v := ?_) rfl (by kernel_rfl) (by kernel_rfl) (by kernel_rfl) (fun _ _ _ h => h) (Or.inl ⟨by rfl, ?_⟩) (by assumption) ?_; rotate_left; (intro w hSw; (try dsimp only at hSw); go_simp); (try with_reducible rfl); (try simp only [Act.put, List.setIfInBounds_toArray, List.set_cons_zero, List.set_cons_succ])
    refine wpAnyH_take (i := 5) (oi := { dst := some 52, op := _, type := _, pos := _, after := _, guard := _ }) (v := ?_) rfl (by kernel_rfl) (by kernel_rfl) (by kernel_rfl) (fun _ _ _ h => h) (Or.inl ⟨by rfl, ?_⟩) (by assumption) ?_; rotate_left; (intro w hSw; (try dsimp only at hSw); go_simp); (try with_reducible rfl); (try simp only [Act.put, List.setIfInBounds_toArray, List.set_cons_zero, List.set_cons_succ])
    refine wpAnyH_take (i := 6) (oi := { dst := some 53, op := _, type := _, pos := _, after := _, guard := _ }) (v := ?_) rfl (by kernel_rfl) (by kernel_rfl) (by kernel_rfl) (fun _ _ _ h => h) (Or.inl ⟨by rfl, ?_⟩) (by assumption) ?_; rotate_left; (intro w hSw; (try dsimp only at hSw); go_simp); (try with_reducible rfl); (try simp only [Act.put, List.setIfInBounds_toArray, List.set_cons_zero, List.set_cons_succ])
    refine wpAnyH_take (i := 7) (oi := { dst := some 54, op := _, type := _, pos := _, after := _, guard := _ }) (v := ?_) rfl (by kernel_rfl) (by kernel_rfl) (by kernel_rfl) (fun _ _ _ h => h) (Or.inl ⟨by rfl, ?_⟩) (by assumption) ?_; rotate_left; (intro w hSw; (try dsimp only at hSw); go_simp); (try with_reducible rfl); (try simp only [Act.put, List.setIfInBounds_toArray, List.set_cons_zero, List.set_cons_succ])
    refine wpAnyH_take (i := 8) (oi := { dst := some 55, op := _, type := _, pos := _, after := _, guard := _ }) (v := ?_) rfl (by kernel_rfl) (by kernel_rfl) (by kernel_rfl) (fun _ _ _ h => h) (Or.inl ⟨by rfl, ?_⟩) (by assumption) ?_; rotate_left; (intro w hSw; (try dsimp only at hSw); go_simp); (try with_reducible rfl); (try simp only [Act.put, List.setIfInBounds_toArray, List.set_cons_zero, List.set_cons_succ])
    refine wpAnyH_take (i := 9) (oi := { dst := some 56, op := _, type := _, pos := _, after := _, guard := _ }) (v := ?_) rfl (by kernel_rfl) (by kernel_rfl) (by kernel_rfl) (fun _ _ _ h => h) (Or.inl ⟨by rfl, ?_⟩) (by assumption) ?_; rotate_left; (intro w hSw; (try dsimp only at hSw); go_simp); (try with_reducible rfl); (try simp only [Act.put, List.setIfInBounds_toArray, List.set_cons_zero, List.set_cons_succ])
    refine wpAnyH_take (i := 10) (oi := { dst := some 57, op := _, type := _, pos := _, after := _, guard := _ }) (v := ?_) rfl (by kernel_rfl) (by kernel_rfl) (by kernel_rfl) (fun _ _ _ h => h) (Or.inl ⟨by rfl, ?_⟩) (by assumption) ?_; rotate_left; (intro w hSw; (try dsimp only at hSw); go_simp); (try with_reducible rfl); (try simp only [Act.put, List.setIfInBounds_toArray, List.set_cons_zero, List.set_cons_succ])
    refine wpAnyH_take (i := 11) (oi := { dst := some 58, op := _, type := _, pos := _, after := _, guard := _ }) (v := ?_) rfl (by kernel_rfl) (by kernel_rfl) (by kernel_rfl) (fun _ _ _ h => h) (Or.inl ⟨by rfl, ?_⟩) (by assumption) ?_; rotate_left; (intro w hSw; (try dsimp only at hSw); go_simp); (try with_reducible rfl); (try simp only [Act.put, List.setIfInBounds_toArray, List.set_cons_zero, List.set_cons_succ])
    refine wpAnyH_take (i := 12) (oi := { dst := some 59, op := _, type := _, pos := _, after := _, guard := _ }) (v := ?_) rfl (by kernel_rfl) (by kernel_rfl) (by kernel_rfl) (fun _ _ _ h => h) (Or.inl ⟨by rfl, ?_⟩) (by assumption) ?_; rotate_left; (intro w hSw; (try dsimp only at hSw); go_simp); (try with_reducible rfl); (try simp only [Act.put, List.setIfInBounds_toArray, List.set_cons_zero, List.set_cons_succ])
    refine wpAnyH_ready (rs := [13]) (by kernel_rfl) (by simp) ?_
    refine AllReadyH.cons (o := { dst := some 60, op := _, type := _, pos := _, after := _, guard := _ }) rfl (fun K hK => ?_) (AllReadyH.nil)
    go_simp
    have H := specEqualTypes_any A5 A1 c5 c1 hRlo hRhi htzlo htzhi te te tz tz W7.drew (hR.same (Same.of_below hb0 hhR)) (htz.same (Same.of_below hb0 hhtz)) (Nat.le_trans hhR hb0.size) (Nat.le_trans hhtz hb0.size)
    rw [eqB_refl] at H
    (go_at_call 31; (with_reducible refine H.mono ?_); rintro e v1 ⟨rfl, hq⟩)
    have hb1 : Below W7.heap.size W7 v1 := hb0.trans (hq.mono hb0.size)
    try go_wp2_with fail
    refine hK.out _ _ ⟨(hb1.cell (p := ⟨rb, 0, none⟩) yrb).trans zrb0, (hb1.cell (p := ⟨rb, 1, none⟩) yrb).trans zrb1, (hb1.cell (p := ⟨tb, 0, none⟩) ytb).trans ztb0, (hb1.cell (p := ⟨tb, 1, none⟩) ytb).trans ztb1, (hb1.cell (p := ⟨ab, 0, none⟩) yab).trans zab0, (hb1.cell (p := ⟨ab, 1, none⟩) yab).trans zab1, (hb1.cell (p := ⟨vb, 0, none⟩) yvb).trans zvb0, (hb1.cell (p := ⟨vb, 1, none⟩) yvb).trans zvb1⟩ (fun hHeld => ?_)
    clear hK K; (try simp only [Act.put, List.setIfInBounds_toArray, List.set_cons_zero, List.set_cons_succ])
    clear H hq hb0
    refine wpAnyH_take (i := 14) (oi := { dst := some 61, op := _, type := _, pos := _, after := _, guard := _ }) (v := ?_) rfl (by kernel_rfl) (by kernel_rfl) (by kernel_rfl) (fun _ _ _ h => h) (Or.inl ⟨by rfl, ?_⟩) (by assumption) ?_; rotate_left; (intro w hSw; (try dsimp only at hSw); go_simp); (try with_reducible rfl); (try simp only [Act.put, List.setIfInBounds_toArray, List.set_cons_zero, List.set_cons_succ])
    refine wpAnyH_take (i := 15) (oi := { dst := some 62, op := _, type := _, pos := _, after := _, guard := _ }) (v := ?_) rfl (by kernel_rfl) (by kernel_rfl) (by kernel_rfl) (fun _ _ _ h => h) (Or.inl ⟨by rfl, ?_⟩) (by assumption) ?_; rotate_left; (intro w hSw; (try dsimp only at hSw); go_simp); (try with_reducible rfl); (try simp only [Act.put, List.setIfInBounds_toArray, List.set_cons_zero, List.set_cons_succ])
    refine wpAnyH_take (i := 16) (oi := { dst := some 63, op := _, type := _, pos := _, after := _, guard := _ }) (v := ?_) rfl (by kernel_rfl) (by kernel_rfl) (by kernel_rfl) (fun _ _ _ h => h) (Or.inl ⟨by rfl, ?_⟩) (by assumption) ?_; rotate_left; (intro w hSw; (try dsimp only at hSw); go_simp); (try with_reducible rfl); (try simp only [Act.put, List.setIfInBounds_toArray, List.set_cons_zero, List.set_cons_succ])
    refine wpAnyH_take (i := 17) (oi := { dst := some 64, op := _, type := _, pos := _, after := _, guard := _ }) (v := ?_) rfl (by kernel_rfl) (by kernel_rfl) (by kernel_rfl) (fun _ _ _ h => h) (Or.inl ⟨by rfl, ?_⟩) (by assumption) ?_; rotate_left; (intro w hSw; (try dsimp only at hSw); go_simp); (try with_reducible rfl); (try simp only [Act.put, List.setIfInBounds_toArray, List.set_cons_zero, List.set_cons_succ])
    refine wpAnyH_take (i := 18) (oi := { dst := some 65, op := _, type := _, pos := _, after := _, guard := _ }) (v := ?_) rfl (by kernel_rfl) (by kernel_rfl) (by kernel_rfl) (fun _ _ _ h => h) (Or.inl ⟨by rfl, ?_⟩) (by assumption) ?_; rotate_left; (intro w hSw; (try dsimp only at hSw); go_simp); (try with_reducible rfl); (try simp only [Act.put, List.setIfInBounds_toArray, List.set_cons_zero, List.set_cons_succ])
    refine wpAnyH_take (i := 19) (oi := { dst := some 66, op := _, type := _, pos := _, after := _, guard := _ }) (v := ?_) rfl (by kernel_rfl) (by kernel_rfl) (by kernel_rfl) (fun _ _ _ h => h) (Or.inl ⟨by rfl, ?_⟩) (by assumption) ?_; rotate_left; (intro w hSw; (try dsimp only at hSw); go_simp); (try with_reducible rfl); (try simp only [Act.put, List.setIfInBounds_toArray, List.set_cons_zero, List.set_cons_succ])
    refine wpAnyH_ready (rs := [20]) (by kernel_rfl) (by simp) ?_
    refine AllReadyH.cons (o := { dst := some 67, op := _, type := _, pos := _, after := _, guard := _ }) rfl (fun K hK => ?_) (AllReadyH.nil)
    go_simp
    have H := specEgoOfType_any ve A3 c3 hvzlo hvzhi vz v1 (hvz.same (Same.of_below hb1 hhvz)) (Nat.le_trans hhvz hb1.size)
    rw [hego] at H
    (go_at_call 67; (with_reducible refine H.mono ?_); rintro e v2 ⟨rfl, hq⟩)
    have hb2 : Below W7.heap.size W7 v2 := hb1.trans (hq.mono hb1.size)
    try go_wp2_with fail
    refine hK.out _ _ ⟨(hb2.cell (p := ⟨rb, 0, none⟩) yrb).trans zrb0, (hb2.cell (p := ⟨rb, 1, none⟩) yrb).trans zrb1, (hb2.cell (p := ⟨tb, 0, none⟩) ytb).trans ztb0, (hb2.cell (p := ⟨tb, 1, none⟩) ytb).trans ztb1, (hb2.cell (p := ⟨ab, 0, none⟩) yab).trans zab0, (hb2.cell (p := ⟨ab, 1, none⟩) yab).trans zab1, (hb2.cell (p := ⟨vb, 0, none⟩) yvb).trans zvb0, (hb2.cell (p := ⟨vb, 1, none⟩) yvb).trans zvb1⟩ (fun hHeld => ?_)
    clear hK K; (try simp only [Act.put, List.setIfInBounds_toArray, List.set_cons_zero, List.set_cons_succ])
    clear H hq hb1
    refine wpAnyH_take (i := 21) (oi := { dst := some 68, op := _, type := _, pos := _, after := _, guard := _ }) (v := ?_) rfl (by kernel_rfl) (by kernel_rfl) (by kernel_rfl) (fun _ _ _ h => h) (Or.inl ⟨by rfl, ?_⟩) (by assumption) ?_; rotate_left; (intro w hSw; (try dsimp only at hSw); go_simp); (try with_reducible rfl); (try simp only [Act.put, List.setIfInBounds_toArray, List.set_cons_zero, List.set_cons_succ])
    refine wpAnyH_take (i := 22) (oi := { dst := some 69, op := _, type := _, pos := _, after := _, guard := _ }) (v := ?_) rfl (by kernel_rfl) (by kernel_rfl) (by kernel_rfl) (fun _ _ _ h => h) (Or.inl ⟨by rfl, ?_⟩) (by assumption) ?_; rotate_left; (intro w hSw; (try dsimp only at hSw); go_simp); (try with_reducible rfl); (try simp only [Act.put, List.setIfInBounds_toArray, List.set_cons_zero, List.set_cons_succ])
    refine wpAnyH_take (i := 23) (oi := { dst := some 70, op := _, type := _, pos := _, after := _, guard := _ }) (v := ?_) rfl (by kernel_rfl) (by kernel_rfl) (by kernel_rfl) (fun _ _ _ h => h) (Or.inl ⟨by rfl, ?_⟩) (by assumption) ?_; rotate_left; (intro w hSw; (try dsimp only at hSw); go_simp); (try with_reducible rfl); (try simp only [Act.put, List.setIfInBounds_toArray, List.set_cons_zero, List.set_cons_succ])
    refine wpAnyH_take (i := 24) (oi := { dst := some 71, op := _, type := _, pos := _, after := _, guard := _ }) (v := ?_) rfl (by kernel_rfl) (by kernel_rfl) (by kernel_rfl) (fun _ _ _ h => h) (Or.inl ⟨by rfl, ?_⟩) (by assumption) ?_; rotate_left; (intro w hSw; (try dsimp only at hSw); go_simp); (try with_reducible rfl); (try simp only [Act.put, List.setIfInBounds_toArray, List.set_cons_zero, List.set_cons_succ])
    refine wpAnyH_take (i := 26) (oi := { dst := some 73, op := _, type := _, pos := _, after := _, guard := _ }) (v := ?_) rfl (by kernel_rfl) (by kernel_rfl) (by kernel_rfl) (fun _ _ _ h => h) (Or.inl ⟨by rfl, ?_⟩) (by assumption) ?_; rotate_left; (intro w hSw; (try dsimp only at hSw); go_simp); (try with_reducible rfl); (try simp only [Act.put, List.setIfInBounds_toArray, List.set_cons_zero, List.set_cons_succ])
    refine wpAnyH_take (i := 27) (oi := { dst := some 74, op := _, type := _, pos := _, after := _, guard := _ }) (v := ?_) rfl (by kernel_rfl) (by kernel_rfl) (by kernel_rfl) (fun _ _ _ h => h) (Or.inl ⟨by rfl, ?_⟩) (by assumption) ?_; rotate_left; (intro w hSw; (try dsimp only at hSw); go_simp); (try with_reducible rfl); (try simp only [Act.put, List.setIfInBounds_toArray, List.set_cons_zero, List.set_cons_succ])
    refine wpAnyH_take (i := 28) (oi := { dst := some 75, op := _, type := _, pos := _, after := _, guard := _ }) (v := ?_) rfl (by kernel_rfl) (by kernel_rfl) (by kernel_rfl) (fun _ _ _ h => h) (Or.inl ⟨by rfl, ?_⟩) (by assumption) ?_; rotate_left; (intro w hSw; (try dsimp only at hSw); go_simp); (try with_reducible rfl); (try simp only [Act.put, List.setIfInBounds_toArray, List.set_cons_zero, List.set_cons_succ])
    refine wpAnyH_take (i := 29) (oi := { dst := some 76, op := _, type := _, pos := _, after := _, guard := _ }) (v := ?_) rfl (by kernel_rfl) (by kernel_rfl) (by kernel_rfl) (fun _ _ _ h => h) (Or.inl ⟨by rfl, ?_⟩) (by assumption) ?_; rotate_left; (intro w hSw; (try dsimp only at hSw); go_simp); (try with_reducible rfl); (try simp only [Act.put, List.setIfInBounds_toArray, List.set_cons_zero, List.set_cons_succ])
    refine wpAnyH_take (i := 30) (oi := { dst := some 77, op := _, type := _, pos := _, after := _, guard := _ }) (v := ?_) rfl (by kernel_rfl) (by kernel_rfl) (by kernel_rfl) (fun _ _ _ h => h) (Or.inl ⟨by rfl, ?_⟩) (by assumption) ?_; rotate_left; (intro w hSw; (try dsimp only at hSw); go_simp); (try with_reducible rfl); (try simp only [Act.put, List.setIfInBounds_toArray, List.set_cons_zero, List.set_cons_succ])
    refine wpAnyH_ready (rs := [25, 31]) (by kernel_rfl) (by simp) ?_
    refine AllReadyH.cons (o := { dst := some 72, op := _, type := _, pos := _, after := _, guard := _ }) rfl (fun K hK => ?_) (AllReadyH.cons (o := { dst := some 78, op := _, type := _, pos := _, after := _, guard := _ }) rfl (fun K hK => ?_) (AllReadyH.nil))
    ·
      go_simp
      refine hK.out _ _ ⟨((hb2.alloc hb2.size _).cell (p := ⟨rb, 0, none⟩) yrb).trans zrb0, ((hb2.alloc hb2.size _).cell (p := ⟨rb, 1, none⟩) yrb).trans zrb1, ((hb2.alloc hb2.size _).cell (p := ⟨tb, 0, none⟩) ytb).trans ztb0, ((hb2.alloc hb2.size _).cell (p := ⟨tb, 1, none⟩) ytb).trans ztb1, ((hb2.alloc hb2.size _).cell (p := ⟨ab, 0, none⟩) yab).trans zab0, ((hb2.alloc hb2.size _).cell (p := ⟨ab, 1, none⟩) yab).trans zab1, ((hb2.alloc hb2.size _).cell (p := ⟨vb, 0, none⟩) yvb).trans zvb0, ((hb2.alloc hb2.size _).cell (p := ⟨vb, 1, none⟩) yvb).trans zvb1⟩ (fun hHeld => ?_)
      clear hK K; (try simp only [Act.put, List.setIfInBounds_toArray, List.set_cons_zero, List.set_cons_succ])
      generalize hV : World.alloc v2 (.cells #[.int .i64 ve, .slice A7 vz.length c7] 30) = v3
      obtain ⟨sb1, hN⟩ : ∃ m, m = v2.heap.size := ⟨_, rfl⟩
      rw [← hN]
      have SB1 : Blk v3 sb1 30 #[.int .i64 ve, .slice A7 vz.length c7] := by subst hV; rw [hN]; exact Blk.new _ rfl
      clear hN
      have hq : Below v2.heap.size v2 v3 := by subst hV; (with_reducible repeat' first | exact Below.refl _ _ | assumption | (refine Below.setCell ?_ (by first | omega | (simp; omega) | (simp; done) | (dsimp only; omega)) _) | (refine Below.alloc ?_ (by first | omega | (simp; omega) | (simp; done) | (dsimp only; omega)) _) | (refine below_drewN ?_ _) | (refine Below.drew ?_))
      have hb3 : Below W7.heap.size W7 v3 := hb2.trans (hq.mono hb2.size)
      clear hV hq hb2
      refine wpAnyH_ready (rs := [31]) (by kernel_rfl) (by simp) ?_
      refine AllReadyH.cons (o := { dst := some 78, op := _, type := _, pos := _, after := _, guard := _ }) rfl (fun K hK => ?_) (AllReadyH.nil)
      go_simp
      refine hK.out _ _ ⟨((hb3.alloc hb3.size _).cell (p := ⟨rb, 0, none⟩) yrb).trans zrb0, ((hb3.alloc hb3.size _).cell (p := ⟨rb, 1, none⟩) yrb).trans zrb1, ((hb3.alloc hb3.size _).cell (p := ⟨tb, 0, none⟩) ytb).trans ztb0, ((hb3.alloc hb3.size _).cell (p := ⟨tb, 1, none⟩) ytb).trans ztb1, ((hb3.alloc hb3.size _).cell (p := ⟨ab, 0, none⟩) yab).trans zab0, ((hb3.alloc hb3.size _).cell (p := ⟨ab, 1, none⟩) yab).trans zab1, ((hb3.alloc hb3.size _).cell (p := ⟨vb, 0, none⟩) yvb).trans zvb0, ((hb3.alloc hb3.size _).cell (p := ⟨vb, 1, none⟩) yvb).trans zvb1⟩ (fun hHeld => ?_)
      clear hK K; (try simp only [Act.put, List.setIfInBounds_toArray, List.set_cons_zero, List.set_cons_succ])
      generalize hV : World.alloc v3 (.cells #[.int .i64 ve, .slice A3 vz.length c3] 30) = v4
      obtain ⟨sb2, hN⟩ : ∃ m, m = v3.heap.size := ⟨_, rfl⟩
      rw [← hN]
      have SB2 : Blk v4 sb2 30 #[.int .i64 ve, .slice A3 vz.length c3] := by subst hV; rw [hN]; exact Blk.new _ rfl
      clear hN
      have hq : Below v3.heap.size v3 v4 := by subst hV; (with_reducible repeat' first | exact Below.refl _ _ | assumption | (refine Below.setCell ?_ (by first | omega | (simp; omega) | (simp; done) | (dsimp only; omega)) _) | (refine Below.alloc ?_ (by first | omega | (simp; omega) | (simp; done) | (dsimp only; omega)) _) | (refine below_drewN ?_ _) | (refine Below.drew ?_))
      have hb4 : Below W7.heap.size W7 v4 := hb3.trans (hq.mono hb3.size)
      replace SB1 := SB1.below hq SB1.lt
      clear hV hq hb3
      refine wpAnyH_ready (rs := [32]) (by kernel_rfl) (by simp) ?_
      refine AllReadyH.cons (o := { dst := some 79, op := _, type := _, pos := _, after := _, guard := _ }) rfl (fun K hK => ?_) (AllReadyH.nil)
      go_simp
      have K1 := kin_one (hA.same (Same.of_below hb4 hhA)) hc7 SB1
      have K2 := kin_one (hvz.same (Same.of_below hb4 hhvz)) hc3 SB2
      have H := sameTypes_same (some ⟨sb1, 0, none⟩) (some ⟨sb2, 0, none⟩) 1 1 _ _ _ _ [⟨ve, vz⟩] v4 K1 K2 (by have := SB1.lt; have := Nat.le_trans hhA hb4.size; omega) (by have := SB2.lt; have := Nat.le_trans hhvz hb4.size; omega)
      rw [show ([⟨ve, vz⟩] : List KinType).length = 1 from rfl] at H
      (go_at_call 68; (with_reducible refine H.mono ?_); rintro e v5 ⟨rfl, hq⟩)
      have hb5 : Below W7.heap.size W7 v5 := hb4.trans (hq.mono hb4.size)
      try go_wp2_with fail
      refine hK.out _ _ ⟨(hb5.cell (p := ⟨rb, 0, none⟩) yrb).trans zrb0, (hb5.cell (p := ⟨rb, 1, none⟩) yrb).trans zrb1, (hb5.cell (p := ⟨tb, 0, none⟩) ytb).trans ztb0, (hb5.cell (p := ⟨tb, 1, none⟩) ytb).trans ztb1, (hb5.cell (p := ⟨ab, 0, none⟩) yab).trans zab0, (hb5.cell (p := ⟨ab, 1, none⟩) yab).trans zab1, (hb5.cell (p := ⟨vb, 0, none⟩) yvb).trans zvb0, (hb5.cell (p := ⟨vb, 1, none⟩) yvb).trans zvb1⟩ (fun hHeld => ?_)
      clear hK K; (try simp only [Act.put, List.setIfInBounds_toArray, List.set_cons_zero, List.set_cons_succ])
      clear H hq hb4 K1 K2
      refine wpAnyH_take (i := 33) (oi := { dst := some 80, op := _, type := _, pos := _, after := _, guard := _ }) (v := ?_) rfl (by kernel_rfl) (by kernel_rfl) (by kernel_rfl) (fun _ _ _ h => h) (Or.inl ⟨by rfl, ?_⟩) (by assumption) ?_; rotate_left; (intro w hSw; (try dsimp only at hSw); go_simp); (try with_reducible rfl); (try simp only [Act.put, List.setIfInBounds_toArray, List.set_cons_zero, List.set_cons_succ])
      refine wpAnyH_take (i := 34) (oi := { dst := some 81, op := _, type := _, pos := _, after := _, guard := _ }) (v := ?_) rfl (by kernel_rfl) (by kernel_rfl) (by kernel_rfl) (fun _ _ _ h => h) (Or.inl ⟨by rfl, ?_⟩) (by assumption) ?_; rotate_left; (intro w hSw; (try dsimp only at hSw); go_simp); (try with_reducible rfl); (try simp only [Act.put, List.setIfInBounds_toArray, List.set_cons_zero, List.set_cons_succ])
      refine wpAnyH_done (by kernel_rfl) ?_ _
      go_wp2_with fail
      go_meet
      exact ⟨rfl, hb5⟩
    ·
      go_simp
      refine hK.out _ _ ⟨((hb2.alloc hb2.size _).cell (p := ⟨rb, 0, none⟩) yrb).trans zrb0, ((hb2.alloc hb2.size _).cell (p := ⟨rb, 1, none⟩) yrb).trans zrb1, ((hb2.alloc hb2.size _).cell (p := ⟨tb, 0, none⟩) ytb).trans ztb0, ((hb2.alloc hb2.size _).cell (p := ⟨tb, 1, none⟩) ytb).trans ztb1, ((hb2.alloc hb2.size _).cell (p := ⟨ab, 0, none⟩) yab).trans zab0, ((hb2.alloc hb2.size _).cell (p := ⟨ab, 1, none⟩) yab).trans zab1, ((hb2.alloc hb2.size _).cell (p := ⟨vb, 0, none⟩) yvb).trans zvb0, ((hb2.alloc hb2.size _).cell (p := ⟨vb, 1, none⟩) yvb).trans zvb1⟩ (fun hHeld => ?_)
      clear hK K; (try simp only [Act.put, List.setIfInBounds_toArray, List.set_cons_zero, List.set_cons_succ])
      generalize hV : World.alloc v2 (.cells #[.int .i64 ve, .slice A3 vz.length c3] 30) = v3
      obtain ⟨sb2, hN⟩ : ∃ m, m = v2.heap.size := ⟨_, rfl⟩
      rw [← hN]
      have SB2 : Blk v3 sb2 30 #[.int .i64 ve, .slice A3 vz.length c3] := by subst hV; rw [hN]; exact Blk.new _ rfl
      clear hN
      have hq : Below v2.heap.size v2 v3 := by subst hV; (with_reducible repeat' first | exact Below.refl _ _ | assumption | (refine Below.setCell ?_ (by first | omega | (simp; omega) | (simp; done) | (dsimp only; omega)) _) | (refine Below.alloc ?_ (by first | omega | (simp; omega) | (simp; done) | (dsimp only; omega)) _) | (refine below_drewN ?_ _) | (refine Below.drew ?_))
      have hb3 : Below W7.heap.size W7 v3 := hb2.trans (hq.mono hb2.size)
      clear hV hq hb2
      refine wpAnyH_ready (rs := [25]) (by kernel_rfl) (by simp) ?_
      refine AllReadyH.cons (o := { dst := some 72, op := _, type := _, pos := _, after := _, guard := _ }) rfl (fun K hK => ?_) (AllReadyH.nil)
      go_simp
      refine hK.out _ _ ⟨((hb3.alloc hb3.size _).cell (p := ⟨rb, 0, none⟩) yrb).trans zrb0, ((hb3.alloc hb3.size _).cell (p := ⟨rb, 1, none⟩) yrb).trans zrb1, ((hb3.alloc hb3.size _).cell (p := ⟨tb, 0, none⟩) ytb).trans ztb0, ((hb3.alloc hb3.size _).cell (p := ⟨tb, 1, none⟩) ytb).trans ztb1, ((hb3.alloc hb3.size _).cell (p := ⟨ab, 0, none⟩) yab).trans zab0, ((hb3.alloc hb3.size _).cell (p := ⟨ab, 1, none⟩) yab).trans zab1, ((hb3.alloc hb3.size _).cell (p := ⟨vb, 0, none⟩) yvb).trans zvb0, ((hb3.alloc hb3.size _).cell (p := ⟨vb, 1, none⟩) yvb).trans zvb1⟩ (fun hHeld => ?_)
      clear hK K; (try simp only [Act.put, List.setIfInBounds_toArray, List.set_cons_zero, List.set_cons_succ])
      generalize hV : World.alloc v3 (.cells #[.int .i64 ve, .slice A7 vz.length c7] 30) = v4
      obtain ⟨sb1, hN⟩ : ∃ m, m = v3.heap.size := ⟨_, rfl⟩
      rw [← hN]
      have SB1 : Blk v4 sb1 30 #[.int .i64 ve, .slice A7 vz.length c7] := by subst hV; rw [hN]; exact Blk.new _ rfl
      clear hN
      have hq : Below v3.heap.size v3 v4 := by subst hV; (with_reducible repeat' first | exact Below.refl _ _ | assumption | (refine Below.setCell ?_ (by first | omega | (simp; omega) | (simp; done) | (dsimp only; omega)) _) | (refine Below.alloc ?_ (by first | omega | (simp; omega) | (simp; done) | (dsimp only; omega)) _) | (refine below_drewN ?_ _) | (refine Below.drew ?_))
      have hb4 : Below W7.heap.size W7 v4 := hb3.trans (hq.mono hb3.size)
      replace SB2 := SB2.below hq SB2.lt
      clear hV hq hb3
      refine wpAnyH_ready (rs := [32]) (by kernel_rfl) (by simp) ?_
      refine AllReadyH.cons (o := { dst := some 79, op := _, type := _, pos := _, after := _, guard := _ }) rfl (fun K hK => ?_) (AllReadyH.nil)
      go_simp
      have K1 := kin_one (hA.same (Same.of_below hb4 hhA)) hc7 SB1
      have K2 := kin_one (hvz.same (Same.of_below hb4 hhvz)) hc3 SB2
      have H := sameTypes_same (some ⟨sb1, 0, none⟩) (some ⟨sb2, 0, none⟩) 1 1 _ _ _ _ [⟨ve, vz⟩] v4 K1 K2 (by have := SB1.lt; have := Nat.le_trans hhA hb4.size; omega) (by have := SB2.lt; have := Nat.le_trans hhvz hb4.size; omega)
      rw [show ([⟨ve, vz⟩] : List KinType).length = 1 from rfl] at H
      (go_at_call 68; (with_reducible refine H.mono ?_); rintro e v5 ⟨rfl, hq⟩)
      have hb5 : Below W7.heap.size W7 v5 := hb4.trans (hq.mono hb4.size)
      try go_wp2_with fail
      refine hK.out _ _ ⟨(hb5.cell (p := ⟨rb, 0, none⟩) yrb).trans zrb0, (hb5.cell (p := ⟨rb, 1, none⟩) yrb).trans zrb1, (hb5.cell (p := ⟨tb, 0, none⟩) ytb).trans ztb0, (hb5.cell (p := ⟨tb, 1, none⟩) ytb).trans ztb1, (hb5.cell (p := ⟨ab, 0, none⟩) yab).trans zab0, (hb5.cell (p := ⟨ab, 1, none⟩) yab).trans zab1, (hb5.cell (p := ⟨vb, 0, none⟩) yvb).trans zvb0, (hb5.cell (p := ⟨vb, 1, none⟩) yvb).trans zvb1⟩ (fun hHeld => ?_)
      clear hK K; (try simp only [Act.put, List.setIfInBounds_toArray, List.set_cons_zero, List.set_cons_succ])
      clear H hq hb4 K1 K2
      refine wpAnyH_take (i := 33) (oi := { dst := some 80, op := _, type := _, pos := _, after := _, guard := _ }) (v := ?_) rfl (by kernel_rfl) (by kernel_rfl) (by kernel_rfl) (fun _ _ _ h => h) (Or.inl ⟨by rfl, ?_⟩) (by assumption) ?_; rotate_left; (intro w hSw; (try dsimp only at hSw); go_simp); (try with_reducible rfl); (try simp only [Act.put, List.setIfInBounds_toArray, List.set_cons_zero, List.set_cons_succ])
      refine wpAnyH_take (i := 34) (oi := { dst := some 81, op := _, type := _, pos := _, after := _, guard := _ }) (v := ?_) rfl (by kernel_rfl) (by kernel_rfl) (by kernel_rfl) (fun _ _ _ h => h) (Or.inl ⟨by rfl, ?_⟩) (by assumption) ?_; rotate_left; (intro w hSw; (try dsimp only at hSw); go_simp); (try with_reducible rfl); (try simp only [Act.put, List.setIfInBounds_toArray, List.set_cons_zero, List.set_cons_succ])
      refine wpAnyH_done (by kernel_rfl) ?_ _
      go_wp2_with fail
      go_meet
      exact ⟨rfl, hb5⟩
  case rest =>
    obtain ⟨rfl, hq⟩ := hcut
    clear hb0 hvn hego zrb0 zrb1 ztb0 ztb1 zab0 zab1 zvb0 zvb1 yab yrb ytb yvb
    clear RB VB BB AB hR hvz hbz hA k0 hc7 hc3
    replace htz := htz.same (Same.of_below hq hhtz)
    replace hhtz := Nat.le_trans hhtz hq.size
    replace huz := huz.same (Same.of_below hq hhuz)
    replace hhuz := Nat.le_trans hhuz hq.size
    replace hX := hX.same (Same.of_below hq hhX)
    replace hhX := Nat.le_trans hhX hq.size
    replace hY := hY.same (Same.of_below hq hhY)
    replace hhY := Nat.le_trans hhY hq.size
    replace TB := TB.below hq TB.lt
    replace UB := UB.below hq UB.lt
    replace FB := FB.below hq FB.lt
    replace hbw := hbw.trans (hq.mono hbw.size)
    clear hq
    have hlaw := join_law xs ys (t := ⟨te, tz⟩) (u := ⟨ue, uz⟩)
    obtain ⟨⟨⟨we, wz⟩, ok⟩, hj⟩ : ∃ m, joinT ⟨te, tz⟩ ⟨ue, uz⟩ = m := ⟨_, rfl⟩
    rw [hj] at hlaw
    have HLAW := Lib.hid hlaw; clear hlaw
    have qTB0 := TB.cell (i := 0) rfl
    have qTB1 := TB.cell (i := 1) rfl
    have lTB := TB.lt
    have qUB0 := UB.cell (i := 0) rfl
    have qUB1 := UB.cell (i := 1) rfl
    have lUB := UB.lt
    have qFB0 := FB.cell (i := 0) rfl
    have qFB1 := FB.cell (i := 1) rfl
    have lFB := FB.lt
    have H := implJoinTypes_any te ue A1 A2 c1 c2 htzlo htzhi huzlo huzhi tz uz wc htz huz hhtz hhuz
    rw [hj] at H
    go_upto_region 13 with (go_at_call 69; (with_reducible refine H.mono ?_); rintro e wm ⟨A8, c8, rfl, o8, hm⟩)
    replace o8 : EStep.OS wm wc.heap.size wm.heap.size (.slice A8 wz.length c8) wz := o8
    clear H qTB0 qTB1 lTB qUB0 qUB1 lUB qFB0 qFB1 lFB
    generalize hV : World.alloc wm (.cells #[.int .i64 we, .slice A8 wz.length c8] 30) = W8
    obtain ⟨jb, hN⟩ : ∃ m, m = wm.heap.size := ⟨_, rfl⟩
    rw [← hN]
    have JB : Blk W8 jb 30 #[.int .i64 we, .slice A8 wz.length c8] := by subst hV; rw [hN]; exact Blk.new _ rfl
    clear hN
    have z := hm.size
    have hq : Below wc.heap.size wc W8 := by subst hV; (with_reducible repeat' first | exact Below.refl _ _ | assumption | (refine Below.setCell ?_ (by first | omega | (simp; omega) | (simp; done) | (dsimp only; omega)) _) | (refine Below.alloc ?_ (by first | omega | (simp; omega) | (simp; done) | (dsimp only; omega)) _) | (refine below_drewN ?_ _) | (refine Below.drew ?_) | (refine Below.trans ?_ (hm.mono (by first | omega | (simp; omega) | (simp; done) | (dsimp only; omega)))))
    obtain ⟨hJlo, hJhi, hJ, hhJ⟩ : ∃ lo hi, EStep.AS W8 lo hi A8 wz ∧ hi ≤ W8.heap.size := ⟨_, _, by subst hV; exact o8.read.as.same (by (with_reducible repeat' first | exact Same.refl _ _ _ | assumption | (refine Same.setCell ?_ (by first | omega | (simp; omega) | (simp; done) | (dsimp only; omega)) _) | (refine Same.alloc ?_ (by first | omega | (simp; omega) | (simp; done) | (dsimp only; omega)) _) | (refine Same.drewN ?_ _) | (refine Same.drew ?_))), by subst hV; simp⟩
    replace htz := htz.same (Same.of_below hq hhtz)
    replace hhtz := Nat.le_trans hhtz hq.size
    replace huz := huz.same (Same.of_below hq hhuz)
    replace hhuz := Nat.le_trans hhuz hq.size
    replace hX := hX.same (Same.of_below hq hhX)
    replace hhX := Nat.le_trans hhX hq.size
    replace hY := hY.same (Same.of_below hq hhY)
    replace hhY := Nat.le_trans hhY hq.size
    replace TB := TB.below hq TB.lt
    replace UB := UB.below hq UB.lt
    replace FB := FB.below hq FB.lt
    replace hbw := hbw.trans (hq.mono hbw.size)
    clear hV hq z hm o8
    have qTB0 := TB.cell (i := 0) rfl
    have qTB1 := TB.cell (i := 1) rfl
    have lTB := TB.lt
    have qUB0 := UB.cell (i := 0) rfl
    have qUB1 := UB.cell (i := 1) rfl
    have lUB := UB.lt
    have qFB0 := FB.cell (i := 0) rfl
    have qFB1 := FB.cell (i := 1) rfl
    have lFB := FB.lt
    have qJB0 := JB.cell (i := 0) rfl
    have qJB1 := JB.cell (i := 1) rfl
    have lJB := JB.lt
    have H := specJoinTypes_any te ue A1 A2 c1 c2 htzlo htzhi huzlo huzhi tz uz W8 htz huz hhtz hhuz
    rw [hj] at H
    clear hj
    go_upto_region 14 with (go_at_call 70; (with_reducible refine H.mono ?_); rintro e wm ⟨A9, c9, rfl, o9, hm⟩)
    clear H qTB0 qTB1 lTB qUB0 qUB1 lUB qFB0 qFB1 lFB qJB0 qJB1 lJB
    generalize hV : World.alloc wm (.cells #[.int .i64 we, .slice A9 wz.length c9] 30) = W9
    obtain ⟨gb, hN⟩ : ∃ m, m = wm.heap.size := ⟨_, rfl⟩
    rw [← hN]
    have GB : Blk W9 gb 30 #[.int .i64 we, .slice A9 wz.length c9] := by subst hV; rw [hN]; exact Blk.new _ rfl
    clear hN
    have z := hm.size
    have hq : Below W8.heap.size W8 W9 := by subst hV; (with_reducible repeat' first | exact Below.refl _ _ | assumption | (refine Below.setCell ?_ (by first | omega | (simp; omega) | (simp; done) | (dsimp only; omega)) _) | (refine Below.alloc ?_ (by first | omega | (simp; omega) | (simp; done) | (dsimp only; omega)) _) | (refine below_drewN ?_ _) | (refine Below.drew ?_) | (refine Below.trans ?_ (hm.mono (by first | omega | (simp; omega) | (simp; done) | (dsimp only; omega)))))
    replace htz := htz.same (Same.of_below hq hhtz)
    replace hhtz := Nat.le_trans hhtz hq.size
    replace huz := huz.same (Same.of_below hq hhuz)
    replace hhuz := Nat.le_trans hhuz hq.size
    replace hX := hX.same (Same.of_below hq hhX)
    replace hhX := Nat.le_trans hhX hq.size
    replace hY := hY.same (Same.of_below hq hhY)
    replace hhY := Nat.le_trans hhY hq.size
    replace hJ := hJ.same (Same.of_below hq hhJ)
    replace hhJ := Nat.le_trans hhJ hq.size
    replace TB := TB.below hq TB.lt
    replace UB := UB.below hq UB.lt
    replace FB := FB.below hq FB.lt
    replace JB := JB.below hq JB.lt
    replace hbw := hbw.trans (hq.mono hbw.size)
    clear hV hq z hm
    clear GB o9
    cases ok with
    | false =>
      go_upto_region 16 with fail
      go_quiet (fail)
      go_wp2_with fail
      go_ret
      first | exact ⟨rfl, below_drewN hbw _⟩ | exact ⟨rfl, hbw⟩ | exact ⟨rfl, hbw.drew⟩
    | true =>
      have hlaw := HLAW.out rfl
      obtain ⟨⟨s1, r1⟩, hm1⟩ : ∃ m, relForM xs ys ⟨we, wz⟩ = m := ⟨_, rfl⟩
      obtain ⟨⟨s2, r2⟩, hm2⟩ : ∃ m, relForM xs ys ⟨te, tz⟩ = m := ⟨_, rfl⟩
      obtain ⟨⟨s3, r3⟩, hm3⟩ : ∃ m, relForM xs ys ⟨ue, uz⟩ = m := ⟨_, rfl⟩
      obtain ⟨⟨s4, r4⟩, hm4⟩ : ∃ m, compM ⟨s2, r2⟩ ⟨s3, r3⟩ = m := ⟨_, rfl⟩
      replace hlaw : equalM (relForM xs ys ⟨we, wz⟩) (compM (relForM xs ys ⟨te, tz⟩) (relForM xs ys ⟨ue, uz⟩)) = true := hlaw
      rw [hm1, hm2, hm3, hm4] at hlaw
      have H1 := Lib.hid hm1; have H2 := Lib.hid hm2; have H3 := Lib.hid hm3; have H4 := Lib.hid hm4; have HL := Lib.hid hlaw
      clear hm1 hm2 hm3 hm4 hlaw
      go_upto_region 16 with fail
      have zfb0 : W9.drew.cell? ⟨fb, 0, none⟩ = some (.slice A4 xs.length c4) := FB.cell (i := 0) rfl
      have zfb1 : W9.drew.cell? ⟨fb, 1, none⟩ = some (.slice B4 ys.length d4) := FB.cell (i := 1) rfl
      have zjb0 : W9.drew.cell? ⟨jb, 0, none⟩ = some (.int .i64 we) := JB.cell (i := 0) rfl
      have zjb1 : W9.drew.cell? ⟨jb, 1, none⟩ = some (.slice A8 wz.length c8) := JB.cell (i := 1) rfl
      have ztb0 : W9.drew.cell? ⟨tb, 0, none⟩ = some (.int .i64 te) := TB.cell (i := 0) rfl
      have ztb1 : W9.drew.cell? ⟨tb, 1, none⟩ = some (.slice A1 tz.length c1) := TB.cell (i := 1) rfl
      have zub0 : W9.drew.cell? ⟨ub, 0, none⟩ = some (.int .i64 ue) := UB.cell (i := 0) rfl
      have zub1 : W9.drew.cell? ⟨ub, 1, none⟩ = some (.slice A2 uz.length c2) := UB.cell (i := 1) rfl
      have yfb : fb < W9.heap.size := FB.lt
      have yjb : jb < W9.heap.size := JB.lt
      have ytb : tb < W9.heap.size := TB.lt
      have yub : ub < W9.heap.size := UB.lt
      have hb0 : Below W9.heap.size W9 W9.drew := (Below.refl _ _).drew
      refine wp_region_held_drew (S := fun w' => w'.cell? ⟨fb, 0, none⟩ = some (.slice A4 xs.length c4) ∧ w'.cell? ⟨fb, 1, none⟩ = some (.slice B4 ys.length d4) ∧ w'.cell? ⟨jb, 0, none⟩ = some (.int .i64 we) ∧ w'.cell? ⟨jb, 1, none⟩ = some (.slice A8 wz.length c8) ∧ w'.cell? ⟨tb, 0, none⟩ = some (.int .i64 te) ∧ w'.cell? ⟨tb, 1, none⟩ = some (.slice A1 tz.length c1) ∧ w'.cell? ⟨ub, 0, none⟩ = some (.int .i64 ue) ∧ w'.cell? ⟨ub, 1, none⟩ = some (.slice A2 uz.length c2)) (by kernel_rfl) ⟨zfb0, zfb1, zjb0, zjb1, ztb0, ztb1, zub0, zub1⟩ (fun hHeld => ?_)
      refine wpAnyH_take (i := 0) (oi := { dst := some 97, op := _, type := _, pos := _, after := _, guard := _ }) (v := ?_) rfl (by kernel_rfl) (by kernel_rfl) (by kernel_rfl) (fun _ _ _ h => h) (Or.inl ⟨by rfl, ?_⟩) (by assumption) ?_; rotate_left; (intro w hSw; (try dsimp only at hSw); go_simp); (try with_reducible rfl); (try simp only [Act.put, List.setIfInBounds_toArray, List.set_cons_zero, List.set_cons_succ])
      refine wpAnyH_take (i := 1) (oi := { dst := some 98, op := _, type := _, pos := _, after := _, guard := _ }) (v := ?_) rfl (by kernel_rfl) (by kernel_rfl) (by kernel_rfl) (fun _ _ _ h => h) (Or.inl ⟨by rfl, ?_⟩) (by assumption) ?_; rotate_left; (intro w hSw; (try dsimp only at hSw); go_simp); (try with_reducible rfl); (try simp only [Act.put, List.setIfInBounds_toArray, List.set_cons_zero, List.set_cons_succ])
      refine wpAnyH_take (i := 2) (oi := { dst := some 99, op := _, type := _, pos := _, after := _, guard := _ }) (v := ?_) rfl (by kernel_rfl) (by kernel_rfl) (by kernel_rfl) (fun _ _ _ h => h) (Or.inl ⟨by rfl, ?_⟩) (by assumption) ?_; rotate_left; (intro w hSw; (try dsimp only at hSw); go_simp); (try with_reducible rfl); (try simp only [Act.put, List.setIfInBounds_toArray, List.set_cons_zero, List.set_cons_succ])
      refine wpAnyH_take (i := 3) (oi := { dst := some 100, op := _, type := _, pos := _, after := _, guard := _ }) (v := ?_) rfl (by kernel_rfl) (by kernel_rfl) (by kernel_rfl) (fun _ _ _ h => h) (Or.inl ⟨by rfl, ?_⟩) (by assumption) ?_; rotate_left; (intro w hSw; (try dsimp only at hSw); go_simp); (try with_reducible rfl); (try simp only [Act.put, List.setIfInBounds_toArray, List.set_cons_zero, List.set_cons_succ])
      refine wpAnyH_take (i := 4) (oi := { dst := some 101, op := _, type := _, pos := _, after := _, guard := _ }) (v := ?_) rfl (by kernel_rfl) (by kernel_rfl) (by kernel_rfl) (fun _ _ _ h => h) (Or.inl ⟨by rfl, ?_⟩) (by assumption) ?_; rotate_left; (intro w hSw; (try dsimp only at hSw); go_simp); (try with_reducible rfl); (try simp only [Act.put, List.setIfInBounds_toArray, List.set_cons_zero, List.set_cons_succ])
      refine wpAnyH_take (i := 6) (oi := { dst := some 103, op := _, type := _, pos := _, after := _, guard := _ }) (v := ?_) rfl (by kernel_rfl) (by kernel_rfl) (by kernel_rfl) (fun _ _ _ h => h) (Or.inl ⟨by rfl, ?_⟩) (by assumption) ?_; rotate_left; (intro w hSw; (try dsimp only at hSw); go_simp); (try with_reducible rfl); (try simp only [Act.put, List.setIfInBounds_toArray, List.set_cons_zero, List.set_cons_succ])
      refine wpAnyH_take (i := 7) (oi := { dst := some 104, op := _, type := _, pos := _, after := _, guard := _ }) (v := ?_) rfl (by kernel_rfl) (by kernel_rfl) (by kernel_rfl) (fun _ _ _ h => h) (Or.inl ⟨by rfl, ?_⟩) (by assumption) ?_; rotate_left; (intro w hSw; (try dsimp only at hSw); go_simp); (try with_reducible rfl); (try simp only [Act.put, List.setIfInBounds_toArray, List.set_cons_zero, List.set_cons_succ])
      refine wpAnyH_take (i := 9) (oi := { dst := some 106, op := _, type := _, pos := _, after := _, guard := _ }) (v := ?_) rfl (by kernel_rfl) (by kernel_rfl) (by kernel_rfl) (fun _ _ _ h => h) (Or.inl ⟨by rfl, ?_⟩) (by assumption) ?_; rotate_left; (intro w hSw; (try dsimp only at hSw); go_simp); (try with_reducible rfl); (try simp only [Act.put, List.setIfInBounds_toArray, List.set_cons_zero, List.set_cons_succ])
      refine wpAnyH_take (i := 10) (oi := { dst := some 107, op := _, type := _, pos := _, after := _, guard := _ }) (v := ?_) rfl (by kernel_rfl) (by kernel_rfl) (by kernel_rfl) (fun _ _ _ h => h) (Or.inl ⟨by rfl, ?_⟩) (by assumption) ?_; rotate_left; (intro w hSw; (try dsimp only at hSw); go_simp); (try with_reducible rfl); (try simp only [Act.put, List.setIfInBounds_toArray, List.set_cons_zero, List.set_cons_succ])
      refine wpAnyH_ready (rs := [5]) (by kernel_rfl) (by simp) ?_
      refine AllReadyH.cons (o := { dst := some 102, op := _, type := _, pos := _, after := _, guard := _ }) rfl (fun K hK => ?_) (AllReadyH.nil)
      go_simp
      have H := implRelationFor_any A4 B4 A8 c4 d4 c8 hXlo hXhi hJlo hJhi xs ys we wz W9.drew (hX.same (Same.of_below hb0 hhX)) (hY.same (Same.of_below hb0 hhY)) (hJ.same (Same.of_below hb0 hhJ)) (Nat.le_trans hhX hb0.size) (Nat.le_trans hhJ hb0.size) hdc hs
      rw [H1.out] at H
      (go_at_call 23; (with_reducible refine H.mono ?_); rintro e v1 ⟨Q1, k1, rfl, o1, hq⟩)
      have hb1 : Below W9.heap.size W9 v1 := hb0.trans (hq.mono hb0.size)
      try go_wp2_with fail
      refine hK.out _ _ ⟨(hb1.cell (p := ⟨fb, 0, none⟩) yfb).trans zfb0, (hb1.cell (p := ⟨fb, 1, none⟩) yfb).trans zfb1, (hb1.cell (p := ⟨jb, 0, none⟩) yjb).trans zjb0, (hb1.cell (p := ⟨jb, 1, none⟩) yjb).trans zjb1, (hb1.cell (p := ⟨tb, 0, none⟩) ytb).trans ztb0, (hb1.cell (p := ⟨tb, 1, none⟩) ytb).trans ztb1, (hb1.cell (p := ⟨ub, 0, none⟩) yub).trans zub0, (hb1.cell (p := ⟨ub, 1, none⟩) yub).trans zub1⟩ (fun hHeld => ?_)
      clear hK K; (try simp only [Act.put, List.setIfInBounds_toArray, List.set_cons_zero, List.set_cons_succ])
      have a1 := o1.read.as
      have ha1 := Nat.le_refl v1.heap.size
      clear H hq hb0 o1
      refine wpAnyH_ready (rs := [8]) (by kernel_rfl) (by simp) ?_
      refine AllReadyH.cons (o := { dst := some 105, op := _, type := _, pos := _, after := _, guard := _ }) rfl (fun K hK => ?_) (AllReadyH.nil)
      go_simp
      have H := implRelationFor_any A4 B4 A1 c4 d4 c1 hXlo hXhi htzlo htzhi xs ys te tz v1 (hX.same (Same.of_below hb1 hhX)) (hY.same (Same.of_below hb1 hhY)) (htz.same (Same.of_below hb1 hhtz)) (Nat.le_trans hhX hb1.size) (Nat.le_trans hhtz hb1.size) hdc hs
      rw [H2.out] at H
      (go_at_call 23; (with_reducible refine H.mono ?_); rintro e v2 ⟨Q2, k2, rfl, o2, hq⟩)
      have hb2 : Below W9.heap.size W9 v2 := hb1.trans (hq.mono hb1.size)
      try go_wp2_with fail
      refine hK.out _ _ ⟨(hb2.cell (p := ⟨fb, 0, none⟩) yfb).trans zfb0, (hb2.cell (p := ⟨fb, 1, none⟩) yfb).trans zfb1, (hb2.cell (p := ⟨jb, 0, none⟩) yjb).trans zjb0, (hb2.cell (p := ⟨jb, 1, none⟩) yjb).trans zjb1, (hb2.cell (p := ⟨tb, 0, none⟩) ytb).trans ztb0, (hb2.cell (p := ⟨tb, 1, none⟩) ytb).trans ztb1, (hb2.cell (p := ⟨ub, 0, none⟩) yub).trans zub0, (hb2.cell (p := ⟨ub, 1, none⟩) yub).trans zub1⟩ (fun hHeld => ?_)
      clear hK K; (try simp only [Act.put, List.setIfInBounds_toArray, List.set_cons_zero, List.set_cons_succ])
      replace a1 := a1.same (Same.of_below hq ha1)
      replace ha1 := Nat.le_trans ha1 hq.size
      have a2 := o2.read.as
      have ha2 := Nat.le_refl v2.heap.size
      clear H hq hb1 o2
      refine wpAnyH_ready (rs := [11]) (by kernel_rfl) (by simp) ?_
      refine AllReadyH.cons (o := { dst := some 108, op := _, type := _, pos := _, after := _, guard := _ }) rfl (fun K hK => ?_) (AllReadyH.nil)
      go_simp
      have H := implRelationFor_any A4 B4 A2 c4 d4 c2 hXlo hXhi huzlo huzhi xs ys ue uz v2 (hX.same (Same.of_below hb2 hhX)) (hY.same (Same.of_below hb2 hhY)) (huz.same (Same.of_below hb2 hhuz)) (Nat.le_trans hhX hb2.size) (Nat.le_trans hhuz hb2.size) hdc hs
      rw [H3.out] at H
      (go_at_call 23; (with_reducible refine H.mono ?_); rintro e v3 ⟨Q3, k3, rfl, o3, hq⟩)
      have hb3 : Below W9.heap.size W9 v3 := hb2.trans (hq.mono hb2.size)
      try go_wp2_with fail
      refine hK.out _ _ ⟨(hb3.cell (p := ⟨fb, 0, none⟩) yfb).trans zfb0, (hb3.cell (p := ⟨fb, 1, none⟩) yfb).trans zfb1, (hb3.cell (p := ⟨jb, 0, none⟩) yjb).trans zjb0, (hb3.cell (p := ⟨jb, 1, none⟩) yjb).trans zjb1, (hb3.cell (p := ⟨tb, 0, none⟩) ytb).trans ztb0, (hb3.cell (p := ⟨tb, 1, none⟩) ytb).trans ztb1, (hb3.cell (p := ⟨ub, 0, none⟩) yub).trans zub0, (hb3.cell (p := ⟨ub, 1, none⟩) yub).trans zub1⟩ (fun hHeld => ?_)
      clear hK K; (try simp only [Act.put, List.setIfInBounds_toArray, List.set_cons_zero, List.set_cons_succ])
      replace a1 := a1.same (Same.of_below hq ha1)
      replace ha1 := Nat.le_trans ha1 hq.size
      replace a2 := a2.same (Same.of_below hq ha2)
      replace ha2 := Nat.le_trans ha2 hq.size
      have a3 := o3.read.as
      have ha3 := Nat.le_refl v3.heap.size
      clear H hq hb2 o3
      refine wpAnyH_ready (rs := [12]) (by kernel_rfl) (by simp) ?_
      refine AllReadyH.cons (o := { dst := some 109, op := _, type := _, pos := _, after := _, guard := _ }) rfl (fun K hK => ?_) (AllReadyH.nil)
      go_simp
      have H := implComposeRelations_any s2 s3 Q2 Q3 k2 k3 _ _ _ _ r2 r3 v3 a2 a3 ha2 ha3
      rw [H4.out] at H
      (go_at_call 71; (with_reducible refine H.mono ?_); rintro e v4 ⟨Q4, k4, rfl, o4, hq⟩)
      have hb4 : Below W9.heap.size W9 v4 := hb3.trans (hq.mono hb3.size)
      try go_wp2_with fail
      refine hK.out _ _ ⟨(hb4.cell (p := ⟨fb, 0, none⟩) yfb).trans zfb0, (hb4.cell (p := ⟨fb, 1, none⟩) yfb).trans zfb1, (hb4.cell (p := ⟨jb, 0, none⟩) yjb).trans zjb0, (hb4.cell (p := ⟨jb, 1, none⟩) yjb).trans zjb1, (hb4.cell (p := ⟨tb, 0, none⟩) ytb).trans ztb0, (hb4.cell (p := ⟨tb, 1, none⟩) ytb).trans ztb1, (hb4.cell (p := ⟨ub, 0, none⟩) yub).trans zub0, (hb4.cell (p := ⟨ub, 1, none⟩) yub).trans zub1⟩ (fun hHeld => ?_)
      clear hK K; (try simp only [Act.put, List.setIfInBounds_toArray, List.set_cons_zero, List.set_cons_succ])
      replace a1 := a1.same (Same.of_below hq ha1)
      replace ha1 := Nat.le_trans ha1 hq.size
      replace a2 := a2.same (Same.of_below hq ha2)
      replace ha2 := Nat.le_trans ha2 hq.size
      replace a3 := a3.same (Same.of_below hq ha3)
      replace ha3 := Nat.le_trans ha3 hq.size
      have a4 := o4.read.as
      have ha4 := Nat.le_refl v4.heap.size
      clear H hq hb3 o4
      refine wpAnyH_ready (rs := [13]) (by kernel_rfl) (by simp) ?_
      refine AllReadyH.cons (o := { dst := some 110, op := _, type := _, pos := _, after := _, guard := _ }) rfl (fun K hK => ?_) (AllReadyH.nil)
      go_simp
      have H := specEqualRelations_any s1 s4 Q1 Q4 k1 k4 _ _ _ _ r1 r4 v4 a1 a4 ha1 ha4
      rw [HL.out] at H
      (go_at_call 22; (with_reducible refine H.mono ?_); rintro e v5 ⟨rfl, hq⟩)
      have hb5 : Below W9.heap.size W9 v5 := hb4.trans (hq.mono hb4.size)
      try go_wp2_with fail
      refine hK.out _ _ ⟨(hb5.cell (p := ⟨fb, 0, none⟩) yfb).trans zfb0, (hb5.cell (p := ⟨fb, 1, none⟩) yfb).trans zfb1, (hb5.cell (p := ⟨jb, 0, none⟩) yjb).trans zjb0, (hb5.cell (p := ⟨jb, 1, none⟩) yjb).trans zjb1, (hb5.cell (p := ⟨tb, 0, none⟩) ytb).trans ztb0, (hb5.cell (p := ⟨tb, 1, none⟩) ytb).trans ztb1, (hb5.cell (p := ⟨ub, 0, none⟩) yub).trans zub0, (hb5.cell (p := ⟨ub, 1, none⟩) yub).trans zub1⟩ (fun hHeld => ?_)
      clear hK K; (try simp only [Act.put, List.setIfInBounds_toArray, List.set_cons_zero, List.set_cons_succ])
      replace a1 := a1.same (Same.of_below hq ha1)
      replace ha1 := Nat.le_trans ha1 hq.size
      replace a2 := a2.same (Same.of_below hq ha2)
      replace ha2 := Nat.le_trans ha2 hq.size
      replace a3 := a3.same (Same.of_below hq ha3)
      replace ha3 := Nat.le_trans ha3 hq.size
      replace a4 := a4.same (Same.of_below hq ha4)
      replace ha4 := Nat.le_trans ha4 hq.size
      clear H hq hb4
      refine wpAnyH_take (i := 14) (oi := { dst := some 111, op := _, type := _, pos := _, after := _, guard := _ }) (v := ?_) rfl (by kernel_rfl) (by kernel_rfl) (by kernel_rfl) (fun _ _ _ h => h) (Or.inl ⟨by rfl, ?_⟩) (by assumption) ?_; rotate_left; (intro w hSw; (try dsimp only at hSw); go_simp); (try with_reducible rfl); (try simp only [Act.put, List.setIfInBounds_toArray, List.set_cons_zero, List.set_cons_succ])
      refine wpAnyH_take (i := 15) (oi := { dst := some 2, op := _, type := _, pos := _, after := _, guard := _ }) (v := ?_) rfl (by kernel_rfl) (by kernel_rfl) (by kernel_rfl) (fun _ _ _ h => h) (Or.inl ⟨by rfl, ?_⟩) (by assumption) ?_; rotate_left; (intro w hSw; (try dsimp only at hSw); go_simp); (try with_reducible rfl); (try simp only [Act.put, List.setIfInBounds_toArray, List.set_cons_zero, List.set_cons_succ])
      refine wpAnyH_done (by kernel_rfl) ?_ _
      go_wp2_with fail
      go_ret
      exact ⟨rfl, hbw.trans (hb5.mono hbw.size)⟩
end Go.Proofs.Ytnnjilkjjdiblaa

namespace Go.Proofs.Ytnnjilkjjdiblaa
set_option maxRecDepth 100000
open Go.ChangeShapes Go.WideShapes Go.ChangeAt Go.RowKit

theorem FnTypes_all (A : Option Addr) (c n : Nat) (w : World) (k : n ≤ BIG → ∃ xs : List Int, xs.length = n ∧ EByte.AS w 0 w.heap.size A xs ∧ ∀ x ∈ xs, 0 ≤ x ∧ x ≤ 255) :
    Calls Try.prog 13 #[.slice A n c] w fun e w' => e = .returned (.bool true) ∧ Below w.heap.size w w' := by
  by_cases hl : n ≤ 1048576
  · obtain ⟨bs, rfl, hA, hb⟩ := k (by unfold BIG; omega)
    exact FnTypes_walk A c bs w hA hb
  · have hl2 : (1048576 : Int) < (n : Int) := by omega
    go_enter Try.func13, Try.ntmps13
    go_wp2
    go_ret
    exact ⟨rfl, Below.refl _ _⟩

set_option maxRecDepth 100000 in
theorem FnTypes_lifted (os : Os) (started : os.Started) (H : Type) (enc : TypeId × Value → H) :
    ReturnsInHanded {} Try.checked os 13 .any (Rows.fnTypesSpec.pre6 enc Try.prog Try.f13 Rows.fnTypesRow.domain false) (Rows.fnTypesSpec.post enc Try.prog Try.f13 false true false false) := by
  refine returnsInHanded_of_change_sized (C := Try.checked) own started (by kernel_rfl) Try.func13
    (ChangeSpec.witness6 (enc := enc) (C := Try.checked) false ⟨#[], #[.slice none 0 0], []⟩ 8 (by kernel_rfl) (by kernel_rfl) (by kernel_rfl) (by kernel_rfl)) ?_
  intro W base args ds gs before hval0 hW hcnd hsz0 _
  have hval : ∀ (j : Nat) t v, Try.f13.params[j]? = some t → args[j]? = some v → Value.okWide Try.prog W .any base t v := hval0
  have hW' := hW
  obtain ⟨p, q, hA0, hV, rfl, hfz, hnd⟩ := hW
  have hA : DataW.TrodAll enc Try.prog W 0 (fun _ => true) true Try.f13.params.toList args.toList ds p := hA0
  obtain ⟨rfl, rfl⟩ := trodVars_none hV
  have hsz : (DataW.weightsEach Try.prog Try.f13.params.toList ds).all (· ≤ reachBytes) = true := by
    have h := hsz0
    rw [List.append_nil] at h
    exact h
  rw [Try.params13] at hA hval hsz
  obtain ⟨v0, vs0, d0, ds0, p0, q0, hargs, rfl, rfl, j0, r0⟩ := trodAll_cons hA
  obtain ⟨rfl, rfl, rfl⟩ := trodAll_nil r0
  obtain rfl : args = #[v0] := Array.toList_inj.1 hargs
  obtain ⟨A0, c0, x0, rfl, k0⟩ := open_Bytes (hval 0 22 v0 rfl rfl) j0 (fits_of hsz (j := 0) rfl rfl)
  refine (FnTypes_all A0 c0 x0 W k0).mono fun e W' ⟨he, hb⟩ => ?_
  subst he
  exact ⟨_, rfl, law_post laidOut hW' rfl rfl rfl Try.underlying4 (by rw [Try.params13]; decide +kernel) hb⟩
theorem FnTypes_closed : joinedFacts Try.prog 13 Try.f13 Rows.fnTypesSpec Rows.fnTypesRow = true := by
  simp only [joinedFacts, Bool.and_eq_true]
  (with_reducible repeat' apply And.intro) <;> first | with_reducible exact f_laid | with_reducible exact f_maps | with_reducible exact f_heard | with_reducible exact f_enter | with_reducible exact f_lift _ rfl | with_reducible exact f_make _ rfl | (with_reducible refine f_lift _ ?_; rfl) | (with_reducible refine f_make _ ?_; rfl) | kernel_rfl
theorem FnTypes_holds : Rows.FnTypesSaid :=
  OpenClaim.holds_of_wide 13 Try.f13 rfl rfl rfl rfl rfl rfl rfl ⟨rfl, rfl, rfl, rfl, rfl⟩ rfl rfl rfl rfl rfl (by kernel_rfl) Try.func13 FnTypes_closed
    (of_decide_eq_true (by kernel_rfl)) (by unfold Func.isWrapper; first | (rw [if_pos (by decide +kernel)]; kernel_rfl) | (rw [if_neg (by decide +kernel)]; exact ⟨rfl, rfl⟩))
    (fun os started H enc _ => FnTypes_lifted os started H enc)
#print axioms FnTypes_holds
end Go.Proofs.Ytnnjilkjjdiblaa
