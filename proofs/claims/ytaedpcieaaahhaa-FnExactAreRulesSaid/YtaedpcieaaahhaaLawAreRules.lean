/-
  The law FnExactAreRules: the walk.
-/
import Derived.Test.YtaedpcieaaahhaaAreRules
import Derived.Test.YtaedpcieaaahhaaConvRules
import Derived.Test.YtaedpcieaaahhaaOpen
namespace Go.Proofs.Ytaedpcieaaahhaa
set_option maxRecDepth 100000
open Go.ChangeShapes Go.WideShapes Go.ChangeAt Go.RowKit

set_option maxHeartbeats 8000000 in
theorem FnExactAreRules_walk (A0 : Option Addr) (c0 : Nat) (x0 : List Rule) (w : World) (k0 : ERule.AS w 0 w.heap.size A0 x0) :
    Calls Try.prog 4 #[.slice A0 x0.length c0] w fun e w' => e = .returned (.bool true) ∧ Below w.heap.size w w' := by
  go_enter Try.func4, Try.ntmps4
  have hb : Below w.heap.size w w := Below.refl _ _
  go_wp2_with fail
  refine (szRuleS_any _ _ _ _ _ _ _ k0 (by first | assumption | omega | (simp; omega) | exact OS_cap (by assumption)) (by first | assumption | omega | (simp; omega) | exact OS_cap (by assumption)) (by first | omega | (simp; omega) | (simp; done) | (dsimp only; omega))).mono ?_
  rintro e w1 ⟨r3, rfl, hb2, hs4⟩
  (replace k0 := k0.same (Same.of_below hb2 (by first | omega | (simp; omega) | (simp; done) | (dsimp only; omega))); replace hb := hb.trans (hb2.mono (by first | omega | (simp; omega) | (simp; done) | (dsimp only; omega))); have zhb2 := hb2.size; clear hb2)
  go_wp2_with fail
  · go_ret
    exact ⟨rfl, hb⟩
  have hl5 : x0.length + totR x0 ≤ 1048576 ∧ r3 ≤ 1048576 ∧ 0 ≤ r3 := by rcases hs4 with ⟨hs4, _⟩ | ⟨_, hs4⟩ <;> omega
  obtain ⟨hl5, hl5a, hl5b⟩ := hl5; clear hs4
  refine (toRuleS_any _ _ _ _ _ _ k0 (by first | omega | (simp; omega) | (simp; done) | (dsimp only; omega)) (by first | assumption | omega | (simp; omega) | exact OS_cap (by assumption))).mono ?_
  rintro e w6 ⟨A8, c9, rfl, o10, hb7⟩
  (replace k0 := k0.same (Same.of_below hb7 (by first | omega | (simp; omega) | (simp; done) | (dsimp only; omega))); replace hb := hb.trans (hb7.mono (by first | omega | (simp; omega) | (simp; done) | (dsimp only; omega))); have zhb7 := hb7.size; clear hb7)
  go_wp2_with fail
  refine (specAreRules_any _ _ _ _ _ _ o10.read.as (by first | omega | (simp; omega) | (simp; done) | (dsimp only; omega))).mono ?_
  rintro e w11 ⟨rfl, hb12⟩
  (replace k0 := k0.same (Same.of_below hb12 (by first | omega | (simp; omega) | (simp; done) | (dsimp only; omega))); replace o10 := o10.same (Same.of_below hb12 (by first | omega | (simp; omega) | (simp; done) | (dsimp only; omega))); replace hb := hb.trans (hb12.mono (by first | omega | (simp; omega) | (simp; done) | (dsimp only; omega))); have zhb12 := hb12.size; clear hb12)
  go_wp2_with fail
  refine (toRuleS_any _ _ _ _ _ _ k0 (by first | omega | (simp; omega) | (simp; done) | (dsimp only; omega)) (by first | assumption | omega | (simp; omega) | exact OS_cap (by assumption))).mono ?_
  rintro e w13 ⟨A15, c16, rfl, o17, hb14⟩
  (replace k0 := k0.same (Same.of_below hb14 (by first | omega | (simp; omega) | (simp; done) | (dsimp only; omega))); replace o10 := o10.same (Same.of_below hb14 (by first | omega | (simp; omega) | (simp; done) | (dsimp only; omega))); replace hb := hb.trans (hb14.mono (by first | omega | (simp; omega) | (simp; done) | (dsimp only; omega))); have zhb14 := hb14.size; clear hb14)
  go_wp2_with fail
  refine (implAreRules_any _ _ _ _ _ _ o17.read.as (by first | omega | (simp; omega) | (simp; done) | (dsimp only; omega))).mono ?_
  rintro e w18 ⟨rfl, hb19⟩
  (replace k0 := k0.same (Same.of_below hb19 (by first | omega | (simp; omega) | (simp; done) | (dsimp only; omega))); replace o10 := o10.same (Same.of_below hb19 (by first | omega | (simp; omega) | (simp; done) | (dsimp only; omega))); replace o17 := o17.same (Same.of_below hb19 (by first | omega | (simp; omega) | (simp; done) | (dsimp only; omega))); replace hb := hb.trans (hb19.mono (by first | omega | (simp; omega) | (simp; done) | (dsimp only; omega))); have zhb19 := hb19.size; clear hb19)
  go_wp2_with fail
  refine (toRuleS_any _ _ _ _ _ _ k0 (by first | omega | (simp; omega) | (simp; done) | (dsimp only; omega)) (by first | assumption | omega | (simp; omega) | exact OS_cap (by assumption))).mono ?_
  rintro e w20 ⟨A22, c23, rfl, o24, hb21⟩
  (replace k0 := k0.same (Same.of_below hb21 (by first | omega | (simp; omega) | (simp; done) | (dsimp only; omega))); replace o10 := o10.same (Same.of_below hb21 (by first | omega | (simp; omega) | (simp; done) | (dsimp only; omega))); replace o17 := o17.same (Same.of_below hb21 (by first | omega | (simp; omega) | (simp; done) | (dsimp only; omega))); replace hb := hb.trans (hb21.mono (by first | omega | (simp; omega) | (simp; done) | (dsimp only; omega))); have zhb21 := hb21.size; clear hb21)
  go_wp2_with fail
  refine (eqRuleS_any _ _ _ _ _ _ _ _ _ _ _ o17.read.as o24.read.as (by first | omega | (simp; omega) | (simp; done) | (dsimp only; omega)) (by first | omega | (simp; omega) | (simp; done) | (dsimp only; omega))).mono ?_
  rintro e w25 ⟨rfl, hb26⟩
  try simp only [eqB_refl]
  (replace k0 := k0.same (Same.of_below hb26 (by first | omega | (simp; omega) | (simp; done) | (dsimp only; omega))); replace o10 := o10.same (Same.of_below hb26 (by first | omega | (simp; omega) | (simp; done) | (dsimp only; omega))); replace o17 := o17.same (Same.of_below hb26 (by first | omega | (simp; omega) | (simp; done) | (dsimp only; omega))); replace o24 := o24.same (Same.of_below hb26 (by first | omega | (simp; omega) | (simp; done) | (dsimp only; omega))); replace hb := hb.trans (hb26.mono (by first | omega | (simp; omega) | (simp; done) | (dsimp only; omega))); have zhb26 := hb26.size; clear hb26)
  go_wp2_with fail
  go_ret
  exact ⟨rfl, hb⟩

end Go.Proofs.Ytaedpcieaaahhaa
