/-
  The law FnExactTypesFrom: the walk.
-/
import Derived.Test.YtnnjilkjjdiblaaFromI
import Derived.Test.YtnnjilkjjdiblaaFromM
import Derived.Test.YtnnjilkjjdiblaaFromS
import Derived.Test.YtnnjilkjjdiblaaOpen
import Derived.Test.YtnnjilkjjdiblaaTypEl
namespace Go.Proofs.Ytnnjilkjjdiblaa
set_option maxRecDepth 100000
open Go.ChangeShapes Go.WideShapes Go.ChangeAt Go.RowKit

set_option maxHeartbeats 8000000 in
theorem FnExactTypesFrom_walk (n0 : Int) (n1 : Int) (w : World) (_l0 : -9223372036854775808 ≤ n0 ∧ n0 ≤ 9223372036854775807) (_l1 : -9223372036854775808 ≤ n1 ∧ n1 ≤ 9223372036854775807) :
    Calls Try.prog 5 #[.int .i64 n0, .int .i64 n1] w fun e w' => e = .returned (.bool true) ∧ Below w.heap.size w w' := by
  go_enter Try.func5, Try.ntmps5
  have hb : Below w.heap.size w w := Below.refl _ _
  go_wp2_with fail
  refine (specTypesFrom_any _ _ _).mono ?_
  rintro e w1 ⟨A3, c4, rfl, o5, hb2⟩
  (replace hb := hb.trans (hb2.mono (by first | omega | (simp; omega) | (simp; done) | (dsimp only; omega))); have zhb2 := hb2.size; clear hb2)
  have bd6 : (fromM n0 n1).length ≤ 1536 ∧ mkT (fromM n0 n1) ≤ 10752 := fromM_bounds _ _
  go_wp2_with fail
  refine (implTypesFrom_any _ _ _).mono ?_
  rintro e w7 ⟨A9, c10, rfl, o11, hb8⟩
  (replace o5 := o5.same (Same.of_below hb8 (by first | omega | (simp; omega) | (simp; done) | (dsimp only; omega))); replace hb := hb.trans (hb8.mono (by first | omega | (simp; omega) | (simp; done) | (dsimp only; omega))); have zhb8 := hb8.size; clear hb8)
  have bd12 : (fromM n0 n1).length ≤ 1536 ∧ mkT (fromM n0 n1) ≤ 10752 := fromM_bounds _ _
  go_wp2_with fail
  refine (eqKinTypeS_any _ _ _ _ _ _ _ _ _ _ _ o11.read.as o5.read.as (by first | omega | (simp; omega) | (simp; done) | (dsimp only; omega)) (by first | omega | (simp; omega) | (simp; done) | (dsimp only; omega))).mono ?_
  rintro e w13 ⟨rfl, hb14⟩
  try simp only [eqB_refl]
  (replace o5 := o5.same (Same.of_below hb14 (by first | omega | (simp; omega) | (simp; done) | (dsimp only; omega))); replace o11 := o11.same (Same.of_below hb14 (by first | omega | (simp; omega) | (simp; done) | (dsimp only; omega))); replace hb := hb.trans (hb14.mono (by first | omega | (simp; omega) | (simp; done) | (dsimp only; omega))); have zhb14 := hb14.size; clear hb14)
  go_wp2_with fail
  refine (markKinTypeS_any _ _ _ _ _ _ _ o11 (by first | omega | (simp; omega) | (simp; done) | (dsimp only; omega)) (by first | assumption | omega | (simp; omega) | exact OS_cap (by assumption)) (by first | assumption | omega | (simp; omega) | exact OS_cap (by assumption))).mono ?_
  rintro e w15 ⟨rfl, o17, hb16⟩
  (replace o5 := o5.same (Same.of_chg hb16 (by first | omega | (simp; omega) | (simp; done) | (dsimp only; omega)) (by first | omega | (simp; omega) | (simp; done) | (dsimp only; omega))); replace hb := hb.trans (hb16.below (by first | omega | (simp; omega) | (simp; done) | (dsimp only; omega)) (by first | omega | (simp; omega) | (simp; done) | (dsimp only; omega))); have zhb16 := hb16.size; clear hb16)
  clear o11
  go_wp2_with fail
  refine (heldKinTypeS_any _ _ _ _ _ _ _ o17.read.as (by first | assumption | omega | (simp; omega) | exact OS_cap (by assumption)) (by first | assumption | omega | (simp; omega) | exact OS_cap (by assumption))).mono ?_
  rintro e w18 ⟨rfl, rfl⟩
  go_wp2_with fail
  refine (implTypesFrom_any _ _ _).mono ?_
  rintro e w20 ⟨A22, c23, rfl, o24, hb21⟩
  (replace o5 := o5.same (Same.of_below hb21 (by first | omega | (simp; omega) | (simp; done) | (dsimp only; omega))); replace o17 := o17.same (Same.of_below hb21 (by first | omega | (simp; omega) | (simp; done) | (dsimp only; omega))); replace hb := hb.trans (hb21.mono (by first | omega | (simp; omega) | (simp; done) | (dsimp only; omega))); have zhb21 := hb21.size; clear hb21)
  have bd25 : (fromM n0 n1).length ≤ 1536 ∧ mkT (fromM n0 n1) ≤ 10752 := fromM_bounds _ _
  go_wp2_with fail
  refine (eqKinTypeS_any _ _ _ _ _ _ _ _ _ _ _ o24.read.as o5.read.as (by first | omega | (simp; omega) | (simp; done) | (dsimp only; omega)) (by first | omega | (simp; omega) | (simp; done) | (dsimp only; omega))).mono ?_
  rintro e w26 ⟨rfl, hb27⟩
  try simp only [eqB_refl]
  (replace o5 := o5.same (Same.of_below hb27 (by first | omega | (simp; omega) | (simp; done) | (dsimp only; omega))); replace o17 := o17.same (Same.of_below hb27 (by first | omega | (simp; omega) | (simp; done) | (dsimp only; omega))); replace o24 := o24.same (Same.of_below hb27 (by first | omega | (simp; omega) | (simp; done) | (dsimp only; omega))); replace hb := hb.trans (hb27.mono (by first | omega | (simp; omega) | (simp; done) | (dsimp only; omega))); have zhb27 := hb27.size; clear hb27)
  go_wp2_with fail
  refine (heldKinTypeS_any _ _ _ _ _ _ _ o17.read.as (by first | assumption | omega | (simp; omega) | exact OS_cap (by assumption)) (by first | assumption | omega | (simp; omega) | exact OS_cap (by assumption))).mono ?_
  rintro e w28 ⟨rfl, rfl⟩
  go_wp2_with fail
  go_ret
  exact ⟨rfl, hb⟩

end Go.Proofs.Ytnnjilkjjdiblaa
