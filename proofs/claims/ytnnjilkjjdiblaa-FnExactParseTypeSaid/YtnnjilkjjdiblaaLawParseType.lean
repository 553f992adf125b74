/-
  The law FnExactParseType: the walk.
-/
import Derived.Test.YtnnjilkjjdiblaaConvTyp
import Derived.Test.YtnnjilkjjdiblaaMarkTyp
import Derived.Test.YtnnjilkjjdiblaaOpen
import Derived.Test.YtnnjilkjjdiblaaGParse
namespace Go.Proofs.Ytnnjilkjjdiblaa
set_option maxRecDepth 100000
open Go.ChangeShapes Go.WideShapes Go.ChangeAt Go.RowKit

set_option maxHeartbeats 8000000 in
theorem FnExactParseType_walk (s0 : ByteArray) (w : World) (_l0 : s0.size ≤ reachBytes) :
    Calls Try.prog 6 #[.string s0] w fun e w' => e = .returned (.bool true) ∧ Below w.heap.size w w' := by
  go_enter Try.func6, Try.ntmps6
  have hb : Below w.heap.size w w := Below.refl _ _
  go_wp2_with fail
  · go_ret
    exact ⟨rfl, Below.refl _ _⟩
  refine (specParseType_any _ _ (by first | assumption | omega | (simp; omega) | exact OS_cap (by assumption))).mono ?_
  rintro e w1 ⟨A3, c4, rfl, o5, hb2⟩
  (replace hb := hb.trans (hb2.mono (by first | omega | (simp; omega) | (simp; done) | (dsimp only; omega))); have zhb2 := hb2.size; clear hb2)
  have bd6 : (parseM s0).1.steps.length ≤ 8 := parseM_len _
  go_wp2_with fail
  generalize hW9 : w1.alloc (.cells #[.int .i64 (parseM s0).1.ego, .slice A3 (parseM s0).1.steps.length c4] 30) = W8
  have hb10 : Below w1.heap.size w1 W8 := by subst hW9; (with_reducible repeat' first | exact Below.refl _ _ | assumption | (refine Below.setCell ?_ (by first | omega | (simp; omega) | (simp; done) | (dsimp only; omega)) _) | (refine Below.alloc ?_ (by first | omega | (simp; omega) | (simp; done) | (dsimp only; omega)) _) | (refine below_drewN ?_ _) | (refine Below.drew ?_))
  have z11 : w1.heap.size + 1 ≤ W8.heap.size := by subst hW9; simp
  have a12 : W8.cell? ⟨w1.heap.size, 0, none⟩ = some (.int .i64 (parseM s0).1.ego) := by subst hW9; simp [go_sem]
  have a13 : W8.cell? ⟨w1.heap.size, 1, none⟩ = some (.slice A3 (parseM s0).1.steps.length c4) := by subst hW9; simp [go_sem]
  clear hW9
  (replace o5 := o5.same (Same.of_below hb10 (by first | omega | (simp; omega) | (simp; done) | (dsimp only; omega))); replace hb := hb.trans (hb10.mono (by first | omega | (simp; omega) | (simp; done) | (dsimp only; omega))); have zhb10 := hb10.size; clear hb10)
  refine (implParseType_any _ _ (by first | assumption | omega | (simp; omega) | exact OS_cap (by assumption))).mono ?_
  rintro e w14 ⟨A16, c17, rfl, o18, hb15⟩
  (replace a12 := (hb15.cell (by first | omega | (simp; omega) | (simp; done) | (dsimp only; omega))).trans a12; replace a13 := (hb15.cell (by first | omega | (simp; omega) | (simp; done) | (dsimp only; omega))).trans a13; replace o5 := o5.same (Same.of_below hb15 (by first | omega | (simp; omega) | (simp; done) | (dsimp only; omega))); replace hb := hb.trans (hb15.mono (by first | omega | (simp; omega) | (simp; done) | (dsimp only; omega))); have zhb15 := hb15.size; clear hb15)
  have bd19 : (parseM s0).1.steps.length ≤ 8 := parseM_len _
  have l21 : w1.heap.size < w14.heap.size := by omega
  go_wp2_with fail
  generalize hW23 : w14.alloc (.cells #[.int .i64 (parseM s0).1.ego, .slice A16 (parseM s0).1.steps.length c17] 30) = W22
  have hb24 : Below w14.heap.size w14 W22 := by subst hW23; (with_reducible repeat' first | exact Below.refl _ _ | assumption | (refine Below.setCell ?_ (by first | omega | (simp; omega) | (simp; done) | (dsimp only; omega)) _) | (refine Below.alloc ?_ (by first | omega | (simp; omega) | (simp; done) | (dsimp only; omega)) _) | (refine below_drewN ?_ _) | (refine Below.drew ?_))
  have z25 : w14.heap.size + 1 ≤ W22.heap.size := by subst hW23; simp
  have a26 : W22.cell? ⟨w14.heap.size, 0, none⟩ = some (.int .i64 (parseM s0).1.ego) := by subst hW23; simp [go_sem]
  have a27 : W22.cell? ⟨w14.heap.size, 1, none⟩ = some (.slice A16 (parseM s0).1.steps.length c17) := by subst hW23; simp [go_sem]
  clear hW23
  (replace a12 := (hb24.cell (by first | omega | (simp; omega) | (simp; done) | (dsimp only; omega))).trans a12; replace a13 := (hb24.cell (by first | omega | (simp; omega) | (simp; done) | (dsimp only; omega))).trans a13; replace o5 := o5.same (Same.of_below hb24 (by first | omega | (simp; omega) | (simp; done) | (dsimp only; omega))); replace o18 := o18.same (Same.of_below hb24 (by first | omega | (simp; omega) | (simp; done) | (dsimp only; omega))); replace hb := hb.trans (hb24.mono (by first | omega | (simp; omega) | (simp; done) | (dsimp only; omega))); have zhb24 := hb24.size; clear hb24)
  refine (eqKinType_any _ _ _ _ _ _ _ _ _ _ _ _ _ o18.read.as o5.read.as (by first | omega | (simp; omega) | (simp; done) | (dsimp only; omega)) (by first | omega | (simp; omega) | (simp; done) | (dsimp only; omega))).mono ?_
  rintro e w28 ⟨rfl, hb29⟩
  try simp only [eqB_refl]
  (replace a12 := (hb29.cell (by first | omega | (simp; omega) | (simp; done) | (dsimp only; omega))).trans a12; replace a13 := (hb29.cell (by first | omega | (simp; omega) | (simp; done) | (dsimp only; omega))).trans a13; replace a26 := (hb29.cell (by first | omega | (simp; omega) | (simp; done) | (dsimp only; omega))).trans a26; replace a27 := (hb29.cell (by first | omega | (simp; omega) | (simp; done) | (dsimp only; omega))).trans a27; replace o5 := o5.same (Same.of_below hb29 (by first | omega | (simp; omega) | (simp; done) | (dsimp only; omega))); replace o18 := o18.same (Same.of_below hb29 (by first | omega | (simp; omega) | (simp; done) | (dsimp only; omega))); replace hb := hb.trans (hb29.mono (by first | omega | (simp; omega) | (simp; done) | (dsimp only; omega))); have zhb29 := hb29.size; clear hb29)
  go_wp2_with fail
  refine (markKinType_any _ _ _ _ _ _ _ _ o18 (by first | omega | (simp; omega) | (simp; done) | (dsimp only; omega)) (by first | assumption | omega | (simp; omega) | exact OS_cap (by assumption)) (by first | assumption | omega | (simp; omega) | exact OS_cap (by assumption))).mono ?_
  rintro e w30 ⟨rfl, o32, hb31⟩
  (replace a12 := (hb31.cell (by first | omega | (simp; omega) | (simp; done) | (dsimp only; omega)) (by first | omega | (simp; omega) | (simp; done) | (dsimp only; omega))).trans a12; replace a13 := (hb31.cell (by first | omega | (simp; omega) | (simp; done) | (dsimp only; omega)) (by first | omega | (simp; omega) | (simp; done) | (dsimp only; omega))).trans a13; replace a26 := (hb31.cell (by first | omega | (simp; omega) | (simp; done) | (dsimp only; omega)) (by first | omega | (simp; omega) | (simp; done) | (dsimp only; omega))).trans a26; replace a27 := (hb31.cell (by first | omega | (simp; omega) | (simp; done) | (dsimp only; omega)) (by first | omega | (simp; omega) | (simp; done) | (dsimp only; omega))).trans a27; replace o5 := o5.same (Same.of_chg hb31 (by first | omega | (simp; omega) | (simp; done) | (dsimp only; omega)) (by first | omega | (simp; omega) | (simp; done) | (dsimp only; omega))); replace hb := hb.trans (hb31.below (by first | omega | (simp; omega) | (simp; done) | (dsimp only; omega)) (by first | omega | (simp; omega) | (simp; done) | (dsimp only; omega))); have zhb31 := hb31.size; clear hb31)
  clear o18
  go_wp2_with fail
  refine (heldKinType_any _ _ _ _ _ _ _ _ o32.read.as (by first | omega | (simp; omega) | (simp; done) | (dsimp only; omega)) (by first | assumption | omega | (simp; omega) | exact OS_cap (by assumption)) (by first | assumption | omega | (simp; omega) | exact OS_cap (by assumption))).mono ?_
  rintro e w33 ⟨rfl, hb34⟩
  (replace a12 := (hb34.cell (by first | omega | (simp; omega) | (simp; done) | (dsimp only; omega))).trans a12; replace a13 := (hb34.cell (by first | omega | (simp; omega) | (simp; done) | (dsimp only; omega))).trans a13; replace a26 := (hb34.cell (by first | omega | (simp; omega) | (simp; done) | (dsimp only; omega))).trans a26; replace a27 := (hb34.cell (by first | omega | (simp; omega) | (simp; done) | (dsimp only; omega))).trans a27; replace o5 := o5.same (Same.of_below hb34 (by first | omega | (simp; omega) | (simp; done) | (dsimp only; omega))); replace o32 := o32.same (Same.of_below hb34 (by first | omega | (simp; omega) | (simp; done) | (dsimp only; omega))); replace hb := hb.trans (hb34.mono (by first | omega | (simp; omega) | (simp; done) | (dsimp only; omega))); have zhb34 := hb34.size; clear hb34)
  go_wp2_with fail
  refine (implParseType_any _ _ (by first | assumption | omega | (simp; omega) | exact OS_cap (by assumption))).mono ?_
  rintro e w35 ⟨A37, c38, rfl, o39, hb36⟩
  (replace a12 := (hb36.cell (by first | omega | (simp; omega) | (simp; done) | (dsimp only; omega))).trans a12; replace a13 := (hb36.cell (by first | omega | (simp; omega) | (simp; done) | (dsimp only; omega))).trans a13; replace a26 := (hb36.cell (by first | omega | (simp; omega) | (simp; done) | (dsimp only; omega))).trans a26; replace a27 := (hb36.cell (by first | omega | (simp; omega) | (simp; done) | (dsimp only; omega))).trans a27; replace o5 := o5.same (Same.of_below hb36 (by first | omega | (simp; omega) | (simp; done) | (dsimp only; omega))); replace o32 := o32.same (Same.of_below hb36 (by first | omega | (simp; omega) | (simp; done) | (dsimp only; omega))); replace hb := hb.trans (hb36.mono (by first | omega | (simp; omega) | (simp; done) | (dsimp only; omega))); have zhb36 := hb36.size; clear hb36)
  have bd40 : (parseM s0).1.steps.length ≤ 8 := parseM_len _
  have l42 : w1.heap.size < w35.heap.size := by omega
  have l43 : w14.heap.size < w35.heap.size := by omega
  go_wp2_with fail
  generalize hW45 : w35.alloc (.cells #[.int .i64 (parseM s0).1.ego, .slice A37 (parseM s0).1.steps.length c38] 30) = W44
  have hb46 : Below w35.heap.size w35 W44 := by subst hW45; (with_reducible repeat' first | exact Below.refl _ _ | assumption | (refine Below.setCell ?_ (by first | omega | (simp; omega) | (simp; done) | (dsimp only; omega)) _) | (refine Below.alloc ?_ (by first | omega | (simp; omega) | (simp; done) | (dsimp only; omega)) _) | (refine below_drewN ?_ _) | (refine Below.drew ?_))
  have z47 : w35.heap.size + 1 ≤ W44.heap.size := by subst hW45; simp
  have a48 : W44.cell? ⟨w35.heap.size, 0, none⟩ = some (.int .i64 (parseM s0).1.ego) := by subst hW45; simp [go_sem]
  have a49 : W44.cell? ⟨w35.heap.size, 1, none⟩ = some (.slice A37 (parseM s0).1.steps.length c38) := by subst hW45; simp [go_sem]
  clear hW45
  (replace a12 := (hb46.cell (by first | omega | (simp; omega) | (simp; done) | (dsimp only; omega))).trans a12; replace a13 := (hb46.cell (by first | omega | (simp; omega) | (simp; done) | (dsimp only; omega))).trans a13; replace a26 := (hb46.cell (by first | omega | (simp; omega) | (simp; done) | (dsimp only; omega))).trans a26; replace a27 := (hb46.cell (by first | omega | (simp; omega) | (simp; done) | (dsimp only; omega))).trans a27; replace o5 := o5.same (Same.of_below hb46 (by first | omega | (simp; omega) | (simp; done) | (dsimp only; omega))); replace o32 := o32.same (Same.of_below hb46 (by first | omega | (simp; omega) | (simp; done) | (dsimp only; omega))); replace o39 := o39.same (Same.of_below hb46 (by first | omega | (simp; omega) | (simp; done) | (dsimp only; omega))); replace hb := hb.trans (hb46.mono (by first | omega | (simp; omega) | (simp; done) | (dsimp only; omega))); have zhb46 := hb46.size; clear hb46)
  refine (eqKinType_any _ _ _ _ _ _ _ _ _ _ _ _ _ o39.read.as o5.read.as (by first | omega | (simp; omega) | (simp; done) | (dsimp only; omega)) (by first | omega | (simp; omega) | (simp; done) | (dsimp only; omega))).mono ?_
  rintro e w50 ⟨rfl, hb51⟩
  try simp only [eqB_refl]
  (replace a12 := (hb51.cell (by first | omega | (simp; omega) | (simp; done) | (dsimp only; omega))).trans a12; replace a13 := (hb51.cell (by first | omega | (simp; omega) | (simp; done) | (dsimp only; omega))).trans a13; replace a26 := (hb51.cell (by first | omega | (simp; omega) | (simp; done) | (dsimp only; omega))).trans a26; replace a27 := (hb51.cell (by first | omega | (simp; omega) | (simp; done) | (dsimp only; omega))).trans a27; replace a48 := (hb51.cell (by first | omega | (simp; omega) | (simp; done) | (dsimp only; omega))).trans a48; replace a49 := (hb51.cell (by first | omega | (simp; omega) | (simp; done) | (dsimp only; omega))).trans a49; replace o5 := o5.same (Same.of_below hb51 (by first | omega | (simp; omega) | (simp; done) | (dsimp only; omega))); replace o32 := o32.same (Same.of_below hb51 (by first | omega | (simp; omega) | (simp; done) | (dsimp only; omega))); replace o39 := o39.same (Same.of_below hb51 (by first | omega | (simp; omega) | (simp; done) | (dsimp only; omega))); replace hb := hb.trans (hb51.mono (by first | omega | (simp; omega) | (simp; done) | (dsimp only; omega))); have zhb51 := hb51.size; clear hb51)
  go_wp2_with fail
  refine (heldKinType_any _ _ _ _ _ _ _ _ o32.read.as (by first | omega | (simp; omega) | (simp; done) | (dsimp only; omega)) (by first | assumption | omega | (simp; omega) | exact OS_cap (by assumption)) (by first | assumption | omega | (simp; omega) | exact OS_cap (by assumption))).mono ?_
  rintro e w52 ⟨rfl, hb53⟩
  (replace a12 := (hb53.cell (by first | omega | (simp; omega) | (simp; done) | (dsimp only; omega))).trans a12; replace a13 := (hb53.cell (by first | omega | (simp; omega) | (simp; done) | (dsimp only; omega))).trans a13; replace a26 := (hb53.cell (by first | omega | (simp; omega) | (simp; done) | (dsimp only; omega))).trans a26; replace a27 := (hb53.cell (by first | omega | (simp; omega) | (simp; done) | (dsimp only; omega))).trans a27; replace a48 := (hb53.cell (by first | omega | (simp; omega) | (simp; done) | (dsimp only; omega))).trans a48; replace a49 := (hb53.cell (by first | omega | (simp; omega) | (simp; done) | (dsimp only; omega))).trans a49; replace o5 := o5.same (Same.of_below hb53 (by first | omega | (simp; omega) | (simp; done) | (dsimp only; omega))); replace o32 := o32.same (Same.of_below hb53 (by first | omega | (simp; omega) | (simp; done) | (dsimp only; omega))); replace o39 := o39.same (Same.of_below hb53 (by first | omega | (simp; omega) | (simp; done) | (dsimp only; omega))); replace hb := hb.trans (hb53.mono (by first | omega | (simp; omega) | (simp; done) | (dsimp only; omega))); have zhb53 := hb53.size; clear hb53)
  go_wp2_with fail
  go_ret
  exact ⟨rfl, hb⟩

end Go.Proofs.Ytnnjilkjjdiblaa
