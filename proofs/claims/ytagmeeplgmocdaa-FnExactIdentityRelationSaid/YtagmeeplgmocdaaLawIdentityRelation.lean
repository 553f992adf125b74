/-
  The law FnExactIdentityRelation: the walk.
-/
import Derived.Test.YtagmeeplgmocdaaBound
import Derived.Test.YtagmeeplgmocdaaConvRel
import Derived.Test.YtagmeeplgmocdaaMarkRel
import Derived.Test.YtagmeeplgmocdaaOpen
import Derived.Test.YtagmeeplgmocdaaRel2
namespace Go.Proofs.Ytagmeeplgmocdaa
open Go.ChangeShapes Go.WideShapes Go.ChangeAt Go.RowKit

set_option maxHeartbeats 2000000 in
theorem FnExactIdentityRelation_walk (n0 : Int) (w : World) (_l0 : -9223372036854775808 ≤ n0 ∧ n0 ≤ 9223372036854775807) :
    Calls Try.prog 9 #[.int .i64 n0] w fun e w' => e = .returned (.bool true) ∧ Below w.heap.size w w' := by
  go_enter Try.func9, Try.ntmps9
  have hb : Below w.heap.size w w := Below.refl _ _
  go_wp2_with fail
  refine (specIdentityRelation_any _ _).mono ?_
  rintro e w1 ⟨A3, c4, rfl, o5, hb2⟩
  (replace hb := hb.trans (hb2.mono (by first | omega | (simp; omega) | (simp; done) | (dsimp only; omega))); have zhb2 := hb2.size; clear hb2)
  have bd6 := identM_tot n0
  go_wp2_with fail
  generalize hW8 : w1.alloc (.cells #[.int .i64 (identM n0).size, .slice A3 (identM n0).rows.length c4] 39) = W7
  have hb9 : Below w1.heap.size w1 W7 := by subst hW8; (with_reducible repeat' first | exact Below.refl _ _ | assumption | (refine Below.setCell ?_ (by first | omega | (simp; omega) | (simp; done) | (dsimp only; omega)) _) | (refine Below.alloc ?_ (by first | omega | (simp; omega) | (simp; done) | (dsimp only; omega)) _) | (refine below_drewN ?_ _) | (refine Below.drew ?_))
  have z10 : w1.heap.size + 1 ≤ W7.heap.size := by subst hW8; simp
  have a11 : W7.cell? ⟨w1.heap.size, 0, none⟩ = some (.int .i64 (identM n0).size) := by subst hW8; simp [go_sem]
  have a12 : W7.cell? ⟨w1.heap.size, 1, none⟩ = some (.slice A3 (identM n0).rows.length c4) := by subst hW8; simp [go_sem]
  clear hW8
  (replace o5 := o5.same (Same.of_below hb9 (by first | omega | (simp; omega) | (simp; done) | (dsimp only; omega))); replace hb := hb.trans (hb9.mono (by first | omega | (simp; omega) | (simp; done) | (dsimp only; omega))); have zhb9 := hb9.size; clear hb9)
  refine (implIdentityRelation_any _ _).mono ?_
  rintro e w13 ⟨A15, c16, rfl, o17, hb14⟩
  (replace a11 := (hb14.cell (by first | omega | (simp; omega) | (simp; done) | (dsimp only; omega))).trans a11; replace a12 := (hb14.cell (by first | omega | (simp; omega) | (simp; done) | (dsimp only; omega))).trans a12; replace o5 := o5.same (Same.of_below hb14 (by first | omega | (simp; omega) | (simp; done) | (dsimp only; omega))); replace hb := hb.trans (hb14.mono (by first | omega | (simp; omega) | (simp; done) | (dsimp only; omega))); have zhb14 := hb14.size; clear hb14)
  have bd18 := identM_tot n0
  have l19 : w1.heap.size < w13.heap.size := by omega
  go_wp2_with fail
  generalize hW21 : w13.alloc (.cells #[.int .i64 (identM n0).size, .slice A15 (identM n0).rows.length c16] 39) = W20
  have hb22 : Below w13.heap.size w13 W20 := by subst hW21; (with_reducible repeat' first | exact Below.refl _ _ | assumption | (refine Below.setCell ?_ (by first | omega | (simp; omega) | (simp; done) | (dsimp only; omega)) _) | (refine Below.alloc ?_ (by first | omega | (simp; omega) | (simp; done) | (dsimp only; omega)) _) | (refine below_drewN ?_ _) | (refine Below.drew ?_))
  have z23 : w13.heap.size + 1 ≤ W20.heap.size := by subst hW21; simp
  have a24 : W20.cell? ⟨w13.heap.size, 0, none⟩ = some (.int .i64 (identM n0).size) := by subst hW21; simp [go_sem]
  have a25 : W20.cell? ⟨w13.heap.size, 1, none⟩ = some (.slice A15 (identM n0).rows.length c16) := by subst hW21; simp [go_sem]
  clear hW21
  (replace a11 := (hb22.cell (by first | omega | (simp; omega) | (simp; done) | (dsimp only; omega))).trans a11; replace a12 := (hb22.cell (by first | omega | (simp; omega) | (simp; done) | (dsimp only; omega))).trans a12; replace o5 := o5.same (Same.of_below hb22 (by first | omega | (simp; omega) | (simp; done) | (dsimp only; omega))); replace o17 := o17.same (Same.of_below hb22 (by first | omega | (simp; omega) | (simp; done) | (dsimp only; omega))); replace hb := hb.trans (hb22.mono (by first | omega | (simp; omega) | (simp; done) | (dsimp only; omega))); have zhb22 := hb22.size; clear hb22)
  refine (eqRelation_any _ _ _ _ _ _ _ _ _ _ _ _ _ o17.read.as o5.read.as (by first | omega | (simp; omega) | (simp; done) | (dsimp only; omega)) (by first | omega | (simp; omega) | (simp; done) | (dsimp only; omega))).mono ?_
  rintro e w26 ⟨rfl, hb27⟩
  try simp only [eqB_refl]
  (replace a11 := (hb27.cell (by first | omega | (simp; omega) | (simp; done) | (dsimp only; omega))).trans a11; replace a12 := (hb27.cell (by first | omega | (simp; omega) | (simp; done) | (dsimp only; omega))).trans a12; replace a24 := (hb27.cell (by first | omega | (simp; omega) | (simp; done) | (dsimp only; omega))).trans a24; replace a25 := (hb27.cell (by first | omega | (simp; omega) | (simp; done) | (dsimp only; omega))).trans a25; replace o5 := o5.same (Same.of_below hb27 (by first | omega | (simp; omega) | (simp; done) | (dsimp only; omega))); replace o17 := o17.same (Same.of_below hb27 (by first | omega | (simp; omega) | (simp; done) | (dsimp only; omega))); replace hb := hb.trans (hb27.mono (by first | omega | (simp; omega) | (simp; done) | (dsimp only; omega))); have zhb27 := hb27.size; clear hb27)
  go_wp2_with fail
  refine (markRelation_any _ _ _ _ _ _ _ _ o17 (by first | omega | (simp; omega) | (simp; done) | (dsimp only; omega)) (by first | assumption | omega | (simp; omega)) (by first | assumption | omega | (simp; omega))).mono ?_
  rintro e w28 ⟨rfl, o30, hb29⟩
  (replace a11 := (hb29.cell (by first | omega | (simp; omega) | (simp; done) | (dsimp only; omega)) (by first | omega | (simp; omega) | (simp; done) | (dsimp only; omega))).trans a11; replace a12 := (hb29.cell (by first | omega | (simp; omega) | (simp; done) | (dsimp only; omega)) (by first | omega | (simp; omega) | (simp; done) | (dsimp only; omega))).trans a12; replace a24 := (hb29.cell (by first | omega | (simp; omega) | (simp; done) | (dsimp only; omega)) (by first | omega | (simp; omega) | (simp; done) | (dsimp only; omega))).trans a24; replace a25 := (hb29.cell (by first | omega | (simp; omega) | (simp; done) | (dsimp only; omega)) (by first | omega | (simp; omega) | (simp; done) | (dsimp only; omega))).trans a25; replace o5 := o5.same (Same.of_chg hb29 (by first | omega | (simp; omega) | (simp; done) | (dsimp only; omega)) (by first | omega | (simp; omega) | (simp; done) | (dsimp only; omega))); replace hb := hb.trans (hb29.below (by first | omega | (simp; omega) | (simp; done) | (dsimp only; omega)) (by first | omega | (simp; omega) | (simp; done) | (dsimp only; omega))); have zhb29 := hb29.size; clear hb29)
  clear o17
  go_wp2_with fail
  refine (heldRelation_any _ _ _ _ _ _ _ _ o30.read.as (by first | omega | (simp; omega) | (simp; done) | (dsimp only; omega)) (by first | assumption | omega | (simp; omega)) (by first | assumption | omega | (simp; omega))).mono ?_
  rintro e w31 ⟨rfl, hb32⟩
  (replace a11 := (hb32.cell (by first | omega | (simp; omega) | (simp; done) | (dsimp only; omega))).trans a11; replace a12 := (hb32.cell (by first | omega | (simp; omega) | (simp; done) | (dsimp only; omega))).trans a12; replace a24 := (hb32.cell (by first | omega | (simp; omega) | (simp; done) | (dsimp only; omega))).trans a24; replace a25 := (hb32.cell (by first | omega | (simp; omega) | (simp; done) | (dsimp only; omega))).trans a25; replace o5 := o5.same (Same.of_below hb32 (by first | omega | (simp; omega) | (simp; done) | (dsimp only; omega))); replace o30 := o30.same (Same.of_below hb32 (by first | omega | (simp; omega) | (simp; done) | (dsimp only; omega))); replace hb := hb.trans (hb32.mono (by first | omega | (simp; omega) | (simp; done) | (dsimp only; omega))); have zhb32 := hb32.size; clear hb32)
  go_wp2_with fail
  refine (implIdentityRelation_any _ _).mono ?_
  rintro e w33 ⟨A35, c36, rfl, o37, hb34⟩
  (replace a11 := (hb34.cell (by first | omega | (simp; omega) | (simp; done) | (dsimp only; omega))).trans a11; replace a12 := (hb34.cell (by first | omega | (simp; omega) | (simp; done) | (dsimp only; omega))).trans a12; replace a24 := (hb34.cell (by first | omega | (simp; omega) | (simp; done) | (dsimp only; omega))).trans a24; replace a25 := (hb34.cell (by first | omega | (simp; omega) | (simp; done) | (dsimp only; omega))).trans a25; replace o5 := o5.same (Same.of_below hb34 (by first | omega | (simp; omega) | (simp; done) | (dsimp only; omega))); replace o30 := o30.same (Same.of_below hb34 (by first | omega | (simp; omega) | (simp; done) | (dsimp only; omega))); replace hb := hb.trans (hb34.mono (by first | omega | (simp; omega) | (simp; done) | (dsimp only; omega))); have zhb34 := hb34.size; clear hb34)
  have bd38 := identM_tot n0
  have l39 : w1.heap.size < w33.heap.size := by omega
  have l40 : w13.heap.size < w33.heap.size := by omega
  go_wp2_with fail
  generalize hW42 : w33.alloc (.cells #[.int .i64 (identM n0).size, .slice A35 (identM n0).rows.length c36] 39) = W41
  have hb43 : Below w33.heap.size w33 W41 := by subst hW42; (with_reducible repeat' first | exact Below.refl _ _ | assumption | (refine Below.setCell ?_ (by first | omega | (simp; omega) | (simp; done) | (dsimp only; omega)) _) | (refine Below.alloc ?_ (by first | omega | (simp; omega) | (simp; done) | (dsimp only; omega)) _) | (refine below_drewN ?_ _) | (refine Below.drew ?_))
  have z44 : w33.heap.size + 1 ≤ W41.heap.size := by subst hW42; simp
  have a45 : W41.cell? ⟨w33.heap.size, 0, none⟩ = some (.int .i64 (identM n0).size) := by subst hW42; simp [go_sem]
  have a46 : W41.cell? ⟨w33.heap.size, 1, none⟩ = some (.slice A35 (identM n0).rows.length c36) := by subst hW42; simp [go_sem]
  clear hW42
  (replace a11 := (hb43.cell (by first | omega | (simp; omega) | (simp; done) | (dsimp only; omega))).trans a11; replace a12 := (hb43.cell (by first | omega | (simp; omega) | (simp; done) | (dsimp only; omega))).trans a12; replace a24 := (hb43.cell (by first | omega | (simp; omega) | (simp; done) | (dsimp only; omega))).trans a24; replace a25 := (hb43.cell (by first | omega | (simp; omega) | (simp; done) | (dsimp only; omega))).trans a25; replace o5 := o5.same (Same.of_below hb43 (by first | omega | (simp; omega) | (simp; done) | (dsimp only; omega))); replace o30 := o30.same (Same.of_below hb43 (by first | omega | (simp; omega) | (simp; done) | (dsimp only; omega))); replace o37 := o37.same (Same.of_below hb43 (by first | omega | (simp; omega) | (simp; done) | (dsimp only; omega))); replace hb := hb.trans (hb43.mono (by first | omega | (simp; omega) | (simp; done) | (dsimp only; omega))); have zhb43 := hb43.size; clear hb43)
  refine (eqRelation_any _ _ _ _ _ _ _ _ _ _ _ _ _ o37.read.as o5.read.as (by first | omega | (simp; omega) | (simp; done) | (dsimp only; omega)) (by first | omega | (simp; omega) | (simp; done) | (dsimp only; omega))).mono ?_
  rintro e w47 ⟨rfl, hb48⟩
  try simp only [eqB_refl]
  (replace a11 := (hb48.cell (by first | omega | (simp; omega) | (simp; done) | (dsimp only; omega))).trans a11; replace a12 := (hb48.cell (by first | omega | (simp; omega) | (simp; done) | (dsimp only; omega))).trans a12; replace a24 := (hb48.cell (by first | omega | (simp; omega) | (simp; done) | (dsimp only; omega))).trans a24; replace a25 := (hb48.cell (by first | omega | (simp; omega) | (simp; done) | (dsimp only; omega))).trans a25; replace a45 := (hb48.cell (by first | omega | (simp; omega) | (simp; done) | (dsimp only; omega))).trans a45; replace a46 := (hb48.cell (by first | omega | (simp; omega) | (simp; done) | (dsimp only; omega))).trans a46; replace o5 := o5.same (Same.of_below hb48 (by first | omega | (simp; omega) | (simp; done) | (dsimp only; omega))); replace o30 := o30.same (Same.of_below hb48 (by first | omega | (simp; omega) | (simp; done) | (dsimp only; omega))); replace o37 := o37.same (Same.of_below hb48 (by first | omega | (simp; omega) | (simp; done) | (dsimp only; omega))); replace hb := hb.trans (hb48.mono (by first | omega | (simp; omega) | (simp; done) | (dsimp only; omega))); have zhb48 := hb48.size; clear hb48)
  go_wp2_with fail
  refine (heldRelation_any _ _ _ _ _ _ _ _ o30.read.as (by first | omega | (simp; omega) | (simp; done) | (dsimp only; omega)) (by first | assumption | omega | (simp; omega)) (by first | assumption | omega | (simp; omega))).mono ?_
  rintro e w49 ⟨rfl, hb50⟩
  (replace a11 := (hb50.cell (by first | omega | (simp; omega) | (simp; done) | (dsimp only; omega))).trans a11; replace a12 := (hb50.cell (by first | omega | (simp; omega) | (simp; done) | (dsimp only; omega))).trans a12; replace a24 := (hb50.cell (by first | omega | (simp; omega) | (simp; done) | (dsimp only; omega))).trans a24; replace a25 := (hb50.cell (by first | omega | (simp; omega) | (simp; done) | (dsimp only; omega))).trans a25; replace a45 := (hb50.cell (by first | omega | (simp; omega) | (simp; done) | (dsimp only; omega))).trans a45; replace a46 := (hb50.cell (by first | omega | (simp; omega) | (simp; done) | (dsimp only; omega))).trans a46; replace o5 := o5.same (Same.of_below hb50 (by first | omega | (simp; omega) | (simp; done) | (dsimp only; omega))); replace o30 := o30.same (Same.of_below hb50 (by first | omega | (simp; omega) | (simp; done) | (dsimp only; omega))); replace o37 := o37.same (Same.of_below hb50 (by first | omega | (simp; omega) | (simp; done) | (dsimp only; omega))); replace hb := hb.trans (hb50.mono (by first | omega | (simp; omega) | (simp; done) | (dsimp only; omega))); have zhb50 := hb50.size; clear hb50)
  go_wp2_with fail
  go_ret
  exact ⟨rfl, hb⟩

set_option maxRecDepth 100000 in
theorem FnExactIdentityRelation_lifted (os : Os) (started : os.Started) (H : Type) (enc : TypeId × Value → H) :
    ReturnsInHanded {} Try.checked os 9 .any (Rows.fnExactIdentityRelationSpec.pre6 enc Try.prog Try.f9 Rows.fnExactIdentityRelationRow.domain false) (Rows.fnExactIdentityRelationSpec.post enc Try.prog Try.f9 false true false false) := by
  refine returnsInHanded_of_change_sized (C := Try.checked) own started (by kernel_rfl) Try.func9
    (ChangeSpec.witness6 (enc := enc) (C := Try.checked) false ⟨#[], #[.int .i64 0], []⟩ 8 (by kernel_rfl) (by kernel_rfl) (by kernel_rfl) (by kernel_rfl)) ?_
  intro W base args ds gs before hval0 hW hcnd hsz0 _
  have hval : ∀ (j : Nat) t v, Try.f9.params[j]? = some t → args[j]? = some v → Value.okWide Try.prog W .any base t v := hval0
  have hW' := hW
  obtain ⟨p, q, hA0, hV, rfl, hfz, hnd⟩ := hW
  have hA : DataW.TrodAll enc Try.prog W 0 (fun _ => true) true Try.f9.params.toList args.toList ds p := hA0
  obtain ⟨rfl, rfl⟩ := trodVars_none hV
  have hsz : (DataW.weightsEach Try.prog Try.f9.params.toList ds).all (· ≤ reachBytes) = true := by
    have h := hsz0
    rw [List.append_nil] at h
    exact h
  rw [Try.params9] at hA hval hsz
  obtain ⟨v0, vs0, d0, ds0, p0, q0, hargs, rfl, rfl, j0, r0⟩ := trodAll_cons hA
  obtain ⟨rfl, rfl, rfl⟩ := trodAll_nil r0
  obtain rfl : args = #[v0] := Array.toList_inj.1 hargs
  obtain ⟨n0, rfl, l0⟩ := open_int (hval 0 3 v0 rfl rfl) j0 (fits_of hsz (j := 0) rfl rfl)
  refine (FnExactIdentityRelation_walk n0 W l0).mono fun e W' ⟨he, hb⟩ => ?_
  subst he
  exact ⟨_, rfl, law_post laidOut hW' rfl rfl rfl Try.underlying4 (by rw [Try.params9]; decide +kernel) hb⟩
theorem FnExactIdentityRelation_holds : Rows.FnExactIdentityRelationSaid :=
  OpenClaim.holds_of_wide 9 Try.f9 rfl rfl rfl rfl rfl rfl rfl ⟨rfl, rfl, rfl, rfl, rfl⟩ rfl rfl rfl rfl rfl (by kernel_rfl) Try.func9 (by kernel_rfl)
    (of_decide_eq_true (by kernel_rfl)) (by unfold Func.isWrapper; first | (rw [if_pos (by decide +kernel)]; kernel_rfl) | (rw [if_neg (by decide +kernel)]; exact ⟨rfl, rfl⟩))
    (fun os started H enc _ => FnExactIdentityRelation_lifted os started H enc)
#print axioms FnExactIdentityRelation_holds
end Go.Proofs.Ytagmeeplgmocdaa
