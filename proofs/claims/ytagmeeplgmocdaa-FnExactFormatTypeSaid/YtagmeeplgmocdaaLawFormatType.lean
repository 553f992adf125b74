/-
  The law FnExactFormatType: the walk.
-/
import Derived.Test.YtagmeeplgmocdaaConvTyp
import Derived.Test.YtagmeeplgmocdaaFmtType
import Derived.Test.YtagmeeplgmocdaaOpen
namespace Go.Proofs.Ytagmeeplgmocdaa
open Go.ChangeShapes Go.WideShapes Go.ChangeAt Go.RowKit

set_option maxHeartbeats 2000000 in
theorem FnExactFormatType_walk (n0_0 : Int) (A0 : Option Addr) (c0 : Nat) (x0 : List Step) (w : World) (k0 : EStep.AS w 0 w.heap.size A0 x0) :
    Calls Try.prog 14 #[.agg #[.int .i64 n0_0, .slice A0 x0.length c0]] w fun e w' => e = .returned (.bool true) ∧ Below w.heap.size w w' := by
  go_enter Try.func14, Try.ntmps14
  go_wp2_with fail
  generalize hW2 : w.alloc (.cells #[.int .i64 n0_0, .slice A0 x0.length c0] 26) = W1
  have hb3 : Below w.heap.size w W1 := by subst hW2; (with_reducible repeat' first | exact Below.refl _ _ | assumption | (refine Below.setCell ?_ (by first | omega | (simp; omega) | (simp; done) | (dsimp only; omega)) _) | (refine Below.alloc ?_ (by first | omega | (simp; omega) | (simp; done) | (dsimp only; omega)) _) | (refine below_drewN ?_ _) | (refine Below.drew ?_))
  have z4 : w.heap.size + 1 ≤ W1.heap.size := by subst hW2; simp
  have a5 : W1.cell? ⟨w.heap.size, 0, none⟩ = some (.int .i64 n0_0) := by subst hW2; simp [go_sem]
  have a6 : W1.cell? ⟨w.heap.size, 1, none⟩ = some (.slice A0 x0.length c0) := by subst hW2; simp [go_sem]
  clear hW2
  replace k0 := k0.same (Same.of_below hb3 (Nat.le_refl _))
  have hb := hb3; clear hb3
  refine (szKinType_any _ _ _ _ _ _ _ _ k0 (by first | assumption | omega | (simp; omega)) (by first | assumption | omega | (simp; omega)) (by first | omega | (simp; omega) | (simp; done) | (dsimp only; omega))).mono ?_
  rintro e w7 ⟨r9, rfl, hb8, hs10⟩
  (replace a5 := (hb8.cell (by first | omega | (simp; omega) | (simp; done) | (dsimp only; omega))).trans a5; replace a6 := (hb8.cell (by first | omega | (simp; omega) | (simp; done) | (dsimp only; omega))).trans a6; replace k0 := k0.same (Same.of_below hb8 (by first | omega | (simp; omega) | (simp; done) | (dsimp only; omega))); replace hb := hb.trans (hb8.mono (by first | omega | (simp; omega) | (simp; done) | (dsimp only; omega))); have zhb8 := hb8.size; clear hb8)
  go_wp2_with fail
  · go_ret
    exact ⟨rfl, hb⟩
  have hl11 : x0.length ≤ 1048576 ∧ r9 ≤ 1048576 ∧ 0 ≤ r9 := by rcases hs10 with ⟨hs10, _⟩ | ⟨_, hs10⟩ <;> omega
  obtain ⟨hl11, hl11a, hl11b⟩ := hl11; clear hs10
  refine (toKinType_any _ _ _ _ _ _ _ k0 (by first | omega | (simp; omega) | (simp; done) | (dsimp only; omega)) (by first | assumption | omega | (simp; omega))).mono ?_
  rintro e w12 ⟨A14, c15, rfl, o16, hb13⟩
  (replace a5 := (hb13.cell (by first | omega | (simp; omega) | (simp; done) | (dsimp only; omega))).trans a5; replace a6 := (hb13.cell (by first | omega | (simp; omega) | (simp; done) | (dsimp only; omega))).trans a6; replace k0 := k0.same (Same.of_below hb13 (by first | omega | (simp; omega) | (simp; done) | (dsimp only; omega))); replace hb := hb.trans (hb13.mono (by first | omega | (simp; omega) | (simp; done) | (dsimp only; omega))); have zhb13 := hb13.size; clear hb13)
  go_wp2_with fail
  refine (specFormatType_any _ _ _ _ _ _ _ o16.read.as (by first | omega | (simp; omega) | (simp; done) | (dsimp only; omega))).mono ?_
  rintro e w17 ⟨rfl, hb18⟩
  (replace a5 := (hb18.cell (by first | omega | (simp; omega) | (simp; done) | (dsimp only; omega))).trans a5; replace a6 := (hb18.cell (by first | omega | (simp; omega) | (simp; done) | (dsimp only; omega))).trans a6; replace k0 := k0.same (Same.of_below hb18 (by first | omega | (simp; omega) | (simp; done) | (dsimp only; omega))); replace o16 := o16.same (Same.of_below hb18 (by first | omega | (simp; omega) | (simp; done) | (dsimp only; omega))); replace hb := hb.trans (hb18.mono (by first | omega | (simp; omega) | (simp; done) | (dsimp only; omega))); have zhb18 := hb18.size; clear hb18)
  go_wp2_with fail
  refine (toKinType_any _ _ _ _ _ _ _ k0 (by first | omega | (simp; omega) | (simp; done) | (dsimp only; omega)) (by first | assumption | omega | (simp; omega))).mono ?_
  rintro e w19 ⟨A21, c22, rfl, o23, hb20⟩
  (replace a5 := (hb20.cell (by first | omega | (simp; omega) | (simp; done) | (dsimp only; omega))).trans a5; replace a6 := (hb20.cell (by first | omega | (simp; omega) | (simp; done) | (dsimp only; omega))).trans a6; replace k0 := k0.same (Same.of_below hb20 (by first | omega | (simp; omega) | (simp; done) | (dsimp only; omega))); replace o16 := o16.same (Same.of_below hb20 (by first | omega | (simp; omega) | (simp; done) | (dsimp only; omega))); replace hb := hb.trans (hb20.mono (by first | omega | (simp; omega) | (simp; done) | (dsimp only; omega))); have zhb20 := hb20.size; clear hb20)
  have l24 : w.heap.size < w19.heap.size := by omega
  go_wp2_with fail
  generalize hW26 : w19.alloc (.cells #[.int .i64 n0_0, .slice A21 x0.length c22] 31) = W25
  have hb27 : Below w19.heap.size w19 W25 := by subst hW26; (with_reducible repeat' first | exact Below.refl _ _ | assumption | (refine Below.setCell ?_ (by first | omega | (simp; omega) | (simp; done) | (dsimp only; omega)) _) | (refine Below.alloc ?_ (by first | omega | (simp; omega) | (simp; done) | (dsimp only; omega)) _) | (refine below_drewN ?_ _) | (refine Below.drew ?_))
  have z28 : w19.heap.size + 1 ≤ W25.heap.size := by subst hW26; simp
  have a29 : W25.cell? ⟨w19.heap.size, 0, none⟩ = some (.int .i64 n0_0) := by subst hW26; simp [go_sem]
  have a30 : W25.cell? ⟨w19.heap.size, 1, none⟩ = some (.slice A21 x0.length c22) := by subst hW26; simp [go_sem]
  clear hW26
  (replace a5 := (hb27.cell (by first | omega | (simp; omega) | (simp; done) | (dsimp only; omega))).trans a5; replace a6 := (hb27.cell (by first | omega | (simp; omega) | (simp; done) | (dsimp only; omega))).trans a6; replace k0 := k0.same (Same.of_below hb27 (by first | omega | (simp; omega) | (simp; done) | (dsimp only; omega))); replace o16 := o16.same (Same.of_below hb27 (by first | omega | (simp; omega) | (simp; done) | (dsimp only; omega))); replace o23 := o23.same (Same.of_below hb27 (by first | omega | (simp; omega) | (simp; done) | (dsimp only; omega))); replace hb := hb.trans (hb27.mono (by first | omega | (simp; omega) | (simp; done) | (dsimp only; omega))); have zhb27 := hb27.size; clear hb27)
  refine (implFormatType_any _ _ _ _ _ _ _ o23.read.as (by first | omega | (simp; omega) | (simp; done) | (dsimp only; omega))).mono ?_
  rintro e w31 ⟨rfl, hb32⟩
  (replace a5 := (hb32.cell (by first | omega | (simp; omega) | (simp; done) | (dsimp only; omega))).trans a5; replace a6 := (hb32.cell (by first | omega | (simp; omega) | (simp; done) | (dsimp only; omega))).trans a6; replace a29 := (hb32.cell (by first | omega | (simp; omega) | (simp; done) | (dsimp only; omega))).trans a29; replace a30 := (hb32.cell (by first | omega | (simp; omega) | (simp; done) | (dsimp only; omega))).trans a30; replace k0 := k0.same (Same.of_below hb32 (by first | omega | (simp; omega) | (simp; done) | (dsimp only; omega))); replace o16 := o16.same (Same.of_below hb32 (by first | omega | (simp; omega) | (simp; done) | (dsimp only; omega))); replace o23 := o23.same (Same.of_below hb32 (by first | omega | (simp; omega) | (simp; done) | (dsimp only; omega))); replace hb := hb.trans (hb32.mono (by first | omega | (simp; omega) | (simp; done) | (dsimp only; omega))); have zhb32 := hb32.size; clear hb32)
  go_wp2_with fail
  have tk38 : True := True.intro
  have tk41 : True := True.intro
  go_region_held3 (fun w' => w'.cell? ⟨w19.heap.size, 0, none⟩ = some (.int .i64 n0_0) ∧ w'.cell? ⟨w19.heap.size, 1, none⟩ = some (.slice A21 x0.length c22) ∧ w'.cell? ⟨w.heap.size, 0, none⟩ = some (.int .i64 n0_0) ∧ w'.cell? ⟨w.heap.size, 1, none⟩ = some (.slice A0 x0.length c0)) (exact ⟨a29, a30, a5, a6⟩)
    (first
      | (clear tk38; go_at_call 19; refine (toKinType_any _ _ _ _ _ _ _ k0.drew (by first | omega | (simp; omega) | (simp; done) | (dsimp only; omega)) (by first | assumption | omega | (simp; omega))).mono ?_; rintro e w33 ⟨A35, c36, rfl, o37, hb34⟩; replace hb34 := undrew hb34; (replace a5 := (hb34.cell (by first | omega | (simp; omega) | (simp; done) | (dsimp only; omega))).trans a5; replace a6 := (hb34.cell (by first | omega | (simp; omega) | (simp; done) | (dsimp only; omega))).trans a6; replace a29 := (hb34.cell (by first | omega | (simp; omega) | (simp; done) | (dsimp only; omega))).trans a29; replace a30 := (hb34.cell (by first | omega | (simp; omega) | (simp; done) | (dsimp only; omega))).trans a30; replace k0 := k0.same (Same.of_below hb34 (by first | omega | (simp; omega) | (simp; done) | (dsimp only; omega))); replace o16 := o16.same (Same.of_below hb34 (by first | omega | (simp; omega) | (simp; done) | (dsimp only; omega))); replace o23 := o23.same (Same.of_below hb34 (by first | omega | (simp; omega) | (simp; done) | (dsimp only; omega))); replace hb := hb.trans (hb34.mono (by first | omega | (simp; omega) | (simp; done) | (dsimp only; omega))); have zhb34 := hb34.size; clear hb34))
      | (clear tk41; go_at_call 21; refine (eqKinType_any _ _ _ _ _ _ _ _ _ _ _ _ _ o23.read.as o37.read.as (by first | omega | (simp; omega) | (simp; done) | (dsimp only; omega)) (by first | omega | (simp; omega) | (simp; done) | (dsimp only; omega))).mono ?_; rintro e w39 ⟨rfl, hb40⟩; try simp only [eqB_refl]; (replace a5 := (hb40.cell (by first | omega | (simp; omega) | (simp; done) | (dsimp only; omega))).trans a5; replace a6 := (hb40.cell (by first | omega | (simp; omega) | (simp; done) | (dsimp only; omega))).trans a6; replace a29 := (hb40.cell (by first | omega | (simp; omega) | (simp; done) | (dsimp only; omega))).trans a29; replace a30 := (hb40.cell (by first | omega | (simp; omega) | (simp; done) | (dsimp only; omega))).trans a30; replace k0 := k0.same (Same.of_below hb40 (by first | omega | (simp; omega) | (simp; done) | (dsimp only; omega))); replace o16 := o16.same (Same.of_below hb40 (by first | omega | (simp; omega) | (simp; done) | (dsimp only; omega))); replace o23 := o23.same (Same.of_below hb40 (by first | omega | (simp; omega) | (simp; done) | (dsimp only; omega))); replace o37 := o37.same (Same.of_below hb40 (by first | omega | (simp; omega) | (simp; done) | (dsimp only; omega))); replace hb := hb.trans (hb40.mono (by first | omega | (simp; omega) | (simp; done) | (dsimp only; omega))); have zhb40 := hb40.size; clear hb40)))
  go_wp2_with fail
  go_ret
  exact ⟨rfl, hb⟩

set_option maxRecDepth 100000 in
theorem FnExactFormatType_lifted (os : Os) (started : os.Started) (H : Type) (enc : TypeId × Value → H) :
    ReturnsInHanded {} Try.checked os 14 .any (Rows.fnExactFormatTypeSpec.pre6 enc Try.prog Try.f14 Rows.fnExactFormatTypeRow.domain false) (Rows.fnExactFormatTypeSpec.post enc Try.prog Try.f14 false true false false) := by
  refine returnsInHanded_of_change_sized (C := Try.checked) own started (by kernel_rfl) Try.func14
    (ChangeSpec.witness6 (enc := enc) (C := Try.checked) false ⟨#[], #[.agg #[.int .i64 0, .slice none 0 0]], []⟩ 8 (by kernel_rfl) (by kernel_rfl) (by kernel_rfl) (by kernel_rfl)) ?_
  intro W base args ds gs before hval0 hW hcnd hsz0 _
  have hval : ∀ (j : Nat) t v, Try.f14.params[j]? = some t → args[j]? = some v → Value.okWide Try.prog W .any base t v := hval0
  have hW' := hW
  obtain ⟨p, q, hA0, hV, rfl, hfz, hnd⟩ := hW
  have hA : DataW.TrodAll enc Try.prog W 0 (fun _ => true) true Try.f14.params.toList args.toList ds p := hA0
  obtain ⟨rfl, rfl⟩ := trodVars_none hV
  have hsz : (DataW.weightsEach Try.prog Try.f14.params.toList ds).all (· ≤ reachBytes) = true := by
    have h := hsz0
    rw [List.append_nil] at h
    exact h
  rw [Try.params14] at hA hval hsz
  obtain ⟨v0, vs0, d0, ds0, p0, q0, hargs, rfl, rfl, j0, r0⟩ := trodAll_cons hA
  obtain ⟨rfl, rfl, rfl⟩ := trodAll_nil r0
  obtain rfl : args = #[v0] := Array.toList_inj.1 hargs
  obtain ⟨n0, A0, c0, x0, rfl, k0⟩ := open_KinType (hval 0 26 v0 rfl rfl) j0 (fits_of hsz (j := 0) rfl rfl)
  refine (FnExactFormatType_walk n0 A0 c0 x0 W k0).mono fun e W' ⟨he, hb⟩ => ?_
  subst he
  exact ⟨_, rfl, law_post laidOut hW' rfl rfl rfl Try.underlying4 (by rw [Try.params14]; decide +kernel) hb⟩
theorem FnExactFormatType_holds : Rows.FnExactFormatTypeSaid :=
  OpenClaim.holds_of_wide 14 Try.f14 rfl rfl rfl rfl rfl rfl rfl ⟨rfl, rfl, rfl, rfl, rfl⟩ rfl rfl rfl rfl rfl (by kernel_rfl) Try.func14 (by kernel_rfl)
    (of_decide_eq_true (by kernel_rfl)) (by unfold Func.isWrapper; first | (rw [if_pos (by decide +kernel)]; kernel_rfl) | (rw [if_neg (by decide +kernel)]; exact ⟨rfl, rfl⟩))
    (fun os started H enc _ => FnExactFormatType_lifted os started H enc)
#print axioms FnExactFormatType_holds
end Go.Proofs.Ytagmeeplgmocdaa
