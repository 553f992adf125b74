/-
  The law FnExactReplaceAt: from the walk to the statement.
-/
import Derived.Test.YtaedpcieaaahhaaLawReplaceAt
import Derived.Test.YtaedpcieaaahhaaFacts
import Derived.Test.YtaedpcieaaahhaaOpenRule
import Derived.JoinedOf
namespace Go.Proofs.Ytaedpcieaaahhaa
set_option maxRecDepth 100000
open Go.ChangeShapes Go.WideShapes Go.ChangeAt Go.RowKit

set_option maxRecDepth 100000 in
theorem FnExactReplaceAt_lifted (os : Os) (started : os.Started) (H : Type) (enc : TypeId × Value → H) :
    ReturnsInHanded {} Try.checked os 7 .any (Rows.fnExactReplaceAtSpec.pre6 enc Try.prog Try.f7 Rows.fnExactReplaceAtRow.domain false) (Rows.fnExactReplaceAtSpec.post enc Try.prog Try.f7 false true false false) := by
  refine returnsInHanded_of_change_sized (C := Try.checked) own started (by kernel_rfl) Try.func7
    (ChangeSpec.witness6 (enc := enc) (C := Try.checked) false ⟨#[], #[.agg #[.string ByteArray.empty, .int .i64 0, .int .i64 0, .slice none 0 0, .slice none 0 0], .agg #[.int .i64 0, .slice none 0 0], .int .i64 0], []⟩ 8 (by kernel_rfl) (by kernel_rfl) (by kernel_rfl) (by kernel_rfl)) ?_
  intro W base args ds gs before hval0 hW hcnd hsz0 _
  have hval : ∀ (j : Nat) t v, Try.f7.params[j]? = some t → args[j]? = some v → Value.okWide Try.prog W .any base t v := hval0
  have hW' := hW
  obtain ⟨p, q, hA0, hV, rfl, hfz, hnd⟩ := hW
  have hA : DataW.TrodAll enc Try.prog W 0 (fun _ => true) true Try.f7.params.toList args.toList ds p := hA0
  obtain ⟨rfl, rfl⟩ := trodVars_none hV
  have hsz : (DataW.weightsEach Try.prog Try.f7.params.toList ds).all (· ≤ reachBytes) = true := by
    have h := hsz0
    rw [List.append_nil] at h
    exact h
  rw [Try.params7] at hA hval hsz
  obtain ⟨v0, vs0, d0, ds0, p0, q0, hargs, rfl, rfl, j0, r0⟩ := trodAll_cons hA
  obtain ⟨v1, vs1, d1, ds1, p1, q1, rfl, rfl, rfl, j1, r1⟩ := trodAll_cons r0
  obtain ⟨v2, vs2, d2, ds2, p2, q2, rfl, rfl, rfl, j2, r2⟩ := trodAll_cons r1
  obtain ⟨rfl, rfl, rfl⟩ := trodAll_nil r2
  obtain rfl : args = #[v0, v1, v2] := Array.toList_inj.1 hargs
  obtain ⟨s0_0, n0_1, n0_2, A0, c0, x0, A0_1, c0_1, x0_1, rfl, k0, k0_1, hn0⟩ := open_Rule (hval 0 24 v0 rfl rfl) j0 (fits_of hsz (j := 0) rfl rfl)
  obtain ⟨n1, A1, c1, x1, rfl, k1⟩ := open_KinType (hval 1 42 v1 rfl rfl) j1 (fits_of hsz (j := 1) rfl rfl)
  obtain ⟨n2, rfl, l2⟩ := open_int (hval 2 3 v2 rfl rfl) j2 (fits_of hsz (j := 2) rfl rfl)
  refine (FnExactReplaceAt_walk s0_0 n0_1 n0_2 A0 c0 x0 A0_1 c0_1 x0_1 n1 A1 c1 x1 n2 W k0 k0_1 hn0 k1 l2).mono fun e W' ⟨he, hb⟩ => ?_
  subst he
  exact ⟨_, rfl, law_post laidOut hW' rfl rfl rfl Try.underlying4 (by rw [Try.params7]; decide +kernel) hb⟩
theorem FnExactReplaceAt_closed : joinedFacts Try.prog 7 Try.f7 Rows.fnExactReplaceAtSpec Rows.fnExactReplaceAtRow = true := by
  simp only [joinedFacts, Bool.and_eq_true]
  (with_reducible repeat' apply And.intro) <;> first | with_reducible exact f_laid | with_reducible exact f_maps | with_reducible exact f_heard | with_reducible exact f_enter | with_reducible exact f_lift _ rfl | with_reducible exact f_make _ rfl | (with_reducible refine f_lift _ ?_; rfl) | (with_reducible refine f_make _ ?_; rfl) | kernel_rfl
theorem FnExactReplaceAt_holds : Rows.FnExactReplaceAtSaid :=
  OpenClaim.holds_of_wide 7 Try.f7 rfl rfl rfl rfl rfl rfl rfl ⟨rfl, rfl, rfl, rfl, rfl⟩ rfl rfl rfl rfl rfl (by kernel_rfl) Try.func7 FnExactReplaceAt_closed
    (of_decide_eq_true (by kernel_rfl)) (by unfold Func.isWrapper; first | (rw [if_pos (by decide +kernel)]; kernel_rfl) | (rw [if_neg (by decide +kernel)]; exact ⟨rfl, rfl⟩))
    (fun os started H enc _ => FnExactReplaceAt_lifted os started H enc)
#print axioms FnExactReplaceAt_holds
end Go.Proofs.Ytaedpcieaaahhaa
