/-
  The law FnExactParseRule: from the walk to the statement. The library's variable MaxLen holds a number: the world's shape says so.
-/
import Derived.Test.YtnnjilkjjdiblaaLawParseRule
import Derived.Test.YtnnjilkjjdiblaaFacts
import Derived.JoinedOf
import Derived.HandedShaped
namespace Go.Proofs.Ytnnjilkjjdiblaa
set_option maxRecDepth 100000
set_option maxRecDepth 100000
open Go.ChangeShapes Go.WideShapes Go.ChangeAt Go.RowKit

set_option maxRecDepth 100000 in
theorem FnExactParseRule_lifted (os : Os) (started : os.Started) (H : Type) (enc : TypeId × Value → H) :
    ReturnsInHanded {} Try.checked os 7 .any (Rows.fnExactParseRuleSpec.pre6 enc Try.prog Try.f7 Rows.fnExactParseRuleRow.domain false) (Rows.fnExactParseRuleSpec.post enc Try.prog Try.f7 false true false false) := by
  refine returnsInHanded_of_change_shaped (C := Try.checked) own started (by kernel_rfl) Try.func7
    (ChangeSpec.witness6 (enc := enc) (C := Try.checked) false ⟨#[], #[.string ByteArray.empty], []⟩ 8 (by kernel_rfl) (by kernel_rfl) (by kernel_rfl) (by kernel_rfl)) ?_
  intro W base args ds gs before hval0 hW hcnd hsz0 hsh _
  have hval : ∀ (j : Nat) t v, Try.f7.params[j]? = some t → args[j]? = some v → Value.okWide Try.prog W .any base t v := hval0
  have hW' := hW
  obtain ⟨p, q, hA0, hV, rfl, hfz, hnd⟩ := hW
  have hA : DataW.TrodAll enc Try.prog W 0 (fun _ => true) true Try.f7.params.toList args.toList ds p := hA0
  obtain ⟨rfl, rfl⟩ := trodVars_none hV
  have hsz : (DataW.weightsEach Try.prog Try.f7.params.toList ds).all (· ≤ reachBytes) = true := by
    have h := hsz0
    rw [List.append_nil] at h
    exact h
  rw [Try.params7] at hA hval hsz
  obtain ⟨v0, vs0, d0, ds0, p0, q0, hargs, rfl, rfl, j0, r0⟩ := trodAll_cons hA
  obtain ⟨rfl, rfl, rfl⟩ := trodAll_nil r0
  obtain rfl : args = #[v0] := Array.toList_inj.1 hargs
  obtain ⟨s0, rfl, l0⟩ := open_string (hval 0 9 v0 rfl rfl) j0 (fits_of hsz (j := 0) rfl rfl)
  obtain ⟨m, hm⟩ := maxLen_int W hsh
  refine (FnExactParseRule_walk s0 m W l0 hm).mono fun e W' ⟨he, hb⟩ => ?_
  subst he
  exact ⟨_, rfl, law_post laidOut hW' rfl rfl rfl Try.underlying4 (by rw [Try.params7]; decide +kernel) hb⟩
theorem FnExactParseRule_closed : joinedFacts Try.prog 7 Try.f7 Rows.fnExactParseRuleSpec Rows.fnExactParseRuleRow = true := by
  simp only [joinedFacts, Bool.and_eq_true]
  (with_reducible repeat' apply And.intro) <;> first | with_reducible exact f_laid | with_reducible exact f_maps | with_reducible exact f_heard | with_reducible exact f_enter | with_reducible exact f_lift _ rfl | with_reducible exact f_make _ rfl | (with_reducible refine f_lift _ ?_; rfl) | (with_reducible refine f_make _ ?_; rfl) | kernel_rfl
theorem FnExactParseRule_holds : Rows.FnExactParseRuleSaid :=
  OpenClaim.holds_of_wide 7 Try.f7 rfl rfl rfl rfl rfl rfl rfl ⟨rfl, rfl, rfl, rfl, rfl⟩ rfl rfl rfl rfl rfl (by kernel_rfl) Try.func7 FnExactParseRule_closed
    (of_decide_eq_true (by kernel_rfl)) (by unfold Func.isWrapper; first | (rw [if_pos (by decide +kernel)]; kernel_rfl) | (rw [if_neg (by decide +kernel)]; exact ⟨rfl, rfl⟩))
    (fun os started H enc _ => FnExactParseRule_lifted os started H enc)
#print axioms FnExactParseRule_holds
end Go.Proofs.Ytnnjilkjjdiblaa
