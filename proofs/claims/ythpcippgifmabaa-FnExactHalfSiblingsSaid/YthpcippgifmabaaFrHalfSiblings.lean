/-
  The law FnExactHalfSiblings: from the walk to the statement.
-/
import Derived.Test.YthpcippgifmabaaLawHalfSiblings
import Derived.Test.YthpcippgifmabaaFacts
import Derived.Test.YthpcippgifmabaaOpenFam
import Derived.JoinedOf
namespace Go.Proofs.Ythpcippgifmabaa
set_option maxRecDepth 100000
open Go.ChangeShapes Go.WideShapes Go.ChangeAt Go.RowKit

set_option maxRecDepth 100000 in
theorem FnExactHalfSiblings_lifted (os : Os) (started : os.Started) (H : Type) (enc : TypeId × Value → H) :
    ReturnsInHanded {} Try.checked os 6 .any (Rows.fnExactHalfSiblingsSpec.pre6 enc Try.prog Try.f6 Rows.fnExactHalfSiblingsRow.domain false) (Rows.fnExactHalfSiblingsSpec.post enc Try.prog Try.f6 false true false false) := by
  refine returnsInHanded_of_change_sized (C := Try.checked) own started (by kernel_rfl) Try.func6
    (ChangeSpec.witness6 (enc := enc) (C := Try.checked) false ⟨#[], #[.agg #[.slice none 0 0, .slice none 0 0], .int .i64 0], []⟩ 8 (by kernel_rfl) (by kernel_rfl) (by kernel_rfl) (by kernel_rfl)) ?_
  intro W base args ds gs before hval0 hW hcnd hsz0 _
  have hval : ∀ (j : Nat) t v, Try.f6.params[j]? = some t → args[j]? = some v → Value.okWide Try.prog W .any base t v := hval0
  have hW' := hW
  obtain ⟨p, q, hA0, hV, rfl, hfz, hnd⟩ := hW
  have hA : DataW.TrodAll enc Try.prog W 0 (fun _ => true) true Try.f6.params.toList args.toList ds p := hA0
  obtain ⟨rfl, rfl⟩ := trodVars_none hV
  have hsz : (DataW.weightsEach Try.prog Try.f6.params.toList ds).all (· ≤ reachBytes) = true := by
    have h := hsz0
    rw [List.append_nil] at h
    exact h
  rw [Try.params6] at hA hval hsz
  obtain ⟨v0, vs0, d0, ds0, p0, q0, hargs, rfl, rfl, j0, r0⟩ := trodAll_cons hA
  obtain ⟨v1, vs1, d1, ds1, p1, q1, rfl, rfl, rfl, j1, r1⟩ := trodAll_cons r0
  obtain ⟨rfl, rfl, rfl⟩ := trodAll_nil r1
  obtain rfl : args = #[v0, v1] := Array.toList_inj.1 hargs
  obtain ⟨A0, c0, x0, A0_1, c0_1, x0_1, rfl, k0, k0_1, hn0⟩ := open_Family (hval 0 37 v0 rfl rfl) j0 (fits_of hsz (j := 0) rfl rfl)
  obtain ⟨n1, rfl, l1⟩ := open_int (hval 1 3 v1 rfl rfl) j1 (fits_of hsz (j := 1) rfl rfl)
  refine (FnExactHalfSiblings_walk A0 c0 x0 A0_1 c0_1 x0_1 n1 W k0 k0_1 hn0 l1).mono fun e W' ⟨he, hb⟩ => ?_
  subst he
  exact ⟨_, rfl, law_post laidOut hW' rfl rfl rfl Try.underlying4 (by rw [Try.params6]; decide +kernel) hb⟩
theorem FnExactHalfSiblings_closed : joinedFacts Try.prog 6 Try.f6 Rows.fnExactHalfSiblingsSpec Rows.fnExactHalfSiblingsRow = true := by
  simp only [joinedFacts, Bool.and_eq_true]
  (with_reducible repeat' apply And.intro) <;> first | with_reducible exact f_laid | with_reducible exact f_maps | with_reducible exact f_heard | with_reducible exact f_enter | with_reducible exact f_lift _ rfl | with_reducible exact f_make _ rfl | (with_reducible refine f_lift _ ?_; rfl) | (with_reducible refine f_make _ ?_; rfl) | kernel_rfl
theorem FnExactHalfSiblings_holds : Rows.FnExactHalfSiblingsSaid :=
  OpenClaim.holds_of_wide 6 Try.f6 rfl rfl rfl rfl rfl rfl rfl ⟨rfl, rfl, rfl, rfl, rfl⟩ rfl rfl rfl rfl rfl (by kernel_rfl) Try.func6 FnExactHalfSiblings_closed
    (of_decide_eq_true (by kernel_rfl)) (by unfold Func.isWrapper; first | (rw [if_pos (by decide +kernel)]; kernel_rfl) | (rw [if_neg (by decide +kernel)]; exact ⟨rfl, rfl⟩))
    (fun os started H enc _ => FnExactHalfSiblings_lifted os started H enc)
#print axioms FnExactHalfSiblings_holds
end Go.Proofs.Ythpcippgifmabaa
