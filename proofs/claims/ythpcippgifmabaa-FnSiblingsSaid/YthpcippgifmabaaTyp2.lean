/-
  Kin types, continued: validity in the reference, sex of ego and of the relative.
-/
import Derived.Test.YthpcippgifmabaaTyp
namespace Go.Proofs.Ythpcippgifmabaa
set_option maxRecDepth 100000
open Go.RowKit

/-- The steps of a valid list have kinds from 1 to 8. -/
theorem stepsOk_at {xs : List Step} : ∀ {sex : Int} {k : Nat} {s : Step}, stepsOk sex xs = true → xs[k]? = some s → 1 ≤ s.kind ∧ s.kind ≤ 8 := by
  induction xs with
  | nil => intro sex k s _ h; simp at h
  | cons x r ih =>
    intro sex k s h hk
    simp only [stepsOk, Bool.and_eq_true] at h
    cases k with
    | zero => simp at hk; subst hk; exact stepOk_kind h.1
    | succ k => simp at hk; exact ih h.2 hk
theorem typeOk_at {t : KinType} {k : Nat} {s : Step} (h : typeOk t = true) (hk : t.steps[k]? = some s) : 1 ≤ s.kind ∧ s.kind ≤ 8 := by
  simp only [typeOk, Bool.and_eq_true] at h
  exact stepsOk_at h.2 hk
theorem typeOk_len {t : KinType} (h : typeOk t = true) : t.steps.length ≤ 8 := by
  simp [typeOk] at h; omega
theorem typeOk_ego {t : KinType} (h : typeOk t = true) : 0 ≤ t.ego ∧ t.ego ≤ 2 := by
  simp [typeOk] at h; omega

theorem egoM_of {xs r : List Step} {s : Step} (h : xs.drop 0 = s :: r) : egoM ⟨0, xs⟩ = if s.kind = 7 then 2 else if s.kind = 8 then 1 else 0 := by
  simp only [List.drop_zero] at h; subst h; rfl
def sexT (t : KinType) : Int := if typeOk t = true then sexM t else 0
def egoT (t : KinType) : Int := if typeOk t = true then egoM t else 0

end Go.Proofs.Ythpcippgifmabaa
