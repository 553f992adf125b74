/-
  The text of a kin type.
-/
import Derived.Test.YthpcippgifmabaaFmt
namespace Go.Proofs.Ythpcippgifmabaa
set_option maxRecDepth 100000
open Go.RowKit

theorem stepsOk_in {xs : List Step} : ∀ {sex : Int}, stepsOk sex xs = true → StepsIn xs := by
  induction xs with
  | nil => intro sex _ k x h; simp at h
  | cons y r ih =>
    intro sex h k x hk
    simp only [stepsOk, Bool.and_eq_true] at h
    cases k with
    | zero =>
      simp at hk; subst hk
      have := h.1
      simp [stepOk] at this; omega
    | succ k => simp at hk; exact ih h.2 k x hk
theorem typeOk_in {t : KinType} (h : typeOk t = true) : StepsIn t.steps := by
  simp only [typeOk, Bool.and_eq_true] at h
  exact stepsOk_in h.2
theorem preT_size (e : Int) : (preT e).size ≤ 2 := by
  unfold preT; split <;> (try split) <;> decide
theorem stepsT_size (xs : List Step) : (stepsT xs).size ≤ 2 * xs.length := by
  induction xs with
  | nil => exact Nat.le_refl 0
  | cons x r ih =>
    have h1 := ageT_size x.age
    have h2 := kindT_size x.kind
    simp only [stepsT, stepT, ByteArray.size_append, List.length_cons]; omega
theorem dotT_size (s : ByteArray) : (dotT s).size ≤ s.size + 1 := by
  unfold dotT; split
  · exact Nat.le_add_left 1 _
  · omega

end Go.Proofs.Ythpcippgifmabaa
