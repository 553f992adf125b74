/-
  Kin types: steps, validity, the sex of ego and of the relative, in the reference and in the program.
-/
import Derived.Test.YthpcippgifmabaaConvTyp
import Derived.Test.YthpcippgifmabaaSmall
namespace Go.Proofs.Ythpcippgifmabaa
set_option maxRecDepth 100000
open Go.RowKit

def stepOk (s : Step) (sex : Int) : Bool := decide (1 ≤ s.kind ∧ s.kind ≤ 8 ∧ 0 ≤ s.age ∧ s.age ≤ 2 ∧ (s.age = 0 ∨ s.kind = 3 ∨ s.kind = 4) ∧ ¬ (s.kind = 7 ∧ sex = 1) ∧ ¬ (s.kind = 8 ∧ sex = 2))
def sexTo (k : Int) : Int := if k % 2 = 1 then 1 else 2
def stepsOk : Int → List Step → Bool
  | _, [] => true
  | sex, s :: r => stepOk s sex && stepsOk (sexTo s.kind) r
def typeOk (t : KinType) : Bool := decide (0 ≤ t.ego ∧ t.ego ≤ 2 ∧ t.steps.length ≤ 8) && stepsOk t.ego t.steps
def egoM (t : KinType) : Int := if t.ego = 0 then (match t.steps with | [] => 0 | s :: _ => if s.kind = 7 then 2 else if s.kind = 8 then 1 else 0) else t.ego
def sexM (t : KinType) : Int := if t.steps.length = 0 then t.ego else sexTo (t.steps.getD (t.steps.length - 1) ⟨0, 0⟩).kind

theorem stepOk_kind {s : Step} {sex : Int} (h : stepOk s sex = true) : 1 ≤ s.kind ∧ s.kind ≤ 8 := by simp [stepOk] at h; omega

theorem stepsOk_cons (sex : Int) (s : Step) (r : List Step) : stepsOk sex (s :: r) = (stepOk s sex && stepsOk (sexTo s.kind) r) := rfl
theorem stepsOk_no {sex sex0 : Int} {s : Step} {xs r : List Step} {k : Nat} (he : stepsOk sex (xs.drop k) = stepsOk sex0 xs) (h1 : xs.drop k = s :: r) (h : stepOk s sex = false) : stepsOk sex0 xs = false := by
  rw [← he, h1, stepsOk_cons, h]; rfl
theorem stepsOk_yes {sex sex0 : Int} {s : Step} {xs r : List Step} {k : Nat} (he : stepsOk sex (xs.drop k) = stepsOk sex0 xs) (h1 : xs.drop k = s :: r) (h : stepOk s sex = true) : stepsOk (sexTo s.kind) r = stepsOk sex0 xs := by
  rw [← he, h1, stepsOk_cons, h]; rfl
theorem stepsOk_end {sex sex0 : Int} {xs : List Step} {k : Nat} (he : stepsOk sex (xs.drop k) = stepsOk sex0 xs) (h1 : xs.length ≤ k) : stepsOk sex0 xs = true := by
  rw [← he, List.drop_eq_nil_of_le h1]; rfl
def TypeRel (w : World) (ego : Int) (xs : List Step) (sx i : Value) (wr : World) : Prop :=
  ∃ (k : Nat) (sex : Int), k ≤ xs.length ∧ i = .int .i64 k ∧ sx = .int .i64 sex ∧ Below w.heap.size w wr ∧ w.heap.size + 1 ≤ wr.heap.size ∧ stepsOk sex (xs.drop k) = stepsOk ego xs

end Go.Proofs.Ythpcippgifmabaa
