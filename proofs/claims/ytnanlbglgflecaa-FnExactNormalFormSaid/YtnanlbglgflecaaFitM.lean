/-
  Where a rule fits: plain definitions; the sex of the person from whom a step is made.
-/
import Derived.Test.YtnanlbglgflecaaRuleM
import Derived.Test.YtnanlbglgflecaaSexB
namespace Go.Proofs.Ytnanlbglgflecaa
set_option maxRecDepth 100000
open Go.RowKit

def fitStep (s x : Step) : Bool := decide (x.kind = s.kind) && (decide (s.age = 0) || decide (s.age = x.age))
def stepsFit : List Step → List Step → Bool
  | [], _ => true
  | s :: r, x :: q => fitStep s x && stepsFit r q
  | _ :: _, [] => false
def placeBad (place : Int) (j n len : Nat) : Bool := decide (place = 1 ∧ j ≠ 0) || decide (place = 2 ∧ j + n ≠ len)
def sexBad (sex sx : Int) : Bool := decide (sex ≠ 0 ∧ sex ≠ sx)
def fitsIn (r : Rule) (t : KinType) (j : Nat) : Bool := !placeBad r.place j r.src.length t.steps.length && !sexBad r.sex (sexBM t j) && stepsFit r.src (t.steps.drop j)
def fitsM (r : Rule) (t : KinType) (i : Int) : Bool := decide (0 ≤ i ∧ i + r.src.length ≤ t.steps.length) && fitsIn r t i.toNat
def fitsAtM (r : Rule) (t : KinType) (i : Int) : Bool := ruleOk r && typeOk t && fitsM r t i
theorem fitsM_out {r : Rule} {t : KinType} {i : Int} (h : ¬ (0 ≤ i ∧ i + r.src.length ≤ t.steps.length)) : fitsM r t i = false := by simp only [fitsM, h, decide_false]; rfl
theorem fitsM_in {r : Rule} {t : KinType} {j : Nat} (h : j + r.src.length ≤ t.steps.length) : fitsM r t j = fitsIn r t j := by
  rw [fitsM, show decide (0 ≤ (j : Int) ∧ (j : Int) + r.src.length ≤ t.steps.length) = true from by simp only [decide_eq_true_eq]; omega, Bool.true_and, Int.toNat_natCast]
theorem fitsIn_place {r : Rule} {t : KinType} {j : Nat} (h : placeBad r.place j r.src.length t.steps.length = true) : fitsIn r t j = false := by simp [fitsIn, h]
theorem fitsIn_sex {r : Rule} {t : KinType} {j : Nat} (h : sexBad r.sex (sexBM t j) = true) : fitsIn r t j = false := by simp [fitsIn, h]
theorem fitsIn_steps {r : Rule} {t : KinType} {j : Nat} (h : stepsFit r.src (t.steps.drop j) = false) : fitsIn r t j = false := by simp [fitsIn, h]
theorem fitsIn_yes {r : Rule} {t : KinType} {j : Nat} (h1 : placeBad r.place j r.src.length t.steps.length = false) (h2 : sexBad r.sex (sexBM t j) = false) (h3 : stepsFit r.src (t.steps.drop j) = true) : fitsIn r t j = true := by simp [fitsIn, h1, h2, h3]
theorem stepsFit_cons (s x : Step) (r q : List Step) : stepsFit (s :: r) (x :: q) = (fitStep s x && stepsFit r q) := rfl
theorem fit_no {xs zs r q : List Step} {s x : Step} {j k : Nat} (he : stepsFit (xs.drop k) (zs.drop (j + k)) = stepsFit xs (zs.drop j)) (h1 : xs.drop k = s :: r) (h2 : zs.drop (j + k) = x :: q) (h : fitStep s x = false) : stepsFit xs (zs.drop j) = false := by
  rw [← he, h1, h2, stepsFit_cons, h]; rfl
theorem fit_yes {xs zs r q : List Step} {s x : Step} {j k : Nat} (he : stepsFit (xs.drop k) (zs.drop (j + k)) = stepsFit xs (zs.drop j)) (h1 : xs.drop k = s :: r) (h2 : zs.drop (j + k) = x :: q) (h : fitStep s x = true) : stepsFit r q = stepsFit xs (zs.drop j) := by
  rw [← he, h1, h2, stepsFit_cons, h]; rfl
theorem fit_end {xs zs : List Step} {j k : Nat} (he : stepsFit (xs.drop k) (zs.drop (j + k)) = stepsFit xs (zs.drop j)) (h1 : xs.length ≤ k) : stepsFit xs (zs.drop j) = true := by
  rw [← he, List.drop_eq_nil_of_le h1]; rfl
theorem fitStep_kind {s x : Step} (h : x.kind ≠ s.kind) : fitStep s x = false := by simp [fitStep, h]
theorem fitStep_age {s x : Step} (h : s.age ≠ 0) (h' : s.age ≠ x.age) : fitStep s x = false := by simp [fitStep, h, h']
theorem fitStep_any {s x : Step} (h : x.kind = s.kind) (h' : s.age = 0) : fitStep s x = true := by simp [fitStep, h, h']
theorem fitStep_same {s x : Step} (h : x.kind = s.kind) (h' : s.age = x.age) : fitStep s x = true := by simp [fitStep, h, h']

end Go.Proofs.Ytnanlbglgflecaa
