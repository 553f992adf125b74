/-
  The text of kin types, in the reference and in the program.
-/
import Derived.Test.YthpcippgifmabaaTyp2
import Derived.Laws.DeepStrings4
import Derived.Laws.Concat
namespace Go.Proofs.Ythpcippgifmabaa
set_option maxRecDepth 100000
open Go.RowKit

def ageT (a : Int) : ByteArray := if a = 1 then ⟨#[101]⟩ else if a = 2 then ⟨#[121]⟩ else ⟨#[]⟩
def letters : ByteArray := ⟨#[70, 77, 66, 90, 83, 68, 72, 87]⟩
def kindT (k : Int) : ByteArray := letters.extract (k.toNat - 1) k.toNat
def stepT (x : Step) : ByteArray := ageT x.age ++ kindT x.kind
def stepsT : List Step → ByteArray
  | [] => ⟨#[]⟩
  | x :: r => stepT x ++ stepsT r
def dotT (s : ByteArray) : ByteArray := if s = ⟨#[]⟩ then ⟨#[46]⟩ else s
def preT (e : Int) : ByteArray := if e = 1 then ⟨#[109, 58]⟩ else if e = 2 then ⟨#[119, 58]⟩ else ⟨#[]⟩
def wordT (xs : List Step) : ByteArray := dotT (stepsT xs)
def textT (t : KinType) : ByteArray := if typeOk t = true then preT t.ego ++ wordT t.steps else ⟨#[]⟩

def StepsIn (xs : List Step) : Prop := ∀ (k : Nat) (x : Step), xs[k]? = some x → 1 ≤ x.kind ∧ x.kind ≤ 8 ∧ 0 ≤ x.age ∧ x.age ≤ 2

def TextRel (w : World) (xs : List Step) (o i : Value) (wr : World) : Prop :=
  ∃ (k : Nat) (out : ByteArray), k ≤ xs.length ∧ i = .int .i64 k ∧ o = .string out ∧ Below w.heap.size w wr ∧ out.size ≤ 2 * k ∧ out ++ stepsT (xs.drop k) = stepsT xs

theorem toList_nil {s : ByteArray} (h : s.toList.isEmpty = true) : s = ⟨#[]⟩ := by
  rw [ByteArray.toList_eq] at h
  apply ByteArray.ext; simpa using h
theorem toList_ne {s : ByteArray} (h : s.toList.isEmpty = false) : s ≠ ⟨#[]⟩ := fun e => by
  rw [e, ByteArray.toList_eq] at h; cases h
theorem kindT_size (k : Int) : (kindT k).size ≤ 1 := by
  simp [kindT, ByteArray.size_extract]; omega
theorem ageT_size (k : Int) : (ageT k).size ≤ 1 := by
  unfold ageT; split <;> (try split) <;> decide
theorem bytes_app_nil (a : ByteArray) : a ++ (⟨#[]⟩ : ByteArray) = a := by
  apply ByteArray.ext; simp
theorem bytes_nil_app (a : ByteArray) : (⟨#[]⟩ : ByteArray) ++ a = a := by
  apply ByteArray.ext; simp
theorem text_step {out a b : ByteArray} {x : Step} {xs r : List Step} {k : Nat} (he : out ++ stepsT (xs.drop k) = stepsT xs) (h1 : xs.drop k = x :: r) (ha : ageT x.age = a) (hb : kindT x.kind = b) : (out ++ (a ++ b)) ++ stepsT r = stepsT xs := by
  subst ha hb; rw [← he, h1, stepsT, stepT, ByteArray.append_assoc]
theorem text_size {out a b : ByteArray} {x y : Int} {k : Nat} (h : out.size ≤ 2 * k) (ha : ageT y = a) (hb : kindT x = b) : (out ++ (a ++ b)).size ≤ 2 * (k + 1) := by
  subst ha hb
  have h1 := ageT_size y
  have h2 := kindT_size x
  simp only [ByteArray.size_append]; omega

theorem text_step0 {out b : ByteArray} {x : Step} {xs r : List Step} {k : Nat} (he : out ++ stepsT (xs.drop k) = stepsT xs) (h1 : xs.drop k = x :: r) (ha : ageT x.age = ⟨#[]⟩) (hb : kindT x.kind = b) : (out ++ b) ++ stepsT r = stepsT xs := by
  have := text_step he h1 ha hb
  rwa [bytes_nil_app] at this
theorem text_step1 {out a b : ByteArray} {x : Step} {xs r : List Step} {k : Nat} (he : out ++ stepsT (xs.drop k) = stepsT xs) (h1 : xs.drop k = x :: r) (ha : ageT x.age = a) (hb : kindT x.kind = b) : (out ++ a ++ b) ++ stepsT r = stepsT xs := by
  have := text_step he h1 ha hb
  rwa [← ByteArray.append_assoc] at this
theorem text_size0 {out b : ByteArray} {x : Int} {k : Nat} (h : out.size ≤ 2 * k) (hb : kindT x = b) : (out ++ b).size ≤ 2 * (k + 1) := by
  subst hb
  have h2 := kindT_size x
  simp only [ByteArray.size_append]; omega
theorem text_size1 {out a b : ByteArray} {x y : Int} {k : Nat} (h : out.size ≤ 2 * k) (ha : ageT y = a) (hb : kindT x = b) : (out ++ a ++ b).size ≤ 2 * (k + 1) := by
  rw [ByteArray.append_assoc]; exact text_size h ha hb

theorem slice_letters (x : Int) (h1 : 1 ≤ x) (h2 : x ≤ 8) (w : World) : (Instr.slice 9 (.string ⟨#[70, 77, 66, 90, 83, 68, 72, 87]⟩) (some (.int .i64 (x - 1))) (some (.int .i64 x)) none).run Try.prog w = .ok (.string (kindT x)) w := by
  rw [run_slice_string_if (h := Try.underlying9), if_pos ⟨by omega, by show x ≤ 8; exact h2⟩, if_pos ⟨by omega, by omega⟩, kindT, letters, show (x - 1).toNat = x.toNat - 1 by omega]
theorem wrap_pred (x : Int) (h1 : 1 ≤ x) (h2 : x ≤ 8) : IntKind.i64.wrap (x - 1) = x - 1 := by rw [IntKind.wrap_i64]; omega
theorem add_run (a b : ByteArray) (h : a.size ≤ 4000000000000000000) (h' : b.size ≤ 4000000000000000000) (w : World) : (Op.stringOp .add a b).run Try.prog w = .ok (.string (a ++ b)) w := run_string_add_sum _ a b (by omega)
theorem app1_size (a : ByteArray) (b : UInt8) : (a ++ ⟨#[b]⟩).size = a.size + 1 := by rw [ByteArray.size_append]; rfl

end Go.Proofs.Ythpcippgifmabaa
