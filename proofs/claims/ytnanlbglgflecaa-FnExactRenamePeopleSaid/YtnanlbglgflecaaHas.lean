/-
  Models of what is asked of a family.
-/
import Derived.Test.YtnanlbglgflecaaFamOk
namespace Go.Proofs.Ytnanlbglgflecaa
set_option maxRecDepth 100000
open Go.RowKit

def inP (xs : List Person) (p : Int) : Bool := decide (0 ≤ p ∧ p < (xs.length : Int))
def hasOk (xs : List Person) (ys : List Union) (p : Int) : Bool := inP xs p && famOk xs ys
theorem inP_iff {xs : List Person} {p : Int} : inP xs p = true ↔ 0 ≤ p ∧ p < (xs.length : Int) := by simp [inP]
theorem hasOk_fam {xs : List Person} {ys : List Union} {p : Int} (h : hasOk xs ys p = true) : famOk xs ys = true ∧ 0 ≤ p ∧ p < (xs.length : Int) := by
  simp only [hasOk, Bool.and_eq_true] at h
  exact ⟨h.2, inP_iff.1 h.1⟩
theorem famOk_parts {xs : List Person} {ys : List Union} (h : famOk xs ys = true) : xs.length ≤ 40 ∧ ys.length ≤ 60 ∧ peopleOk xs xs.length = true ∧ unionsOk xs ys ys.length = true := by
  simp only [famOk, Bool.and_eq_true, decide_eq_true_eq] at h
  exact ⟨h.1.1.1.1, h.1.1.1.2, h.1.1.2, h.2⟩
def aliveM (x : Person) (y : Int) : Bool := decide (x.born ≤ y) && (decide (x.died = -1) || decide (y < x.died))
def aliveAt (xs : List Person) (p : Nat) (y : Int) : Bool := match xs[p]? with
  | some x => aliveM x y
  | none => false
theorem aliveAt_of {xs : List Person} {p : Nat} {x : Person} {y : Int} (h : xs[p]? = some x) : aliveAt xs p y = aliveM x y := by rw [aliveAt, h]
def isAliveM (xs : List Person) (ys : List Union) (p y : Int) : Bool := hasOk xs ys p && aliveAt xs p.toNat y
def elderAt (xs : List Person) (a b : Nat) : Bool := match xs[a]?, xs[b]? with
  | some x, some y => decide (x.born < y.born) || (decide (x.born = y.born) && decide (a < b))
  | _, _ => false
theorem elderAt_of {xs : List Person} {a b : Nat} {x y : Person} (h : xs[a]? = some x) (h' : xs[b]? = some y) : elderAt xs a b = (decide (x.born < y.born) || (decide (x.born = y.born) && decide (a < b))) := by rw [elderAt, h, h']
def isElderM (xs : List Person) (ys : List Union) (a b : Int) : Bool := hasOk xs ys a && hasOk xs ys b && elderAt xs a.toNat b.toNat
def depthM (xs : List Person) (ys : List Union) (p : Int) : Int := if hasOk xs ys p = true then (depL xs xs.length).getD p.toNat 0 else 0
/-- The first person of a name, from the k-th on. -/
def findFrom (s : ByteArray) : List Person → Nat → Int × Bool
  | [], _ => (0, false)
  | x :: r, k => if x.name = s then ((k : Int), true) else findFrom s r (k + 1)
theorem findFrom_hit {s : ByteArray} {x : Person} {xs r : List Person} {k : Nat} (h : xs.drop k = x :: r) (hx : x.name = s) : findFrom s (xs.drop k) k = ((k : Int), true) := by rw [h, findFrom, if_pos hx]
theorem findFrom_miss {s : ByteArray} {x : Person} {xs : List Person} {k : Nat} (h : xs.drop k = x :: xs.drop (k + 1)) (hx : x.name ≠ s) : findFrom s (xs.drop k) k = findFrom s (xs.drop (k + 1)) (k + 1) := by rw [h, findFrom, if_neg hx]
theorem findFrom_end {s : ByteArray} {xs : List Person} {k : Nat} (h : xs.length ≤ k) : findFrom s (xs.drop k) k = (0, false) := by rw [List.drop_eq_nil_of_le h]; rfl
def RetIntB (w : World) (m : Int × Bool) (e : Ending) (w' : World) : Prop := e = .returned (.tuple #[.int .i64 m.1, .bool m.2]) ∧ Below w.heap.size w w'
def FindRel (s : ByteArray) (xs : List Person) (w : World) (i : Value) (wr : World) : Prop :=
  ∃ k : Nat, k ≤ xs.length ∧ i = .int .i64 k ∧ Below w.heap.size w wr ∧ findFrom s xs 0 = findFrom s (xs.drop k) k
@[irreducible] def findM (xs : List Person) (ys : List Union) (s : ByteArray) : Int × Bool := if famOk xs ys = true then findFrom s xs 0 else (0, false)
end Go.Proofs.Ytnanlbglgflecaa
