/-
  Children and siblings: models.
-/
import Derived.Test.YthpcippgifmabaaOrderS
namespace Go.Proofs.Ythpcippgifmabaa
set_option maxRecDepth 100000
open Go.RowKit

def halfOf (x y : Person) (a b : Nat) : Bool := decide (b ≠ a) && (!(fullOf x y a b) && (decide (0 ≤ x.father ∧ x.father = y.father) || decide (0 ≤ x.mother ∧ x.mother = y.mother)))
def halfAt (xs : List Person) (a b : Nat) : Bool := match xs[a]?, xs[b]? with
  | some x, some y => halfOf x y a b
  | _, _ => false
theorem halfAt_of {xs : List Person} {a b : Nat} {x y : Person} (h : xs[a]? = some x) (h' : xs[b]? = some y) : halfAt xs a b = halfOf x y a b := by rw [halfAt, h, h']
def childM (xs : List Person) (ys : List Union) (p : Int) : List Int := if hasOk xs ys p = true then kidsM xs (kidP xs p) xs.length else []
def fullsM (xs : List Person) (ys : List Union) (p : Int) : List Int := if hasOk xs ys p = true then kidsM xs (fullAt xs p.toNat) xs.length else []
def halvesM (xs : List Person) (ys : List Union) (p : Int) : List Int := if hasOk xs ys p = true then kidsM xs (halfAt xs p.toNat) xs.length else []
end Go.Proofs.Ythpcippgifmabaa
