/-
  To whom a kin type leads from one person, in the reference.
-/
import Derived.Test.YtnnjilkjjdiblaaVReach
import Derived.Test.YtnnjilkjjdiblaaVGFamS
import Derived.Deep.Cut
import Derived.Deep.DeepCutAuto
namespace Go.Proofs.Ytnnjilkjjdiblaa
set_option maxRecDepth 100000
open Go.RowKit

def relsM (xs : List Person) (ys : List Union) (p : Int) (t : KinType) : List Int := if hasOk xs ys p = true ∧ typeOk t = true then idxTo (waysP xs ys t t.steps.length p.toNat) xs.length else []
theorem relsM_has {xs : List Person} {ys : List Union} {p : Int} {t : KinType} (h : hasOk xs ys p = false) : relsM xs ys p t = [] := by rw [relsM, h]; rfl
theorem relsM_typ {xs : List Person} {ys : List Union} {p : Int} {t : KinType} (h : typeOk t = false) : relsM xs ys p t = [] := by rw [relsM, h]; simp
theorem relsM_in {xs : List Person} {ys : List Union} {p : Nat} {t : KinType} (h : hasOk xs ys p = true) (h' : typeOk t = true) : relsM xs ys p t = idxTo (waysP xs ys t t.steps.length p) xs.length := by rw [relsM, if_pos ⟨h, h'⟩]; simp
def RelvRel (P : Nat → Nat → Bool) (m n lo : Nat) (W : World) (v i : Value) (wr : World) : Prop :=
  ∃ (k : Nat) (A : Option Addr) (c : Nat), k ≤ m ∧ i = .int .i64 k ∧ v = .slice A n c ∧ EBool.OS wr lo wr.heap.size (.slice A n c) (row1 n (P k)) ∧ Below W.heap.size W wr

end Go.Proofs.Ytnnjilkjjdiblaa
