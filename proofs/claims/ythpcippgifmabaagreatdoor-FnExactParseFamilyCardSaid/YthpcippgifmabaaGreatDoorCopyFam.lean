/-
  Copies of a family.
-/
import Derived.Test.YthpcippgifmabaaGreatDoorConvFam
import Derived.Test.YthpcippgifmabaaGreatDoorAppN
import Derived.Deep.Cut
import Derived.Deep.DeepCutAuto
namespace Go.Proofs.YthpcippgifmabaaGreatDoor
set_option maxRecDepth 100000
open Go.RowKit

theorem flatPerson : FlatE EPerson vsPerson := ⟨flat_os, fun h => h, fun _ => rfl, fun x u hu => by simp [vsPerson] at hu; rcases hu with rfl | rfl | rfl | rfl | rfl | rfl <;> rfl⟩
theorem tyPersonS : SlTy EPerson 22 56 := SlTy.mk' Tryz.underlying22 person_info rfl (by decide)
theorem flatUnion : FlatE EUnion vsUnion := ⟨flat_os, fun h => h, fun _ => rfl, fun x u hu => by simp [vsUnion] at hu; rcases hu with rfl | rfl | rfl | rfl <;> rfl⟩
theorem tyUnionS : SlTy EUnion 23 32 := SlTy.mk' Tryz.underlying23 union_info rfl (by decide)
def RetFam (w : World) (xs : List Person) (ys : List Union) (e : Ending) (w' : World) : Prop :=
  ∃ (A : Option Addr) (c : Nat) (B : Option Addr) (d : Nat), e = .returned (.agg #[.slice A xs.length c, .slice B ys.length d]) ∧ EPerson.OS w' w.heap.size w'.heap.size (.slice A xs.length c) xs ∧ EUnion.OS w' w.heap.size w'.heap.size (.slice B ys.length d) ys ∧ Below w.heap.size w w'

end Go.Proofs.YthpcippgifmabaaGreatDoor
