/-
  Persons with other names: the model.
-/
import Derived.Test.YthpcippgifmabaaGreatDoorGFam
namespace Go.Proofs.YthpcippgifmabaaGreatDoor
set_option maxRecDepth 100000
open Go.RowKit

def named (x : Person) (s : ByteArray) : Person := ⟨s, x.sex, x.father, x.mother, x.born, x.died⟩
def renTo : List Person → List ByteArray → Nat → List Person
  | x :: r, s :: t, k + 1 => named x s :: renTo r t k
  | xs, _, _ => xs
theorem renTo_zero (xs : List Person) (ns : List ByteArray) : renTo xs ns 0 = xs := by unfold renTo; split <;> simp_all
theorem renTo_len : ∀ (xs : List Person) (ns : List ByteArray) (k : Nat), (renTo xs ns k).length = xs.length := by
  intro xs
  induction xs with
  | nil => intro ns k; simp [renTo]
  | cons x r ih =>
    intro ns k
    cases ns with
    | nil => simp [renTo]
    | cons s t =>
      cases k with
      | zero => simp [renTo]
      | succ k => simp [renTo, ih]
theorem renTo_at : ∀ {xs : List Person} {ns : List ByteArray} {k : Nat} {x : Person}, xs[k]? = some x → (renTo xs ns k)[k]? = some x := by
  intro xs
  induction xs with
  | nil => intro ns k x h; simp at h
  | cons y r ih =>
    intro ns k x h
    cases ns with
    | nil => simpa [renTo] using h
    | cons s t =>
      cases k with
      | zero => simpa [renTo] using h
      | succ k => simp at h; simpa [renTo] using ih h
theorem renTo_step : ∀ {xs : List Person} {ns : List ByteArray} {k : Nat} {x : Person} {s : ByteArray}, xs[k]? = some x → ns[k]? = some s → (renTo xs ns k).set k (named x s) = renTo xs ns (k + 1) := by
  intro xs
  induction xs with
  | nil => intro ns k x s h; simp at h
  | cons y r ih =>
    intro ns k x s h hs
    cases ns with
    | nil => simp at hs
    | cons s' t =>
      cases k with
      | zero => simp at h hs; subst h; subst hs; simp [renTo, renTo_zero]
      | succ k => simp at h hs; simpa [renTo] using ih h hs
/-- What RenamePeople gives. -/
def renameM (xs : List Person) (ys : List Union) (ns : List ByteArray) : Family × Bool :=
  if famOk xs ys = true ∧ ns.length = xs.length ∧ famOk (renTo xs ns ns.length) ys = true then (⟨renTo xs ns ns.length, ys⟩, true) else (⟨[], []⟩, false)
theorem renameM_bad {xs : List Person} {ys : List Union} {ns : List ByteArray} (h : ¬ (famOk xs ys = true ∧ ns.length = xs.length)) : renameM xs ys ns = (⟨[], []⟩, false) := if_neg fun k => h ⟨k.1, k.2.1⟩
theorem renameM_not {xs : List Person} {ys : List Union} {ns : List ByteArray} (h : famOk (renTo xs ns ns.length) ys = false) : renameM xs ys ns = (⟨[], []⟩, false) := if_neg fun k => by rw [h] at k; cases k.2.2
theorem renameM_ok {xs : List Person} {ys : List Union} {ns : List ByteArray} (h1 : famOk xs ys = true) (h2 : ns.length = xs.length) (h3 : famOk (renTo xs ns ns.length) ys = true) : renameM xs ys ns = (⟨renTo xs ns ns.length, ys⟩, true) := if_pos ⟨h1, h2, h3⟩
def RetFamB (w : World) (m : Family × Bool) (e : Ending) (w' : World) : Prop :=
  ∃ (A : Option Addr) (c : Nat) (B : Option Addr) (d : Nat), e = .returned (.tuple #[.agg #[.slice A m.1.people.length c, .slice B m.1.unions.length d], .bool m.2]) ∧ EPerson.OS w' w.heap.size w'.heap.size (.slice A m.1.people.length c) m.1.people ∧ EUnion.OS w' w.heap.size w'.heap.size (.slice B m.1.unions.length d) m.1.unions ∧ Below w.heap.size w w'
theorem RetFamB.zero {w w' : World} (h : Below w.heap.size w w') : RetFamB w (⟨[], []⟩, false) (.returned (.tuple #[.agg #[.slice none 0 0, .slice none 0 0], .bool false])) w' := ⟨none, 0, none, 0, rfl, Elem.OS.nil, Elem.OS.nil, h⟩
end Go.Proofs.YthpcippgifmabaaGreatDoor
