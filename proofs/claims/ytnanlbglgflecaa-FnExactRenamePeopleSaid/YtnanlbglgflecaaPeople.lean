/-
  What makes a family valid: models.
-/
import Derived.Test.YtnanlbglgflecaaParent
import Derived.Test.YtnanlbglgflecaaDepths
import Derived.Test.YtnanlbglgflecaaSmall
namespace Go.Proofs.Ytnanlbglgflecaa
set_option maxRecDepth 100000
open Go.RowKit

def aliveOk (x : Person) : Bool := decide ((x.sex = 1 ∨ x.sex = 2) ∧ 0 ≤ x.born ∧ x.born ≤ 9999 ∧ (x.died = -1 ∨ x.born ≤ x.died ∧ x.died ≤ 9999))
def newName (xs : List Person) (k : Nat) (s : ByteArray) : Bool := (xs.take k).all fun y => !(eqB y.name s)
def personOf (xs : List Person) (k : Nat) (x : Person) : Bool := nameOk x.name && aliveOk x && newName xs k x.name && parentOk xs k x.father 1 1 && parentOk xs k x.mother 2 0
def personOk (xs : List Person) (k : Nat) : Bool := match xs[k]? with
  | none => false
  | some x => personOf xs k x
theorem personOk_of {xs : List Person} {k : Nat} {x : Person} (h : xs[k]? = some x) : personOk xs k = personOf xs k x := by rw [personOk, h]
def peopleOk (xs : List Person) (k : Nat) : Bool := (List.range k).all (personOk xs)
theorem peopleOk_zero (xs : List Person) : peopleOk xs 0 = true := rfl
theorem peopleOk_succ (xs : List Person) (k : Nat) : peopleOk xs (k + 1) = (peopleOk xs k && personOk xs k) := by simp [peopleOk, List.range_succ]
theorem peopleOk_get {xs : List Person} {k i : Nat} (h : peopleOk xs k = true) (hi : i < k) : personOk xs i = true := by
  rw [peopleOk, List.all_eq_true] at h
  exact h i (List.mem_range.2 hi)
theorem peopleOk_bad {xs : List Person} {k n : Nat} (h : personOk xs k = false) (hk : k < n) : peopleOk xs n = false := by
  rw [Bool.eq_false_iff]; intro h'
  have := peopleOk_get h' hk
  rw [h] at this; cases this
theorem personOf_parts {xs : List Person} {k : Nat} {x : Person} (h : personOf xs k x = true) : nameOk x.name = true ∧ aliveOk x = true ∧ newName xs k x.name = true ∧ parentOk xs k x.father 1 1 = true ∧ parentOk xs k x.mother 2 0 = true := by
  simp only [personOf, Bool.and_eq_true] at h
  exact ⟨h.1.1.1.1, h.1.1.1.2, h.1.1.2, h.1.2, h.2⟩
theorem aliveOk_parts {x : Person} (h : aliveOk x = true) : (x.sex = 1 ∨ x.sex = 2) ∧ 0 ≤ x.born ∧ x.born ≤ 9999 ∧ (x.died = -1 ∨ x.born ≤ x.died ∧ x.died ≤ 9999) := by simpa [aliveOk] using h
theorem peopleOk_died {xs : List Person} {k : Nat} (h : peopleOk xs k = true) : ∀ (i : Nat) (x : Person), i < k → xs[i]? = some x → -1 ≤ x.died ∧ x.died ≤ 9999 := by
  intro i x hi hx
  have h1 := peopleOk_get h hi
  rw [personOk_of hx] at h1
  have := aliveOk_parts (personOf_parts h1).2.1
  omega
theorem parentOk_lt {xs : List Person} {k : Nat} {q sex late : Int} (h : parentOk xs k q sex late = true) : q < k := by
  by_cases h1 : q = -1
  · omega
  · by_cases h2 : q < 0 ∨ (k : Int) ≤ q
    · rw [parentOk_out h1 h2] at h; cases h
    · omega
theorem peopleOk_before {xs : List Person} (h : peopleOk xs xs.length = true) : Before xs := by
  intro k x hx
  have h1 := peopleOk_get h (List.getElem?_eq_some_iff.1 hx).1
  rw [personOk_of hx] at h1
  obtain ⟨_, _, _, h2, h3⟩ := personOf_parts h1
  exact ⟨parentOk_lt h2, parentOk_lt h3⟩
theorem newName_zero (xs : List Person) (s : ByteArray) : newName xs 0 s = true := rfl
theorem newName_succ {xs : List Person} {k : Nat} {y : Person} (h : xs[k]? = some y) (s : ByteArray) : newName xs (k + 1) s = (newName xs k s && !(eqB y.name s)) := by
  simp only [newName]
  rw [List.take_add_one, h, List.all_append]; simp
theorem newName_old {xs : List Person} {k i : Nat} {y : Person} {s : ByteArray} (h : xs[i]? = some y) (hi : i < k) (hs : y.name = s) : newName xs k s = false := by
  rw [newName, List.all_eq_false]
  exact ⟨y, List.mem_of_getElem? (i := i) (by rw [List.getElem?_take, if_pos hi, h]), by simp [eqB, hs]⟩
/-- No line of the family is too deep. -/
def flatOk (ds : List Int) (k : Nat) : Bool := (ds.take k).all fun d => decide (d ≤ 10)
theorem flatOk_succ {ds : List Int} {k : Nat} {d : Int} (h : ds[k]? = some d) : flatOk ds (k + 1) = (flatOk ds k && decide (d ≤ 10)) := by
  simp only [flatOk]
  rw [List.take_add_one, h, List.all_append]; simp
theorem flatOk_bad {ds : List Int} {k n : Nat} {d : Int} (h : ds[k]? = some d) (hk : k < n) (hd : 10 < d) : flatOk ds n = false := by
  rw [flatOk, List.all_eq_false]
  exact ⟨d, List.mem_of_getElem? (i := k) (by rw [List.getElem?_take, if_pos hk, h]), by simp; omega⟩
end Go.Proofs.Ytnanlbglgflecaa
