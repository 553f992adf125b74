/-
  Persons in the order of their age: the model of how the reference puts one person in his place.
-/
import Derived.Test.YthpcippgifmabaaGFam
import Derived.Test.YthpcippgifmabaaGLead
namespace Go.Proofs.Ythpcippgifmabaa
set_option maxRecDepth 100000
open Go.RowKit

def insA (xs : List Person) (p : Int) : List Int → List Int
  | [] => [p]
  | q :: r => if elderAt xs p.toNat q.toNat = true then p :: q :: r else q :: insA xs p r
theorem mem_insA {xs : List Person} {p y : Int} : ∀ {l : List Int}, y ∈ insA xs p l ↔ y = p ∨ y ∈ l := by
  intro l
  induction l with
  | nil => simp [insA]
  | cons q r ih =>
    rw [insA]; split
    · simp
    · simp only [List.mem_cons, ih]
      constructor
      · rintro (h | h | h)
        · exact .inr (.inl h)
        · exact .inl h
        · exact .inr (.inr h)
      · rintro (h | h | h)
        · exact .inr (.inl h)
        · exact .inl h
        · exact .inr (.inr h)
theorem insA_len {xs : List Person} {p : Int} : ∀ {l : List Int}, (insA xs p l).length = l.length + 1 := by
  intro l
  induction l with
  | nil => rfl
  | cons q r ih =>
    rw [insA]; split
    · rfl
    · simp [ih]
/-- The first k persons for whom P holds, each put in his place. -/
def kidsM (xs : List Person) (P : Nat → Bool) : Nat → List Int
  | 0 => []
  | k + 1 => if P k = true then insA xs k (kidsM xs P k) else kidsM xs P k
theorem kidsM_mem {xs : List Person} {P : Nat → Bool} {y : Int} : ∀ {k : Nat}, y ∈ kidsM xs P k ↔ ∃ i : Nat, i < k ∧ P i = true ∧ y = i := by
  intro k
  induction k with
  | zero => simp [kidsM]
  | succ k ih =>
    rw [kidsM]; split
    · rename_i hk
      rw [mem_insA, ih]
      constructor
      · rintro (rfl | ⟨i, h1, h2, h3⟩)
        · exact ⟨k, by omega, hk, rfl⟩
        · exact ⟨i, by omega, h2, h3⟩
      · rintro ⟨i, h1, h2, h3⟩
        by_cases e : i = k
        · subst e; exact .inl h3
        · exact .inr ⟨i, by omega, h2, h3⟩
    · rename_i hk
      rw [ih]
      constructor
      · rintro ⟨i, h1, h2, h3⟩; exact ⟨i, by omega, h2, h3⟩
      · rintro ⟨i, h1, h2, h3⟩
        by_cases e : i = k
        · subst e; exact absurd h2 hk
        · exact ⟨i, by omega, h2, h3⟩
theorem kidsM_len {xs : List Person} {P : Nat → Bool} : ∀ k : Nat, (kidsM xs P k).length ≤ k := by
  intro k
  induction k with
  | zero => exact Nat.le_refl _
  | succ k ih =>
    rw [kidsM]; split
    · rw [insA_len]; omega
    · omega
/-- How far a person's place has been sought. -/
def Sought (xs : List Person) (p : Int) (l : List Int) (k : Nat) (out : List Int) (done : Bool) : Prop :=
  k ≤ l.length ∧ out.length = (if done = true then k + 1 else k) ∧ (if done = true then out ++ l.drop k = insA xs p l else out = l.take k ∧ insA xs p l = out ++ insA xs p (l.drop k))
theorem Sought.start (xs : List Person) (p : Int) (l : List Int) : Sought xs p l 0 [] false := ⟨Nat.zero_le _, rfl, by simp⟩
section
variable {xs : List Person} {p q : Int} {l out : List Int} {k : Nat}
theorem Sought.after (h : Sought xs p l k out true) (hq : l[k]? = some q) : Sought xs p l (k + 1) (out ++ [q]) true := by
  obtain ⟨h1, h2, h3⟩ := h
  have hk := (List.getElem?_eq_some_iff.1 hq).1
  refine ⟨by omega, by simpa using h2, ?_⟩
  simp only [if_pos] at h3 ⊢
  rw [List.append_assoc, ← h3, List.drop_eq_getElem_cons hk, (List.getElem?_eq_some_iff.1 hq).2]; rfl
theorem Sought.here (h : Sought xs p l k out false) (hq : l[k]? = some q) (he : elderAt xs p.toNat q.toNat = true) : Sought xs p l (k + 1) (out ++ [p] ++ [q]) true := by
  obtain ⟨h1, h2, h3⟩ := h
  have hk := (List.getElem?_eq_some_iff.1 hq).1
  simp only [Bool.false_eq_true, if_false] at h2 h3
  refine ⟨by omega, by simp [h2], ?_⟩
  simp only [if_pos]
  rw [h3.2, List.drop_eq_getElem_cons hk, (List.getElem?_eq_some_iff.1 hq).2, insA, if_pos he]; simp
theorem Sought.past (h : Sought xs p l k out false) (hq : l[k]? = some q) (he : elderAt xs p.toNat q.toNat = false) : Sought xs p l (k + 1) (out ++ [q]) false := by
  obtain ⟨h1, h2, h3⟩ := h
  have hk := (List.getElem?_eq_some_iff.1 hq).1
  simp only [Bool.false_eq_true, if_false] at h2 h3
  refine ⟨by omega, by simp [h2], ?_⟩
  simp only [Bool.false_eq_true, if_false]
  refine ⟨by rw [h3.1, List.take_add_one, hq]; rfl, ?_⟩
  rw [h3.2, List.drop_eq_getElem_cons hk, (List.getElem?_eq_some_iff.1 hq).2, insA, if_neg (by rw [he]; simp)]; simp
theorem Sought.end_done (h : Sought xs p l k out true) (hk : ¬ k < l.length) : out = insA xs p l := by
  obtain ⟨h1, h2, h3⟩ := h
  simp only [if_pos] at h3
  rw [← h3, List.drop_eq_nil_of_le (by omega), List.append_nil]
theorem Sought.end_not (h : Sought xs p l k out false) (hk : ¬ k < l.length) : out ++ [p] = insA xs p l := by
  obtain ⟨h1, h2, h3⟩ := h
  simp only [Bool.false_eq_true, if_false] at h3
  rw [h3.2, List.drop_eq_nil_of_le (by omega)]; rfl
end
end Go.Proofs.Ythpcippgifmabaa
