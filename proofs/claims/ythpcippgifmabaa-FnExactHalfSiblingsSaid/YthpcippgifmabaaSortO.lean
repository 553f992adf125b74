/-
  The plain law of the sort: a sorted permutation of the persons sought is the reference's list.
-/
import Derived.Test.YthpcippgifmabaaSibM
import Derived.Sort.AssemblyPlain
namespace Go.Proofs.Ythpcippgifmabaa
set_option maxRecDepth 100000
open Go.RowKit
open Go.Sort (SWO PermIn SortedIn pdq)

def bornAt (xs : List Person) (i : Int) : Int := match xs[i.toNat]? with
  | some x => x.born
  | none => 0
/-- Who is elder, over all numbers (a total order). -/
def lessM (xs : List Person) (a b : Int) : Bool := decide (bornAt xs a < bornAt xs b) || (decide (bornAt xs a = bornAt xs b) && decide (a < b))
theorem lessM_swo (xs : List Person) : SWO (lessM xs) where
  irrefl x := by simp [lessM]
  trans x y z h1 h2 := by
    simp only [lessM, Bool.or_eq_true, Bool.and_eq_true, decide_eq_true_eq] at *
    omega
  ntrans x y z h1 h2 := by
    simp only [lessM, Bool.or_eq_false_iff, Bool.and_eq_false_iff, decide_eq_false_iff_not] at *
    omega
theorem lessM_total {xs : List Person} {x y : Int} (h1 : lessM xs x y = false) (h2 : lessM xs y x = false) : x = y := by
  simp only [lessM, Bool.or_eq_false_iff, Bool.and_eq_false_iff, decide_eq_false_iff_not] at *
  omega
theorem lessM_eq {xs : List Person} {a b : Nat} (ha : a < xs.length) (hb : b < xs.length) : lessM xs a b = elderAt xs a b := by
  rw [elderAt_of (List.getElem?_eq_getElem ha) (List.getElem?_eq_getElem hb)]
  simp only [lessM, bornAt, Int.toNat_natCast, List.getElem?_eq_getElem ha, List.getElem?_eq_getElem hb, Int.ofNat_lt]

/-- Whom the program lists before it sorts. -/
def listM (P : Nat → Bool) : Nat → List Int
  | 0 => []
  | k + 1 => if P k = true then listM P k ++ [(k : Int)] else listM P k
theorem listM_mem {P : Nat → Bool} {y : Int} : ∀ {k : Nat}, y ∈ listM P k ↔ ∃ i : Nat, i < k ∧ P i = true ∧ y = i := by
  intro k
  induction k with
  | zero => simp [listM]
  | succ k ih =>
    rw [listM]; split
    · rename_i hk
      rw [List.mem_append, ih]
      constructor
      · rintro (⟨i, h1, h2, h3⟩ | h)
        · exact ⟨i, by omega, h2, h3⟩
        · exact ⟨k, by omega, hk, by simpa using h⟩
      · rintro ⟨i, h1, h2, h3⟩
        by_cases e : i = k
        · subst e; exact .inr (by simpa using h3)
        · exact .inl ⟨i, by omega, h2, h3⟩
    · rename_i hk
      rw [ih]
      constructor
      · rintro ⟨i, h1, h2, h3⟩; exact ⟨i, by omega, h2, h3⟩
      · rintro ⟨i, h1, h2, h3⟩
        by_cases e : i = k
        · subst e; exact absurd h2 hk
        · exact ⟨i, by omega, h2, h3⟩
theorem listM_len {P : Nat → Bool} : ∀ k : Nat, (listM P k).length ≤ k := by
  intro k
  induction k with
  | zero => exact Nat.le_refl _
  | succ k ih =>
    rw [listM]; split
    · simp; omega
    · omega
theorem listM_get {P : Nat → Bool} {k i : Nat} (h : i < (listM P k).length) : ∃ m : Nat, m < k ∧ (listM P k)[i] = (m : Int) := by
  obtain ⟨m, h1, h2, h3⟩ := listM_mem.1 (List.getElem_mem h)
  exact ⟨m, h1, h3⟩
theorem insA_perm {xs : List Person} {p : Int} : ∀ {l : List Int}, (insA xs p l).Perm (p :: l) := by
  intro l
  induction l with
  | nil => exact List.Perm.refl _
  | cons q r ih =>
    rw [insA]; split
    · exact List.Perm.refl _
    · exact (List.Perm.cons q ih).trans (List.Perm.swap p q r)
theorem kidsM_perm {xs : List Person} {P : Nat → Bool} : ∀ k : Nat, (kidsM xs P k).Perm (listM P k) := by
  intro k
  induction k with
  | zero => exact List.Perm.refl _
  | succ k ih =>
    rw [kidsM, listM]; split
    · exact (insA_perm.trans (List.Perm.cons _ ih)).trans (List.perm_append_singleton _ _).symm
    · exact ih
theorem insA_sorted {xs : List Person} {p : Nat} (hp : p < xs.length) : ∀ {l : List Int}, (∀ y ∈ l, ∃ m : Nat, m < xs.length ∧ y = (m : Int)) → l.Pairwise (fun a b => (!lessM xs b a) = true) → (insA xs p l).Pairwise (fun a b => (!lessM xs b a) = true) := by
  intro l
  induction l with
  | nil => intro _ _; simp [insA]
  | cons q r ih =>
    intro hm hl
    obtain ⟨h1, h2⟩ := List.pairwise_cons.1 hl
    obtain ⟨m, hmx, rfl⟩ := hm q (by simp)
    rw [insA]; split
    · rename_i he
      rw [Int.toNat_natCast, Int.toNat_natCast, ← lessM_eq hp hmx] at he
      refine List.pairwise_cons.2 ⟨?_, hl⟩
      intro y hy
      rw [Bool.not_eq_true']
      rcases List.mem_cons.1 hy with rfl | hy
      · cases h : lessM xs (m : Int) (p : Int) with
        | false => rfl
        | true => have := (lessM_swo xs).trans _ _ _ h he; rw [(lessM_swo xs).irrefl] at this; exact this.symm
      · cases h : lessM xs y (p : Int) with
        | false => rfl
        | true =>
          have h3 := (lessM_swo xs).trans _ _ _ h he
          have := h1 y hy
          rw [h3] at this
          exact absurd this (by simp)
    · rename_i he
      rw [Int.toNat_natCast, Int.toNat_natCast, ← lessM_eq hp hmx] at he
      refine List.pairwise_cons.2 ⟨?_, ih (fun y hy => hm y (by simp [hy])) h2⟩
      intro y hy
      rcases mem_insA.1 hy with rfl | hy
      · simpa using he
      · exact h1 y hy
theorem kidsM_sorted {xs : List Person} {P : Nat → Bool} : ∀ k : Nat, k ≤ xs.length → (kidsM xs P k).Pairwise (fun a b => (!lessM xs b a) = true) := by
  intro k
  induction k with
  | zero => intro _; simp [kidsM]
  | succ k ih =>
    intro hk
    rw [kidsM]; split
    · refine insA_sorted (by omega) ?_ (ih (by omega))
      intro y hy
      obtain ⟨i, h1, -, h3⟩ := kidsM_mem.1 hy
      exact ⟨i, by omega, h3⟩
    · exact ih (by omega)
/-- The same persons as numbers below a bound. -/
def finL (m : Nat) (l : List Int) : Array (Fin (m + 1)) := (l.map fun y => Fin.ofNat (m + 1) y.toNat).toArray
def unF {m : Nat} (l : List (Fin (m + 1))) : List Int := l.map fun x => ((x.val : Nat) : Int)
theorem size_finL (m : Nat) (l : List Int) : (finL m l).size = l.length := by simp [finL]
theorem unF_finL {m : Nat} : ∀ {l : List Int}, (∀ y ∈ l, ∃ i : Nat, i < m + 1 ∧ y = (i : Int)) → unF (finL m l).toList = l := by
  intro l
  induction l with
  | nil => intro _; rfl
  | cons y r ih =>
    intro h
    obtain ⟨i, hi, rfl⟩ := h y (by simp)
    have hr := ih fun z hz => h z (by simp [hz])
    simp only [unF, finL, List.map_cons, List.map_map] at hr ⊢
    rw [hr]
    simp [Fin.ofNat, Nat.mod_eq_of_lt hi]
def lessF (xs : List Person) {m : Nat} (a b : Fin (m + 1)) : Bool := lessM xs ((a.val : Nat) : Int) ((b.val : Nat) : Int)
theorem lessF_swo (xs : List Person) (m : Nat) : SWO (lessF xs (m := m)) where
  irrefl _ := (lessM_swo xs).irrefl _
  trans _ _ _ h1 h2 := (lessM_swo xs).trans _ _ _ h1 h2
  ntrans _ _ _ h1 h2 := (lessM_swo xs).ntrans _ _ _ h1 h2
/-- The law: what the sort leaves of the persons sought. -/
theorem sorted_kids {m : Nat} {xs : List Person} {P : Nat → Bool} {D : Array (Fin (m + 1))} (hm : xs.length ≤ m + 1) (hP : PermIn 0 (finL m (listM P xs.length)).size (finL m (listM P xs.length)) D) (hS : SortedIn (lessF xs) 0 (finL m (listM P xs.length)).size D) : unF D.toList = kidsM xs P xs.length := by
  obtain ⟨hsz, -, hperm⟩ := hP
  rw [show D.extract 0 (finL m (listM P xs.length)).size = D by rw [← hsz]; exact Array.extract_size, Array.extract_size] at hperm
  have hp2 : (unF D.toList).Perm (listM P xs.length) := by
    have := hperm.map fun x => ((x.val : Nat) : Int)
    rwa [show (finL m (listM P xs.length)).toList.map (fun x => ((x.val : Nat) : Int)) = listM P xs.length from unF_finL fun y hy => by
      obtain ⟨i, h1, -, h3⟩ := listM_mem.1 hy
      exact ⟨i, by omega, h3⟩] at this
  refine List.Perm.eq_of_pairwise (le := fun x y => (!lessM xs y x) = true) ?_ ?_ (kidsM_sorted _ (Nat.le_refl _)) (hp2.trans (kidsM_perm _).symm)
  · intro a b _ _ h1 h2
    simp only [Bool.not_eq_true'] at h1 h2
    exact lessM_total h2 h1
  · rw [unF, List.pairwise_map, List.pairwise_iff_getElem]
    intro i j hi hj hij
    have hi' : i < D.size := by simpa using hi
    have hj' : j < D.size := by simpa using hj
    have := hS i j (Nat.zero_le _) hij (by omega)
    rw [getElem!_pos D j hj', getElem!_pos D i hi'] at this
    simpa [lessF] using this
theorem pdq_kids {m : Nat} {xs : List Person} {P : Nat → Bool} (hm : xs.length ≤ m + 1) (lim : Nat) : unF (pdq (lessF xs) (finL m (listM P xs.length)) 0 (finL m (listM P xs.length)).size lim true true).toList = kidsM xs P xs.length ∧ (pdq (lessF xs) (finL m (listM P xs.length)) 0 (finL m (listM P xs.length)).size lim true true).size = (listM P xs.length).length := by
  obtain ⟨h1, h2⟩ := Sort.pdq_sorts (lessF xs) (lessF_swo xs m) (finL m (listM P xs.length)) 0 (finL m (listM P xs.length)).size lim true true (Nat.zero_le _) (Nat.le_refl _) (Or.inl rfl)
  exact ⟨sorted_kids hm h1 h2, by rw [h1.1, size_finL]⟩
/-- One person or none: there is nothing to sort. -/
theorem small_kids {xs : List Person} {P : Nat → Bool} (h : (listM P xs.length).length ≤ 1) : listM P xs.length = kidsM xs P xs.length := by
  have hp := kidsM_perm (xs := xs) (P := P) xs.length
  have hl := hp.length_eq
  match h1 : listM P xs.length, h2 : kidsM xs P xs.length with
  | [], [] => rfl
  | [], _ :: _ => rw [h1, h2] at hl; simp at hl
  | _ :: _, [] => rw [h1, h2] at hl; simp at hl
  | [a], b :: r =>
    rw [h1, h2] at hp
    rw [List.perm_singleton.1 hp]
  | a :: b :: r, _ => rw [h1] at h; simp at h
end Go.Proofs.Ythpcippgifmabaa
