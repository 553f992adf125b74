/-
  Kin types of a few steps: models.
-/
import Derived.Test.YtnnjilkjjdiblaaTyp2
import Derived.Test.YtnnjilkjjdiblaaTypEl
namespace Go.Proofs.Ytnnjilkjjdiblaa
set_option maxRecDepth 100000
open Go.RowKit

def addS (t : KinType) (s : Step) : KinType := ⟨t.ego, t.steps ++ [s]⟩
def kindS (i : Nat) : Step := ⟨(i : Int) + 1, 0⟩
/-- The type with each of the first k kinds of steps appended that can be made. -/
def moreTo (t : KinType) : Nat → List KinType
  | 0 => []
  | k + 1 => if stepOk (kindS k) (sexM t) = true then moreTo t k ++ [addS t (kindS k)] else moreTo t k
def moreM (t : KinType) : List KinType := moreTo t 8
theorem moreTo_succ (t : KinType) (k : Nat) : moreTo t (k + 1) = if stepOk (kindS k) (sexM t) = true then moreTo t k ++ [addS t (kindS k)] else moreTo t k := rfl
theorem moreTo_yes {t : KinType} {k : Nat} (h : stepOk (kindS k) (sexM t) = true) : moreTo t (k + 1) = moreTo t k ++ [addS t (kindS k)] := if_pos h
theorem moreTo_no {t : KinType} {k : Nat} (h : stepOk (kindS k) (sexM t) = false) : moreTo t (k + 1) = moreTo t k := if_neg (by rw [h]; simp)
theorem moreTo_len (t : KinType) : ∀ k, (moreTo t k).length ≤ k := by
  intro k
  induction k with
  | zero => exact Nat.le_refl _
  | succ k ih =>
    rw [moreTo_succ]; split
    · simp; exact ih
    · omega
theorem moreTo_mem {t u : KinType} : ∀ {k : Nat}, u ∈ moreTo t k → ∃ i, i < k ∧ stepOk (kindS i) (sexM t) = true ∧ u = addS t (kindS i) := by
  intro k
  induction k with
  | zero => intro h; cases h
  | succ k ih =>
    intro h
    rw [moreTo_succ] at h
    split at h
    · rename_i hk
      rcases List.mem_append.1 h with h | h
      · obtain ⟨i, h1, h2⟩ := ih h; exact ⟨i, by omega, h2⟩
      · simp at h; exact ⟨k, by omega, hk, h⟩
    · obtain ⟨i, h1, h2⟩ := ih h; exact ⟨i, by omega, h2⟩
theorem stepsOk_snoc {xs : List Step} {s : Step} : ∀ {sex : Int}, stepsOk sex (xs ++ [s]) = (stepsOk sex xs && stepOk s (sexM ⟨sex, xs⟩)) := by
  induction xs with
  | nil => intro sex; simp [stepsOk, sexM]
  | cons x r ih =>
    intro sex
    rw [List.cons_append, stepsOk_cons, ih, stepsOk_cons, Bool.and_assoc]
    congr 2
    cases r with
    | nil => simp [sexM]
    | cons y r => simp [sexM]
theorem addS_ok {t : KinType} (h : typeOk t = true) (hl : t.steps.length < 8) (s : Step) : typeOk (addS t s) = stepOk s (sexM t) := by
  have h2 := typeOk_ego h
  simp only [typeOk, Bool.and_eq_true] at h
  have h3 := h.2
  obtain ⟨eg, st⟩ := t
  show (decide (0 ≤ eg ∧ eg ≤ 2 ∧ (st ++ [s]).length ≤ 8) && stepsOk eg (st ++ [s])) = stepOk s (sexM ⟨eg, st⟩)
  simp only at h2 h3 hl
  rw [stepsOk_snoc, h3, decide_eq_true (by simp; omega)]
  rfl
/-- A step to the father can always be made. -/
theorem kind_father (sex : Int) : stepOk (kindS 0) sex = true := by simp [stepOk, kindS]
theorem moreM_ne (t : KinType) : 0 < (moreM t).length := by
  have h : ∀ k, 0 < (moreTo t (k + 1)).length := by
    intro k
    induction k with
    | zero => rw [moreTo_yes (kind_father _)]; simp
    | succ k ih =>
      rw [moreTo_succ]; split
      · simp
      · exact ih
  exact h 7
/-- The types of k steps. -/
def lastM (ego : Int) : Nat → List KinType
  | 0 => [⟨ego, []⟩]
  | k + 1 => (lastM ego k).flatMap moreM
def outM (ego : Int) : Nat → List KinType
  | 0 => []
  | k + 1 => outM ego k ++ lastM ego (k + 1)
def fromM (ego n : Int) : List KinType := if (ego = 1 ∨ ego = 2) ∧ 1 ≤ n ∧ n ≤ 3 then outM ego n.toNat else []
theorem fromM_out {ego n : Int} (h : ¬ ((ego = 1 ∨ ego = 2) ∧ 1 ≤ n ∧ n ≤ 3)) : fromM ego n = [] := if_neg h
theorem fromM_in {ego : Int} {n : Nat} (h : ego = 1 ∨ ego = 2) (h1 : 1 ≤ n) (h3 : n ≤ 3) : fromM ego n = outM ego n := by rw [fromM, if_pos ⟨h, by omega, by omega⟩]; rfl
theorem lastM_mem {ego : Int} (he : ego = 1 ∨ ego = 2) : ∀ {k : Nat} {t : KinType}, k ≤ 8 → t ∈ lastM ego k → typeOk t = true ∧ t.steps.length = k ∧ t.ego = ego := by
  intro k
  induction k with
  | zero =>
    intro t _ h
    simp [lastM] at h
    subst h
    refine ⟨?_, rfl, rfl⟩
    simp [typeOk, stepsOk]; omega
  | succ k ih =>
    intro t hk h
    simp only [lastM, List.mem_flatMap] at h
    obtain ⟨u, hu, ht⟩ := h
    obtain ⟨h1, h2, h3⟩ := ih (by omega) hu
    obtain ⟨i, _, hi, rfl⟩ := moreTo_mem ht
    exact ⟨by rw [addS_ok h1 (by omega)]; exact hi, by simp [addS, h2], h3⟩
theorem outM_mem {ego : Int} (he : ego = 1 ∨ ego = 2) : ∀ {k : Nat} {t : KinType}, k ≤ 8 → t ∈ outM ego k → typeOk t = true ∧ 1 ≤ t.steps.length ∧ t.steps.length ≤ k ∧ t.ego = ego := by
  intro k
  induction k with
  | zero => intro t _ h; cases h
  | succ k ih =>
    intro t hk h
    rcases List.mem_append.1 h with h | h
    · obtain ⟨h1, h2, h3, h4⟩ := ih (by omega) h; exact ⟨h1, h2, by omega, h4⟩
    · obtain ⟨h1, h2, h3⟩ := lastM_mem he hk h; exact ⟨h1, by omega, by omega, h3⟩
theorem flatMore_len (ts : List KinType) : (ts.flatMap moreM).length ≤ 8 * ts.length := by
  induction ts with
  | nil => simp
  | cons t r ih =>
    rw [List.flatMap_cons, List.length_append, List.length_cons]
    have := moreTo_len t 8
    unfold moreM at ih ⊢; omega
theorem flatMore_succ {ts : List KinType} {j : Nat} {t : KinType} (h : ts[j]? = some t) : (ts.take (j + 1)).flatMap moreM = (ts.take j).flatMap moreM ++ moreM t := by
  rw [List.take_add_one, h, List.flatMap_append]; simp
theorem lastM_len (ego : Int) : (lastM ego 0).length = 1 ∧ (lastM ego 1).length ≤ 8 ∧ (lastM ego 2).length ≤ 64 ∧ (lastM ego 3).length ≤ 512 := by
  have h1 := flatMore_len (lastM ego 0)
  have h2 := flatMore_len (lastM ego 1)
  have h3 := flatMore_len (lastM ego 2)
  have h0 : (lastM ego 0).length = 1 := rfl
  refine ⟨h0, ?_, ?_, ?_⟩
  · show ((lastM ego 0).flatMap moreM).length ≤ 8; omega
  · show ((lastM ego 1).flatMap moreM).length ≤ 64
    have : (lastM ego 1).length = ((lastM ego 0).flatMap moreM).length := rfl
    omega
  · show ((lastM ego 2).flatMap moreM).length ≤ 512
    have e1 : (lastM ego 1).length = ((lastM ego 0).flatMap moreM).length := rfl
    have e2 : (lastM ego 2).length = ((lastM ego 1).flatMap moreM).length := rfl
    omega
theorem lastM_le {ego : Int} {k : Nat} (h : k ≤ 3) : (lastM ego k).length ≤ 512 := by
  have := lastM_len ego
  rcases (by omega : k = 0 ∨ k = 1 ∨ k = 2 ∨ k = 3) with rfl | rfl | rfl | rfl <;> omega
theorem outM_le {ego : Int} : ∀ {k : Nat}, k ≤ 3 → (outM ego k).length ≤ 512 * k := by
  intro k
  induction k with
  | zero => intro _; exact Nat.le_refl _
  | succ k ih =>
    intro hk
    have h1 := ih (by omega)
    have h2 := lastM_le (ego := ego) hk
    simp only [outM, List.length_append]; omega
theorem mkT_le {c : Nat} {xs : List KinType} (h : ∀ x ∈ xs, x.steps.length ≤ c) : mkT xs ≤ xs.length * (1 + 2 * c) := by
  induction xs with
  | nil => simp [mkT]
  | cons x r ih =>
    have h1 := ih fun y hy => h y (by simp [hy])
    have h2 := h x (by simp)
    simp only [mkT, wT, List.length_cons]
    rw [Nat.add_mul r.length 1, Nat.one_mul]; omega
theorem fromM_bounds (ego n : Int) : (fromM ego n).length ≤ 1536 ∧ mkT (fromM ego n) ≤ 10752 := by
  unfold fromM; split
  · rename_i h
    obtain ⟨he, h1, h3⟩ := h
    have h4 := outM_le (ego := ego) (k := n.toNat) (by omega)
    have h5 := mkT_le (c := 3) (xs := outM ego n.toNat) fun x hx => by have := (outM_mem he (by omega) hx).2.2.1; omega
    omega
  · simp [mkT]
end Go.Proofs.Ytnnjilkjjdiblaa
