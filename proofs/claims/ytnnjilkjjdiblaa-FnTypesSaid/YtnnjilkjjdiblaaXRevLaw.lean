/-
  The reverse of a kin type denotes the converse relation: the plain law. No program in sight.
-/
import Derived.Test.YtnnjilkjjdiblaaXGLead
import Derived.Test.YtnnjilkjjdiblaaXGRev
namespace Go.Proofs.Ytnnjilkjjdiblaa
set_option maxRecDepth 100000
open Go.RowKit

def sameP : Nat → Nat → Bool := fun a b => decide (a = b)
def sexAt (xs : List Person) (a : Nat) : Int := match xs[a]? with
  | some x => x.sex
  | none => 0
theorem sexAt_of {xs : List Person} {a : Nat} {x : Person} (h : xs[a]? = some x) : sexAt xs a = x.sex := by rw [sexAt, h]

theorem walk_start {n : Nat} {L : Step → Nat → Nat → Bool} : ∀ {l : List Step} {p : Nat → Nat → Bool} {a c : Nat}, c < n → (walkP n L p l a c = true ↔ ∃ b, b < n ∧ p a b = true ∧ walkP n L sameP l b c = true) := by
  intro l
  induction l with
  | nil =>
    intro p a c hc
    simp only [walkP, sameP, decide_eq_true_eq]
    constructor
    · exact fun h => ⟨c, hc, h, rfl⟩
    · rintro ⟨b, _, h, rfl⟩; exact h
  | cons s r ih =>
    intro p a c hc
    simp only [walkP]
    rw [ih hc]
    constructor
    · rintro ⟨m, hm, h1, h2⟩
      obtain ⟨b, hb, h3, h4⟩ := stepP_iff.1 h1
      exact ⟨b, hb, h3, (ih hc).2 ⟨m, hm, stepP_iff.2 ⟨b, hb, by simp [sameP], h4⟩, h2⟩⟩
    · rintro ⟨b, hb, h1, h2⟩
      obtain ⟨m, hm, h3, h4⟩ := (ih hc).1 h2
      obtain ⟨b', hb', h5, h6⟩ := stepP_iff.1 h3
      obtain rfl : b = b' := by simpa [sameP] using h5
      exact ⟨m, hm, stepP_iff.2 ⟨b, hb, h1, h6⟩, h4⟩
theorem walk_snoc {n : Nat} {L : Step → Nat → Nat → Bool} {l : List Step} {s : Step} {a c : Nat} : walkP n L sameP (l ++ [s]) a c = true ↔ ∃ b, b < n ∧ walkP n L sameP l a b = true ∧ L s b c = true := by
  rw [walkP_snoc, stepP_iff]
theorem lead_in {xs : List Person} {ys : List Union} {s : Step} {a b : Nat} (h : leadM xs ys s a b = true) : ∃ x y, xs[a]? = some x ∧ xs[b]? = some y ∧ y.sex = sexTo s.kind ∧ leadOf xs ys s a b x y = true := by
  unfold leadM at h
  cases hx : xs[a]? with
  | none => rw [hx] at h; cases h
  | some x =>
    cases hy : xs[b]? with
    | none => rw [hx, hy] at h; cases h
    | some y =>
      rw [hx, hy] at h
      refine ⟨x, y, rfl, rfl, ?_, h⟩
      simp only [leadOf, Bool.and_eq_true, decide_eq_true_eq] at h
      exact h.1
theorem lead_sexAt {xs : List Person} {ys : List Union} {s : Step} {a b : Nat} (h : leadM xs ys s a b = true) : sexAt xs b = sexTo s.kind := by
  obtain ⟨x, y, _, h2, h3, _⟩ := lead_in h
  rw [sexAt_of h2, h3]
theorem stepOk_parts {s : Step} {sex : Int} (h : stepOk s sex = true) : 1 ≤ s.kind ∧ s.kind ≤ 8 ∧ 0 ≤ s.age ∧ s.age ≤ 2 ∧ (s.age = 0 ∨ s.kind = 3 ∨ s.kind = 4) ∧ ¬ (s.kind = 7 ∧ sex = 1) ∧ ¬ (s.kind = 8 ∧ sex = 2) := by
  rw [stepOk, decide_eq_true_eq] at h; exact h
theorem back_to {s : Step} {sa : Int} (hs : stepOk s sa = true) (hsa : sa = 1 ∨ sa = 2) : sexTo (backM s sa).kind = sa := by
  obtain ⟨p1, p2, p3, p4, p5, p6, p7⟩ := stepOk_parts hs
  obtain ⟨kd, ag⟩ := s
  simp only at *
  rcases (by omega : kd = 1 ∨ kd = 2 ∨ kd = 3 ∨ kd = 4 ∨ kd = 5 ∨ kd = 6 ∨ kd = 7 ∨ kd = 8) with rfl | rfl | rfl | rfl | rfl | rfl | rfl | rfl <;> rcases hsa with rfl | rfl <;> first | rfl | (exfalso; omega)
theorem back_ok {s : Step} {sa : Int} (hs : stepOk s sa = true) (hsa : sa = 1 ∨ sa = 2) : stepOk (backM s sa) (sexTo s.kind) = true := by
  obtain ⟨p1, p2, p3, p4, p5, p6, p7⟩ := stepOk_parts hs
  obtain ⟨kd, ag⟩ := s
  simp only at *
  rcases (by omega : ag = 0 ∨ ag = 1 ∨ ag = 2) with rfl | rfl | rfl <;> rcases (by omega : kd = 1 ∨ kd = 2 ∨ kd = 3 ∨ kd = 4 ∨ kd = 5 ∨ kd = 6 ∨ kd = 7 ∨ kd = 8) with rfl | rfl | rfl | rfl | rfl | rfl | rfl | rfl <;> rcases hsa with rfl | rfl <;> first | rfl | (exfalso; omega)
/-- Each step of a valid type can be made from the sex before it. -/
theorem stepsOk_before {xs : List Step} : ∀ {sex : Int} {k : Nat} {s : Step}, stepsOk sex xs = true → xs[k]? = some s → stepOk s (if k = 0 then sex else sexTo (xs.getD (k - 1) ⟨0, 0⟩).kind) = true := by
  induction xs with
  | nil => intro sex k s _ h; simp at h
  | cons x r ih =>
    intro sex k s h hk
    simp only [stepsOk, Bool.and_eq_true] at h
    cases k with
    | zero => simp at hk; subst hk; exact h.1
    | succ k =>
      simp at hk
      have h2 := ih h.2 hk
      rw [if_neg (by omega)]
      cases k with
      | zero => simpa using h2
      | succ k =>
        rw [if_neg (by omega)] at h2
        simpa using h2
theorem before_ok {t : KinType} (ht : typeOk t = true) (he : egoM t ≠ 0) {k : Nat} {s : Step} (hk : t.steps[k]? = some s) : stepOk s (sexBM t k) = true := by
  simp only [typeOk, Bool.and_eq_true] at ht
  have h := stepsOk_before ht.2 hk
  unfold sexBM
  by_cases h0 : k = 0
  · subst h0
    rw [if_pos rfl] at h ⊢
    by_cases hg : t.ego = 0
    · obtain ⟨p1, p2, p3, p4, p5, p6, p7⟩ := stepOk_parts h
      cases hs : t.steps with
      | nil => rw [hs] at hk; simp at hk
      | cons x r =>
        rw [hs] at hk
        simp at hk; subst hk
        unfold egoM at he ⊢
        rw [if_pos hg, hs] at he ⊢
        simp only at he ⊢
        rw [stepOk, decide_eq_true_eq]
        by_cases c7 : x.kind = 7
        · rw [if_pos c7]; omega
        · rw [if_neg c7] at he ⊢
          by_cases c8 : x.kind = 8
          · rw [if_pos c8]; omega
          · rw [if_neg c8] at he; exact absurd rfl he
    · rw [show egoM t = t.ego by rw [egoM, if_neg hg]]; exact h
  · rw [if_neg h0] at h ⊢; exact h
theorem getSome {α : Type} {l : List α} {k : Nat} (h : k < l.length) : ∃ x, l[k]? = some x := ⟨_, List.getElem?_eq_getElem h⟩
theorem walk_last {xs : List Person} {ys : List Union} {t : KinType} {k a c : Nat} (hk : 0 < k) (hkl : k ≤ t.steps.length) (h : walkP xs.length (leadM xs ys) sameP (t.steps.take k) a c = true) : sexAt xs c = sexBM t k := by
  obtain ⟨j, rfl⟩ : ∃ j, k = j + 1 := ⟨k - 1, by omega⟩
  obtain ⟨s, hs⟩ := getSome (l := t.steps) (k := j) (by omega)
  rw [List.take_add_one, hs] at h
  obtain ⟨b, _, _, h3⟩ := walk_snoc.1 h
  rw [sexBM_succ hs]; exact lead_sexAt h3
theorem ways_iff {xs : List Person} {ys : List Union} {t : KinType} {a c : Nat} {x : Person} (hx : xs[a]? = some x) (hc : c < xs.length) : waysP xs ys t t.steps.length a c = true ↔ egoIs x t.ego = true ∧ walkP xs.length (leadM xs ys) sameP t.steps a c = true := by
  unfold waysP
  rw [List.take_length, walk_start hc]
  have ha := (List.getElem?_eq_some_iff.1 hx).1
  constructor
  · rintro ⟨b, hb, h1, h2⟩
    rw [diagP_of hx] at h1
    simp only [Bool.and_eq_true, decide_eq_true_eq] at h1
    obtain ⟨rfl, h1⟩ := h1
    exact ⟨h1, h2⟩
  · rintro ⟨h1, h2⟩
    exact ⟨a, ha, by rw [diagP_of hx, h1]; simp, h2⟩
theorem egoM_bare {t : KinType} (h : t.ego ≠ 0) : egoM t = t.ego := by rw [egoM, if_neg h]
theorem revSteps_ok {t : KinType} (ht : typeOk t = true) (he : egoM t ≠ 0) : ∀ k, k ≤ t.steps.length → stepsOk (sexBM t k) (revL t.ego t.steps k) = true := by
  intro k
  induction k with
  | zero => intro _; rfl
  | succ k ih =>
    intro hk
    obtain ⟨s, hs⟩ := getSome (l := t.steps) (k := k) (by omega)
    rw [revL_succ, bk_at hs, sexBM_succ hs]
    show stepsOk (sexTo s.kind) (backM s (sexBM t k) :: revL t.ego t.steps k) = true
    rw [stepsOk_cons, back_ok (before_ok ht he hs) (sexBM_in ht he k), back_to (before_ok ht he hs) (sexBM_in ht he k), ih (by omega)]; rfl
theorem rev_ok {t : KinType} (ht : typeOk t = true) (he : t.steps.length = 0 ∨ egoM t ≠ 0) : typeOk (revT t).1 = true := by
  rw [revT_good ht he]
  have h1 := typeOk_len ht
  have h2 := typeOk_ego ht
  rcases Nat.eq_zero_or_pos t.steps.length with h0 | h0
  · rw [typeOk, sexM, if_pos h0, h0]
    simp [revL, stepsOk, h2]
  · have he' : egoM t ≠ 0 := by rcases he with he | he; omega; exact he
    have hsm : sexM t = sexBM t t.steps.length := by rw [sexM, if_neg (by omega), sexBM, if_neg (by omega)]
    have hin := sexBM_in ht he' t.steps.length
    have h3 := revSteps_ok ht he' t.steps.length (Nat.le_refl _)
    simp only [typeOk, Bool.and_eq_true, decide_eq_true_eq, revL_len]
    rw [hsm]
    exact ⟨⟨by omega, by omega, h1⟩, h3⟩
end Go.Proofs.Ytnnjilkjjdiblaa
