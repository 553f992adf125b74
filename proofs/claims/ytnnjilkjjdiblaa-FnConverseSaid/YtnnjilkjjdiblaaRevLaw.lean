/-
  The reverse of a kin type denotes the converse relation: the plain law. No program in sight.
-/
import Derived.Test.YtnnjilkjjdiblaaGLead
import Derived.Test.YtnnjilkjjdiblaaGRev
namespace Go.Proofs.Ytnnjilkjjdiblaa
set_option maxRecDepth 100000
open Go.RowKit

def sameP : Nat → Nat → Bool := fun a b => decide (a = b)
def sexAt (xs : List Person) (a : Nat) : Int := match xs[a]? with
  | some x => x.sex
  | none => 0
theorem sexAt_of {xs : List Person} {a : Nat} {x : Person} (h : xs[a]? = some x) : sexAt xs a = x.sex := by rw [sexAt, h]

theorem walk_start {n : Nat} {L : Step → Nat → Nat → Bool} : ∀ {l : List Step} {p : Nat → Nat → Bool} {a c : Nat}, c < n → (walkP n L p l a c = true ↔ ∃ b, b < n ∧ p a b = true ∧ walkP n L sameP l b c = true) := by
  intro l
  induction l with
  | nil =>
    intro p a c hc
    simp only [walkP, sameP, decide_eq_true_eq]
    constructor
    · exact fun h => ⟨c, hc, h, rfl⟩
    · rintro ⟨b, _, h, rfl⟩; exact h
  | cons s r ih =>
    intro p a c hc
    simp only [walkP]
    rw [ih hc]
    constructor
    · rintro ⟨m, hm, h1, h2⟩
      obtain ⟨b, hb, h3, h4⟩ := stepP_iff.1 h1
      exact ⟨b, hb, h3, (ih hc).2 ⟨m, hm, stepP_iff.2 ⟨b, hb, by simp [sameP], h4⟩, h2⟩⟩
    · rintro ⟨b, hb, h1, h2⟩
      obtain ⟨m, hm, h3, h4⟩ := (ih hc).1 h2
      obtain ⟨b', hb', h5, h6⟩ := stepP_iff.1 h3
      obtain rfl : b = b' := by simpa [sameP] using h5
      exact ⟨m, hm, stepP_iff.2 ⟨b, hb, h1, h6⟩, h4⟩
theorem walk_snoc {n : Nat} {L : Step → Nat → Nat → Bool} {l : List Step} {s : Step} {a c : Nat} : walkP n L sameP (l ++ [s]) a c = true ↔ ∃ b, b < n ∧ walkP n L sameP l a b = true ∧ L s b c = true := by
  rw [walkP_snoc, stepP_iff]
theorem walk_cons {n : Nat} {L : Step → Nat → Nat → Bool} {l : List Step} {s : Step} {a c : Nat} (ha : a < n) (hc : c < n) : walkP n L sameP (s :: l) a c = true ↔ ∃ b, b < n ∧ L s a b = true ∧ walkP n L sameP l b c = true := by
  simp only [walkP]
  rw [walk_start hc]
  constructor
  · rintro ⟨m, hm, h1, h2⟩
    obtain ⟨b, hb, h3, h4⟩ := stepP_iff.1 h1
    obtain rfl : a = b := by simpa [sameP] using h3
    exact ⟨m, hm, h4, h2⟩
  · rintro ⟨m, hm, h1, h2⟩
    exact ⟨m, hm, stepP_iff.2 ⟨a, ha, by simp [sameP], h1⟩, h2⟩
theorem lead_in {xs : List Person} {ys : List Union} {s : Step} {a b : Nat} (h : leadM xs ys s a b = true) : ∃ x y, xs[a]? = some x ∧ xs[b]? = some y ∧ y.sex = sexTo s.kind ∧ leadOf xs ys s a b x y = true := by
  unfold leadM at h
  cases hx : xs[a]? with
  | none => rw [hx] at h; cases h
  | some x =>
    cases hy : xs[b]? with
    | none => rw [hx, hy] at h; cases h
    | some y =>
      rw [hx, hy] at h
      refine ⟨x, y, rfl, rfl, ?_, h⟩
      simp only [leadOf, Bool.and_eq_true, decide_eq_true_eq] at h
      exact h.1
theorem lead_sexAt {xs : List Person} {ys : List Union} {s : Step} {a b : Nat} (h : leadM xs ys s a b = true) : sexAt xs b = sexTo s.kind := by
  obtain ⟨x, y, _, h2, h3, _⟩ := lead_in h
  rw [sexAt_of h2, h3]
theorem hasP_swap (ys : List Union) (a b : Nat) : hasP (wedL 7 ys) a b = hasP (wedL 8 ys) b a := by
  rw [Bool.eq_iff_iff]
  simp only [hasP, wedL, decide_eq_true_eq]
  simp [and_comm]
theorem fullOf_swap (x y : Person) (a b : Nat) : fullOf x y a b = fullOf y x b a := by
  unfold fullOf
  rw [decide_eq_decide]
  constructor
  · rintro ⟨h1, h2, h3, h4, h5⟩; exact ⟨Ne.symm h1, by omega, by omega, h4.symm, h5.symm⟩
  · rintro ⟨h1, h2, h3, h4, h5⟩; exact ⟨Ne.symm h1, by omega, by omega, h4.symm, h5.symm⟩
theorem stepOk_parts {s : Step} {sex : Int} (h : stepOk s sex = true) : 1 ≤ s.kind ∧ s.kind ≤ 8 ∧ 0 ≤ s.age ∧ s.age ≤ 2 ∧ (s.age = 0 ∨ s.kind = 3 ∨ s.kind = 4) ∧ ¬ (s.kind = 7 ∧ sex = 1) ∧ ¬ (s.kind = 8 ∧ sex = 2) := by
  rw [stepOk, decide_eq_true_eq] at h; exact h
theorem lead_back {xs : List Person} {ys : List Union} (h : famOk xs ys = true) {s : Step} {sa : Int} (hs : stepOk s sa = true) (hsa : sa = 1 ∨ sa = 2) {a b : Nat} {x y : Person} (hx : xs[a]? = some x) (hy : xs[b]? = some y) (h1 : x.sex = sa) (h2 : y.sex = sexTo s.kind) :
    leadM xs ys (backM s sa) b a = leadM xs ys s a b := by
  rw [leadM_of hx hy, leadM_of hy hx]
  have f1 := fam_father h hx hy
  have f2 := fam_mother h hx hy
  have f3 := fam_father h hy hx
  have f4 := fam_mother h hy hx
  have w1 := wed_man h hx hy
  have w2 := wed_woman h hx hy
  have w3 := wed_man h hy hx
  have w4 := wed_woman h hy hx
  have sw1 := hasP_swap ys a b
  have sw2 := hasP_swap ys b a
  have fu : fullAt xs b a = fullAt xs a b := by rw [fullAt_of hx hy, fullAt_of hy hx, fullOf_swap]
  obtain ⟨p1, p2, p3, p4, p5, p6, p7⟩ := stepOk_parts hs
  obtain ⟨kd, ag⟩ := s
  simp only at *
  rcases (by omega : kd = 1 ∨ kd = 2 ∨ kd = 3 ∨ kd = 4 ∨ kd = 5 ∨ kd = 6 ∨ kd = 7 ∨ kd = 8) with rfl | rfl | rfl | rfl | rfl | rfl | rfl | rfl
  · obtain rfl : ag = 0 := by omega
    have h2' : y.sex = 1 := h2
    have nf2 : ¬ x.mother = (b : Int) := fun e => by have := f2 e; omega
    rcases hsa with rfl | rfl <;> simp [leadOf, backM, sexTo, kidOf, h1, h2', nf2]
  · obtain rfl : ag = 0 := by omega
    have h2' : y.sex = 2 := h2
    have nf1 : ¬ x.father = (b : Int) := fun e => by have := f1 e; omega
    rcases hsa with rfl | rfl <;> simp [leadOf, backM, sexTo, kidOf, h1, h2', nf1]
  · have h2' : y.sex = 1 := h2
    rcases (by omega : ag = 0 ∨ ag = 1 ∨ ag = 2) with rfl | rfl | rfl <;> rcases hsa with rfl | rfl <;> simp [leadOf, backM, sexTo, bornOk, h1, h2', fu]
  · have h2' : y.sex = 2 := h2
    rcases (by omega : ag = 0 ∨ ag = 1 ∨ ag = 2) with rfl | rfl | rfl <;> rcases hsa with rfl | rfl <;> simp [leadOf, backM, sexTo, bornOk, h1, h2', fu]
  · obtain rfl : ag = 0 := by omega
    have h2' : y.sex = 1 := h2
    rcases hsa with rfl | rfl
    · have n4 : ¬ y.mother = (a : Int) := fun e => by have := f4 e; omega
      simp [leadOf, backM, sexTo, kidOf, h1, h2', n4]
    · have n3 : ¬ y.father = (a : Int) := fun e => by have := f3 e; omega
      simp [leadOf, backM, sexTo, kidOf, h1, h2', n3]
  · obtain rfl : ag = 0 := by omega
    have h2' : y.sex = 2 := h2
    rcases hsa with rfl | rfl
    · have n4 : ¬ y.mother = (a : Int) := fun e => by have := f4 e; omega
      simp [leadOf, backM, sexTo, kidOf, h1, h2', n4]
    · have n3 : ¬ y.father = (a : Int) := fun e => by have := f3 e; omega
      simp [leadOf, backM, sexTo, kidOf, h1, h2', n3]
  · obtain rfl : ag = 0 := by omega
    obtain rfl : sa = 2 := by omega
    have h2' : y.sex = 1 := h2
    rw [h2'] at w1; rw [h1] at w4
    simp only [decide_true, Bool.true_and] at w1 w4
    simp [leadOf, backM, sexTo, h1, h2', w1, w4, sw1]
  · obtain rfl : ag = 0 := by omega
    obtain rfl : sa = 1 := by omega
    have h2' : y.sex = 2 := h2
    rw [h2'] at w2; rw [h1] at w3
    simp only [decide_true, Bool.true_and] at w2 w3
    simp [leadOf, backM, sexTo, h1, h2', w2, w3, sw2]
theorem back_to {s : Step} {sa : Int} (hs : stepOk s sa = true) (hsa : sa = 1 ∨ sa = 2) : sexTo (backM s sa).kind = sa := by
  obtain ⟨p1, p2, p3, p4, p5, p6, p7⟩ := stepOk_parts hs
  obtain ⟨kd, ag⟩ := s
  simp only at *
  rcases (by omega : kd = 1 ∨ kd = 2 ∨ kd = 3 ∨ kd = 4 ∨ kd = 5 ∨ kd = 6 ∨ kd = 7 ∨ kd = 8) with rfl | rfl | rfl | rfl | rfl | rfl | rfl | rfl <;> rcases hsa with rfl | rfl <;> first | rfl | (exfalso; omega)
theorem back_ok {s : Step} {sa : Int} (hs : stepOk s sa = true) (hsa : sa = 1 ∨ sa = 2) : stepOk (backM s sa) (sexTo s.kind) = true := by
  obtain ⟨p1, p2, p3, p4, p5, p6, p7⟩ := stepOk_parts hs
  obtain ⟨kd, ag⟩ := s
  simp only at *
  rcases (by omega : ag = 0 ∨ ag = 1 ∨ ag = 2) with rfl | rfl | rfl <;> rcases (by omega : kd = 1 ∨ kd = 2 ∨ kd = 3 ∨ kd = 4 ∨ kd = 5 ∨ kd = 6 ∨ kd = 7 ∨ kd = 8) with rfl | rfl | rfl | rfl | rfl | rfl | rfl | rfl <;> rcases hsa with rfl | rfl <;> first | rfl | (exfalso; omega)
/-- Each step of a valid type can be made from the sex before it. -/
theorem stepsOk_before {xs : List Step} : ∀ {sex : Int} {k : Nat} {s : Step}, stepsOk sex xs = true → xs[k]? = some s → stepOk s (if k = 0 then sex else sexTo (xs.getD (k - 1) ⟨0, 0⟩).kind) = true := by
  induction xs with
  | nil => intro sex k s _ h; simp at h
  | cons x r ih =>
    intro sex k s h hk
    simp only [stepsOk, Bool.and_eq_true] at h
    cases k with
    | zero => simp at hk; subst hk; exact h.1
    | succ k =>
      simp at hk
      have h2 := ih h.2 hk
      rw [if_neg (by omega)]
      cases k with
      | zero => simpa using h2
      | succ k =>
        rw [if_neg (by omega)] at h2
        simpa using h2
theorem before_ok {t : KinType} (ht : typeOk t = true) (he : egoM t ≠ 0) {k : Nat} {s : Step} (hk : t.steps[k]? = some s) : stepOk s (sexBM t k) = true := by
  simp only [typeOk, Bool.and_eq_true] at ht
  have h := stepsOk_before ht.2 hk
  unfold sexBM
  by_cases h0 : k = 0
  · subst h0
    rw [if_pos rfl] at h ⊢
    by_cases hg : t.ego = 0
    · obtain ⟨p1, p2, p3, p4, p5, p6, p7⟩ := stepOk_parts h
      cases hs : t.steps with
      | nil => rw [hs] at hk; simp at hk
      | cons x r =>
        rw [hs] at hk
        simp at hk; subst hk
        unfold egoM at he ⊢
        rw [if_pos hg, hs] at he ⊢
        simp only at he ⊢
        rw [stepOk, decide_eq_true_eq]
        by_cases c7 : x.kind = 7
        · rw [if_pos c7]; omega
        · rw [if_neg c7] at he ⊢
          by_cases c8 : x.kind = 8
          · rw [if_pos c8]; omega
          · rw [if_neg c8] at he; exact absurd rfl he
    · rw [show egoM t = t.ego by rw [egoM, if_neg hg]]; exact h
  · rw [if_neg h0] at h ⊢; exact h
theorem getSome {α : Type} {l : List α} {k : Nat} (h : k < l.length) : ∃ x, l[k]? = some x := ⟨_, List.getElem?_eq_getElem h⟩
theorem walk_last {xs : List Person} {ys : List Union} {t : KinType} {k a c : Nat} (hk : 0 < k) (hkl : k ≤ t.steps.length) (h : walkP xs.length (leadM xs ys) sameP (t.steps.take k) a c = true) : sexAt xs c = sexBM t k := by
  obtain ⟨j, rfl⟩ : ∃ j, k = j + 1 := ⟨k - 1, by omega⟩
  obtain ⟨s, hs⟩ := getSome (l := t.steps) (k := j) (by omega)
  rw [List.take_add_one, hs] at h
  obtain ⟨b, _, _, h3⟩ := walk_snoc.1 h
  rw [sexBM_succ hs]; exact lead_sexAt h3
theorem rev_walk {xs : List Person} {ys : List Union} (h : famOk xs ys = true) {t : KinType} (ht : typeOk t = true) (he : egoM t ≠ 0) : ∀ k, k ≤ t.steps.length → ∀ a c, a < xs.length → c < xs.length → sexAt xs a = egoM t → sexAt xs c = sexBM t k →
    (walkP xs.length (leadM xs ys) sameP (t.steps.take k) a c = true ↔ walkP xs.length (leadM xs ys) sameP (revL t.ego t.steps k) c a = true) := by
  intro k
  induction k with
  | zero =>
    intro _ a c _ _ _ _
    simp [revL, walkP, sameP, eq_comm]
  | succ k ih =>
    intro hk a c ha hc hsa hsc
    obtain ⟨s, hs⟩ := getSome (l := t.steps) (k := k) (by omega)
    rw [List.take_add_one, hs, revL_succ, bk_at hs]
    show walkP _ _ _ (t.steps.take k ++ [s]) a c = true ↔ walkP _ _ _ (backM s (sexBM t k) :: revL t.ego t.steps k) c a = true
    rw [walk_snoc, walk_cons hc ha]
    have hok := before_ok ht he hs
    have hin := sexBM_in ht he k
    rw [sexBM_succ hs] at hsc
    obtain ⟨xc, hxc⟩ := getSome (l := xs) (k := c) hc
    constructor
    · rintro ⟨b, hb, h1, h2⟩
      have hsb : sexAt xs b = sexBM t k := by
        rcases Nat.eq_zero_or_pos k with rfl | hk0
        · simp [walkP, sameP] at h1
          subst h1; rw [hsa]; rfl
        · exact walk_last hk0 (by omega) h1
      obtain ⟨xb, hxb⟩ := getSome (l := xs) (k := b) hb
      refine ⟨b, hb, ?_, (ih (by omega) a b ha hb hsa hsb).1 h1⟩
      rw [lead_back h hok hin hxb hxc (by rw [← sexAt_of hxb]; exact hsb) (by rw [← sexAt_of hxc]; exact hsc)]; exact h2
    · rintro ⟨b, hb, h1, h2⟩
      have hsb : sexAt xs b = sexBM t k := by rw [lead_sexAt h1, back_to hok hin]
      obtain ⟨xb, hxb⟩ := getSome (l := xs) (k := b) hb
      refine ⟨b, hb, (ih (by omega) a b ha hb hsa hsb).2 h2, ?_⟩
      rw [lead_back h hok hin hxb hxc (by rw [← sexAt_of hxb]; exact hsb) (by rw [← sexAt_of hxc]; exact hsc)] at h1; exact h1
theorem revL_last (s : Int) (xs : List Step) (k : Nat) : revL s xs (k + 1) = ((List.range k).map fun j => bk s xs (j + 1)).reverse ++ [bk s xs 0] := by
  rw [revL, List.range_succ_eq_map, List.map_cons, List.reverse_cons, List.map_map]; rfl
theorem lead_from7 {xs : List Person} {ys : List Union} (h : famOk xs ys = true) {s : Step} {a b : Nat} (hk : s.kind = 7) (hl : leadM xs ys s a b = true) : sexAt xs a = 2 := by
  obtain ⟨x, y, hx, hy, h3, h4⟩ := lead_in hl
  have w1 := wed_man h hx hy
  obtain ⟨kd, ag⟩ := s
  simp only at hk; subst hk
  have h3' : y.sex = 1 := h3
  simp only [leadOf] at h4
  simp [h3', sexTo] at h4
  rw [h3', h4] at w1
  simp only [decide_true, Bool.true_and] at w1
  have w2 := hasP_swap ys a b
  rw [← w1] at w2
  have w3 := wed_woman h hy hx
  rw [← w2] at w3
  simp at w3
  rw [sexAt_of hx]; exact w3.1
theorem lead_from8 {xs : List Person} {ys : List Union} (h : famOk xs ys = true) {s : Step} {a b : Nat} (hk : s.kind = 8) (hl : leadM xs ys s a b = true) : sexAt xs a = 1 := by
  obtain ⟨x, y, hx, hy, h3, h4⟩ := lead_in hl
  have w1 := wed_woman h hx hy
  obtain ⟨kd, ag⟩ := s
  simp only at hk; subst hk
  have h3' : y.sex = 2 := h3
  simp only [leadOf] at h4
  simp [h3', sexTo] at h4
  rw [h3', h4] at w1
  simp only [decide_true, Bool.true_and] at w1
  have w2 := hasP_swap ys b a
  rw [← w1] at w2
  have w3 := wed_man h hy hx
  rw [w2] at w3
  simp at w3
  rw [sexAt_of hx]; exact w3.1
theorem ways_iff {xs : List Person} {ys : List Union} {t : KinType} {a c : Nat} {x : Person} (hx : xs[a]? = some x) (hc : c < xs.length) : waysP xs ys t t.steps.length a c = true ↔ egoIs x t.ego = true ∧ walkP xs.length (leadM xs ys) sameP t.steps a c = true := by
  unfold waysP
  rw [List.take_length, walk_start hc]
  have ha := (List.getElem?_eq_some_iff.1 hx).1
  constructor
  · rintro ⟨b, hb, h1, h2⟩
    rw [diagP_of hx] at h1
    simp only [Bool.and_eq_true, decide_eq_true_eq] at h1
    obtain ⟨rfl, h1⟩ := h1
    exact ⟨h1, h2⟩
  · rintro ⟨h1, h2⟩
    exact ⟨a, ha, by rw [diagP_of hx, h1]; simp, h2⟩
theorem egoM_bare {t : KinType} (h : t.ego ≠ 0) : egoM t = t.ego := by rw [egoM, if_neg h]
theorem rev_ways {xs : List Person} {ys : List Union} (h : famOk xs ys = true) {t : KinType} (ht : typeOk t = true) (he : t.steps.length = 0 ∨ egoM t ≠ 0) {a c : Nat} (ha : a < xs.length) (hc : c < xs.length) :
    waysP xs ys (revT t).1 (revT t).1.steps.length c a = waysP xs ys t t.steps.length a c := by
  rw [revT_good ht he]
  obtain ⟨x, hx⟩ := getSome (l := xs) (k := a) ha
  obtain ⟨z, hz⟩ := getSome (l := xs) (k := c) hc
  rw [Bool.eq_iff_iff, ways_iff hx hc, ways_iff hz ha]
  simp only
  rcases Nat.eq_zero_or_pos t.steps.length with h0 | h0
  · obtain ⟨eg, st⟩ := t
    simp only at *
    obtain rfl : st = [] := List.eq_nil_of_length_eq_zero h0
    simp only [sexM, revL, List.length_nil, List.range_zero, List.map_nil, List.reverse_nil, walkP, sameP, decide_eq_true_eq, if_pos]
    constructor
    · rintro ⟨h1, rfl⟩; rw [hx] at hz; injection hz with hz; subst hz; exact ⟨h1, rfl⟩
    · rintro ⟨h1, rfl⟩; rw [hx] at hz; injection hz with hz; subst hz; exact ⟨h1, rfl⟩
  · have he' : egoM t ≠ 0 := by rcases he with he | he; omega; exact he
    obtain ⟨j, hj⟩ : ∃ j, t.steps.length = j + 1 := ⟨t.steps.length - 1, by omega⟩
    have hsm : sexM t = sexBM t t.steps.length := by rw [sexM, if_neg (by omega), sexBM, if_neg (by omega)]
    have hin := sexBM_in ht he' t.steps.length
    have R := rev_walk h ht he' t.steps.length (Nat.le_refl _) a c ha hc
    rw [List.take_length] at R
    have hego0 : walkP xs.length (leadM xs ys) sameP (revL t.ego t.steps t.steps.length) c a = true → sexAt xs a = egoM t := by
      intro hw
      rw [hj, revL_last] at hw
      obtain ⟨b, _, _, h3⟩ := walk_snoc.1 hw
      obtain ⟨s, hs⟩ := getSome (l := t.steps) (k := 0) (by omega)
      rw [lead_sexAt h3, bk_at hs]
      show sexTo (backM s (sexBM t 0)).kind = egoM t
      rw [back_to (before_ok ht he' hs) (sexBM_in ht he' 0)]; rfl
    constructor
    · rintro ⟨h1, h2⟩
      have hsc : sexAt xs c = sexBM t t.steps.length := by
        rw [sexAt_of hz, ← hsm]
        simp only [egoIs, decide_eq_true_eq] at h1
        rcases h1 with h1 | h1
        · omega
        · exact h1
      have hsa := hego0 h2
      refine ⟨?_, (R hsa hsc).2 h2⟩
      simp only [egoIs, decide_eq_true_eq]
      by_cases hg : t.ego = 0
      · exact .inl hg
      · right; rw [← sexAt_of hx, hsa, egoM_bare hg]
    · rintro ⟨h1, h2⟩
      have hsc : sexAt xs c = sexBM t t.steps.length := by
        have := walk_last (t := t) (k := t.steps.length) h0 (Nat.le_refl _) (by rw [List.take_length]; exact h2)
        exact this
      have hsa : sexAt xs a = egoM t := by
        by_cases hg : t.ego = 0
        · cases hst : t.steps with
          | nil => rw [hst] at h0; simp at h0
          | cons s r =>
            rw [hst, walk_cons ha hc] at h2
            obtain ⟨b, _, h3, _⟩ := h2
            unfold egoM at he' ⊢
            rw [if_pos hg, hst] at he' ⊢
            simp only at he' ⊢
            by_cases c7 : s.kind = 7
            · rw [if_pos c7]; exact lead_from7 h c7 h3
            · rw [if_neg c7] at he' ⊢
              by_cases c8 : s.kind = 8
              · rw [if_pos c8]; exact lead_from8 h c8 h3
              · rw [if_neg c8] at he'; exact absurd rfl he'
        · simp only [egoIs, decide_eq_true_eq] at h1
          rw [egoM_bare hg, sexAt_of hx]
          rcases h1 with h1 | h1
          · exact absurd h1 hg
          · exact h1
      refine ⟨?_, (R hsa hsc).1 h2⟩
      simp only [egoIs, decide_eq_true_eq]
      right; rw [← sexAt_of hz, hsc, hsm]
theorem revSteps_ok {t : KinType} (ht : typeOk t = true) (he : egoM t ≠ 0) : ∀ k, k ≤ t.steps.length → stepsOk (sexBM t k) (revL t.ego t.steps k) = true := by
  intro k
  induction k with
  | zero => intro _; rfl
  | succ k ih =>
    intro hk
    obtain ⟨s, hs⟩ := getSome (l := t.steps) (k := k) (by omega)
    rw [revL_succ, bk_at hs, sexBM_succ hs]
    show stepsOk (sexTo s.kind) (backM s (sexBM t k) :: revL t.ego t.steps k) = true
    rw [stepsOk_cons, back_ok (before_ok ht he hs) (sexBM_in ht he k), back_to (before_ok ht he hs) (sexBM_in ht he k), ih (by omega)]; rfl
theorem rev_ok {t : KinType} (ht : typeOk t = true) (he : t.steps.length = 0 ∨ egoM t ≠ 0) : typeOk (revT t).1 = true := by
  rw [revT_good ht he]
  have h1 := typeOk_len ht
  have h2 := typeOk_ego ht
  rcases Nat.eq_zero_or_pos t.steps.length with h0 | h0
  · rw [typeOk, sexM, if_pos h0, h0]
    simp [revL, stepsOk, h2]
  · have he' : egoM t ≠ 0 := by rcases he with he | he; omega; exact he
    have hsm : sexM t = sexBM t t.steps.length := by rw [sexM, if_neg (by omega), sexBM, if_neg (by omega)]
    have hin := sexBM_in ht he' t.steps.length
    have h3 := revSteps_ok ht he' t.steps.length (Nat.le_refl _)
    simp only [typeOk, Bool.and_eq_true, decide_eq_true_eq, revL_len]
    rw [hsm]
    exact ⟨⟨by omega, by omega, h1⟩, h3⟩
theorem converse_law (xs : List Person) (ys : List Union) {t : KinType} (ht : typeOk t = true) (he : t.steps.length = 0 ∨ egoM t ≠ 0) : equalM (relForM xs ys (revT t).1) (convM (relForM xs ys t)) = true := by
  cases h : famOk xs ys with
  | false =>
    rw [relForM_fam h, relForM_fam h]; rfl
  | true =>
    have hn := (famOk_parts h).1
    rw [relForM_in h (rev_ok ht he), relForM_in h ht, convM_relP _ hn]
    exact equalM_relP hn fun a b ha hb => rev_ways h ht he hb ha
end Go.Proofs.Ytnnjilkjjdiblaa
