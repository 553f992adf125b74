/-
  The reverse of a kin type denotes the converse relation: the plain law. No program in sight.
  The shortest kin type between two persons: models, and that the reference's way and the program's way give the same steps. No program in sight.
  To whom a kin type leads from one person, in the program.
-/
import Derived.Test.YtnnjilkjjdiblaaGLead
import Derived.Test.YtnnjilkjjdiblaaGRev
import Derived.Test.YtnnjilkjjdiblaaGFrom
import Derived.Test.YtnnjilkjjdiblaaReach
import Derived.Test.YtnnjilkjjdiblaaWaysI
import Derived.Test.YtnnjilkjjdiblaaRelvS
import Derived.Test.YtnnjilkjjdiblaaGFamI
import Derived.Deep.Cut
import Derived.Deep.DeepCutAuto

/-! ## RevLaw -/
namespace Go.Proofs.Ytnnjilkjjdiblaa
set_option maxRecDepth 100000
open Go.RowKit

def sameP : Nat → Nat → Bool := fun a b => decide (a = b)
def sexAt (xs : List Person) (a : Nat) : Int := match xs[a]? with
  | some x => x.sex
  | none => 0
theorem sexAt_of {xs : List Person} {a : Nat} {x : Person} (h : xs[a]? = some x) : sexAt xs a = x.sex := by rw [sexAt, h]

theorem walk_start {n : Nat} {L : Step → Nat → Nat → Bool} : ∀ {l : List Step} {p : Nat → Nat → Bool} {a c : Nat}, c < n → (walkP n L p l a c = true ↔ ∃ b, b < n ∧ p a b = true ∧ walkP n L sameP l b c = true) := by
  intro l
  induction l with
  | nil =>
    intro p a c hc
    simp only [walkP, sameP, decide_eq_true_eq]
    constructor
    · exact fun h => ⟨c, hc, h, rfl⟩
    · rintro ⟨b, _, h, rfl⟩; exact h
  | cons s r ih =>
    intro p a c hc
    simp only [walkP]
    rw [ih hc]
    constructor
    · rintro ⟨m, hm, h1, h2⟩
      obtain ⟨b, hb, h3, h4⟩ := stepP_iff.1 h1
      exact ⟨b, hb, h3, (ih hc).2 ⟨m, hm, stepP_iff.2 ⟨b, hb, by simp [sameP], h4⟩, h2⟩⟩
    · rintro ⟨b, hb, h1, h2⟩
      obtain ⟨m, hm, h3, h4⟩ := (ih hc).1 h2
      obtain ⟨b', hb', h5, h6⟩ := stepP_iff.1 h3
      obtain rfl : b = b' := by simpa [sameP] using h5
      exact ⟨m, hm, stepP_iff.2 ⟨b, hb, h1, h6⟩, h4⟩
theorem walk_snoc {n : Nat} {L : Step → Nat → Nat → Bool} {l : List Step} {s : Step} {a c : Nat} : walkP n L sameP (l ++ [s]) a c = true ↔ ∃ b, b < n ∧ walkP n L sameP l a b = true ∧ L s b c = true := by
  rw [walkP_snoc, stepP_iff]
theorem walk_cons {n : Nat} {L : Step → Nat → Nat → Bool} {l : List Step} {s : Step} {a c : Nat} (ha : a < n) (hc : c < n) : walkP n L sameP (s :: l) a c = true ↔ ∃ b, b < n ∧ L s a b = true ∧ walkP n L sameP l b c = true := by
  simp only [walkP]
  rw [walk_start hc]
  constructor
  · rintro ⟨m, hm, h1, h2⟩
    obtain ⟨b, hb, h3, h4⟩ := stepP_iff.1 h1
    obtain rfl : a = b := by simpa [sameP] using h3
    exact ⟨m, hm, h4, h2⟩
  · rintro ⟨m, hm, h1, h2⟩
    exact ⟨m, hm, stepP_iff.2 ⟨a, ha, by simp [sameP], h1⟩, h2⟩
theorem lead_in {xs : List Person} {ys : List Union} {s : Step} {a b : Nat} (h : leadM xs ys s a b = true) : ∃ x y, xs[a]? = some x ∧ xs[b]? = some y ∧ y.sex = sexTo s.kind ∧ leadOf xs ys s a b x y = true := by
  unfold leadM at h
  cases hx : xs[a]? with
  | none => rw [hx] at h; cases h
  | some x =>
    cases hy : xs[b]? with
    | none => rw [hx, hy] at h; cases h
    | some y =>
      rw [hx, hy] at h
      refine ⟨x, y, rfl, rfl, ?_, h⟩
      simp only [leadOf, Bool.and_eq_true, decide_eq_true_eq] at h
      exact h.1
theorem lead_sexAt {xs : List Person} {ys : List Union} {s : Step} {a b : Nat} (h : leadM xs ys s a b = true) : sexAt xs b = sexTo s.kind := by
  obtain ⟨x, y, _, h2, h3, _⟩ := lead_in h
  rw [sexAt_of h2, h3]
theorem hasP_swap (ys : List Union) (a b : Nat) : hasP (wedL 7 ys) a b = hasP (wedL 8 ys) b a := by
  rw [Bool.eq_iff_iff]
  simp only [hasP, wedL, decide_eq_true_eq]
  simp [and_comm]
theorem fullOf_swap (x y : Person) (a b : Nat) : fullOf x y a b = fullOf y x b a := by
  unfold fullOf
  rw [decide_eq_decide]
  constructor
  · rintro ⟨h1, h2, h3, h4, h5⟩; exact ⟨Ne.symm h1, by omega, by omega, h4.symm, h5.symm⟩
  · rintro ⟨h1, h2, h3, h4, h5⟩; exact ⟨Ne.symm h1, by omega, by omega, h4.symm, h5.symm⟩
theorem stepOk_parts {s : Step} {sex : Int} (h : stepOk s sex = true) : 1 ≤ s.kind ∧ s.kind ≤ 8 ∧ 0 ≤ s.age ∧ s.age ≤ 2 ∧ (s.age = 0 ∨ s.kind = 3 ∨ s.kind = 4) ∧ ¬ (s.kind = 7 ∧ sex = 1) ∧ ¬ (s.kind = 8 ∧ sex = 2) := by
  rw [stepOk, decide_eq_true_eq] at h; exact h
theorem lead_back {xs : List Person} {ys : List Union} (h : famOk xs ys = true) {s : Step} {sa : Int} (hs : stepOk s sa = true) (hsa : sa = 1 ∨ sa = 2) {a b : Nat} {x y : Person} (hx : xs[a]? = some x) (hy : xs[b]? = some y) (h1 : x.sex = sa) (h2 : y.sex = sexTo s.kind) :
    leadM xs ys (backM s sa) b a = leadM xs ys s a b := by
  rw [leadM_of hx hy, leadM_of hy hx]
  have f1 := fam_father h hx hy
  have f2 := fam_mother h hx hy
  have f3 := fam_father h hy hx
  have f4 := fam_mother h hy hx
  have w1 := wed_man h hx hy
  have w2 := wed_woman h hx hy
  have w3 := wed_man h hy hx
  have w4 := wed_woman h hy hx
  have sw1 := hasP_swap ys a b
  have sw2 := hasP_swap ys b a
  have fu : fullAt xs b a = fullAt xs a b := by rw [fullAt_of hx hy, fullAt_of hy hx, fullOf_swap]
  obtain ⟨p1, p2, p3, p4, p5, p6, p7⟩ := stepOk_parts hs
  obtain ⟨kd, ag⟩ := s
  simp only at *
  rcases (by omega : kd = 1 ∨ kd = 2 ∨ kd = 3 ∨ kd = 4 ∨ kd = 5 ∨ kd = 6 ∨ kd = 7 ∨ kd = 8) with rfl | rfl | rfl | rfl | rfl | rfl | rfl | rfl
  · obtain rfl : ag = 0 := by omega
    have h2' : y.sex = 1 := h2
    have nf2 : ¬ x.mother = (b : Int) := fun e => by have := f2 e; omega
    rcases hsa with rfl | rfl <;> simp [leadOf, backM, sexTo, kidOf, h1, h2', nf2]
  · obtain rfl : ag = 0 := by omega
    have h2' : y.sex = 2 := h2
    have nf1 : ¬ x.father = (b : Int) := fun e => by have := f1 e; omega
    rcases hsa with rfl | rfl <;> simp [leadOf, backM, sexTo, kidOf, h1, h2', nf1]
  · have h2' : y.sex = 1 := h2
    rcases (by omega : ag = 0 ∨ ag = 1 ∨ ag = 2) with rfl | rfl | rfl <;> rcases hsa with rfl | rfl <;> simp [leadOf, backM, sexTo, bornOk, h1, h2', fu]
  · have h2' : y.sex = 2 := h2
    rcases (by omega : ag = 0 ∨ ag = 1 ∨ ag = 2) with rfl | rfl | rfl <;> rcases hsa with rfl | rfl <;> simp [leadOf, backM, sexTo, bornOk, h1, h2', fu]
  · obtain rfl : ag = 0 := by omega
    have h2' : y.sex = 1 := h2
    rcases hsa with rfl | rfl
    · have n4 : ¬ y.mother = (a : Int) := fun e => by have := f4 e; omega
      simp [leadOf, backM, sexTo, kidOf, h1, h2', n4]
    · have n3 : ¬ y.father = (a : Int) := fun e => by have := f3 e; omega
      simp [leadOf, backM, sexTo, kidOf, h1, h2', n3]
  · obtain rfl : ag = 0 := by omega
    have h2' : y.sex = 2 := h2
    rcases hsa with rfl | rfl
    · have n4 : ¬ y.mother = (a : Int) := fun e => by have := f4 e; omega
      simp [leadOf, backM, sexTo, kidOf, h1, h2', n4]
    · have n3 : ¬ y.father = (a : Int) := fun e => by have := f3 e; omega
      simp [leadOf, backM, sexTo, kidOf, h1, h2', n3]
  · obtain rfl : ag = 0 := by omega
    obtain rfl : sa = 2 := by omega
    have h2' : y.sex = 1 := h2
    rw [h2'] at w1; rw [h1] at w4
    simp only [decide_true, Bool.true_and] at w1 w4
    simp [leadOf, backM, sexTo, h1, h2', w1, w4, sw1]
  · obtain rfl : ag = 0 := by omega
    obtain rfl : sa = 1 := by omega
    have h2' : y.sex = 2 := h2
    rw [h2'] at w2; rw [h1] at w3
    simp only [decide_true, Bool.true_and] at w2 w3
    simp [leadOf, backM, sexTo, h1, h2', w2, w3, sw2]
theorem back_to {s : Step} {sa : Int} (hs : stepOk s sa = true) (hsa : sa = 1 ∨ sa = 2) : sexTo (backM s sa).kind = sa := by
  obtain ⟨p1, p2, p3, p4, p5, p6, p7⟩ := stepOk_parts hs
  obtain ⟨kd, ag⟩ := s
  simp only at *
  rcases (by omega : kd = 1 ∨ kd = 2 ∨ kd = 3 ∨ kd = 4 ∨ kd = 5 ∨ kd = 6 ∨ kd = 7 ∨ kd = 8) with rfl | rfl | rfl | rfl | rfl | rfl | rfl | rfl <;> rcases hsa with rfl | rfl <;> first | rfl | (exfalso; omega)
theorem back_ok {s : Step} {sa : Int} (hs : stepOk s sa = true) (hsa : sa = 1 ∨ sa = 2) : stepOk (backM s sa) (sexTo s.kind) = true := by
  obtain ⟨p1, p2, p3, p4, p5, p6, p7⟩ := stepOk_parts hs
  obtain ⟨kd, ag⟩ := s
  simp only at *
  rcases (by omega : ag = 0 ∨ ag = 1 ∨ ag = 2) with rfl | rfl | rfl <;> rcases (by omega : kd = 1 ∨ kd = 2 ∨ kd = 3 ∨ kd = 4 ∨ kd = 5 ∨ kd = 6 ∨ kd = 7 ∨ kd = 8) with rfl | rfl | rfl | rfl | rfl | rfl | rfl | rfl <;> rcases hsa with rfl | rfl <;> first | rfl | (exfalso; omega)
/-- Each step of a valid type can be made from the sex before it. -/
theorem stepsOk_before {xs : List Step} : ∀ {sex : Int} {k : Nat} {s : Step}, stepsOk sex xs = true → xs[k]? = some s → stepOk s (if k = 0 then sex else sexTo (xs.getD (k - 1) ⟨0, 0⟩).kind) = true := by
  induction xs with
  | nil => intro sex k s _ h; simp at h
  | cons x r ih =>
    intro sex k s h hk
    simp only [stepsOk, Bool.and_eq_true] at h
    cases k with
    | zero => simp at hk; subst hk; exact h.1
    | succ k =>
      simp at hk
      have h2 := ih h.2 hk
      rw [if_neg (by omega)]
      cases k with
      | zero => simpa using h2
      | succ k =>
        rw [if_neg (by omega)] at h2
        simpa using h2
theorem before_ok {t : KinType} (ht : typeOk t = true) (he : egoM t ≠ 0) {k : Nat} {s : Step} (hk : t.steps[k]? = some s) : stepOk s (sexBM t k) = true := by
  simp only [typeOk, Bool.and_eq_true] at ht
  have h := stepsOk_before ht.2 hk
  unfold sexBM
  by_cases h0 : k = 0
  · subst h0
    rw [if_pos rfl] at h ⊢
    by_cases hg : t.ego = 0
    · obtain ⟨p1, p2, p3, p4, p5, p6, p7⟩ := stepOk_parts h
      cases hs : t.steps with
      | nil => rw [hs] at hk; simp at hk
      | cons x r =>
        rw [hs] at hk
        simp at hk; subst hk
        unfold egoM at he ⊢
        rw [if_pos hg, hs] at he ⊢
        simp only at he ⊢
        rw [stepOk, decide_eq_true_eq]
        by_cases c7 : x.kind = 7
        · rw [if_pos c7]; omega
        · rw [if_neg c7] at he ⊢
          by_cases c8 : x.kind = 8
          · rw [if_pos c8]; omega
          · rw [if_neg c8] at he; exact absurd rfl he
    · rw [show egoM t = t.ego by rw [egoM, if_neg hg]]; exact h
  · rw [if_neg h0] at h ⊢; exact h
theorem getSome {α : Type} {l : List α} {k : Nat} (h : k < l.length) : ∃ x, l[k]? = some x := ⟨_, List.getElem?_eq_getElem h⟩
theorem walk_last {xs : List Person} {ys : List Union} {t : KinType} {k a c : Nat} (hk : 0 < k) (hkl : k ≤ t.steps.length) (h : walkP xs.length (leadM xs ys) sameP (t.steps.take k) a c = true) : sexAt xs c = sexBM t k := by
  obtain ⟨j, rfl⟩ : ∃ j, k = j + 1 := ⟨k - 1, by omega⟩
  obtain ⟨s, hs⟩ := getSome (l := t.steps) (k := j) (by omega)
  rw [List.take_add_one, hs] at h
  obtain ⟨b, _, _, h3⟩ := walk_snoc.1 h
  rw [sexBM_succ hs]; exact lead_sexAt h3
theorem rev_walk {xs : List Person} {ys : List Union} (h : famOk xs ys = true) {t : KinType} (ht : typeOk t = true) (he : egoM t ≠ 0) : ∀ k, k ≤ t.steps.length → ∀ a c, a < xs.length → c < xs.length → sexAt xs a = egoM t → sexAt xs c = sexBM t k →
    (walkP xs.length (leadM xs ys) sameP (t.steps.take k) a c = true ↔ walkP xs.length (leadM xs ys) sameP (revL t.ego t.steps k) c a = true) := by
  intro k
  induction k with
  | zero =>
    intro _ a c _ _ _ _
    simp [revL, walkP, sameP, eq_comm]
  | succ k ih =>
    intro hk a c ha hc hsa hsc
    obtain ⟨s, hs⟩ := getSome (l := t.steps) (k := k) (by omega)
    rw [List.take_add_one, hs, revL_succ, bk_at hs]
    show walkP _ _ _ (t.steps.take k ++ [s]) a c = true ↔ walkP _ _ _ (backM s (sexBM t k) :: revL t.ego t.steps k) c a = true
    rw [walk_snoc, walk_cons hc ha]
    have hok := before_ok ht he hs
    have hin := sexBM_in ht he k
    rw [sexBM_succ hs] at hsc
    obtain ⟨xc, hxc⟩ := getSome (l := xs) (k := c) hc
    constructor
    · rintro ⟨b, hb, h1, h2⟩
      have hsb : sexAt xs b = sexBM t k := by
        rcases Nat.eq_zero_or_pos k with rfl | hk0
        · simp [walkP, sameP] at h1
          subst h1; rw [hsa]; rfl
        · exact walk_last hk0 (by omega) h1
      obtain ⟨xb, hxb⟩ := getSome (l := xs) (k := b) hb
      refine ⟨b, hb, ?_, (ih (by omega) a b ha hb hsa hsb).1 h1⟩
      rw [lead_back h hok hin hxb hxc (by rw [← sexAt_of hxb]; exact hsb) (by rw [← sexAt_of hxc]; exact hsc)]; exact h2
    · rintro ⟨b, hb, h1, h2⟩
      have hsb : sexAt xs b = sexBM t k := by rw [lead_sexAt h1, back_to hok hin]
      obtain ⟨xb, hxb⟩ := getSome (l := xs) (k := b) hb
      refine ⟨b, hb, (ih (by omega) a b ha hb hsa hsb).2 h2, ?_⟩
      rw [lead_back h hok hin hxb hxc (by rw [← sexAt_of hxb]; exact hsb) (by rw [← sexAt_of hxc]; exact hsc)] at h1; exact h1
theorem revL_last (s : Int) (xs : List Step) (k : Nat) : revL s xs (k + 1) = ((List.range k).map fun j => bk s xs (j + 1)).reverse ++ [bk s xs 0] := by
  rw [revL, List.range_succ_eq_map, List.map_cons, List.reverse_cons, List.map_map]; rfl
theorem lead_from7 {xs : List Person} {ys : List Union} (h : famOk xs ys = true) {s : Step} {a b : Nat} (hk : s.kind = 7) (hl : leadM xs ys s a b = true) : sexAt xs a = 2 := by
  obtain ⟨x, y, hx, hy, h3, h4⟩ := lead_in hl
  have w1 := wed_man h hx hy
  obtain ⟨kd, ag⟩ := s
  simp only at hk; subst hk
  have h3' : y.sex = 1 := h3
  simp only [leadOf] at h4
  simp [h3', sexTo] at h4
  rw [h3', h4] at w1
  simp only [decide_true, Bool.true_and] at w1
  have w2 := hasP_swap ys a b
  rw [← w1] at w2
  have w3 := wed_woman h hy hx
  rw [← w2] at w3
  simp at w3
  rw [sexAt_of hx]; exact w3.1
theorem lead_from8 {xs : List Person} {ys : List Union} (h : famOk xs ys = true) {s : Step} {a b : Nat} (hk : s.kind = 8) (hl : leadM xs ys s a b = true) : sexAt xs a = 1 := by
  obtain ⟨x, y, hx, hy, h3, h4⟩ := lead_in hl
  have w1 := wed_woman h hx hy
  obtain ⟨kd, ag⟩ := s
  simp only at hk; subst hk
  have h3' : y.sex = 2 := h3
  simp only [leadOf] at h4
  simp [h3', sexTo] at h4
  rw [h3', h4] at w1
  simp only [decide_true, Bool.true_and] at w1
  have w2 := hasP_swap ys b a
  rw [← w1] at w2
  have w3 := wed_man h hy hx
  rw [w2] at w3
  simp at w3
  rw [sexAt_of hx]; exact w3.1
theorem ways_iff {xs : List Person} {ys : List Union} {t : KinType} {a c : Nat} {x : Person} (hx : xs[a]? = some x) (hc : c < xs.length) : waysP xs ys t t.steps.length a c = true ↔ egoIs x t.ego = true ∧ walkP xs.length (leadM xs ys) sameP t.steps a c = true := by
  unfold waysP
  rw [List.take_length, walk_start hc]
  have ha := (List.getElem?_eq_some_iff.1 hx).1
  constructor
  · rintro ⟨b, hb, h1, h2⟩
    rw [diagP_of hx] at h1
    simp only [Bool.and_eq_true, decide_eq_true_eq] at h1
    obtain ⟨rfl, h1⟩ := h1
    exact ⟨h1, h2⟩
  · rintro ⟨h1, h2⟩
    exact ⟨a, ha, by rw [diagP_of hx, h1]; simp, h2⟩
theorem egoM_bare {t : KinType} (h : t.ego ≠ 0) : egoM t = t.ego := by rw [egoM, if_neg h]
theorem rev_ways {xs : List Person} {ys : List Union} (h : famOk xs ys = true) {t : KinType} (ht : typeOk t = true) (he : t.steps.length = 0 ∨ egoM t ≠ 0) {a c : Nat} (ha : a < xs.length) (hc : c < xs.length) :
    waysP xs ys (revT t).1 (revT t).1.steps.length c a = waysP xs ys t t.steps.length a c := by
  rw [revT_good ht he]
  obtain ⟨x, hx⟩ := getSome (l := xs) (k := a) ha
  obtain ⟨z, hz⟩ := getSome (l := xs) (k := c) hc
  rw [Bool.eq_iff_iff, ways_iff hx hc, ways_iff hz ha]
  simp only
  rcases Nat.eq_zero_or_pos t.steps.length with h0 | h0
  · obtain ⟨eg, st⟩ := t
    simp only at *
    obtain rfl : st = [] := List.eq_nil_of_length_eq_zero h0
    simp only [sexM, revL, List.length_nil, List.range_zero, List.map_nil, List.reverse_nil, walkP, sameP, decide_eq_true_eq, if_pos]
    constructor
    · rintro ⟨h1, rfl⟩; rw [hx] at hz; injection hz with hz; subst hz; exact ⟨h1, rfl⟩
    · rintro ⟨h1, rfl⟩; rw [hx] at hz; injection hz with hz; subst hz; exact ⟨h1, rfl⟩
  · have he' : egoM t ≠ 0 := by rcases he with he | he; omega; exact he
    obtain ⟨j, hj⟩ : ∃ j, t.steps.length = j + 1 := ⟨t.steps.length - 1, by omega⟩
    have hsm : sexM t = sexBM t t.steps.length := by rw [sexM, if_neg (by omega), sexBM, if_neg (by omega)]
    have hin := sexBM_in ht he' t.steps.length
    have R := rev_walk h ht he' t.steps.length (Nat.le_refl _) a c ha hc
    rw [List.take_length] at R
    have hego0 : walkP xs.length (leadM xs ys) sameP (revL t.ego t.steps t.steps.length) c a = true → sexAt xs a = egoM t := by
      intro hw
      rw [hj, revL_last] at hw
      obtain ⟨b, _, _, h3⟩ := walk_snoc.1 hw
      obtain ⟨s, hs⟩ := getSome (l := t.steps) (k := 0) (by omega)
      rw [lead_sexAt h3, bk_at hs]
      show sexTo (backM s (sexBM t 0)).kind = egoM t
      rw [back_to (before_ok ht he' hs) (sexBM_in ht he' 0)]; rfl
    constructor
    · rintro ⟨h1, h2⟩
      have hsc : sexAt xs c = sexBM t t.steps.length := by
        rw [sexAt_of hz, ← hsm]
        simp only [egoIs, decide_eq_true_eq] at h1
        rcases h1 with h1 | h1
        · omega
        · exact h1
      have hsa := hego0 h2
      refine ⟨?_, (R hsa hsc).2 h2⟩
      simp only [egoIs, decide_eq_true_eq]
      by_cases hg : t.ego = 0
      · exact .inl hg
      · right; rw [← sexAt_of hx, hsa, egoM_bare hg]
    · rintro ⟨h1, h2⟩
      have hsc : sexAt xs c = sexBM t t.steps.length := by
        have := walk_last (t := t) (k := t.steps.length) h0 (Nat.le_refl _) (by rw [List.take_length]; exact h2)
        exact this
      have hsa : sexAt xs a = egoM t := by
        by_cases hg : t.ego = 0
        · cases hst : t.steps with
          | nil => rw [hst] at h0; simp at h0
          | cons s r =>
            rw [hst, walk_cons ha hc] at h2
            obtain ⟨b, _, h3, _⟩ := h2
            unfold egoM at he' ⊢
            rw [if_pos hg, hst] at he' ⊢
            simp only at he' ⊢
            by_cases c7 : s.kind = 7
            · rw [if_pos c7]; exact lead_from7 h c7 h3
            · rw [if_neg c7] at he' ⊢
              by_cases c8 : s.kind = 8
              · rw [if_pos c8]; exact lead_from8 h c8 h3
              · rw [if_neg c8] at he'; exact absurd rfl he'
        · simp only [egoIs, decide_eq_true_eq] at h1
          rw [egoM_bare hg, sexAt_of hx]
          rcases h1 with h1 | h1
          · exact absurd h1 hg
          · exact h1
      refine ⟨?_, (R hsa hsc).1 h2⟩
      simp only [egoIs, decide_eq_true_eq]
      right; rw [← sexAt_of hz, hsc, hsm]
theorem revSteps_ok {t : KinType} (ht : typeOk t = true) (he : egoM t ≠ 0) : ∀ k, k ≤ t.steps.length → stepsOk (sexBM t k) (revL t.ego t.steps k) = true := by
  intro k
  induction k with
  | zero => intro _; rfl
  | succ k ih =>
    intro hk
    obtain ⟨s, hs⟩ := getSome (l := t.steps) (k := k) (by omega)
    rw [revL_succ, bk_at hs, sexBM_succ hs]
    show stepsOk (sexTo s.kind) (backM s (sexBM t k) :: revL t.ego t.steps k) = true
    rw [stepsOk_cons, back_ok (before_ok ht he hs) (sexBM_in ht he k), back_to (before_ok ht he hs) (sexBM_in ht he k), ih (by omega)]; rfl
theorem rev_ok {t : KinType} (ht : typeOk t = true) (he : t.steps.length = 0 ∨ egoM t ≠ 0) : typeOk (revT t).1 = true := by
  rw [revT_good ht he]
  have h1 := typeOk_len ht
  have h2 := typeOk_ego ht
  rcases Nat.eq_zero_or_pos t.steps.length with h0 | h0
  · rw [typeOk, sexM, if_pos h0, h0]
    simp [revL, stepsOk, h2]
  · have he' : egoM t ≠ 0 := by rcases he with he | he; omega; exact he
    have hsm : sexM t = sexBM t t.steps.length := by rw [sexM, if_neg (by omega), sexBM, if_neg (by omega)]
    have hin := sexBM_in ht he' t.steps.length
    have h3 := revSteps_ok ht he' t.steps.length (Nat.le_refl _)
    simp only [typeOk, Bool.and_eq_true, decide_eq_true_eq, revL_len]
    rw [hsm]
    exact ⟨⟨by omega, by omega, h1⟩, h3⟩
theorem converse_law (xs : List Person) (ys : List Union) {t : KinType} (ht : typeOk t = true) (he : t.steps.length = 0 ∨ egoM t ≠ 0) : equalM (relForM xs ys (revT t).1) (convM (relForM xs ys t)) = true := by
  cases h : famOk xs ys with
  | false =>
    rw [relForM_fam h, relForM_fam h]; rfl
  | true =>
    have hn := (famOk_parts h).1
    rw [relForM_in h (rev_ok ht he), relForM_in h ht, convM_relP _ hn]
    exact equalM_relP hn fun a b ha hb => rev_ways h ht he hb ha
end Go.Proofs.Ytnnjilkjjdiblaa

/-! ## ShortM -/
namespace Go.Proofs.Ytnnjilkjjdiblaa
set_option maxRecDepth 100000
open Go.RowKit

section
variable (n : Nat) (L : Nat → Nat → Nat → Bool)
def hitAny (F : Nat → Int) (d : Int) (x : Nat) : Bool := (List.range 8).any fun i => (List.range n).any fun y => decide (F y = d) && L i x y
def gOf (F : Nat → Int) (d : Int) (h : Nat → Bool) : Nat → Int := fun x => if F x < 0 ∧ h x = true then d else F x
/-- How far each person is from b, after d rounds; -1 for whom no round has reached. -/
def farM (b : Nat) : Nat → Nat → Int
  | 0 => fun x => if x = b then 0 else -1
  | d + 1 => gOf (farM b d) ((d : Int) + 1) (hitAny n L (farM b d) (d : Int))
end
section
variable {n : Nat} {L : Nat → Nat → Nat → Bool} {b : Nat}
theorem hitAny_iff {F : Nat → Int} {d : Int} {x : Nat} : hitAny n L F d x = true ↔ ∃ i y, i < 8 ∧ y < n ∧ F y = d ∧ L i x y = true := by
  simp only [hitAny, List.any_eq_true, List.mem_range, Bool.and_eq_true, decide_eq_true_eq]
  constructor
  · rintro ⟨i, hi, y, hy, h1, h2⟩; exact ⟨i, y, hi, hy, h1, h2⟩
  · rintro ⟨i, y, hi, hy, h1, h2⟩; exact ⟨i, hi, y, hy, h1, h2⟩
theorem farM_le (x : Nat) : ∀ d : Nat, -1 ≤ farM n L b d x ∧ farM n L b d x ≤ d := by
  intro d
  induction d with
  | zero => simp only [farM]; split <;> omega
  | succ d ih =>
    simp only [farM, gOf]
    split <;> omega
theorem farM_keep {x d : Nat} (h : 0 ≤ farM n L b d x) : farM n L b (d + 1) x = farM n L b d x := by
  simp only [farM, gOf]; rw [if_neg (by omega)]
theorem farM_old {x d : Nat} {v : Int} (h : farM n L b (d + 1) x = v) (_h0 : 0 ≤ v) (hv : v ≤ d) : farM n L b d x = v := by
  simp only [farM, gOf] at h
  split at h
  · omega
  · exact h
theorem farM_step {x y i : Nat} {v : Int} (hy : y < n) (hi : i < 8) (hL : L i x y = true) : ∀ {d : Nat}, farM n L b d y = v → 0 ≤ v → v < d → 0 ≤ farM n L b d x ∧ farM n L b d x ≤ v + 1 := by
  intro d
  induction d with
  | zero => intro h h0 h1; omega
  | succ d ih =>
    intro h h0 h1
    have ho := farM_old h h0 (by omega)
    by_cases hvd : v < d
    · obtain ⟨k1, k2⟩ := ih ho h0 hvd
      rw [farM_keep k1]; exact ⟨k1, k2⟩
    · have hle := farM_le (n := n) (L := L) (b := b) x d
      by_cases hx : 0 ≤ farM n L b d x
      · rw [farM_keep hx]; omega
      · have hh : hitAny n L (farM n L b d) (d : Int) x = true := hitAny_iff.2 ⟨i, y, hi, hy, by omega, hL⟩
        simp only [farM, gOf]
        rw [if_pos ⟨by omega, hh⟩]; omega
theorem farM_from {x : Nat} {v : Int} : ∀ {d : Nat}, farM n L b d x = v → 1 ≤ v → ∃ i y, i < 8 ∧ y < n ∧ farM n L b d y = v - 1 ∧ L i x y = true := by
  intro d
  induction d with
  | zero =>
    intro h h1
    simp only [farM] at h
    split at h <;> omega
  | succ d ih =>
    intro h h1
    by_cases hc : farM n L b d x < 0 ∧ hitAny n L (farM n L b d) (d : Int) x = true
    · obtain ⟨i, y, hi, hy, h2, h3⟩ := hitAny_iff.1 hc.2
      simp only [farM, gOf] at h
      rw [if_pos hc] at h
      exact ⟨i, y, hi, hy, by rw [farM_keep (by omega)]; omega, h3⟩
    · have hx : farM n L b d x = v := by
        simp only [farM, gOf] at h
        rw [if_neg hc] at h; exact h
      obtain ⟨i, y, hi, hy, h2, h3⟩ := ih hx h1
      exact ⟨i, y, hi, hy, by rw [farM_keep (by omega)]; exact h2, h3⟩

/-! ### The steps that lead there -/
def hitsB (F : Nat → Int) (l : Int) (n : Nat) (q : Nat → Bool) : Bool := (List.range n).any fun x => q x && decide (F x = l)
theorem hitsB_iff {F : Nat → Int} {l : Int} {q : Nat → Bool} : hitsB F l n q = true ↔ ∃ x, x < n ∧ q x = true ∧ F x = l := by
  simp [hitsB]
def atS (n : Nat) (L : Nat → Nat → Nat → Bool) (F : Nat → Int) (l : Int) (q : Nat → Bool) (i : Nat) : Nat → Bool := fun x => reachP n q (L i) x && decide (F x = l)
/-- The reference's way: only who is as far as he should be is followed. -/
def pathS (n : Nat) (L : Nat → Nat → Nat → Bool) (F : Nat → Int) : Nat → (Nat → Bool) → List Step
  | 0, _ => []
  | l + 1, q => match (List.range 8).find? fun i => hitsB F l n (reachP n q (L i)) with
    | some i => kindS i :: pathS n L F l (atS n L F l q i)
    | none => pathS n L F l q
/-- The program's way: everybody is followed. -/
def pathI (n : Nat) (L : Nat → Nat → Nat → Bool) (F : Nat → Int) : Nat → (Nat → Bool) → List Step
  | 0, _ => []
  | l + 1, q => match (List.range 8).find? fun i => hitsB F l n (reachP n q (L i)) with
    | some i => kindS i :: pathI n L F l (reachP n q (L i))
    | none => pathI n L F l q
theorem find_some {P : Nat → Bool} {i : Nat} (hi : i < 8) (h : P i = true) (hb : ∀ j, j < i → P j = false) : (List.range 8).find? P = some i := by
  have e : ∀ m, (List.range m).find? P = if i < m then some i else none := by
    intro m
    induction m with
    | zero => rfl
    | succ m ih =>
      rw [List.range_succ, List.find?_append, ih]
      by_cases h1 : i < m
      · rw [if_pos h1, if_pos (by omega)]; rfl
      · rw [if_neg h1]
        by_cases h2 : i = m
        · subst h2; rw [if_pos (by omega)]; simp [h]
        · rw [if_neg (by omega)]
          simp [hb m (by omega)]
  rw [e 8, if_pos hi]
theorem find_none {P : Nat → Bool} (hb : ∀ j, j < 8 → P j = false) : (List.range 8).find? P = none := by
  rw [List.find?_eq_none]
  intro j hj
  rw [hb j (List.mem_range.1 hj)]; simp
theorem find_congr {P Q : Nat → Bool} (h : ∀ i, i < 8 → P i = Q i) : (List.range 8).find? P = (List.range 8).find? Q := by
  have e : ∀ l : List Nat, (∀ i ∈ l, i < 8) → l.find? P = l.find? Q := by
    intro l
    induction l with
    | nil => intro _; rfl
    | cons x r ih =>
      intro hl
      rw [List.find?_cons, List.find?_cons, h x (hl x (by simp)), ih fun i hi => hl i (by simp [hi])]
  exact e _ fun i hi => List.mem_range.1 hi
theorem pathS_len (F : Nat → Int) : ∀ l q, (pathS n L F l q).length ≤ l := by
  intro l
  induction l with
  | zero => intro q; exact Nat.le_refl _
  | succ l ih =>
    intro q
    simp only [pathS]
    split
    · simp only [List.length_cons]; have := ih (atS n L F l q ‹Nat›); omega
    · have := ih q; omega
theorem reachP_iff {q : Nat → Bool} {M : Nat → Nat → Bool} {x : Nat} : reachP n q M x = true ↔ ∃ y, y < n ∧ q y = true ∧ M y x = true := by simp [reachP]
theorem path_eq {F : Nat → Int} (hF : ∃ b, F = farM n L b 8) : ∀ (l : Nat) (S U : Nat → Bool), l ≤ 8 → (∀ x, x < n → S x = (U x && decide (F x = (l : Int)))) → (∀ x, x < n → U x = true → 0 ≤ F x → (l : Int) ≤ F x) → (∃ x, x < n ∧ S x = true) →
    pathS n L F l S = pathI n L F l U := by
  obtain ⟨b, rfl⟩ := hF
  intro l
  induction l with
  | zero => intros; rfl
  | succ l ih =>
    intro S U hl ha hb hc
    have hSU : ∀ x, x < n → S x = true → U x = true ∧ farM n L b 8 x = ((l + 1 : Nat) : Int) := fun x hx h => by
      rw [ha x hx] at h
      simpa using h
    -- who is reached at the distance l is reached from S
    have key : ∀ i q, i < 8 → q < n → farM n L b 8 q = (l : Int) → reachP n S (L i) q = reachP n U (L i) q := fun i q hi hq hf => by
      rw [Bool.eq_iff_iff, reachP_iff, reachP_iff]
      constructor
      · rintro ⟨p, hp, h1, h2⟩; exact ⟨p, hp, (hSU p hp h1).1, h2⟩
      · rintro ⟨p, hp, h1, h2⟩
        obtain ⟨k1, k2⟩ := farM_step (n := n) (L := L) (b := b) (v := (l : Int)) hq hi h2 hf (by omega) (by omega)
        have k3 := hb p hp h1 k1
        refine ⟨p, hp, ?_, h2⟩
        rw [ha p hp, h1]; simp; omega
    have hfind : ((List.range 8).find? fun i => hitsB (farM n L b 8) l n (reachP n S (L i))) = (List.range 8).find? fun i => hitsB (farM n L b 8) l n (reachP n U (L i)) := by
      refine find_congr fun i hi => ?_
      rw [Bool.eq_iff_iff, hitsB_iff, hitsB_iff]
      constructor
      · rintro ⟨x, hx, h1, h2⟩; exact ⟨x, hx, by rw [← key i x hi hx h2]; exact h1, h2⟩
      · rintro ⟨x, hx, h1, h2⟩; exact ⟨x, hx, by rw [key i x hi hx h2]; exact h1, h2⟩
    simp only [pathS, pathI]
    rw [← hfind]
    cases hfd : (List.range 8).find? fun i => hitsB (farM n L b 8) l n (reachP n S (L i)) with
    | none =>
      -- there is somebody at the distance l + 1, so a step leads on
      exfalso
      obtain ⟨x, hx, hS⟩ := hc
      obtain ⟨_, hfx⟩ := hSU x hx hS
      obtain ⟨i, y, hi, hy, h1, h2⟩ := farM_from hfx (by omega)
      rw [List.find?_eq_none] at hfd
      have := hfd i (List.mem_range.2 hi)
      exact this (hitsB_iff.2 ⟨y, hy, reachP_iff.2 ⟨x, hx, hS, h2⟩, by rw [h1]; omega⟩)
    | some i =>
      have hi : i < 8 := List.mem_range.1 (List.mem_of_find?_eq_some hfd)
      have hP := List.find?_some hfd
      simp only
      congr 1
      refine ih _ _ (by omega) (fun x hx => ?_) (fun x hx h1 h2 => ?_) ?_
      · unfold atS
        by_cases hf : farM n L b 8 x = (l : Int)
        · rw [key i x hi hx hf]
        · simp [hf]
      · obtain ⟨p, hp, k1, k2⟩ := reachP_iff.1 h1
        have hle := farM_le (n := n) (L := L) (b := b) x 8
        rcases Nat.lt_or_ge 0 1 with _ | h
        · by_cases hlt : farM n L b 8 x < (l : Int)
          · obtain ⟨m1, m2⟩ := farM_step (n := n) (L := L) (b := b) (v := farM n L b 8 x) hx hi k2 rfl h2 (by omega)
            have := hb p hp k1 m1
            omega
          · omega
        · omega
      · obtain ⟨x, hx, k1, k2⟩ := hitsB_iff.1 hP
        exact ⟨x, hx, by unfold atS; rw [k1]; simp [k2]⟩
end
def leadK (xs : List Person) (ys : List Union) : Nat → Nat → Nat → Bool := fun i a b => leadM xs ys (kindS i) a b
def awayM (xs : List Person) (ys : List Union) (b : Nat) : Nat → Int := farM xs.length (leadK xs ys) b 8
def onlyP (a : Nat) : Nat → Bool := fun x => decide (x = a)
def shortM (xs : List Person) (ys : List Union) (a b : Int) : KinType × Bool :=
  if hasOk xs ys a = true ∧ hasOk xs ys b = true ∧ 0 ≤ awayM xs ys b.toNat a.toNat then
    (⟨sexAt xs a.toNat, pathS xs.length (leadK xs ys) (awayM xs ys b.toNat) (awayM xs ys b.toNat a.toNat).toNat (onlyP a.toNat)⟩, true)
  else (zeroT, false)
theorem short_path (xs : List Person) (ys : List Union) {a b : Nat} (ha : a < xs.length) (h : 0 ≤ awayM xs ys b a) :
    pathS xs.length (leadK xs ys) (awayM xs ys b) (awayM xs ys b a).toNat (onlyP a) = pathI xs.length (leadK xs ys) (awayM xs ys b) (awayM xs ys b a).toNat (onlyP a) := by
  have hle := farM_le (n := xs.length) (L := leadK xs ys) (b := b) a 8
  have e : ∀ x, awayM xs ys b x = farM xs.length (leadK xs ys) b 8 x := fun _ => rfl
  rw [e] at h
  have e' : awayM xs ys b = farM xs.length (leadK xs ys) b 8 := rfl
  rw [e']
  refine path_eq ⟨b, rfl⟩ _ _ _ (by omega) (fun x hx => ?_) (fun x hx h1 h2 => ?_) ⟨a, ha, by simp [onlyP]⟩
  · by_cases hxa : x = a
    · subst hxa; simp [onlyP]; omega
    · simp [onlyP, hxa]
  · have : x = a := by simpa [onlyP] using h1
    subst this; omega
end Go.Proofs.Ytnnjilkjjdiblaa

/-! ## RelvI -/
namespace Go.Proofs.Ytnnjilkjjdiblaa
set_option maxRecDepth 100000
open Go.RowKit

theorem relationForP_any (A B D : Option Addr) (c d e lo hi lo' hi' : Nat) (xs : List Person) (ys : List Union) (ego : Int) (zs : List Step) (w : World) (h : EPerson.AS w lo hi A xs) (h' : EUnion.AS w lo hi B ys) (h'' : EStep.AS w lo' hi' D zs) (hh : hi ≤ w.heap.size) (hh' : hi' ≤ w.heap.size) (hdc : ys.length ≤ d ∧ d ≤ maxLen) (hs : totP xs ≤ 1048576)
    (ho : famOk xs ys = true) (ht : typeOk ⟨ego, zs⟩ = true) :
    Calls Try.prog 23 #[.agg #[.slice A xs.length c, .slice B ys.length d], .agg #[.int .i64 ego, .slice D zs.length e]] w fun e w' => ∃ A' c', e = .returned (.agg #[.int .i64 xs.length, .slice A' xs.length c']) ∧
      EIntS.OS w' w.heap.size w'.heap.size (.slice A' xs.length c') (relM xs.length (waysP xs ys ⟨ego, zs⟩ zs.length)) ∧ Below w.heap.size w w' := by
  have H := implRelationFor_any A B D c d e lo hi lo' hi' xs ys ego zs w h h' h'' hh hh' hdc hs
  rw [relForM_in ho ht] at H
  refine H.mono ?_
  rintro e w' ⟨A', c', rfl, ho', hb⟩
  exact ⟨A', c', by simp only [relM_len], by simpa only [relM_len] using ho', hb⟩
theorem rel_field (n v : Value) (w : World) : (Instr.field 38 (.agg #[n, v]) 1).run Try.prog w = .ok v w := by rfl
/-- One row of a relation that the call owns. -/
theorem row_own {w : World} {lo hi n c p : Nat} {A : Option Addr} {P : Nat → Nat → Bool} (h : EIntS.OS w lo hi (.slice A n c) (relM n P)) (hp : p < n) (hhs : hi ≤ w.heap.size) :
    ∃ g A1 c1, A = some ⟨g, 0, none⟩ ∧ lo ≤ g ∧ g < hi ∧ w.cell? ⟨g, p, none⟩ = some (.slice A1 (idxTo (P p) n).length c1) ∧ EInt.OS w lo hi (.slice A1 (idxTo (P p) n).length c1) (idxTo (P p) n) := by
  obtain ⟨g, c', x, cs, hv, g1, g2, g3, hx, ⟨v, rfl, hv1⟩, hcell, _, _⟩ := h.elem (i := p) (by rw [relM_len]; exact hp) hhs
  injection hv with hv _ _
  subst hv
  rw [relM_at P hp] at hx
  injection hx with hx
  subst hx
  obtain ⟨A1, c1, rfl, _, _, _⟩ := hv1.read.open_
  have h2 := (hcell 0 _ rfl).1
  simp only [EIntS, Elem.slice, Nat.mul_one, Nat.add_zero] at h2
  exact ⟨g, A1, c1, rfl, g1, g2, h2, hv1⟩

set_option maxHeartbeats 4000000 in
theorem implRelativesOf_any (A B D : Option Addr) (c d e lo hi lo' hi' : Nat) (xs : List Person) (ys : List Union) (ego : Int) (zs : List Step) (p : Int) (w : World) (h : EPerson.AS w lo hi A xs) (h' : EUnion.AS w lo hi B ys) (h'' : EStep.AS w lo' hi' D zs) (hh : hi ≤ w.heap.size) (hh' : hi' ≤ w.heap.size) (hdc : ys.length ≤ d ∧ d ≤ maxLen) (hs : totP xs ≤ 1048576) :
    Calls Try.prog 30 #[.agg #[.slice A xs.length c, .slice B ys.length d], .int .i64 p, .agg #[.int .i64 ego, .slice D zs.length e]] w (RetIntS w (relsM xs ys p ⟨ego, zs⟩)) := by
  cases ho : hasOk xs ys p with
  | false =>
    have HO := Lib.hid ho
    have HN := Lib.hid (relsM_has (t := ⟨ego, zs⟩) ho)
    clear ho
    rw [HN.out]
    go_enter Try.func30, Try.ntmps30
    go_wp2_with (go_at_call 101; refine (has_any _ _ _ _ lo hi xs ys (some ⟨w.heap.size + 1 + 1, 0, none⟩) _ _ _ [p] _ (h.same (by (with_reducible repeat' first | exact Same.refl _ _ _ | assumption | (refine Same.setCell ?_ (by first | omega | (simp; omega) | (simp; done) | (dsimp only; omega)) _) | (refine Same.alloc ?_ (by first | omega | (simp; omega) | (simp; done) | (dsimp only; omega)) _) | (refine Same.drewN ?_ _) | (refine Same.drew ?_)))) (h'.same (by (with_reducible repeat' first | exact Same.refl _ _ _ | assumption | (refine Same.setCell ?_ (by first | omega | (simp; omega) | (simp; done) | (dsimp only; omega)) _) | (refine Same.alloc ?_ (by first | omega | (simp; omega) | (simp; done) | (dsimp only; omega)) _) | (refine Same.drewN ?_ _) | (refine Same.drew ?_)))) (by first | omega | (simp; omega) | (simp; done) | (dsimp only; omega)) hdc hs (ints_as' _ _ [p] (by simp) (by simp [BIG]) _ (by simp)) (by first | omega | (simp; omega) | (simp; done) | (dsimp only; omega))).mono ?_; rintro e w1 ⟨rfl, hb1⟩; simp only [hasOk_all, HO.out]; (obtain ⟨hb1c, hb1f⟩ := bcell hb1); (have hb1z := hb1.size); (try simp only [szs] at hb1c hb1f hb1z); have lt1 : w.heap.size < w1.heap.size := (by omega))
    go_ret
    exact ⟨none, 0, rfl, Elem.OS.nil, by (with_reducible repeat' first | exact Below.refl _ _ | assumption | (refine Below.setCell ?_ (by first | omega | (simp; omega) | (simp; done) | (dsimp only; omega)) _) | (refine Below.alloc ?_ (by first | omega | (simp; omega) | (simp; done) | (dsimp only; omega)) _) | (refine below_drewN ?_ _) | (refine Below.drew ?_) | (refine Below.trans ?_ (hb1.mono (by first | omega | (simp; omega) | (simp; done) | (dsimp only; omega)))))⟩
  | true =>
    have HO := Lib.hid ho
    obtain ⟨hfam, p1, p2⟩ := hasOk_fam ho
    have hn := (famOk_parts hfam).1
    cases ht : typeOk ⟨ego, zs⟩ with
    | false =>
      have HT := Lib.hid ht
      have HN := Lib.hid (relsM_typ (xs := xs) (ys := ys) (p := p) ht)
      clear ho ht hfam
      rw [HN.out]
      go_enter Try.func30, Try.ntmps30
      go_wp2_with (first
        | (go_at_call 101; refine (has_any _ _ _ _ lo hi xs ys (some ⟨w.heap.size + 1 + 1, 0, none⟩) _ _ _ [p] _ (h.same (by (with_reducible repeat' first | exact Same.refl _ _ _ | assumption | (refine Same.setCell ?_ (by first | omega | (simp; omega) | (simp; done) | (dsimp only; omega)) _) | (refine Same.alloc ?_ (by first | omega | (simp; omega) | (simp; done) | (dsimp only; omega)) _) | (refine Same.drewN ?_ _) | (refine Same.drew ?_)))) (h'.same (by (with_reducible repeat' first | exact Same.refl _ _ _ | assumption | (refine Same.setCell ?_ (by first | omega | (simp; omega) | (simp; done) | (dsimp only; omega)) _) | (refine Same.alloc ?_ (by first | omega | (simp; omega) | (simp; done) | (dsimp only; omega)) _) | (refine Same.drewN ?_ _) | (refine Same.drew ?_)))) (by first | omega | (simp; omega) | (simp; done) | (dsimp only; omega)) hdc hs (ints_as' _ _ [p] (by simp) (by simp [BIG]) _ (by simp)) (by first | omega | (simp; omega) | (simp; done) | (dsimp only; omega))).mono ?_; rintro e w1 ⟨rfl, hb1⟩; simp only [hasOk_all, HO.out]; (obtain ⟨hb1c, hb1f⟩ := bcell hb1); (have hb1z := hb1.size); (try simp only [szs] at hb1c hb1f hb1z); (have lt1 : w.heap.size < w1.heap.size := (by omega)); (have lu1 : w.heap.size + 1 < w1.heap.size := (by omega)))
        | (go_at_call 86; (with_reducible refine (implIsType_any ego _ _ _ _ zs _ (h''.same (by (with_reducible repeat' first | exact Same.refl _ _ _ | assumption | (refine Same.setCell ?_ (by first | omega | (simp; omega) | (simp; done) | (dsimp only; omega)) _) | (refine Same.alloc ?_ (by first | omega | (simp; omega) | (simp; done) | (dsimp only; omega)) _) | (refine Same.drewN ?_ _) | (refine Same.drew ?_) | (refine Same.trans ?_ (Same.of_below hb1 (by first | omega | (simp; omega) | (simp; done) | (dsimp only; omega))))))) (by first | omega | (simp; omega) | (simp; done) | (dsimp only; omega))).mono ?_); rintro e w2 ⟨rfl, hb2⟩; simp only [HT.out]; (obtain ⟨hb2c, hb2f⟩ := bcell hb2); (have hb2z := hb2.size); (try simp only [szs] at hb2c hb2f hb2z)))
      go_ret
      exact ⟨none, 0, rfl, Elem.OS.nil, by (with_reducible repeat' first | exact Below.refl _ _ | assumption | (refine Below.setCell ?_ (by first | omega | (simp; omega) | (simp; done) | (dsimp only; omega)) _) | (refine Below.alloc ?_ (by first | omega | (simp; omega) | (simp; done) | (dsimp only; omega)) _) | (refine below_drewN ?_ _) | (refine Below.drew ?_) | (refine Below.trans ?_ (hb2.mono (by first | omega | (simp; omega) | (simp; done) | (dsimp only; omega)))) | (refine Below.trans ?_ (hb1.mono (by first | omega | (simp; omega) | (simp; done) | (dsimp only; omega)))))⟩
    | true =>
      obtain ⟨p, rfl⟩ := Int.eq_ofNat_of_zero_le p1
      have hp : p < xs.length := by omega
      have HF := Lib.hid hfam
      have HT := Lib.hid ht
      have HN := Lib.hid (relsM_in ho ht)
      clear ho ht hfam
      rw [HN.out]
      have hfd := rel_field
      go_enter Try.func30, Try.ntmps30
      go_wp2_with (first
        | (go_at_call 101; refine (has_any _ _ _ _ lo hi xs ys (some ⟨w.heap.size + 1 + 1, 0, none⟩) _ _ _ [(p : Int)] _ (h.same (by (with_reducible repeat' first | exact Same.refl _ _ _ | assumption | (refine Same.setCell ?_ (by first | omega | (simp; omega) | (simp; done) | (dsimp only; omega)) _) | (refine Same.alloc ?_ (by first | omega | (simp; omega) | (simp; done) | (dsimp only; omega)) _) | (refine Same.drewN ?_ _) | (refine Same.drew ?_)))) (h'.same (by (with_reducible repeat' first | exact Same.refl _ _ _ | assumption | (refine Same.setCell ?_ (by first | omega | (simp; omega) | (simp; done) | (dsimp only; omega)) _) | (refine Same.alloc ?_ (by first | omega | (simp; omega) | (simp; done) | (dsimp only; omega)) _) | (refine Same.drewN ?_ _) | (refine Same.drew ?_)))) (by first | omega | (simp; omega) | (simp; done) | (dsimp only; omega)) hdc hs (ints_as' _ _ [(p : Int)] (by simp) (by simp [BIG]) _ (by simp)) (by first | omega | (simp; omega) | (simp; done) | (dsimp only; omega))).mono ?_; rintro e w1 ⟨rfl, hb1⟩; simp only [hasOk_all, HO.out]; (obtain ⟨hb1c, hb1f⟩ := bcell hb1); (have hb1z := hb1.size); (try simp only [szs] at hb1c hb1f hb1z); (have lt1 : w.heap.size < w1.heap.size := (by omega)); (have lu1 : w.heap.size + 1 < w1.heap.size := (by omega)))
        | (go_at_call 86; (with_reducible refine (implIsType_any ego _ _ _ _ zs _ (h''.same (by (with_reducible repeat' first | exact Same.refl _ _ _ | assumption | (refine Same.setCell ?_ (by first | omega | (simp; omega) | (simp; done) | (dsimp only; omega)) _) | (refine Same.alloc ?_ (by first | omega | (simp; omega) | (simp; done) | (dsimp only; omega)) _) | (refine Same.drewN ?_ _) | (refine Same.drew ?_) | (refine Same.trans ?_ (Same.of_below hb1 (by first | omega | (simp; omega) | (simp; done) | (dsimp only; omega))))))) (by first | omega | (simp; omega) | (simp; done) | (dsimp only; omega))).mono ?_); rintro e w2 ⟨rfl, hb2⟩; simp only [HT.out]; (obtain ⟨hb2c, hb2f⟩ := bcell hb2); (have hb2z := hb2.size); (try simp only [szs] at hb2c hb2f hb2z); (have lt2 : w.heap.size < w2.heap.size := (by omega)); (have lu2 : w.heap.size + 1 < w2.heap.size := (by omega)))
        | (go_at_call 23; (with_reducible refine (relationForP_any _ _ _ _ _ _ lo hi lo' hi' xs ys ego zs _ (h.same (by (with_reducible repeat' first | exact Same.refl _ _ _ | assumption | (refine Same.setCell ?_ (by first | omega | (simp; omega) | (simp; done) | (dsimp only; omega)) _) | (refine Same.alloc ?_ (by first | omega | (simp; omega) | (simp; done) | (dsimp only; omega)) _) | (refine Same.drewN ?_ _) | (refine Same.drew ?_) | (refine Same.trans ?_ (Same.of_below hb2 (by first | omega | (simp; omega) | (simp; done) | (dsimp only; omega)))) | (refine Same.trans ?_ (Same.of_below hb1 (by first | omega | (simp; omega) | (simp; done) | (dsimp only; omega))))))) (h'.same (by (with_reducible repeat' first | exact Same.refl _ _ _ | assumption | (refine Same.setCell ?_ (by first | omega | (simp; omega) | (simp; done) | (dsimp only; omega)) _) | (refine Same.alloc ?_ (by first | omega | (simp; omega) | (simp; done) | (dsimp only; omega)) _) | (refine Same.drewN ?_ _) | (refine Same.drew ?_) | (refine Same.trans ?_ (Same.of_below hb2 (by first | omega | (simp; omega) | (simp; done) | (dsimp only; omega)))) | (refine Same.trans ?_ (Same.of_below hb1 (by first | omega | (simp; omega) | (simp; done) | (dsimp only; omega))))))) (h''.same (by (with_reducible repeat' first | exact Same.refl _ _ _ | assumption | (refine Same.setCell ?_ (by first | omega | (simp; omega) | (simp; done) | (dsimp only; omega)) _) | (refine Same.alloc ?_ (by first | omega | (simp; omega) | (simp; done) | (dsimp only; omega)) _) | (refine Same.drewN ?_ _) | (refine Same.drew ?_) | (refine Same.trans ?_ (Same.of_below hb2 (by first | omega | (simp; omega) | (simp; done) | (dsimp only; omega)))) | (refine Same.trans ?_ (Same.of_below hb1 (by first | omega | (simp; omega) | (simp; done) | (dsimp only; omega))))))) (by first | omega | (simp; omega) | (simp; done) | (dsimp only; omega)) (by first | omega | (simp; omega) | (simp; done) | (dsimp only; omega)) hdc hs HF.out HT.out).mono ?_); rintro e w3 ⟨A3, c3, rfl, ho3, hb3⟩; (obtain ⟨hb3c, hb3f⟩ := bcell hb3); (have hb3z := hb3.size); (try simp only [szs] at hb3c hb3f hb3z); obtain ⟨g, A4, c4, rfl, g1, g2, q1, ho4⟩ := row_own ho3 hp (Nat.le_refl _)))
      go_ret
      exact ⟨A4, c4, rfl, ho4.mono (by first | omega | (simp; omega) | (simp; done) | (dsimp only; omega)) (Nat.le_refl _), by (with_reducible repeat' first | exact Below.refl _ _ | assumption | (refine Below.setCell ?_ (by first | omega | (simp; omega) | (simp; done) | (dsimp only; omega)) _) | (refine Below.alloc ?_ (by first | omega | (simp; omega) | (simp; done) | (dsimp only; omega)) _) | (refine below_drewN ?_ _) | (refine Below.drew ?_) | (refine Below.trans ?_ (hb3.mono (by first | omega | (simp; omega) | (simp; done) | (dsimp only; omega)))) | (refine Below.trans ?_ (hb2.mono (by first | omega | (simp; omega) | (simp; done) | (dsimp only; omega)))) | (refine Below.trans ?_ (hb1.mono (by first | omega | (simp; omega) | (simp; done) | (dsimp only; omega)))))⟩
end Go.Proofs.Ytnnjilkjjdiblaa
