/-
  Kin types are read back from their text; reversed twice, a type is itself; joined types lead by way of both: the plain laws. No program in sight.
-/
import Derived.Test.YtnnjilkjjdiblaaVGLead
import Derived.Test.YtnnjilkjjdiblaaVGRev
import Derived.Test.YtnnjilkjjdiblaaVParseM
import Derived.Test.YtnnjilkjjdiblaaJoinT
namespace Go.Proofs.Ytnnjilkjjdiblaa
set_option maxRecDepth 100000
open Go.RowKit

def sameP : Nat → Nat → Bool := fun a b => decide (a = b)
def sexAt (xs : List Person) (a : Nat) : Int := match xs[a]? with
  | some x => x.sex
  | none => 0
theorem sexAt_of {xs : List Person} {a : Nat} {x : Person} (h : xs[a]? = some x) : sexAt xs a = x.sex := by rw [sexAt, h]

theorem walk_start {n : Nat} {L : Step → Nat → Nat → Bool} : ∀ {l : List Step} {p : Nat → Nat → Bool} {a c : Nat}, c < n → (walkP n L p l a c = true ↔ ∃ b, b < n ∧ p a b = true ∧ walkP n L sameP l b c = true) := by
  intro l
  induction l with
  | nil =>
    intro p a c hc
    simp only [walkP, sameP, decide_eq_true_eq]
    constructor
    · exact fun h => ⟨c, hc, h, rfl⟩
    · rintro ⟨b, _, h, rfl⟩; exact h
  | cons s r ih =>
    intro p a c hc
    simp only [walkP]
    rw [ih hc]
    constructor
    · rintro ⟨m, hm, h1, h2⟩
      obtain ⟨b, hb, h3, h4⟩ := stepP_iff.1 h1
      exact ⟨b, hb, h3, (ih hc).2 ⟨m, hm, stepP_iff.2 ⟨b, hb, by simp [sameP], h4⟩, h2⟩⟩
    · rintro ⟨b, hb, h1, h2⟩
      obtain ⟨m, hm, h3, h4⟩ := (ih hc).1 h2
      obtain ⟨b', hb', h5, h6⟩ := stepP_iff.1 h3
      obtain rfl : b = b' := by simpa [sameP] using h5
      exact ⟨m, hm, stepP_iff.2 ⟨b, hb, h1, h6⟩, h4⟩
theorem walk_cons {n : Nat} {L : Step → Nat → Nat → Bool} {l : List Step} {s : Step} {a c : Nat} (ha : a < n) (hc : c < n) : walkP n L sameP (s :: l) a c = true ↔ ∃ b, b < n ∧ L s a b = true ∧ walkP n L sameP l b c = true := by
  simp only [walkP]
  rw [walk_start hc]
  constructor
  · rintro ⟨m, hm, h1, h2⟩
    obtain ⟨b, hb, h3, h4⟩ := stepP_iff.1 h1
    obtain rfl : a = b := by simpa [sameP] using h3
    exact ⟨m, hm, h4, h2⟩
  · rintro ⟨m, hm, h1, h2⟩
    exact ⟨m, hm, stepP_iff.2 ⟨a, ha, by simp [sameP], h1⟩, h2⟩
theorem lead_in {xs : List Person} {ys : List Union} {s : Step} {a b : Nat} (h : leadM xs ys s a b = true) : ∃ x y, xs[a]? = some x ∧ xs[b]? = some y ∧ y.sex = sexTo s.kind ∧ leadOf xs ys s a b x y = true := by
  unfold leadM at h
  cases hx : xs[a]? with
  | none => rw [hx] at h; cases h
  | some x =>
    cases hy : xs[b]? with
    | none => rw [hx, hy] at h; cases h
    | some y =>
      rw [hx, hy] at h
      refine ⟨x, y, rfl, rfl, ?_, h⟩
      simp only [leadOf, Bool.and_eq_true, decide_eq_true_eq] at h
      exact h.1
theorem lead_sexAt {xs : List Person} {ys : List Union} {s : Step} {a b : Nat} (h : leadM xs ys s a b = true) : sexAt xs b = sexTo s.kind := by
  obtain ⟨x, y, _, h2, h3, _⟩ := lead_in h
  rw [sexAt_of h2, h3]
theorem hasP_swap (ys : List Union) (a b : Nat) : hasP (wedL 7 ys) a b = hasP (wedL 8 ys) b a := by
  rw [Bool.eq_iff_iff]
  simp only [hasP, wedL, decide_eq_true_eq]
  simp [and_comm]
theorem getSome {α : Type} {l : List α} {k : Nat} (h : k < l.length) : ∃ x, l[k]? = some x := ⟨_, List.getElem?_eq_getElem h⟩
theorem lead_from7 {xs : List Person} {ys : List Union} (h : famOk xs ys = true) {s : Step} {a b : Nat} (hk : s.kind = 7) (hl : leadM xs ys s a b = true) : sexAt xs a = 2 := by
  obtain ⟨x, y, hx, hy, h3, h4⟩ := lead_in hl
  have w1 := wed_man h hx hy
  obtain ⟨kd, ag⟩ := s
  simp only at hk; subst hk
  have h3' : y.sex = 1 := h3
  simp only [leadOf] at h4
  simp [h3', sexTo] at h4
  rw [h3', h4] at w1
  simp only [decide_true, Bool.true_and] at w1
  have w2 := hasP_swap ys a b
  rw [← w1] at w2
  have w3 := wed_woman h hy hx
  rw [← w2] at w3
  simp at w3
  rw [sexAt_of hx]; exact w3.1
theorem lead_from8 {xs : List Person} {ys : List Union} (h : famOk xs ys = true) {s : Step} {a b : Nat} (hk : s.kind = 8) (hl : leadM xs ys s a b = true) : sexAt xs a = 1 := by
  obtain ⟨x, y, hx, hy, h3, h4⟩ := lead_in hl
  have w1 := wed_woman h hx hy
  obtain ⟨kd, ag⟩ := s
  simp only at hk; subst hk
  have h3' : y.sex = 2 := h3
  simp only [leadOf] at h4
  simp [h3', sexTo] at h4
  rw [h3', h4] at w1
  simp only [decide_true, Bool.true_and] at w1
  have w2 := hasP_swap ys b a
  rw [← w1] at w2
  have w3 := wed_man h hy hx
  rw [w2] at w3
  simp at w3
  rw [sexAt_of hx]; exact w3.1
theorem ways_iff {xs : List Person} {ys : List Union} {t : KinType} {a c : Nat} {x : Person} (hx : xs[a]? = some x) (hc : c < xs.length) : waysP xs ys t t.steps.length a c = true ↔ egoIs x t.ego = true ∧ walkP xs.length (leadM xs ys) sameP t.steps a c = true := by
  unfold waysP
  rw [List.take_length, walk_start hc]
  have ha := (List.getElem?_eq_some_iff.1 hx).1
  constructor
  · rintro ⟨b, hb, h1, h2⟩
    rw [diagP_of hx] at h1
    simp only [Bool.and_eq_true, decide_eq_true_eq] at h1
    obtain ⟨rfl, h1⟩ := h1
    exact ⟨h1, h2⟩
  · rintro ⟨h1, h2⟩
    exact ⟨a, ha, by rw [diagP_of hx, h1]; simp, h2⟩
end Go.Proofs.Ytnnjilkjjdiblaa

namespace Go.Proofs.Ytnnjilkjjdiblaa
set_option maxRecDepth 100000
open Go.RowKit

/-! ### A type whose sex of ego is known -/

/-! ### Read back from the text -/

/-! ### Reversed twice -/

/-! ### Joined -/
end Go.Proofs.Ytnnjilkjjdiblaa
