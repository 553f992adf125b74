/-
  Rules: sizes, copies, equality.
  Rules: what makes them valid. Plain definitions.
  Which of two lists of steps comes first, in the program and in the reference.
-/
import Derived.Test.YthpcippgifmabaaConvTyp
import Derived.Test.YthpcippgifmabaaTyp2

/-! ## ConvRule -/
namespace Go.Proofs.Ythpcippgifmabaa
set_option maxRecDepth 100000
open Go.RowKit

structure Rule where
  name : ByteArray
  sex : Int
  place : Int
  src : List Step
  dst : List Step
  deriving DecidableEq
theorem str_eqR {a b : ByteArray} : a.toList = b.toList ↔ a = b := by
  constructor
  · intro h; rw [ByteArray.toList_eq, ByteArray.toList_eq] at h; exact ByteArray.ext (Array.toList_inj.1 h)
  · rintro rfl; rfl

def vsRule (x : Rule) (v1 v2 : Value) : List Value := [.string x.name, .int .i64 x.sex, .int .i64 x.place, v1, v2]
theorem blocks_rule {x : Rule} {v1 v2 : Value} {b : Nat} : b ∈ blocks (vsRule x v1 v2) ↔ v1.ownBlock = some b ∨ v2.ownBlock = some b := by
  simp only [blocks, vsRule, List.mem_filterMap, List.mem_cons, List.not_mem_nil, or_false]
  constructor
  · rintro ⟨a, rfl | rfl | rfl | rfl | rfl, h⟩
    · simp [Value.ownBlock] at h
    · simp [Value.ownBlock] at h
    · simp [Value.ownBlock] at h
    · exact .inl h
    · exact .inr h
  · rintro (h | h)
    · exact ⟨v1, by simp, h⟩
    · exact ⟨v2, by simp, h⟩
section
variable {w : World} {lo hi : Nat} {A : Option Addr} {k : Nat}
end

end Go.Proofs.Ythpcippgifmabaa

/-! ## RuleM -/
namespace Go.Proofs.Ythpcippgifmabaa
set_option maxRecDepth 100000
open Go.RowKit

/-- The first difference of two lists of steps: which comes first. -/
def lexC : List Step → List Step → Int
  | a :: r, b :: s => if a.kind ≠ b.kind then (if a.kind < b.kind then -1 else 1) else if a.age ≠ b.age then (if a.age < b.age then -1 else 1) else lexC r s
  | _, _ => 0
def beforeM (a b : List Step) : Bool := if a.length = b.length then decide (lexC a b < 0) else decide (a.length < b.length)
theorem lexC_cons (a b : Step) (r s : List Step) : lexC (a :: r) (b :: s) = if a.kind ≠ b.kind then (if a.kind < b.kind then -1 else 1) else if a.age ≠ b.age then (if a.age < b.age then -1 else 1) else lexC r s := rfl
theorem lexC_kind {a b : Step} {r s xs ys : List Step} {k : Nat} (he : lexC (xs.drop k) (ys.drop k) = lexC xs ys) (h1 : xs.drop k = a :: r) (h2 : ys.drop k = b :: s) (h : a.kind ≠ b.kind) : lexC xs ys = if a.kind < b.kind then -1 else 1 := by
  rw [← he, h1, h2, lexC_cons, if_pos h]
theorem lexC_age {a b : Step} {r s xs ys : List Step} {k : Nat} (he : lexC (xs.drop k) (ys.drop k) = lexC xs ys) (h1 : xs.drop k = a :: r) (h2 : ys.drop k = b :: s) (h : a.kind = b.kind) (h' : a.age ≠ b.age) : lexC xs ys = if a.age < b.age then -1 else 1 := by
  rw [← he, h1, h2, lexC_cons, if_neg (fun k => k h), if_pos h']
theorem lexC_next {a b : Step} {r s xs ys : List Step} {k : Nat} (he : lexC (xs.drop k) (ys.drop k) = lexC xs ys) (h1 : xs.drop k = a :: r) (h2 : ys.drop k = b :: s) (h : a.kind = b.kind) (h' : a.age = b.age) : lexC r s = lexC xs ys := by
  rw [← he, h1, h2, lexC_cons, if_neg (fun k => k h), if_neg (fun k => k h')]
theorem lexC_end {xs ys : List Step} {k : Nat} (he : lexC (xs.drop k) (ys.drop k) = lexC xs ys) (h1 : xs.length ≤ k) : lexC xs ys = 0 := by
  rw [← he, List.drop_eq_nil_of_le h1]; rfl
theorem lexC_range (xs : List Step) : ∀ ys : List Step, lexC xs ys = -1 ∨ lexC xs ys = 0 ∨ lexC xs ys = 1 := by
  induction xs with
  | nil => intro ys; exact .inr (.inl rfl)
  | cons a r ih =>
    intro ys
    cases ys with
    | nil => exact .inr (.inl rfl)
    | cons b s =>
      rw [lexC_cons]
      split
      · split <;> simp
      · split
        · split <;> simp
        · exact ih s
theorem beforeM_len {xs ys : List Step} (h : xs.length ≠ ys.length) : beforeM xs ys = decide (xs.length < ys.length) := if_neg h
theorem beforeM_lex {xs ys : List Step} (h : xs.length = ys.length) : beforeM xs ys = decide (lexC xs ys < 0) := if_pos h

/-- A sex to which the rule does not speak. -/
def skipR (r : Rule) (s : Int) : Bool := decide (r.sex ≠ 0 ∧ r.sex ≠ s) || !typeOk ⟨s, r.src⟩
/-- At a sex the rule leads from valid types to valid types of relatives of the same sex. -/
def sideR (r : Rule) (s : Int) : Bool := typeOk ⟨s, r.dst⟩ && decide (sexM ⟨s, r.src⟩ = sexM ⟨s, r.dst⟩)
def headOk (r : Rule) : Bool := nameOk r.name && decide (0 ≤ r.sex ∧ r.sex ≤ 2) && decide (0 ≤ r.place ∧ r.place ≤ 2) && decide (1 ≤ r.src.length ∧ r.src.length ≤ 4) && beforeM r.dst r.src
def ruleOk (r : Rule) : Bool := headOk r && (skipR r 1 || sideR r 1) && (skipR r 2 || sideR r 2) && !(skipR r 1 && skipR r 2)
/-- Some sex below s to which the rule speaks. -/
def someTo (r : Rule) (s : Nat) : Bool := (decide (1 < s) && !skipR r 1) || (decide (2 < s) && !skipR r 2)
def goodTo (r : Rule) (s : Nat) : Bool := (decide (s ≤ 1) || skipR r 1 || sideR r 1) && (decide (s ≤ 2) || skipR r 2 || sideR r 2)
theorem ruleOk_end {r : Rule} (h : headOk r = true) (hg : goodTo r 3 = true) : ruleOk r = someTo r 3 := by
  simp only [goodTo, Bool.and_eq_true, show decide (3 ≤ 1) = false from rfl, show decide (3 ≤ 2) = false from rfl, Bool.false_or] at hg
  simp only [ruleOk, h, someTo, hg.1, hg.2, show decide (1 < 3) = true from rfl, show decide (2 < 3) = true from rfl, Bool.true_and, Bool.and_true]
  cases skipR r 1 <;> cases skipR r 2 <;> rfl
theorem ruleOk_head {r : Rule} (h : headOk r = false) : ruleOk r = false := by simp [ruleOk, h]
theorem ruleOk_bad {r : Rule} {s : Nat} (hs : s = 1 ∨ s = 2) (h : skipR r s = false) (h' : sideR r s = false) : ruleOk r = false := by
  rcases hs with rfl | rfl
  · have h : skipR r 1 = false := h
    have h' : sideR r 1 = false := h'
    simp [ruleOk, h, h']
  · have h : skipR r 2 = false := h
    have h' : sideR r 2 = false := h'
    simp [ruleOk, h, h']
theorem goodTo_one (r : Rule) : goodTo r 1 = true := by simp [goodTo]
theorem someTo_one (r : Rule) : someTo r 1 = false := by simp [someTo]
theorem to_skip {r : Rule} {s : Nat} (hs : s = 1 ∨ s = 2) (h : skipR r s = true) (hg : goodTo r s = true) : goodTo r (s + 1) = true ∧ someTo r (s + 1) = someTo r s := by
  rcases hs with rfl | rfl
  · have h : skipR r 1 = true := h
    simp [goodTo, someTo, h]
  · have h : skipR r 2 = true := h
    simp [goodTo, someTo, h] at hg ⊢; exact hg
theorem to_side {r : Rule} {s : Nat} (hs : s = 1 ∨ s = 2) (h : skipR r s = false) (h' : sideR r s = true) (hg : goodTo r s = true) : goodTo r (s + 1) = true ∧ someTo r (s + 1) = true := by
  rcases hs with rfl | rfl
  · have h : skipR r 1 = false := h
    have h' : sideR r 1 = true := h'
    simp [goodTo, someTo, h, h']
  · have h : skipR r 2 = false := h
    have h' : sideR r 2 = true := h'
    simp [goodTo, someTo, h, h'] at hg ⊢; exact hg

/-! ### Lists of rules -/
def namesTo (xs : List Rule) (k : Nat) : List ByteArray := (xs.take k).map (·.name)
def hasN (l : List ByteArray) (s : ByteArray) : Bool := l.any fun t => eqB t s
theorem hasN_snoc (l : List ByteArray) (t s : ByteArray) : hasN (l ++ [t]) s = (hasN l s || eqB t s) := by simp [hasN]
/-- The first k rules are valid and have names of their own. -/
def rulesTo (xs : List Rule) : Nat → Bool
  | 0 => true
  | k + 1 => rulesTo xs k && (match xs[k]? with | none => true | some r => ruleOk r && !hasN (namesTo xs k) r.name)
def rulesOk (xs : List Rule) : Bool := decide (xs.length ≤ 12) && rulesTo xs xs.length
theorem rulesTo_succ {xs : List Rule} {k : Nat} {r : Rule} (h : xs[k]? = some r) : rulesTo xs (k + 1) = (rulesTo xs k && (ruleOk r && !hasN (namesTo xs k) r.name)) := by
  simp only [rulesTo, h]
theorem rulesTo_mono {xs : List Rule} {k : Nat} (h : rulesTo xs k = false) : ∀ j, k ≤ j → rulesTo xs j = false := by
  intro j
  induction j with
  | zero => intro hk; obtain rfl : k = 0 := by omega
            exact h
  | succ j ih =>
    intro hk
    by_cases hkj : k = j + 1
    · subst hkj; exact h
    · rw [rulesTo, ih (by omega)]; rfl
theorem rulesOk_no {xs : List Rule} {k : Nat} {r : Rule} (h : xs[k]? = some r) (hb : ruleOk r = false ∨ hasN (namesTo xs k) r.name = true) : rulesOk xs = false := by
  have h1 : rulesTo xs (k + 1) = false := by
    rw [rulesTo_succ h]
    rcases hb with hb | hb <;> simp [hb]
  rw [rulesOk, rulesTo_mono h1 _ (by have := (List.getElem?_eq_some_iff.1 h).1; omega)]
  simp
theorem rulesOk_len {xs : List Rule} (h : ¬ xs.length ≤ 12) : rulesOk xs = false := by simp [rulesOk, h]
theorem rulesOk_end {xs : List Rule} (h : xs.length ≤ 12) (h' : rulesTo xs xs.length = true) : rulesOk xs = true := by simp [rulesOk, h, h']
theorem rulesTo_at {xs : List Rule} : ∀ {n k : Nat} {r : Rule}, rulesTo xs n = true → k < n → xs[k]? = some r → ruleOk r = true := by
  intro n
  induction n with
  | zero => intro k r _ h; omega
  | succ n ih =>
    intro k r h hk hx
    rw [rulesTo, Bool.and_eq_true] at h
    by_cases hkn : k = n
    · subst hkn
      have h2 := h.2
      rw [hx] at h2
      simp only [Bool.and_eq_true] at h2
      exact h2.1
    · exact ih h.1 (by omega) hx
theorem rulesOk_at {xs : List Rule} {k : Nat} {r : Rule} (h : rulesOk xs = true) (hx : xs[k]? = some r) : ruleOk r = true := by
  simp only [rulesOk, Bool.and_eq_true, decide_eq_true_eq] at h
  exact rulesTo_at h.2 (List.getElem?_eq_some_iff.1 hx).1 hx
theorem rulesOk_le {xs : List Rule} (h : rulesOk xs = true) : xs.length ≤ 12 := by
  simp only [rulesOk, Bool.and_eq_true, decide_eq_true_eq] at h; exact h.1
theorem namesTo_succ {xs : List Rule} {k : Nat} {r : Rule} (h : xs[k]? = some r) : namesTo xs (k + 1) = namesTo xs k ++ [r.name] := by
  simp [namesTo, List.take_add_one, h]
/-- What is known of a valid rule. -/
theorem ruleOk_parts {r : Rule} (h : ruleOk r = true) : headOk r = true ∧ nameOk r.name = true ∧ 0 ≤ r.sex ∧ r.sex ≤ 2 ∧ 0 ≤ r.place ∧ r.place ≤ 2 ∧ 1 ≤ r.src.length ∧ r.src.length ≤ 4 ∧ r.dst.length ≤ 4 := by
  simp only [ruleOk, Bool.and_eq_true] at h
  have h1 := h.1.1.1
  have h2 := h1
  simp only [headOk, Bool.and_eq_true, decide_eq_true_eq] at h2
  obtain ⟨⟨⟨⟨a, b⟩, c⟩, d⟩, e⟩ := h2
  refine ⟨h1, a, b.1, b.2, c.1, c.2, d.1, d.2, ?_⟩
  unfold beforeM at e
  split at e
  · omega
  · simp at e; omega
end Go.Proofs.Ythpcippgifmabaa

/-! ## RuleC -/
namespace Go.Proofs.Ythpcippgifmabaa
set_option maxRecDepth 100000
open Go.RowKit

def cmpI (a b : Int) : Int := if a < b then -1 else if b < a then 1 else 0
theorem cmpI_lt {a b : Int} (h : a < b) : cmpI a b = -1 := if_pos h
theorem cmpI_gt {a b : Int} (h : b < a) : cmpI a b = 1 := by rw [cmpI, if_neg (by omega), if_pos h]
theorem cmpI_eq (a : Int) : cmpI a a = 0 := by rw [cmpI, if_neg (by omega), if_neg (by omega)]
theorem cmpI_ne {a b : Int} (h : a ≠ b) : cmpI a b = if a < b then -1 else 1 := by
  by_cases h1 : a < b
  · rw [cmpI_lt h1, if_pos h1]
  · rw [cmpI_gt (by omega), if_neg h1]
theorem quiet_add_left {P : Program} {f : FuncId} {args : Array Value} {w : World} {a n : Nat} {v : Value}
    (h : Calls P f args (w.drewN (a + n)) fun e w' => e = .returned v ∧ w.drewN (a + n) = w') :
    Calls P f args (w.drewN (a + n)) fun e w'' => e = .returned v ∧ ∃ m, w'' = w.drewN (a + m) :=
  h.mono fun _ _ ⟨he, hm⟩ => ⟨he, n, hm.symm⟩

def LexRel (xs ys : List Step) (w : World) (i : Value) (wr : World) : Prop :=
  ∃ (k n : Nat), k ≤ xs.length ∧ i = .int .i64 k ∧ wr = w.drewN n ∧ lexC (xs.drop k) (ys.drop k) = lexC xs ys

end Go.Proofs.Ythpcippgifmabaa
