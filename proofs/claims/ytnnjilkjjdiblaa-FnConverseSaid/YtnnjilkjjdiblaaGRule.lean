/-
  Rules: sizes, copies, equality.
  Rules: what makes them valid. Plain definitions.
  Which of two lists of steps comes first, in the program and in the reference.
-/
import Derived.Test.YtnnjilkjjdiblaaConvTyp
import Derived.Test.YtnnjilkjjdiblaaTyp2

/-! ## ConvRule -/
namespace Go.Proofs.Ytnnjilkjjdiblaa
set_option maxRecDepth 100000
open Go.RowKit

structure Rule where
  name : ByteArray
  sex : Int
  place : Int
  src : List Step
  dst : List Step
  deriving DecidableEq
theorem str_eqR {a b : ByteArray} : a.toList = b.toList ↔ a = b := by
  constructor
  · intro h; rw [ByteArray.toList_eq, ByteArray.toList_eq] at h; exact ByteArray.ext (Array.toList_inj.1 h)
  · rintro rfl; rfl

def vsRule (x : Rule) (v1 v2 : Value) : List Value := [.string x.name, .int .i64 x.sex, .int .i64 x.place, v1, v2]
theorem blocks_rule {x : Rule} {v1 v2 : Value} {b : Nat} : b ∈ blocks (vsRule x v1 v2) ↔ v1.ownBlock = some b ∨ v2.ownBlock = some b := by
  simp only [blocks, vsRule, List.mem_filterMap, List.mem_cons, List.not_mem_nil, or_false]
  constructor
  · rintro ⟨a, rfl | rfl | rfl | rfl | rfl, h⟩
    · simp [Value.ownBlock] at h
    · simp [Value.ownBlock] at h
    · simp [Value.ownBlock] at h
    · exact .inl h
    · exact .inr h
  · rintro (h | h)
    · exact ⟨v1, by simp, h⟩
    · exact ⟨v2, by simp, h⟩
def ERule : Elem Rule where
  e := 58
  sz := 5
  O := fun w lo hi cs x => ∃ v1 v2, cs = vsRule x v1 v2 ∧ EStep.OS w lo hi v1 x.src ∧ EStep.OS w lo hi v2 x.dst ∧ (∀ b, v1.ownBlock = some b → v2.ownBlock ≠ some b) ∧ x.name.size ≤ 140737488355328
  R := fun w lo hi cs x => ∃ v1 v2, cs = vsRule x v1 v2 ∧ EStep.RS w lo hi v1 x.src ∧ EStep.RS w lo hi v2 x.dst ∧ x.name.size ≤ 140737488355328
  len := fun ⟨_, _, h, _⟩ => by rw [h]; rfl
  read := fun ⟨v1, v2, h, a, b, _, d⟩ => ⟨v1, v2, h, a.read, b.read, d⟩
  sameO := fun ⟨v1, v2, h, a, b, c, d⟩ s => ⟨v1, v2, h, a.same s, b.same s, c, d⟩
  sameR := fun ⟨v1, v2, h, a, b, d⟩ s => ⟨v1, v2, h, a.same s, b.same s, d⟩
  monoO := fun ⟨v1, v2, h, a, b, c, d⟩ p q => ⟨v1, v2, h, a.mono p q, b.mono p q, c, d⟩
  monoR := fun ⟨v1, v2, h, a, b, d⟩ p q => ⟨v1, v2, h, a.mono p q, b.mono p q, d⟩
  blk := fun ⟨v1, v2, h, a, b, _, _⟩ k hk => by
    rw [h] at hk
    rcases blocks_rule.1 hk with hk | hk
    · exact a.blkv _ hk
    · exact b.blkv _ hk
  loc := fun {w w' lo hi cs x} ⟨v1, v2, h, a, b, c, d⟩ hb => by
    refine ⟨v1, v2, h, a.loc (fun k hk => hb k ?_) (fun h => h), b.loc (fun k hk => hb k ?_) (fun h => h), c, d⟩
    · rw [h]; exact blocks_rule.2 (.inl hk)
    · rw [h]; exact blocks_rule.2 (.inr hk)
section
variable {w : World} {lo hi : Nat} {A : Option Addr} {k : Nat}
theorem ARule.at_ {xs : List Rule} (h : ERule.AS w lo hi A xs) (hk : k < xs.length) : ∃ b off x A1 c1 A2 c2, A = some ⟨b, off, none⟩ ∧ lo ≤ b ∧ b < hi ∧ xs.drop k = x :: xs.drop (k + 1) ∧ xs[k]? = some x ∧
    w.cell? ⟨b, off + k * 5, none⟩ = some (.string x.name) ∧ w.cell? ⟨b, off + k * 5 + 1, none⟩ = some (.int .i64 x.sex) ∧ w.cell? ⟨b, off + k * 5 + 2, none⟩ = some (.int .i64 x.place) ∧
    w.cell? ⟨b, off + k * 5 + 3, none⟩ = some (.slice A1 x.src.length c1) ∧ w.cell? ⟨b, off + k * 5 + 4, none⟩ = some (.slice A2 x.dst.length c2) ∧ EStep.AS w lo hi A1 x.src ∧ EStep.AS w lo hi A2 x.dst ∧ x.name.size ≤ 140737488355328 := by
  obtain ⟨b, off, x, cs, rfl, h1, h2, h3, h4, ⟨v1, v2, rfl, ⟨A1, c1, rfl, _, _, q1⟩, ⟨A2, c2, rfl, _, _, q2⟩, q3⟩, hc⟩ := h.at_ hk
  exact ⟨b, off, x, A1, c1, A2, c2, rfl, h1, h2, h3, h4, by simpa [ERule, Nat.add_assoc] using hc 0 _ rfl, by simpa [ERule, Nat.add_assoc] using hc 1 _ rfl, by simpa [ERule, Nat.add_assoc] using hc 2 _ rfl, by simpa [ERule, Nat.add_assoc] using hc 3 _ rfl, by simpa [ERule, Nat.add_assoc] using hc 4 _ rfl, q1, q2, q3⟩
end

theorem eqRule_any (x0 y0 : ByteArray) (x1 x2 y1 y2 : Int) (A B A' B' : Option Addr) (c d c' d' lo hi lo' hi' : Nat) (xs ys xs' ys' : List Step) (w : World) (h : EStep.AS w lo hi A xs) (h' : EStep.AS w lo hi B ys) (h2 : EStep.AS w lo' hi' A' xs') (h2' : EStep.AS w lo' hi' B' ys') (hh : hi ≤ w.heap.size) (hh' : hi' ≤ w.heap.size) :
    Calls Try.prog 44 #[.agg #[.string x0, .int .i64 x1, .int .i64 x2, .slice A xs.length c, .slice B ys.length d], .agg #[.string y0, .int .i64 y1, .int .i64 y2, .slice A' xs'.length c', .slice B' ys'.length d']] w fun e w' => e = .returned (.bool (eqB (⟨x0, x1, x2, xs, ys⟩ : Rule) ⟨y0, y1, y2, xs', ys'⟩)) ∧ Below w.heap.size w w' := by
  cases hp : eqB xs xs' <;> cases hu : eqB ys ys'
  all_goals
    have HP := Lib.hid hp; have HU := Lib.hid hu
    clear hp hu
    go_enter Try.func44, Try.ntmps44
    go_wp2_with (first
      | (go_at_call 122; (with_reducible refine (eqStepS_any A A' c c' lo hi lo' hi' xs xs' _ (h.same (by (with_reducible repeat' first | exact Same.refl _ _ _ | assumption | (refine Same.setCell ?_ (by first | omega | (simp; omega) | (simp; done) | (dsimp only; omega)) _) | (refine Same.alloc ?_ (by first | omega | (simp; omega) | (simp; done) | (dsimp only; omega)) _) | (refine Same.drewN ?_ _) | (refine Same.drew ?_)))) (h2.same (by (with_reducible repeat' first | exact Same.refl _ _ _ | assumption | (refine Same.setCell ?_ (by first | omega | (simp; omega) | (simp; done) | (dsimp only; omega)) _) | (refine Same.alloc ?_ (by first | omega | (simp; omega) | (simp; done) | (dsimp only; omega)) _) | (refine Same.drewN ?_ _) | (refine Same.drew ?_)))) (by first | omega | (simp; omega) | (simp; done) | (dsimp only; omega)) (by first | omega | (simp; omega) | (simp; done) | (dsimp only; omega))).mono ?_); rintro e w1 ⟨rfl, hb1⟩; simp only [HP.out]; (obtain ⟨hb1c, hb1f⟩ := bcell hb1); (have hb1z := hb1.size); (try simp only [szs] at hb1c hb1f hb1z); (have lt1 : w.heap.size + 1 < w1.heap.size := (by omega)); (have lt2 : w.heap.size < w1.heap.size := (by omega)))
      | (go_at_call 122; (with_reducible refine (eqStepS_any B B' d d' lo hi lo' hi' ys ys' _ (h'.same (by (with_reducible repeat' first | exact Same.refl _ _ _ | assumption | (refine Same.setCell ?_ (by first | omega | (simp; omega) | (simp; done) | (dsimp only; omega)) _) | (refine Same.alloc ?_ (by first | omega | (simp; omega) | (simp; done) | (dsimp only; omega)) _) | (refine Same.drewN ?_ _) | (refine Same.drew ?_) | (refine Same.trans ?_ (Same.of_below hb1 (by first | omega | (simp; omega) | (simp; done) | (dsimp only; omega))))))) (h2'.same (by (with_reducible repeat' first | exact Same.refl _ _ _ | assumption | (refine Same.setCell ?_ (by first | omega | (simp; omega) | (simp; done) | (dsimp only; omega)) _) | (refine Same.alloc ?_ (by first | omega | (simp; omega) | (simp; done) | (dsimp only; omega)) _) | (refine Same.drewN ?_ _) | (refine Same.drew ?_) | (refine Same.trans ?_ (Same.of_below hb1 (by first | omega | (simp; omega) | (simp; done) | (dsimp only; omega))))))) (by first | omega | (simp; omega) | (simp; done) | (dsimp only; omega)) (by first | omega | (simp; omega) | (simp; done) | (dsimp only; omega))).mono ?_); rintro e w2 ⟨rfl, hb2⟩; simp only [HU.out]))
    all_goals
      go_ret
      have hp := HP.out; have hu := HU.out
      first
        | exact ⟨ret_bool (by simp_all [eqB, str_eqR]), by (with_reducible repeat' first | exact Below.refl _ _ | assumption | (refine Below.setCell ?_ (by first | omega | (simp; omega) | (simp; done) | (dsimp only; omega)) _) | (refine Below.alloc ?_ (by first | omega | (simp; omega) | (simp; done) | (dsimp only; omega)) _) | (refine below_drewN ?_ _) | (refine Below.drew ?_) | (refine Below.trans ?_ (hb2.mono (by first | omega | (simp; omega) | (simp; done) | (dsimp only; omega)))) | (refine Below.trans ?_ (hb1.mono (by first | omega | (simp; omega) | (simp; done) | (dsimp only; omega)))))⟩
        | exact ⟨ret_bool (by simp_all [eqB, str_eqR]), by (with_reducible repeat' first | exact Below.refl _ _ | assumption | (refine Below.setCell ?_ (by first | omega | (simp; omega) | (simp; done) | (dsimp only; omega)) _) | (refine Below.alloc ?_ (by first | omega | (simp; omega) | (simp; done) | (dsimp only; omega)) _) | (refine below_drewN ?_ _) | (refine Below.drew ?_) | (refine Below.trans ?_ (hb1.mono (by first | omega | (simp; omega) | (simp; done) | (dsimp only; omega)))))⟩
        | exact ⟨ret_bool (by simp_all [eqB, str_eqR]), by (with_reducible repeat' first | exact Below.refl _ _ | assumption | (refine Below.setCell ?_ (by first | omega | (simp; omega) | (simp; done) | (dsimp only; omega)) _) | (refine Below.alloc ?_ (by first | omega | (simp; omega) | (simp; done) | (dsimp only; omega)) _) | (refine below_drewN ?_ _) | (refine Below.drew ?_))⟩
end Go.Proofs.Ytnnjilkjjdiblaa

/-! ## RuleM -/
namespace Go.Proofs.Ytnnjilkjjdiblaa
set_option maxRecDepth 100000
open Go.RowKit

/-- The first difference of two lists of steps: which comes first. -/
def lexC : List Step → List Step → Int
  | a :: r, b :: s => if a.kind ≠ b.kind then (if a.kind < b.kind then -1 else 1) else if a.age ≠ b.age then (if a.age < b.age then -1 else 1) else lexC r s
  | _, _ => 0
def beforeM (a b : List Step) : Bool := if a.length = b.length then decide (lexC a b < 0) else decide (a.length < b.length)
theorem lexC_cons (a b : Step) (r s : List Step) : lexC (a :: r) (b :: s) = if a.kind ≠ b.kind then (if a.kind < b.kind then -1 else 1) else if a.age ≠ b.age then (if a.age < b.age then -1 else 1) else lexC r s := rfl
theorem lexC_kind {a b : Step} {r s xs ys : List Step} {k : Nat} (he : lexC (xs.drop k) (ys.drop k) = lexC xs ys) (h1 : xs.drop k = a :: r) (h2 : ys.drop k = b :: s) (h : a.kind ≠ b.kind) : lexC xs ys = if a.kind < b.kind then -1 else 1 := by
  rw [← he, h1, h2, lexC_cons, if_pos h]
theorem lexC_age {a b : Step} {r s xs ys : List Step} {k : Nat} (he : lexC (xs.drop k) (ys.drop k) = lexC xs ys) (h1 : xs.drop k = a :: r) (h2 : ys.drop k = b :: s) (h : a.kind = b.kind) (h' : a.age ≠ b.age) : lexC xs ys = if a.age < b.age then -1 else 1 := by
  rw [← he, h1, h2, lexC_cons, if_neg (fun k => k h), if_pos h']
theorem lexC_next {a b : Step} {r s xs ys : List Step} {k : Nat} (he : lexC (xs.drop k) (ys.drop k) = lexC xs ys) (h1 : xs.drop k = a :: r) (h2 : ys.drop k = b :: s) (h : a.kind = b.kind) (h' : a.age = b.age) : lexC r s = lexC xs ys := by
  rw [← he, h1, h2, lexC_cons, if_neg (fun k => k h), if_neg (fun k => k h')]
theorem lexC_end {xs ys : List Step} {k : Nat} (he : lexC (xs.drop k) (ys.drop k) = lexC xs ys) (h1 : xs.length ≤ k) : lexC xs ys = 0 := by
  rw [← he, List.drop_eq_nil_of_le h1]; rfl
theorem lexC_range (xs : List Step) : ∀ ys : List Step, lexC xs ys = -1 ∨ lexC xs ys = 0 ∨ lexC xs ys = 1 := by
  induction xs with
  | nil => intro ys; exact .inr (.inl rfl)
  | cons a r ih =>
    intro ys
    cases ys with
    | nil => exact .inr (.inl rfl)
    | cons b s =>
      rw [lexC_cons]
      split
      · split <;> simp
      · split
        · split <;> simp
        · exact ih s
theorem beforeM_len {xs ys : List Step} (h : xs.length ≠ ys.length) : beforeM xs ys = decide (xs.length < ys.length) := if_neg h
theorem beforeM_lex {xs ys : List Step} (h : xs.length = ys.length) : beforeM xs ys = decide (lexC xs ys < 0) := if_pos h

/-- A sex to which the rule does not speak. -/
def skipR (r : Rule) (s : Int) : Bool := decide (r.sex ≠ 0 ∧ r.sex ≠ s) || !typeOk ⟨s, r.src⟩
/-- At a sex the rule leads from valid types to valid types of relatives of the same sex. -/
def sideR (r : Rule) (s : Int) : Bool := typeOk ⟨s, r.dst⟩ && decide (sexM ⟨s, r.src⟩ = sexM ⟨s, r.dst⟩)
def headOk (r : Rule) : Bool := nameOk r.name && decide (0 ≤ r.sex ∧ r.sex ≤ 2) && decide (0 ≤ r.place ∧ r.place ≤ 2) && decide (1 ≤ r.src.length ∧ r.src.length ≤ 4) && beforeM r.dst r.src
def ruleOk (r : Rule) : Bool := headOk r && (skipR r 1 || sideR r 1) && (skipR r 2 || sideR r 2) && !(skipR r 1 && skipR r 2)
/-- Some sex below s to which the rule speaks. -/
def someTo (r : Rule) (s : Nat) : Bool := (decide (1 < s) && !skipR r 1) || (decide (2 < s) && !skipR r 2)
def goodTo (r : Rule) (s : Nat) : Bool := (decide (s ≤ 1) || skipR r 1 || sideR r 1) && (decide (s ≤ 2) || skipR r 2 || sideR r 2)
theorem ruleOk_end {r : Rule} (h : headOk r = true) (hg : goodTo r 3 = true) : ruleOk r = someTo r 3 := by
  simp only [goodTo, Bool.and_eq_true, show decide (3 ≤ 1) = false from rfl, show decide (3 ≤ 2) = false from rfl, Bool.false_or] at hg
  simp only [ruleOk, h, someTo, hg.1, hg.2, show decide (1 < 3) = true from rfl, show decide (2 < 3) = true from rfl, Bool.true_and, Bool.and_true]
  cases skipR r 1 <;> cases skipR r 2 <;> rfl
theorem ruleOk_head {r : Rule} (h : headOk r = false) : ruleOk r = false := by simp [ruleOk, h]
theorem ruleOk_bad {r : Rule} {s : Nat} (hs : s = 1 ∨ s = 2) (h : skipR r s = false) (h' : sideR r s = false) : ruleOk r = false := by
  rcases hs with rfl | rfl
  · have h : skipR r 1 = false := h
    have h' : sideR r 1 = false := h'
    simp [ruleOk, h, h']
  · have h : skipR r 2 = false := h
    have h' : sideR r 2 = false := h'
    simp [ruleOk, h, h']
theorem goodTo_one (r : Rule) : goodTo r 1 = true := by simp [goodTo]
theorem someTo_one (r : Rule) : someTo r 1 = false := by simp [someTo]
theorem to_skip {r : Rule} {s : Nat} (hs : s = 1 ∨ s = 2) (h : skipR r s = true) (hg : goodTo r s = true) : goodTo r (s + 1) = true ∧ someTo r (s + 1) = someTo r s := by
  rcases hs with rfl | rfl
  · have h : skipR r 1 = true := h
    simp [goodTo, someTo, h]
  · have h : skipR r 2 = true := h
    simp [goodTo, someTo, h] at hg ⊢; exact hg
theorem to_side {r : Rule} {s : Nat} (hs : s = 1 ∨ s = 2) (h : skipR r s = false) (h' : sideR r s = true) (hg : goodTo r s = true) : goodTo r (s + 1) = true ∧ someTo r (s + 1) = true := by
  rcases hs with rfl | rfl
  · have h : skipR r 1 = false := h
    have h' : sideR r 1 = true := h'
    simp [goodTo, someTo, h, h']
  · have h : skipR r 2 = false := h
    have h' : sideR r 2 = true := h'
    simp [goodTo, someTo, h, h'] at hg ⊢; exact hg

/-! ### Lists of rules -/
def namesTo (xs : List Rule) (k : Nat) : List ByteArray := (xs.take k).map (·.name)
def hasN (l : List ByteArray) (s : ByteArray) : Bool := l.any fun t => eqB t s
theorem hasN_snoc (l : List ByteArray) (t s : ByteArray) : hasN (l ++ [t]) s = (hasN l s || eqB t s) := by simp [hasN]
/-- The first k rules are valid and have names of their own. -/
def rulesTo (xs : List Rule) : Nat → Bool
  | 0 => true
  | k + 1 => rulesTo xs k && (match xs[k]? with | none => true | some r => ruleOk r && !hasN (namesTo xs k) r.name)
def rulesOk (xs : List Rule) : Bool := decide (xs.length ≤ 12) && rulesTo xs xs.length
theorem rulesTo_succ {xs : List Rule} {k : Nat} {r : Rule} (h : xs[k]? = some r) : rulesTo xs (k + 1) = (rulesTo xs k && (ruleOk r && !hasN (namesTo xs k) r.name)) := by
  simp only [rulesTo, h]
theorem rulesTo_mono {xs : List Rule} {k : Nat} (h : rulesTo xs k = false) : ∀ j, k ≤ j → rulesTo xs j = false := by
  intro j
  induction j with
  | zero => intro hk; obtain rfl : k = 0 := by omega
            exact h
  | succ j ih =>
    intro hk
    by_cases hkj : k = j + 1
    · subst hkj; exact h
    · rw [rulesTo, ih (by omega)]; rfl
theorem rulesOk_no {xs : List Rule} {k : Nat} {r : Rule} (h : xs[k]? = some r) (hb : ruleOk r = false ∨ hasN (namesTo xs k) r.name = true) : rulesOk xs = false := by
  have h1 : rulesTo xs (k + 1) = false := by
    rw [rulesTo_succ h]
    rcases hb with hb | hb <;> simp [hb]
  rw [rulesOk, rulesTo_mono h1 _ (by have := (List.getElem?_eq_some_iff.1 h).1; omega)]
  simp
theorem rulesOk_len {xs : List Rule} (h : ¬ xs.length ≤ 12) : rulesOk xs = false := by simp [rulesOk, h]
theorem rulesOk_end {xs : List Rule} (h : xs.length ≤ 12) (h' : rulesTo xs xs.length = true) : rulesOk xs = true := by simp [rulesOk, h, h']
theorem rulesTo_at {xs : List Rule} : ∀ {n k : Nat} {r : Rule}, rulesTo xs n = true → k < n → xs[k]? = some r → ruleOk r = true := by
  intro n
  induction n with
  | zero => intro k r _ h; omega
  | succ n ih =>
    intro k r h hk hx
    rw [rulesTo, Bool.and_eq_true] at h
    by_cases hkn : k = n
    · subst hkn
      have h2 := h.2
      rw [hx] at h2
      simp only [Bool.and_eq_true] at h2
      exact h2.1
    · exact ih h.1 (by omega) hx
theorem rulesOk_at {xs : List Rule} {k : Nat} {r : Rule} (h : rulesOk xs = true) (hx : xs[k]? = some r) : ruleOk r = true := by
  simp only [rulesOk, Bool.and_eq_true, decide_eq_true_eq] at h
  exact rulesTo_at h.2 (List.getElem?_eq_some_iff.1 hx).1 hx
theorem rulesOk_le {xs : List Rule} (h : rulesOk xs = true) : xs.length ≤ 12 := by
  simp only [rulesOk, Bool.and_eq_true, decide_eq_true_eq] at h; exact h.1
theorem namesTo_succ {xs : List Rule} {k : Nat} {r : Rule} (h : xs[k]? = some r) : namesTo xs (k + 1) = namesTo xs k ++ [r.name] := by
  simp [namesTo, List.take_add_one, h]
/-- What is known of a valid rule. -/
theorem ruleOk_parts {r : Rule} (h : ruleOk r = true) : headOk r = true ∧ nameOk r.name = true ∧ 0 ≤ r.sex ∧ r.sex ≤ 2 ∧ 0 ≤ r.place ∧ r.place ≤ 2 ∧ 1 ≤ r.src.length ∧ r.src.length ≤ 4 ∧ r.dst.length ≤ 4 := by
  simp only [ruleOk, Bool.and_eq_true] at h
  have h1 := h.1.1.1
  have h2 := h1
  simp only [headOk, Bool.and_eq_true, decide_eq_true_eq] at h2
  obtain ⟨⟨⟨⟨a, b⟩, c⟩, d⟩, e⟩ := h2
  refine ⟨h1, a, b.1, b.2, c.1, c.2, d.1, d.2, ?_⟩
  unfold beforeM at e
  split at e
  · omega
  · simp at e; omega
end Go.Proofs.Ytnnjilkjjdiblaa

/-! ## RuleC -/
namespace Go.Proofs.Ytnnjilkjjdiblaa
set_option maxRecDepth 100000
open Go.RowKit

def cmpI (a b : Int) : Int := if a < b then -1 else if b < a then 1 else 0
theorem cmpI_lt {a b : Int} (h : a < b) : cmpI a b = -1 := if_pos h
theorem cmpI_gt {a b : Int} (h : b < a) : cmpI a b = 1 := by rw [cmpI, if_neg (by omega), if_pos h]
theorem cmpI_eq (a : Int) : cmpI a a = 0 := by rw [cmpI, if_neg (by omega), if_neg (by omega)]
theorem cmpI_ne {a b : Int} (h : a ≠ b) : cmpI a b = if a < b then -1 else 1 := by
  by_cases h1 : a < b
  · rw [cmpI_lt h1, if_pos h1]
  · rw [cmpI_gt (by omega), if_neg h1]
theorem compareInts_any (a b : Int) (w : World) : Calls Try.prog 219 #[.int .i64 a, .int .i64 b] w fun e w' => e = .returned (.int .i64 (cmpI a b)) ∧ w = w' := by
  by_cases h1 : a < b
  · have HC := Lib.hid (cmpI_lt h1)
    go_enter Try.func219, Try.ntmps219
    go_wp2
    go_ret
    exact ⟨ret_int (by rw [HC.out]), rfl⟩
  · by_cases h2 : b < a
    · have HC := Lib.hid (cmpI_gt h2)
      go_enter Try.func219, Try.ntmps219
      go_wp2
      go_ret
      exact ⟨ret_int (by rw [HC.out]), rfl⟩
    · obtain rfl : a = b := by omega
      go_enter Try.func219, Try.ntmps219
      go_wp2
      go_ret
      exact ⟨ret_int (by rw [cmpI_eq]), rfl⟩
theorem quiet_add_left {P : Program} {f : FuncId} {args : Array Value} {w : World} {a n : Nat} {v : Value}
    (h : Calls P f args (w.drewN (a + n)) fun e w' => e = .returned v ∧ w.drewN (a + n) = w') :
    Calls P f args (w.drewN (a + n)) fun e w'' => e = .returned v ∧ ∃ m, w'' = w.drewN (a + m) :=
  h.mono fun _ _ ⟨he, hm⟩ => ⟨he, n, hm.symm⟩

def LexRel (xs ys : List Step) (w : World) (i : Value) (wr : World) : Prop :=
  ∃ (k n : Nat), k ≤ xs.length ∧ i = .int .i64 k ∧ wr = w.drewN n ∧ lexC (xs.drop k) (ys.drop k) = lexC xs ys

set_option maxHeartbeats 1000000 in
theorem compareSteps_any (A B : Option Addr) (c d lo hi lo' hi' : Nat) (xs ys : List Step) (w : World) (h : EStep.AS w lo hi A xs) (h' : EStep.AS w lo' hi' B ys) (hn : xs.length = ys.length) :
    Calls Try.prog 193 #[.slice A xs.length c, .slice B ys.length d] w fun e w' => ∃ n, e = .returned (.int .i64 (lexC xs ys)) ∧ w.drewN n = w' := by
  have hx := h.le
  unfold BIG at hx
  have n1 : xs.length ≤ ys.length := by omega
  have n2 : ys.length ≤ xs.length := by omega
  have HN := Lib.hid hn; clear hn
  go_enter Try.func193, Try.ntmps193
  go_wp2
  go_loopw [5] (fun i wr => LexRel xs ys w i wr) (fun i _ => xs.length - (intOf i).toNat)
  case atStart => exact ⟨0, 0, Nat.zero_le _, rfl, rfl, by simp⟩
  case round =>
    obtain ⟨k, n, hk, rfl, hw, he⟩ := hrel
    have HE := Lib.hid he; clear he
    have h := hw ▸ h.drewN n; have h' := hw ▸ h'.drewN n
    have HW := Lib.hid hw; clear hw
    by_cases hlt : k < xs.length
    · obtain ⟨b1, o1, ⟨x, y⟩, rfl, l1, m1, hd1, _, hc1, hc2⟩ := AStep.at_ h hlt
      obtain ⟨b2, o2, ⟨x', y'⟩, rfl, l2, m2, hd2, _, hc3, hc4⟩ := AStep.at_ h' (by omega : k < ys.length)
      have HD1 := Lib.hid hd1; have HD2 := Lib.hid hd2; clear hd1 hd2
      simp only at hc1 hc2 hc3 hc4
      have q1 : (0 : Int) ≤ (k : Int) := by omega
      have q2 : (k : Int) < (xs.length : Int) := by omega
      have q3 : (k : Int) < (ys.length : Int) := by omega
      by_cases hxx : x = x'
      · have HXX := Lib.hid hxx
        have nx : (x != x') = false := by simp [hxx]
        clear hxx
        by_cases hyy : y = y'
        · have HYY := Lib.hid hyy
          have ny : (y != y') = false := by simp [hyy]
          clear hyy
          go_wp2
          go_quiet (fail)
          go_wp2
          go_quiet (fail)
          go_wp2
          exact ⟨⟨k + 1, _, by omega, by go_num, by rw [HW.out]; (try simp only [World.drewN_drewN]); rfl, lexC_next HE.out HD1.out HD2.out HXX.out HYY.out⟩, by simp [intOf]; omega⟩
        · have HYY := Lib.hid hyy
          have ny : (y != y') = true := by simp [hyy]
          clear hyy
          go_wp2
          go_quiet (fail)
          go_wp2
          go_quiet (fail)
          go_wp2
          go_quiet ((go_at_call 219; exact quiet_add_left (compareInts_any y y' _)))
          go_wp2
          go_ret
          exact ⟨_, ret_int (by rw [lexC_age HE.out HD1.out HD2.out HXX.out HYY.out, cmpI_ne HYY.out]), by rw [HW.out]; (try simp only [World.drewN_drewN]); rfl⟩
      · have HXX := Lib.hid hxx
        have nx : (x != x') = true := by simp [hxx]
        clear hxx
        go_wp2
        go_quiet (fail)
        go_wp2
        go_quiet ((go_at_call 219; exact quiet_add_left (compareInts_any x x' _)))
        go_wp2
        go_ret
        exact ⟨_, ret_int (by rw [lexC_kind HE.out HD1.out HD2.out HXX.out, cmpI_ne HXX.out]), by rw [HW.out]; (try simp only [World.drewN_drewN]); rfl⟩
    · have HL := Lib.hid (lexC_end HE.out (by omega))
      go_wp2_with (go_at_call 219; refine (compareInts_any _ _ _).mono ?_; rintro e w1 ⟨rfl, rfl⟩)
      go_ret
      exact ⟨_, ret_int (by rw [HL.out, HN.out, cmpI_eq]), HW.out.symm⟩

set_option maxHeartbeats 1000000 in
theorem l4Before_any (A B : Option Addr) (c d lo hi lo' hi' : Nat) (xs ys : List Step) (w : World) (h : EStep.AS w lo hi A xs) (h' : EStep.AS w lo' hi' B ys) :
    Calls Try.prog 189 #[.slice A xs.length c, .slice B ys.length d] w fun e w' => ∃ n, e = .returned (.bool (beforeM xs ys)) ∧ w.drewN n = w' := by
  have hx := h.le; have hy := h'.le
  unfold BIG at hx hy
  by_cases hn : xs.length = ys.length
  · have n1 : xs.length ≤ ys.length := by omega
    have n2 : ys.length ≤ xs.length := by omega
    have HB := Lib.hid (beforeM_lex hn)
    clear hn
    have nb : ((xs.length : Int) != (ys.length : Int)) = false := by simp; omega
    go_enter Try.func189, Try.ntmps189
    go_wp2
    go_loopw [18] (fun i wr => LexRel xs ys w i wr) (fun i _ => xs.length - (intOf i).toNat)
    case atStart => exact ⟨0, 0, Nat.zero_le _, rfl, rfl, by simp⟩
    case round =>
      obtain ⟨k, n, hk, rfl, hw, he⟩ := hrel
      have HE := Lib.hid he; clear he
      have h := hw ▸ h.drewN n; have h' := hw ▸ h'.drewN n
      have HW := Lib.hid hw; clear hw
      by_cases hlt : k < xs.length
      · obtain ⟨b1, o1, ⟨x, y⟩, rfl, l1, m1, hd1, _, hc1, hc2⟩ := AStep.at_ h hlt
        obtain ⟨b2, o2, ⟨x', y'⟩, rfl, l2, m2, hd2, _, hc3, hc4⟩ := AStep.at_ h' (by omega : k < ys.length)
        have HD1 := Lib.hid hd1; have HD2 := Lib.hid hd2; clear hd1 hd2
        simp only at hc1 hc2 hc3 hc4
        have q1 : (0 : Int) ≤ (k : Int) := by omega
        have q2 : (k : Int) < (xs.length : Int) := by omega
        have q3 : (k : Int) < (ys.length : Int) := by omega
        by_cases hxx : x = x'
        · have HXX := Lib.hid hxx
          have nx : (x != x') = false := by simp [hxx]
          clear hxx
          by_cases hyy : y = y'
          · have HYY := Lib.hid hyy
            have ny : (y != y') = false := by simp [hyy]
            clear hyy
            go_wp2
            go_quiet (fail)
            go_wp2
            go_quiet (fail)
            go_wp2
            exact ⟨⟨k + 1, _, by omega, by go_num, by rw [HW.out]; (try simp only [World.drewN_drewN]); rfl, lexC_next HE.out HD1.out HD2.out HXX.out HYY.out⟩, by simp [intOf]; omega⟩
          · have HYY := Lib.hid hyy
            have ny : (y != y') = true := by simp [hyy]
            clear hyy
            go_wp2
            go_quiet (fail)
            go_wp2
            go_quiet (fail)
            go_wp2
            go_quiet (fail)
            go_wp2
            all_goals
              go_ret
              exact ⟨_, ret_bool (by rw [HB.out, lexC_age HE.out HD1.out HD2.out HXX.out HYY.out]; have := HYY.out; simp only at this ⊢; split <;> simp <;> omega), by rw [HW.out]; (try simp only [World.drewN_drewN]); rfl⟩
        · have HXX := Lib.hid hxx
          have nx : (x != x') = true := by simp [hxx]
          clear hxx
          go_wp2
          go_quiet (fail)
          go_wp2
          go_quiet (fail)
          go_wp2
          all_goals
            go_ret
            exact ⟨_, ret_bool (by rw [HB.out, lexC_kind HE.out HD1.out HD2.out HXX.out]; have := HXX.out; simp only at this ⊢; split <;> simp <;> omega), by rw [HW.out]; (try simp only [World.drewN_drewN]); rfl⟩
      · have HL := Lib.hid (lexC_end HE.out (by omega))
        go_wp2
        go_ret
        exact ⟨_, ret_bool (by rw [HB.out, HL.out]; first | done | rfl), HW.out.symm⟩
  · have HB := Lib.hid (beforeM_len hn)
    have nb : ((xs.length : Int) != (ys.length : Int)) = true := by simp; omega
    clear hn
    go_enter Try.func189, Try.ntmps189
    go_wp2
    all_goals
      go_ret
      exact ⟨0, ret_bool (by rw [HB.out]; first | done | rfl | (simp; done) | (simp; omega)), rfl⟩
end Go.Proofs.Ytnnjilkjjdiblaa
