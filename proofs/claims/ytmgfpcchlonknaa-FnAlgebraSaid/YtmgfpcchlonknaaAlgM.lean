/-
  The algebra of relations: the plain law. No program in sight.
-/
import Derived.Test.YtmgfpcchlonknaaClos2
import Derived.Test.YtmgfpcchlonknaaWithin
import Derived.Test.YtmgfpcchlonknaaRelOf
import Derived.Test.YtmgfpcchlonknaaComp2
namespace Go.Proofs.Ytmgfpcchlonknaa
set_option maxRecDepth 100000
open Go.RowKit

def relP (n : Nat) (p : Nat → Nat → Bool) : Relation := ⟨n, relM n p⟩
theorem mem_idxTo {q : Nat → Bool} {k : Nat} {x : Int} : x ∈ idxTo q k ↔ ∃ b : Nat, b < k ∧ q b = true ∧ (b : Int) = x := by
  simp [idxTo, and_assoc]
theorem hasB_idx (q : Nat → Bool) (n b : Nat) : hasB (idxTo q n) b = (decide (b < n) && q b) := by
  rw [Bool.eq_iff_iff]
  simp only [hasB, decide_eq_true_eq, mem_idxTo, Bool.and_eq_true]
  constructor
  · rintro ⟨c, h1, h2, h3⟩
    obtain rfl : c = b := by omega
    exact ⟨h1, h2⟩
  · rintro ⟨h1, h2⟩
    exact ⟨b, h1, h2, rfl⟩
theorem rowOk_snoc {n : Int} {xs : List Int} {y : Int} : ∀ {last : Int}, rowOk n last xs = true → (∀ x ∈ xs, x < y) → last < y → y < n → rowOk n last (xs ++ [y]) = true := by
  induction xs with
  | nil => intro last _ _ h1 h2; simp [rowOk]; omega
  | cons b r ih =>
    intro last h hx h1 h2
    rw [List.cons_append, rowOk]
    rw [rowOk] at h
    split at h
    · cases h
    · rename_i hc
      rw [if_neg hc]
      exact ih h (fun x hm => hx x (by simp [hm])) (hx b (by simp)) h2
theorem rowOk_idx (q : Nat → Bool) (n : Nat) : ∀ k, k ≤ n → rowOk (n : Int) (-1) (idxTo q k) = true := by
  intro k
  induction k with
  | zero => intro _; rfl
  | succ k ih =>
    intro hk
    rw [idxTo_succ]
    split
    · refine rowOk_snoc (ih (by omega)) (fun x hx => ?_) (by omega) (by omega)
      obtain ⟨b, h1, _, h3⟩ := mem_idxTo.1 hx
      omega
    · exact ih (by omega)
theorem rowsOk_of {n : Int} {xs : List (List Int)} (h : ∀ x ∈ xs, rowOk n (-1) x = true) : rowsOk n xs = true := by
  induction xs with
  | nil => rfl
  | cons x r ih => simp only [rowsOk, Bool.and_eq_true]; exact ⟨h x (by simp), ih fun y hy => h y (by simp [hy])⟩
theorem relOk_relP {n : Nat} (p : Nat → Nat → Bool) (hn : n ≤ 40) : relOk ⟨(n : Int), relM n p⟩ = true := by
  simp only [relOk, Bool.and_eq_true, decide_eq_true_eq, relM_len]
  refine ⟨⟨by omega, by omega, trivial⟩, rowsOk_of fun x hx => ?_⟩
  obtain ⟨a, _, rfl⟩ := List.mem_map.1 hx
  exact rowOk_idx _ n n (Nat.le_refl _)
theorem bothOk_relP {n : Nat} (p q : Nat → Nat → Bool) (hn : n ≤ 40) : bothOk ⟨(n : Int), relM n p⟩ ⟨(n : Int), relM n q⟩ = true := by
  simp [bothOk, relOk_relP _ hn]
theorem relM_at {n a : Nat} (p : Nat → Nat → Bool) (ha : a < n) : (relM n p)[a]? = some (idxTo (p a) n) := by simp [relM, relTo, ha]
theorem gridP_relM {n a b : Nat} (p : Nat → Nat → Bool) (ha : a < n) (hb : b < n) : gridP (relM n p) a b = p a b := by
  rw [gridP_at (relM_at p ha), hasB_idx]; simp [hb]
theorem stepP_congr {n a b : Nat} {p p' q q' : Nat → Nat → Bool} (ha : a < n) (hb : b < n) (h : ∀ a b, a < n → b < n → p a b = p' a b) (h' : ∀ a b, a < n → b < n → q a b = q' a b) : stepP n p q a b = stepP n p' q' a b := by
  unfold stepP
  rw [Bool.eq_iff_iff]
  simp only [List.any_eq_true, List.mem_range, Bool.and_eq_true]
  constructor <;> rintro ⟨c, hc, h1, h2⟩
  · exact ⟨c, hc, by rw [← h a c ha hc]; exact h1, by rw [← h' c b hc hb]; exact h2⟩
  · exact ⟨c, hc, by rw [h a c ha hc]; exact h1, by rw [h' c b hc hb]; exact h2⟩
theorem compM_relP {n : Nat} (p q : Nat → Nat → Bool) (hn : n ≤ 40) : compM ⟨(n : Int), relM n p⟩ ⟨(n : Int), relM n q⟩ = relP n (stepP n p q) := by
  rw [compM_in (bothOk_relP p q hn), relP, relM_congr fun a b ha hb => stepP_congr ha hb (fun a b ha hb => gridP_relM p ha hb) (fun a b ha hb => gridP_relM q ha hb)]
theorem convM_relP {n : Nat} (p : Nat → Nat → Bool) (hn : n ≤ 40) : convM ⟨(n : Int), relM n p⟩ = relP n fun a b => p b a := by
  rw [convM_in (relOk_relP p hn), relP, relM_congr fun a b ha hb => gridP_relM p hb ha]
theorem mixM_relP {n : Nat} (f : Bool → Bool → Bool) (p q : Nat → Nat → Bool) (hn : n ≤ 40) : mixM f ⟨(n : Int), relM n p⟩ ⟨(n : Int), relM n q⟩ = relP n fun a b => f (p a b) (q a b) := by
  rw [mixM_in (bothOk_relP p q hn), relP, relM_congr fun a b ha hb => by rw [gridP_relM p ha hb, gridP_relM q ha hb]]
theorem equalM_relP {n : Nat} {p q : Nat → Nat → Bool} (hn : n ≤ 40) (h : ∀ a b, a < n → b < n → p a b = q a b) : equalM ⟨(n : Int), relM n p⟩ ⟨(n : Int), relM n q⟩ = true := by
  rw [relM_congr h]
  simp [equalM, bothOk_relP q q hn, eqB_refl]
theorem pairsM_relP {n : Nat} (p : Nat → Nat → Bool) (hn : n ≤ 40) : pairsM ⟨(n : Int), relM n p⟩ = pairsUp (relM n p) n := pairsM_in (relOk_relP p hn)
theorem mem_pairs {n : Nat} {p : Nat → Nat → Bool} {x : Pair} (h : x ∈ pairsUp (relM n p) n) : ∃ a b : Nat, a < n ∧ b < n ∧ p a b = true ∧ x = ⟨a, b⟩ := by
  obtain ⟨a, row, ha, hr, h1, h2⟩ := pairsUp_of (by rw [relM_len]; exact Nat.le_refl _) h
  rw [relM_at p ha] at hr
  injection hr with hr
  subst hr
  obtain ⟨b, hb, hp, hx⟩ := mem_idxTo.1 h2
  refine ⟨a, b, ha, hb, hp, ?_⟩
  cases x; simp_all
theorem pairs_mem {n a b : Nat} {p : Nat → Nat → Bool} (ha : a < n) (hb : b < n) (h : p a b = true) : (⟨a, b⟩ : Pair) ∈ pairsUp (relM n p) n :=
  pairsUp_mem ha (relM_at p ha) (mem_idxTo.2 ⟨b, hb, h, rfl⟩)
theorem withinM_relP {n : Nat} {p q : Nat → Nat → Bool} (hn : n ≤ 40) (h : ∀ a b, a < n → b < n → p a b = true → q a b = true) : withinM ⟨(n : Int), relM n p⟩ ⟨(n : Int), relM n q⟩ = true := by
  simp only [withinM, Bool.and_eq_true, bothOk_relP p q hn, true_and, List.all_eq_true, pairsM_relP p hn]
  intro x hx
  obtain ⟨a, b, ha, hb, hp, rfl⟩ := mem_pairs hx
  have := gridP_relM q ha hb
  simp only [inP]
  rw [show ((a : Int)).toNat = a from by omega]
  unfold gridP at this
  rw [this]; exact h a b ha hb hp
theorem relOf_pairs {n : Nat} (p : Nat → Nat → Bool) (hn : n ≤ 40) : relOfM n (pairsUp (relM n p) n) = (relP n p, true) := by
  rw [relOfM_in hn]
  · rw [relP, relM_congr (p := hasP _) (q := p) fun a b ha hb => ?_]
    rw [Bool.eq_iff_iff]
    simp only [hasP, decide_eq_true_eq]
    constructor
    · intro h
      obtain ⟨a', b', _, _, hp, he⟩ := mem_pairs h
      injection he with h1 h2
      obtain rfl : a = a' := by omega
      obtain rfl : b = b' := by omega
      exact hp
    · exact fun h => pairs_mem ha hb h
  · rw [List.all_eq_true]
    intro x hx
    obtain ⟨a, b, ha, hb, _, rfl⟩ := mem_pairs hx
    simp [pairOk, inB]; omega

/-! ### The laws of composition -/
theorem stepP_iff {n a c : Nat} {p q : Nat → Nat → Bool} : stepP n p q a c = true ↔ ∃ b, b < n ∧ p a b = true ∧ q b c = true := by simp [stepP]
theorem step_assoc (n : Nat) (p q r : Nat → Nat → Bool) (a b : Nat) (_ha : a < n) (_hb : b < n) : stepP n (stepP n p q) r a b = stepP n p (stepP n q r) a b := by
  rw [Bool.eq_iff_iff]
  simp only [stepP_iff]
  constructor
  · rintro ⟨c, hc, ⟨d, hd, h1, h2⟩, h3⟩; exact ⟨d, hd, h1, c, hc, h2, h3⟩
  · rintro ⟨d, hd, h1, c, hc, h2, h3⟩; exact ⟨c, hc, ⟨d, hd, h1, h2⟩, h3⟩
theorem step_conv (n : Nat) (p q : Nat → Nat → Bool) (a b : Nat) (_ha : a < n) (_hb : b < n) : stepP n p q b a = stepP n (fun a b => q b a) (fun a b => p b a) a b := by
  rw [Bool.eq_iff_iff]
  simp only [stepP_iff]
  constructor <;> rintro ⟨c, hc, h1, h2⟩ <;> exact ⟨c, hc, h2, h1⟩
theorem step_join (n : Nat) (p q r : Nat → Nat → Bool) (a b : Nat) (_ha : a < n) (_hb : b < n) : stepP n p (fun a b => q a b || r a b) a b = (stepP n p q a b || stepP n p r a b) := by
  rw [Bool.eq_iff_iff]
  simp only [stepP_iff, Bool.or_eq_true]
  constructor
  · rintro ⟨c, hc, h1, h2 | h2⟩
    · exact .inl ⟨c, hc, h1, h2⟩
    · exact .inr ⟨c, hc, h1, h2⟩
  · rintro (⟨c, hc, h1, h2⟩ | ⟨c, hc, h1, h2⟩)
    · exact ⟨c, hc, h1, .inl h2⟩
    · exact ⟨c, hc, h1, .inr h2⟩
theorem step_modular (n : Nat) (p q r : Nat → Nat → Bool) (a b : Nat) (_ha : a < n) (hb : b < n) (h : (stepP n p q a b && r a b) = true) :
    stepP n (fun a b => p a b && stepP n r (fun a b => q b a) a b) q a b = true := by
  rw [Bool.and_eq_true] at h
  obtain ⟨h, hr⟩ := h
  obtain ⟨c, hc, h1, h2⟩ := stepP_iff.1 h
  exact stepP_iff.2 ⟨c, hc, by rw [Bool.and_eq_true]; exact ⟨h1, stepP_iff.2 ⟨b, hb, hr, h2⟩⟩, h2⟩
theorem step_ident (n : Nat) (p : Nat → Nat → Bool) (a b : Nat) (_ha : a < n) (hb : b < n) : stepP n p (fun a b => a == b) a b = p a b := by
  rw [Bool.eq_iff_iff]
  simp only [stepP_iff, beq_iff_eq]
  constructor
  · rintro ⟨c, _, h1, rfl⟩; exact h1
  · exact fun h => ⟨b, hb, h, rfl⟩
theorem less_meet (p q : Bool) : ((p && !q) || (p && q)) = p := by cases p <;> cases q <;> rfl

/-! ### The closure -/
/-- What one round of the closure leaves: a place holds what it held, or leads by way of k. -/
theorem closB_at {p q : Nat → Nat → Bool} {k a : Nat} (hk : ∀ i, q i k = p i k) (hk' : ∀ j, q k j = p k j)
    (hq : ∀ i j, q i j = p i j ∨ q i j = (p i j || (p i k && p k j))) : ∀ b, (∀ i, closB q k a b i k = p i k) ∧ (∀ j, closB q k a b k j = p k j) ∧
      (∀ i j, closB q k a b i j = if i = a ∧ j < b then (p i j || (p i k && p k j)) else q i j) := by
  intro b
  induction b with
  | zero => exact ⟨hk, hk', fun i j => by rw [if_neg (by omega)]; rfl⟩
  | succ b ih =>
    obtain ⟨i1, i2, i3⟩ := ih
    have e : ∀ i j, closB q k a (b + 1) i j = if i = a ∧ j < b + 1 then (p i j || (p i k && p k j)) else q i j := by
      intro i j
      show stepC (closB q k a b) k a b i j = _
      unfold stepC upd
      by_cases hij : i = a ∧ j = b
      · obtain ⟨rfl, rfl⟩ := hij
        rw [if_pos ⟨rfl, rfl⟩, if_pos ⟨rfl, by omega⟩, i1, i2, i3, if_neg (by omega)]
        rcases hq i j with h | h <;> rw [h] <;> cases p i j <;> cases p i k <;> cases p k j <;> rfl
      · rw [if_neg hij, i3]
        by_cases h : i = a ∧ j < b
        · rw [if_pos h, if_pos ⟨h.1, by omega⟩]
        · rw [if_neg h, if_neg (by omega)]
    refine ⟨fun i => ?_, fun j => ?_, e⟩
    · rw [e]
      split
      · cases p i k <;> cases p k k <;> rfl
      · exact hk i
    · rw [e]
      split
      · cases p k j <;> cases p k k <;> rfl
      · exact hk' j
theorem closA_at {n : Nat} {p : Nat → Nat → Bool} {k : Nat} : ∀ a, (∀ i, closA n p k a i k = p i k) ∧ (∀ j, closA n p k a k j = p k j) ∧
      (∀ i j, closA n p k a i j = if i < a ∧ j < n then (p i j || (p i k && p k j)) else p i j) := by
  intro a
  induction a with
  | zero => exact ⟨fun _ => rfl, fun _ => rfl, fun i j => by rw [if_neg (by omega)]; rfl⟩
  | succ a ih =>
    obtain ⟨i1, i2, i3⟩ := ih
    obtain ⟨j1, j2, j3⟩ := closB_at (a := a) i1 i2 (fun i j => by rw [i3]; split <;> simp) n
    refine ⟨j1, j2, fun i j => ?_⟩
    show closB (closA n p k a) k a n i j = _
    rw [j3, i3]
    by_cases h1 : i = a ∧ j < n
    · rw [if_pos h1, if_pos (by omega)]
    · rw [if_neg h1]
      by_cases h2 : i < a ∧ j < n
      · rw [if_pos h2, if_pos (by omega)]
      · rw [if_neg h2, if_neg (by omega)]
theorem closK_succ {n : Nat} {p : Nat → Nat → Bool} {k i j : Nat} (hi : i < n) (hj : j < n) : closK n p (k + 1) i j = (closK n p k i j || (closK n p k i k && closK n p k k j)) := by
  show closA n (closK n p k) k n i j = _
  rw [(closA_at n).2.2, if_pos ⟨hi, hj⟩]
theorem closK_has {n : Nat} {p : Nat → Nat → Bool} {i j : Nat} (hi : i < n) (hj : j < n) (h : p i j = true) : ∀ k, closK n p k i j = true := by
  intro k
  induction k with
  | zero => exact h
  | succ k ih => rw [closK_succ hi hj, ih]; rfl
theorem closK_trans {n : Nat} {p : Nat → Nat → Bool} : ∀ k, k ≤ n → ∀ a i b, a < n → b < n → i < k → closK n p k a i = true → closK n p k i b = true → closK n p k a b = true := by
  intro k
  induction k with
  | zero => intro _ a i b _ _ hi; omega
  | succ k ih =>
    intro hk a i b ha hb hi h1 h2
    rw [closK_succ ha (by omega)] at h1
    rw [closK_succ (by omega) hb] at h2
    rw [closK_succ ha hb]
    have T := ih (by omega)
    rcases Nat.lt_or_ge i k with hik | hik
    · have T1 : closK n p k a i = true → closK n p k i b = true → closK n p k a b = true := T a i b ha hb hik
      have T2 : closK n p k a i = true → closK n p k i k = true → closK n p k a k = true := T a i k ha (by omega) hik
      have T3 : closK n p k k i = true → closK n p k i b = true → closK n p k k b = true := T k i b (by omega) hb hik
      have T4 : closK n p k k i = true → closK n p k i k = true → closK n p k k k = true := T k i k (by omega) (by omega) hik
      revert h1 h2 T1 T2 T3 T4
      generalize closK n p k a i = x1
      generalize closK n p k i b = x2
      generalize closK n p k a b = x3
      generalize closK n p k a k = x4
      generalize closK n p k i k = x5
      generalize closK n p k k i = x6
      generalize closK n p k k b = x7
      generalize closK n p k k k = x8
      cases x1 <;> cases x2 <;> cases x3 <;> cases x4 <;> cases x5 <;> cases x6 <;> cases x7 <;> simp
    · obtain rfl : i = k := by omega
      revert h1 h2
      generalize closK n p i a i = x1
      generalize closK n p i i b = x2
      generalize closK n p i a b = x3
      generalize closK n p i i i = x4
      cases x1 <;> cases x2 <;> cases x3 <;> cases x4 <;> simp
theorem closK_least {n : Nat} {p q : Nat → Nat → Bool} (hq : ∀ a b, a < n → b < n → p a b = true → q a b = true) (ht : ∀ a i b, a < n → i < n → b < n → q a i = true → q i b = true → q a b = true) :
    ∀ k, k ≤ n → ∀ a b, a < n → b < n → closK n p k a b = true → q a b = true := by
  intro k
  induction k with
  | zero => exact fun _ a b ha hb h => hq a b ha hb h
  | succ k ih =>
    intro hk a b ha hb h
    rw [closK_succ ha hb] at h
    simp only [Bool.or_eq_true, Bool.and_eq_true] at h
    rcases h with h | ⟨h1, h2⟩
    · exact ih (by omega) a b ha hb h
    · exact ht a k b ha (by omega) hb (ih (by omega) a k ha (by omega) h1) (ih (by omega) k b (by omega) hb h2)
theorem clos_has {n : Nat} {p : Nat → Nat → Bool} (a b : Nat) (ha : a < n) (hb : b < n) (h : p a b = true) : closP n p a b = true := closK_has ha hb h n
theorem clos_trans {n : Nat} {p : Nat → Nat → Bool} {a i b : Nat} (ha : a < n) (hi : i < n) (hb : b < n) (h1 : closP n p a i = true) (h2 : closP n p i b = true) : closP n p a b = true := closK_trans n (Nat.le_refl _) a i b ha hb hi h1 h2
theorem clos_step {n : Nat} {p : Nat → Nat → Bool} (a b : Nat) (ha : a < n) (hb : b < n) (h : stepP n (closP n p) (closP n p) a b = true) : closP n p a b = true := by
  obtain ⟨c, hc, h1, h2⟩ := stepP_iff.1 h
  exact clos_trans ha hc hb h1 h2
theorem clos_least {n : Nat} {p q : Nat → Nat → Bool} (hq : ∀ a b, a < n → b < n → p a b = true → q a b = true) (ht : ∀ a i b, a < n → i < n → b < n → q a i = true → q i b = true → q a b = true) (a b : Nat) (ha : a < n) (hb : b < n)
    (h : closP n p a b = true) : q a b = true := closK_least hq ht n (Nat.le_refl _) a b ha hb h
theorem clos_clos {n : Nat} {p : Nat → Nat → Bool} (a b : Nat) (ha : a < n) (hb : b < n) : closP n (closP n p) a b = closP n p a b := by
  rw [Bool.eq_iff_iff]
  exact ⟨clos_least (fun _ _ _ _ h => h) (fun _ _ _ h1 h2 h3 h4 h5 => clos_trans h1 h2 h3 h4 h5) a b ha hb, clos_has a b ha hb⟩
theorem clos_join {n : Nat} {p q : Nat → Nat → Bool} (a b : Nat) (ha : a < n) (hb : b < n) (h : closP n p a b = true) : closP n (fun a b => p a b || q a b) a b = true :=
  clos_least (fun a b ha hb h => clos_has a b ha hb (by simp [h])) (fun _ _ _ h1 h2 h3 h4 h5 => clos_trans h1 h2 h3 h4 h5) a b ha hb h
theorem closM_relP {n : Nat} (p : Nat → Nat → Bool) (hn : n ≤ 40) : closM ⟨(n : Int), relM n p⟩ = relP n (closP n p) := by
  rw [closM_in (relOk_relP p hn), relP, relM_congr fun a b ha hb => ?_]
  have hg : ∀ a b, a < n → b < n → gridP (relM n p) a b = p a b := fun a b ha hb => gridP_relM p ha hb
  rw [Bool.eq_iff_iff]
  exact ⟨clos_least (fun a b ha hb h => clos_has a b ha hb (by rw [← hg a b ha hb]; exact h)) (fun _ _ _ h1 h2 h3 h4 h5 => clos_trans h1 h2 h3 h4 h5) a b ha hb,
    clos_least (fun a b ha hb h => clos_has a b ha hb (by rw [hg a b ha hb]; exact h)) (fun _ _ _ h1 h2 h3 h4 h5 => clos_trans h1 h2 h3 h4 h5) a b ha hb⟩
end Go.Proofs.Ytmgfpcchlonknaa
