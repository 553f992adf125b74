/-
  Where a step leads in a family: models.
  Where a kin type leads in a family: models.
-/
import Derived.Test.YthpcippgifmabaaGFam
import Derived.Test.YthpcippgifmabaaTyp2
import Derived.Test.YthpcippgifmabaaGAlg

/-! ## Lead -/
namespace Go.Proofs.Ythpcippgifmabaa
set_option maxRecDepth 100000
open Go.RowKit

def fullOf (x y : Person) (a b : Nat) : Bool := decide (a ≠ b ∧ 0 ≤ x.father ∧ 0 ≤ x.mother ∧ x.father = y.father ∧ x.mother = y.mother)
def fullAt (xs : List Person) (a b : Nat) : Bool := match xs[a]?, xs[b]? with
  | some x, some y => fullOf x y a b
  | _, _ => false
theorem fullAt_of {xs : List Person} {a b : Nat} {x y : Person} (h : xs[a]? = some x) (h' : xs[b]? = some y) : fullAt xs a b = fullOf x y a b := by rw [fullAt, h, h']
def kidOf (y : Person) (a : Nat) : Bool := decide (y.father = (a : Int) ∨ y.mother = (a : Int))
def kidAt (xs : List Person) (a b : Nat) : Bool := match xs[b]? with
  | some y => kidOf y a
  | none => false
theorem kidAt_of {xs : List Person} {a b : Nat} {y : Person} (h : xs[b]? = some y) : kidAt xs a b = kidOf y a := by rw [kidAt, h]
/-- One of the first unions joins both. -/
def wedTo (ys : List Union) (k a b : Nat) : Bool := (ys.take k).any fun u => decide (otherM u a = some (b : Int))
theorem wedTo_succ {ys : List Union} {k a b : Nat} {u : Union} (h : ys[k]? = some u) : wedTo ys (k + 1) a b = (wedTo ys k a b || decide (otherM u a = some (b : Int))) := by
  simp only [wedTo]
  rw [List.take_add_one, h, List.any_append]; simp
theorem wedTo_hit {ys : List Union} {k n a b : Nat} {u : Union} (h : ys[k]? = some u) (hn : k < n) (ho : otherM u a = some (b : Int)) : wedTo ys n a b = true := by
  rw [wedTo, List.any_eq_true]
  exact ⟨u, List.mem_of_getElem? (i := k) (by rw [List.getElem?_take, if_pos hn, h]), by simp [ho]⟩
def bornOk (s : Step) (xs : List Person) (a b : Nat) : Bool := if s.age = 1 then elderAt xs b a else if s.age = 2 then elderAt xs a b else true
def leadOf (xs : List Person) (ys : List Union) (s : Step) (a b : Nat) (x y : Person) : Bool :=
  decide (y.sex = sexTo s.kind) && (if s.kind = 1 then decide (x.father = (b : Int)) else if s.kind = 2 then decide (x.mother = (b : Int)) else
    if s.kind = 3 ∨ s.kind = 4 then bornOk s xs a b && fullAt xs a b else if s.kind = 5 ∨ s.kind = 6 then kidOf y a else wedTo ys ys.length a b)
def leadM (xs : List Person) (ys : List Union) (s : Step) (a b : Nat) : Bool := match xs[a]?, xs[b]? with
  | some x, some y => leadOf xs ys s a b x y
  | _, _ => false
theorem leadM_of {xs : List Person} {ys : List Union} {s : Step} {a b : Nat} {x y : Person} (h : xs[a]? = some x) (h' : xs[b]? = some y) : leadM xs ys s a b = leadOf xs ys s a b x y := by rw [leadM, h, h']

theorem fam_father {xs : List Person} {ys : List Union} (h : famOk xs ys = true) {a b : Nat} {x y : Person} (hx : xs[a]? = some x) (hy : xs[b]? = some y) (hf : x.father = (b : Int)) : y.sex = 1 := by
  have h1 := peopleOk_get (famOk_parts h).2.2.1 (List.getElem?_eq_some_iff.1 hx).1
  rw [personOk_of hx] at h1
  have h2 := (personOf_parts h1).2.2.2.1
  rw [hf] at h2
  have h3 := parentOk_lt h2
  rw [parentOk_in (by omega) hy hx] at h2
  simp only [parentIs, Bool.and_eq_true, beq_iff_eq] at h2
  exact h2.1.1
theorem fam_mother {xs : List Person} {ys : List Union} (h : famOk xs ys = true) {a b : Nat} {x y : Person} (hx : xs[a]? = some x) (hy : xs[b]? = some y) (hf : x.mother = (b : Int)) : y.sex = 2 := by
  have h1 := peopleOk_get (famOk_parts h).2.2.1 (List.getElem?_eq_some_iff.1 hx).1
  rw [personOk_of hx] at h1
  have h2 := (personOf_parts h1).2.2.2.2
  rw [hf] at h2
  have h3 := parentOk_lt h2
  rw [parentOk_in (by omega) hy hx] at h2
  simp only [parentIs, Bool.and_eq_true, beq_iff_eq] at h2
  exact h2.1.1
theorem fam_union {xs : List Person} {ys : List Union} (h : famOk xs ys = true) {u : Union} (hu : u ∈ ys) :
    ∃ (m f : Nat) (a b : Person), u.man = m ∧ u.woman = f ∧ m < xs.length ∧ f < xs.length ∧ xs[m]? = some a ∧ xs[f]? = some b ∧ a.sex = 1 ∧ b.sex = 2 := by
  obtain ⟨k, hk, rfl⟩ := List.mem_iff_getElem.1 hu
  have hk' : ys[k]? = some ys[k] := List.getElem?_eq_getElem hk
  obtain ⟨m, f, a, b, h1, h2, h3, h4, h5, h6, _⟩ := famOk_union h hk'
  obtain ⟨_, _, _, h7⟩ := famOk_parts h
  have hw : unionOk xs ys k = true := by
    rw [unionsOk, List.all_eq_true] at h7
    exact h7 k (List.mem_range.2 hk)
  rw [unionOk_of hk', unionOf_in h1 h2 h5 h6] at hw
  simp only [Bool.and_eq_true, decide_eq_true_eq] at hw
  exact ⟨m, f, a, b, h1, h2, h3, h4, h5, h6, hw.1.1.1.1.1, hw.1.1.1.1.2⟩
/-- The pairs that the unions make for a step. -/
def wedL (kind : Int) (ys : List Union) : List Pair := if kind = 7 then ys.map fun u => ⟨u.woman, u.man⟩ else if kind = 8 then ys.map fun u => ⟨u.man, u.woman⟩ else []
theorem wedL_other {kind : Int} (ys : List Union) (h : kind ≠ 7) (h' : kind ≠ 8) : wedL kind ys = [] := by rw [wedL, if_neg h, if_neg h']
theorem wedL_at7 {ys : List Union} {k : Nat} {u : Union} (h : ys[k]? = some u) : (wedL 7 ys)[k]? = some ⟨u.woman, u.man⟩ := by simp [wedL, h]
theorem wedL_at8 {ys : List Union} {k : Nat} {u : Union} (h : ys[k]? = some u) : (wedL 8 ys)[k]? = some ⟨u.man, u.woman⟩ := by simp [wedL, h]
theorem wed_man {xs : List Person} {ys : List Union} (h : famOk xs ys = true) {a b : Nat} {x y : Person} (_hx : xs[a]? = some x) (hy : xs[b]? = some y) : (decide (y.sex = 1) && wedTo ys ys.length a b) = hasP (wedL 7 ys) a b := by
  rw [Bool.eq_iff_iff]
  simp only [Bool.and_eq_true, decide_eq_true_eq, wedTo, List.take_length, List.any_eq_true, hasP, wedL, if_pos, List.mem_map, Pair.mk.injEq]
  constructor
  · rintro ⟨hs, u, hu, ho⟩
    obtain ⟨m, f, p, q, h1, h2, _, _, h5, h6, h7, h8⟩ := fam_union h hu
    rw [otherM] at ho
    by_cases c1 : u.man = (a : Int)
    · rw [if_pos c1] at ho
      injection ho with ho
      have : f = b := by omega
      subst this
      rw [hy] at h6; injection h6 with h6
      subst h6; omega
    · rw [if_neg c1] at ho
      by_cases c2 : u.woman = (a : Int)
      · rw [if_pos c2] at ho
        injection ho with ho
        exact ⟨u, hu, c2, ho⟩
      · rw [if_neg c2] at ho; cases ho
  · rintro ⟨u, hu, h1', h2'⟩
    obtain ⟨m, f, p, q, h1, h2, _, _, h5, h6, h7, h8⟩ := fam_union h hu
    have e1 : m = b := by omega
    have e2 : f = a := by omega
    subst e1
    rw [hy] at h5; injection h5 with h5
    subst h5
    refine ⟨h7, u, hu, ?_⟩
    have c1 : u.man ≠ (a : Int) := by
      intro c
      have : m = f := by omega
      subst this
      rw [hy] at h6; injection h6 with h6
      subst h6; omega
    rw [otherM, if_neg c1, if_pos h1', h2']
theorem wed_woman {xs : List Person} {ys : List Union} (h : famOk xs ys = true) {a b : Nat} {x y : Person} (_hx : xs[a]? = some x) (hy : xs[b]? = some y) : (decide (y.sex = 2) && wedTo ys ys.length a b) = hasP (wedL 8 ys) a b := by
  rw [Bool.eq_iff_iff]
  simp only [Bool.and_eq_true, decide_eq_true_eq, wedTo, List.take_length, List.any_eq_true, hasP, wedL, if_pos]
  rw [if_neg (by omega)]
  simp only [List.mem_map, Pair.mk.injEq]
  constructor
  · rintro ⟨hs, u, hu, ho⟩
    obtain ⟨m, f, p, q, h1, h2, _, _, h5, h6, h7, h8⟩ := fam_union h hu
    rw [otherM] at ho
    by_cases c1 : u.man = (a : Int)
    · rw [if_pos c1] at ho
      injection ho with ho
      exact ⟨u, hu, c1, ho⟩
    · rw [if_neg c1] at ho
      by_cases c2 : u.woman = (a : Int)
      · rw [if_pos c2] at ho
        injection ho with ho
        have : m = b := by omega
        subst this
        rw [hy] at h5; injection h5 with h5
        subst h5; omega
      · rw [if_neg c2] at ho; cases ho
  · rintro ⟨u, hu, h1', h2'⟩
    obtain ⟨m, f, p, q, h1, h2, _, _, h5, h6, h7, h8⟩ := fam_union h hu
    have e1 : f = b := by omega
    subst e1
    rw [hy] at h6; injection h6 with h6
    subst h6
    exact ⟨h8, u, hu, by rw [otherM, if_pos h1', h2']⟩
/-- What the program asks for. -/
def leadI (xs : List Person) (ys : List Union) (s : Step) (a b : Nat) (x y : Person) : Bool :=
  if s.kind = 1 then decide (x.father = (b : Int)) else if s.kind = 2 then decide (x.mother = (b : Int)) else
    if s.kind = 3 ∨ s.kind = 4 then decide (y.sex = sexTo s.kind) && (fullAt xs a b && bornOk s xs a b) else if s.kind = 5 ∨ s.kind = 6 then decide (y.sex = sexTo s.kind) && kidOf y a else hasP (wedL s.kind ys) a b
theorem leadI_eq {xs : List Person} {ys : List Union} {s : Step} (h : famOk xs ys = true) (hs : 1 ≤ s.kind ∧ s.kind ≤ 8) {a b : Nat} {x y : Person} (hx : xs[a]? = some x) (hy : xs[b]? = some y) : leadI xs ys s a b x y = leadM xs ys s a b := by
  rw [leadM_of hx hy]
  unfold leadI leadOf
  rcases (by omega : s.kind = 1 ∨ s.kind = 2 ∨ s.kind = 3 ∨ s.kind = 4 ∨ s.kind = 5 ∨ s.kind = 6 ∨ s.kind = 7 ∨ s.kind = 8) with e | e | e | e | e | e | e | e <;> simp only [e, sexTo]
  · rw [Bool.eq_iff_iff]
    simp only [if_pos, Bool.and_eq_true, decide_eq_true_eq]
    exact ⟨fun hf => ⟨by rw [if_pos (by omega)]; exact fam_father h hx hy hf, hf⟩, And.right⟩
  · rw [Bool.eq_iff_iff]
    simp
    intro hf; exact fam_mother h hx hy hf
  · simp [Bool.and_comm]
  · simp [Bool.and_comm]
  · simp
  · simp
  · have := wed_man h hx hy
    simp_all
  · have := wed_woman h hx hy
    simp_all
def stepRelM (xs : List Person) (ys : List Union) (s : Step) : Relation := if famOk xs ys = true ∧ stepOk s 0 = true then ⟨xs.length, relM xs.length (leadM xs ys s)⟩ else zeroRel
theorem typeOk_one (s : Step) : typeOk ⟨0, [s]⟩ = stepOk s 0 := by simp [typeOk, stepsOk]
end Go.Proofs.Ythpcippgifmabaa

/-! ## Ways -/
namespace Go.Proofs.Ythpcippgifmabaa
set_option maxRecDepth 100000
open Go.RowKit

def walkP (n : Nat) (L : Step → Nat → Nat → Bool) : (Nat → Nat → Bool) → List Step → (Nat → Nat → Bool)
  | p, [] => p
  | p, s :: r => walkP n L (stepP n p (L s)) r
theorem walkP_snoc {n : Nat} {L : Step → Nat → Nat → Bool} {s : Step} : ∀ {l : List Step} {p : Nat → Nat → Bool}, walkP n L p (l ++ [s]) = stepP n (walkP n L p l) (L s) := by
  intro l
  induction l with
  | nil => intro p; rfl
  | cons x r ih => intro p; exact ih
def egoIs (x : Person) (ego : Int) : Bool := decide (ego = 0 ∨ x.sex = ego)
def diagP (xs : List Person) (ego : Int) : Nat → Nat → Bool := fun a b => decide (a = b) && (match xs[a]? with
  | some x => egoIs x ego
  | none => false)
theorem diagP_of {xs : List Person} {ego : Int} {a : Nat} {x : Person} (h : xs[a]? = some x) (b : Nat) : diagP xs ego a b = (decide (a = b) && egoIs x ego) := by rw [diagP, h]
def waysP (xs : List Person) (ys : List Union) (t : KinType) (k : Nat) : Nat → Nat → Bool := walkP xs.length (leadM xs ys) (diagP xs t.ego) (t.steps.take k)
theorem waysP_zero (xs : List Person) (ys : List Union) (t : KinType) : waysP xs ys t 0 = diagP xs t.ego := rfl
theorem waysP_succ {xs : List Person} {ys : List Union} {t : KinType} {k : Nat} {s : Step} (h : t.steps[k]? = some s) : waysP xs ys t (k + 1) = stepP xs.length (waysP xs ys t k) (leadM xs ys s) := by
  rw [waysP, List.take_add_one, h]
  exact walkP_snoc
def relForM (xs : List Person) (ys : List Union) (t : KinType) : Relation := if famOk xs ys = true ∧ typeOk t = true then ⟨xs.length, relM xs.length (waysP xs ys t t.steps.length)⟩ else zeroRel
theorem relForM_fam {xs : List Person} {ys : List Union} {t : KinType} (h : famOk xs ys = false) : relForM xs ys t = zeroRel := by rw [relForM, h]; rfl
theorem relForM_typ {xs : List Person} {ys : List Union} {t : KinType} (h : typeOk t = false) : relForM xs ys t = zeroRel := by rw [relForM, h]; simp
theorem relForM_in {xs : List Person} {ys : List Union} {t : KinType} (h : famOk xs ys = true) (h' : typeOk t = true) : relForM xs ys t = ⟨xs.length, relM xs.length (waysP xs ys t t.steps.length)⟩ := if_pos ⟨h, h'⟩
theorem relForM_tot (xs : List Person) (ys : List Union) (t : KinType) : tot (relForM xs ys t).rows ≤ 1600 := by
  unfold relForM; split
  · rename_i h; exact relM_tot' _ (famOk_parts h.1).1
  · simp [zeroRel, tot]
theorem stepRelM_tot (xs : List Person) (ys : List Union) (s : Step) : tot (stepRelM xs ys s).rows ≤ 1600 := by
  unfold stepRelM; split
  · rename_i h; exact relM_tot' _ (famOk_parts h.1).1
  · simp [zeroRel, tot]
/-- The marks that the reference lays first. -/
def diagTo (xs : List Person) (ego : Int) (k : Nat) : Nat → Nat → Bool := fun a b => decide (a < k) && diagP xs ego a b
theorem diagTo_step {xs : List Person} {ego : Int} {k n : Nat} {x : Person} (h : xs[k]? = some x) : mat n (upd (diagTo xs ego k) k k (egoIs x ego)) = mat n (diagTo xs ego (k + 1)) :=
  mat_congr fun i j _ _ => by
    unfold upd diagTo
    by_cases hij : i = k ∧ j = k
    · obtain ⟨rfl, rfl⟩ := hij
      rw [if_pos ⟨rfl, rfl⟩, diagP_of h]; simp
    · rw [if_neg hij]
      by_cases hi : i = k
      · subst hi
        have hj : ¬ i = j := fun e => hij ⟨rfl, e.symm⟩
        rw [diagP_of h, decide_eq_false hj]; simp
      · congr 1
        rw [decide_eq_decide]; omega
theorem diagTo_zero (xs : List Person) (ego : Int) (n : Nat) : mat n (diagTo xs ego 0) = mat n fun _ _ => false := mat_congr fun a b _ _ => by simp [diagTo]
theorem diagTo_end (xs : List Person) (ego : Int) : mat xs.length (diagTo xs ego xs.length) = mat xs.length (diagP xs ego) := mat_congr fun a b ha _ => by simp [diagTo, ha]
theorem compM_rel {n : Nat} (hn : n ≤ 40) (p q : Nat → Nat → Bool) : compM ⟨n, relM n p⟩ ⟨n, relM n q⟩ = ⟨n, relM n (stepP n p q)⟩ := by
  rw [compM_in (by simp [bothOk, relOk_relP p hn, relOk_relP q hn])]
  congr 1
  exact relM_congr fun a b ha hb => stepP_congr ha hb (fun a b ha hb => gridP_relM p ha hb) (fun a b ha hb => gridP_relM q ha hb)
end Go.Proofs.Ythpcippgifmabaa
