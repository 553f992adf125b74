/-
  Partners, parents, the end of a union: models.
-/
import Derived.Test.YtkdgjbbjbghdnaaHas
namespace Go.Proofs.Ytkdgjbbjbghdnaa
set_option maxRecDepth 100000
open Go.RowKit

def parentsL (x : Person) : List Int := (if 0 ≤ x.father then [x.father] else []) ++ (if 0 ≤ x.mother then [x.mother] else [])
def parentsAt (xs : List Person) (p : Nat) : List Int := match xs[p]? with
  | some x => parentsL x
  | none => []
theorem parentsAt_of {xs : List Person} {p : Nat} {x : Person} (h : xs[p]? = some x) : parentsAt xs p = parentsL x := by rw [parentsAt, h]
def parentsM (xs : List Person) (ys : List Union) (p : Int) : List Int := if hasOk xs ys p = true then parentsAt xs p.toNat else []
def otherM (u : Union) (p : Int) : Option Int := if u.man = p then some u.woman else if u.woman = p then some u.man else none
def otherS (u : Union) (p : Int) : Int × Bool := if u.man = p then (u.woman, true) else (u.man, decide (u.woman = p))
def otherI (u : Union) (p : Int) : Int := if u.man = p then u.woman else if u.woman = p then u.man else -1
def partL (ys : List Union) (p : Int) (k : Nat) : List Int := (ys.take k).filterMap fun u => otherM u p
theorem partL_succ {ys : List Union} {p : Int} {k : Nat} {u : Union} (h : ys[k]? = some u) : partL ys p (k + 1) = partL ys p k ++ (otherM u p).toList := by
  simp only [partL]
  rw [List.take_add_one, h, List.filterMap_append]
  cases ho : otherM u p <;> simp [ho]
theorem partL_len (ys : List Union) (p : Int) (k : Nat) : (partL ys p k).length ≤ k := by
  refine Nat.le_trans (List.length_filterMap_le _ _) ?_
  simp only [List.length_take]; omega
def partnersM (xs : List Person) (ys : List Union) (p : Int) : List Int := if hasOk xs ys p = true then partL ys p ys.length else []
def endM (a b : Person) (u : Union) : Int × Bool :=
  if u.till ≠ -1 then (u.till, true) else if a.died = -1 then (if b.died = -1 then (0, false) else (b.died, true)) else if b.died = -1 then (a.died, true) else (min a.died b.died, true)
def endAt (xs : List Person) (u : Union) : Int × Bool := match xs[u.man.toNat]?, xs[u.woman.toNat]? with
  | some a, some b => endM a b u
  | _, _ => (0, false)
theorem endAt_of {xs : List Person} {u : Union} {m f : Nat} {a b : Person} (hm : u.man = m) (hf : u.woman = f) (h : xs[m]? = some a) (h' : xs[f]? = some b) : endAt xs u = endM a b u := by
  rw [endAt, hm, hf, Int.toNat_natCast, Int.toNat_natCast, h, h']
def unionEndM (xs : List Person) (ys : List Union) (k : Int) : Int × Bool := if 0 ≤ k ∧ k < ys.length ∧ famOk xs ys = true then (match ys[k.toNat]? with
  | some u => endAt xs u
  | none => (0, false)) else (0, false)
def marOf (xs : List Person) (p y : Int) (u : Union) : Option Int := if u.since ≤ y ∧ ((endAt xs u).2 = false ∨ y < (endAt xs u).1) then otherM u p else none
def marL (xs : List Person) (ys : List Union) (p y : Int) (k : Nat) : List Int := (ys.take k).filterMap (marOf xs p y)
theorem marL_succ {xs : List Person} {ys : List Union} {p y : Int} {k : Nat} {u : Union} (h : ys[k]? = some u) : marL xs ys p y (k + 1) = marL xs ys p y k ++ (marOf xs p y u).toList := by
  simp only [marL]
  rw [List.take_add_one, h, List.filterMap_append]
  cases ho : marOf xs p y u <;> simp [ho]
theorem marL_len (xs : List Person) (ys : List Union) (p y : Int) (k : Nat) : (marL xs ys p y k).length ≤ k := by
  refine Nat.le_trans (List.length_filterMap_le _ _) ?_
  simp only [List.length_take]; omega
def marriedM (xs : List Person) (ys : List Union) (p y : Int) : List Int := if hasOk xs ys p = true then marL xs ys p y ys.length else []
theorem parentsL_len (x : Person) : (parentsL x).length ≤ 2 := by
  unfold parentsL
  split <;> split <;> simp
theorem parentsM_len (xs : List Person) (ys : List Union) (p : Int) : (parentsM xs ys p).length ≤ 2 := by
  unfold parentsM
  split
  · unfold parentsAt
    split
    · exact parentsL_len _
    · simp
  · simp
theorem partnersM_len (xs : List Person) (ys : List Union) (p : Int) : (partnersM xs ys p).length ≤ 60 := by
  by_cases h : hasOk xs ys p = true
  · rw [partnersM, if_pos h]
    exact Nat.le_trans (partL_len _ _ _) (famOk_parts (hasOk_fam h).1).2.1
  · rw [partnersM, if_neg h]; simp
theorem marriedM_len (xs : List Person) (ys : List Union) (p y : Int) : (marriedM xs ys p y).length ≤ 60 := by
  by_cases h : hasOk xs ys p = true
  · rw [marriedM, if_pos h]
    exact Nat.le_trans (marL_len _ _ _ _ _) (famOk_parts (hasOk_fam h).1).2.1
  · rw [marriedM, if_neg h]; simp
/-- What a valid family says of a union. -/
theorem famOk_union {xs : List Person} {ys : List Union} {k : Nat} {u : Union} (h : famOk xs ys = true) (hk : ys[k]? = some u) :
    ∃ (m f : Nat) (a b : Person), u.man = m ∧ u.woman = f ∧ m < xs.length ∧ f < xs.length ∧ xs[m]? = some a ∧ xs[f]? = some b ∧ 0 ≤ u.since ∧ u.since ≤ 9999 ∧ (u.till = -1 ∨ 0 ≤ u.till ∧ u.till ≤ 9999) ∧ -1 ≤ a.died ∧ a.died ≤ 9999 ∧ -1 ≤ b.died ∧ b.died ≤ 9999 := by
  obtain ⟨_, _, h1, h2⟩ := famOk_parts h
  have hu : unionOk xs ys k = true := by
    rw [unionsOk, List.all_eq_true] at h2
    exact h2 k (List.mem_range.2 (List.getElem?_eq_some_iff.1 hk).1)
  rw [unionOk_of hk] at hu
  by_cases hr : 0 ≤ u.man ∧ u.man < xs.length ∧ 0 ≤ u.woman ∧ u.woman < xs.length
  · obtain ⟨r1, r2, r3, r4⟩ := hr
    obtain ⟨m, hm⟩ := Int.eq_ofNat_of_zero_le r1
    obtain ⟨f, hf⟩ := Int.eq_ofNat_of_zero_le r3
    have hml : m < xs.length := by omega
    have hfl : f < xs.length := by omega
    have ha := List.getElem?_eq_getElem hml
    have hb := List.getElem?_eq_getElem hfl
    rw [unionOf_in hm hf ha hb] at hu
    simp only [Bool.and_eq_true, decide_eq_true_eq, yearsOk, liveOk, Bool.or_eq_true] at hu
    obtain ⟨⟨⟨⟨_, hy⟩, hla⟩, _⟩, _⟩ := hu
    have hd1 := peopleOk_died h1 m _ hml ha
    have hd2 := peopleOk_died h1 f _ hfl hb
    have hp := peopleOk_get h1 hml
    rw [personOk_of ha] at hp
    have hal := aliveOk_parts (personOf_parts hp).2.1
    refine ⟨m, f, _, _, hm, hf, hml, hfl, ha, hb, by omega, by omega, by omega, hd1.1, hd1.2, hd2.1, hd2.2⟩
  · rw [unionOf_out hr] at hu; cases hu
end Go.Proofs.Ytkdgjbbjbghdnaa
