/-
  Square tables: reading and writing one place; the relations of nothing and of each number with itself.
-/
import Derived.Test.YtmgfpcchlonknaaRelated
namespace Go.Proofs.Ytmgfpcchlonknaa
set_option maxRecDepth 100000
open Go.RowKit

def mat (n : Nat) (p : Nat → Nat → Bool) : List (List Bool) := (List.range n).map fun a => (List.range n).map (p a)
def upd (p : Nat → Nat → Bool) (a b : Nat) (x : Bool) : Nat → Nat → Bool := fun i j => if i = a ∧ j = b then x else p i j
theorem mat_len (n : Nat) (p : Nat → Nat → Bool) : (mat n p).length = n := by simp [mat]
theorem mat_at {n a : Nat} {p : Nat → Nat → Bool} (ha : a < n) : (mat n p)[a]? = some ((List.range n).map (p a)) := by simp [mat, ha]
theorem mat_row {n : Nat} {p : Nat → Nat → Bool} : ∀ r ∈ mat n p, r.length ≤ n := by
  intro r hr
  obtain ⟨a, _, rfl⟩ := List.mem_map.1 hr
  simp
theorem mat_congr {n : Nat} {p q : Nat → Nat → Bool} (h : ∀ a b, a < n → b < n → p a b = q a b) : mat n p = mat n q := by
  unfold mat
  refine List.map_congr_left fun a ha => List.map_congr_left fun b hb => h a b (by simpa using ha) (by simpa using hb)
theorem mat_blank (n : Nat) : List.replicate n (List.replicate n false) = mat n fun _ _ => false := by
  unfold mat
  apply List.ext_getElem?
  intro i
  by_cases hi : i < n
  · simp only [List.getElem?_replicate, hi, if_true, List.getElem?_map, List.getElem?_range hi, Option.map_some]
    congr 1
    apply List.ext_getElem?
    intro j
    by_cases hj : j < n <;> simp [hj]
  · simp [hi]
theorem idxTo_congr {q q' : Nat → Bool} {k : Nat} (h : ∀ b, b < k → q b = q' b) : idxTo q k = idxTo q' k := by
  unfold idxTo
  rw [List.filter_congr fun b hb => h b (by simpa using hb)]
theorem relM_congr {n : Nat} {p q : Nat → Nat → Bool} (h : ∀ a b, a < n → b < n → p a b = q a b) : relM n p = relM n q := by
  unfold relM relTo
  exact List.map_congr_left fun a ha => idxTo_congr fun b hb => h a b (by simpa using ha) hb
theorem ofM_mat (n : Nat) (p : Nat → Nat → Bool) : ofM (mat n p) = relM n p := by
  unfold ofM mat relM relTo
  rw [List.map_map]
  refine List.map_congr_left fun a ha => ?_
  simp only [Function.comp, List.length_map, List.length_range]
  exact idxTo_congr fun b hb => by simp [List.getD, hb]
theorem mat_upd {n a b : Nat} {p : Nat → Nat → Bool} {x : Bool} (ha : a < n) (hb : b < n) : (mat n p).set a (((List.range n).map (p a)).set b x) = mat n (upd p a b x) := by
  apply List.ext_getElem?
  intro i
  by_cases hi : i < n
  · rw [mat_at hi]
    by_cases hia : a = i
    · subst hia
      rw [List.getElem?_set_self (by rw [mat_len]; exact ha)]
      congr 1
      apply List.ext_getElem?
      intro j
      by_cases hj : j < n
      · by_cases hjb : b = j
        · subst hjb; rw [List.getElem?_set_self (by simpa using hb)]; simp [upd, hj]
        · rw [List.getElem?_set_ne hjb]; simp [upd, hj, Ne.symm hjb]
      · rw [List.getElem?_eq_none (by simp; omega), List.getElem?_eq_none (by simp; omega)]
    · rw [List.getElem?_set_ne hia, mat_at hi]
      congr 1
      exact List.map_congr_left fun j _ => by simp [upd, Ne.symm hia]
  · rw [List.getElem?_eq_none (by simp [mat_len]; omega), List.getElem?_eq_none (by simp [mat_len]; omega)]

/-- One place of a table that is only read. -/
theorem mat_read {w : World} {lo hi n a b : Nat} {A : Option Addr} {p : Nat → Nat → Bool} (h : EBoolS.AS w lo hi A (mat n p)) (ha : a < n) (hb : b < n) : ∃ g o r q c, A = some ⟨g, o, none⟩ ∧ lo ≤ g ∧ g < hi ∧ lo ≤ r ∧ r < hi ∧ n ≤ c ∧ c ≤ maxLen ∧
    w.cell? ⟨g, o + a, none⟩ = some (.slice (some ⟨r, q, none⟩) n c) ∧ w.cell? ⟨r, q + b, none⟩ = some (.bool (p a b)) := by
  obtain ⟨g, o, l, cs, rfl, g1, g2, _, hl, ⟨v, rfl, B, c, rfl, q1, q2, hr⟩, hc⟩ := h.at_ (k := a) (by rw [mat_len]; exact ha)
  have hc0 := hc 0 _ rfl
  rw [mat_at ha] at hl
  injection hl with hl
  subst hl
  obtain ⟨r, q, y, cs, rfl, r1, r2, _, hy, rfl, hc2⟩ := hr.at_ (k := b) (by simpa using hb)
  have hc1 := hc2 0 _ rfl
  simp [hb] at hy
  subst hy
  refine ⟨g, o, r, q, c, rfl, g1, g2, r1, r2, by simpa using q1, q2, ?_, ?_⟩
  · simpa [EBoolS, Elem.slice] using hc0
  · simpa [EBool, Elem.flat] using hc1

theorem EBool_os {w : World} {lo hi : Nat} {v : Value} {xs : List Bool} : EBool.OS w lo hi v xs ↔ OSl w lo hi 4 1 v xs.length (xs.flatMap fun b => [.bool b]) := flat_os
theorem bools_len (xs : List Bool) : (xs.flatMap fun b => [Value.bool b]).length = xs.length := by induction xs <;> simp_all
theorem bools_map (xs : List Bool) : (xs.flatMap fun b => [Value.bool b]) = xs.map Value.bool := by induction xs <;> simp_all

/-- One place of a table that the call owns. -/
theorem mat_own {w : World} {lo hi n a b : Nat} {v : Value} {p : Nat → Nat → Bool} (h : EBoolS.OS w lo hi v (mat n p)) (hhs : hi ≤ w.heap.size) (ha : a < n) (hb : b < n) : ∃ g r c c', v = .slice (some ⟨g, 0, none⟩) n c ∧ lo ≤ g ∧ g < hi ∧ lo ≤ r ∧ r < hi ∧
    w.cell? ⟨g, a, none⟩ = some (.slice (some ⟨r, 0, none⟩) n c') ∧ w.cell? ⟨r, b, none⟩ = some (.bool (p a b)) ∧ w.frozen? ⟨r, b, none⟩ = false ∧ n ≤ c' ∧
    ∀ x : Bool, EBoolS.OS (w.setCell ⟨r, b, none⟩ (.bool x)) lo hi v (mat n (upd p a b x)) := by
  obtain ⟨g, c, l, cs, hv, g1, g2, g3, hl, ⟨u, rfl, hu⟩, hcell, hin, _⟩ := h.elem (i := a) (by rw [mat_len]; exact ha) hhs
  rw [mat_len] at hv
  rw [mat_at ha] at hl
  injection hl with hl
  subst hl
  have ho := EBool_os.1 hu
  simp only [List.length_map, List.length_range] at ho
  obtain ⟨r, c', rfl, r1, r2, r3⟩ := ho.form (by omega)
  have hrow : (((List.range n).map (p a)).flatMap fun b => [Value.bool b])[b]? = some (.bool (p a b)) := by rw [bools_map]; simp [hb]
  obtain ⟨k1, k2⟩ := ho.cell hrow
  have hc0 := (hcell 0 _ rfl).1
  simp only [EBoolS, Elem.slice, Nat.mul_one, Nat.add_zero] at hc0
  obtain ⟨A', c'', e1, e2, _⟩ := hu.read.open_
  injection e1 with _ _ e1
  subst e1
  refine ⟨g, r, c, c', hv, g1, g2, r1, r2, hc0, k1, k2, by simpa using e2, fun x => ?_⟩
  have h2 := hin (w.setCell ⟨r, b, none⟩ (.bool x)) (((List.range n).map (p a)).set b x) ⟨_, rfl, ?_⟩ ((Only.refl _ _).setCell (a := ⟨r, b, none⟩) (by simp [blocks, Value.ownBlock]) _)
  · rw [mat_upd ha hb] at h2; exact h2
  · refine EBool_os.2 ?_
    have h3 := ho.set (j := b) (u := .bool x) (by rw [bools_len]; simpa using hb)
    rw [bools_map, ← List.map_set, ← bools_map] at h3
    simpa using h3

def zeroRel : Relation := ⟨0, []⟩
def emptyM (n : Int) : Relation := if 0 ≤ n ∧ n ≤ 40 then ⟨n, relM n.toNat fun _ _ => false⟩ else zeroRel
def identM (n : Int) : Relation := if 0 ≤ n ∧ n ≤ 40 then ⟨n, relM n.toNat fun a b => a == b⟩ else zeroRel
theorem relM_len (n : Nat) (p : Nat → Nat → Bool) : (relM n p).length = n := by simp [relM, relTo]
end Go.Proofs.Ytmgfpcchlonknaa
