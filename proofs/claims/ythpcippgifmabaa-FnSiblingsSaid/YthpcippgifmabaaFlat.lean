/-
  Flat elements: a store into one cell of one element; what is overwritten by marks.
-/
import Derived.Test.YthpcippgifmabaaBase
namespace Go.Proofs.Ythpcippgifmabaa
set_option maxRecDepth 100000
open Go.RowKit

theorem getElem_set_self' {α : Type} {l : List α} {i : Nat} {x : α} (h : i < l.length) : (l.set i x)[i]? = some x := List.getElem?_set_self h

/-- A store into one cell of one element of what is owned. -/
theorem flat_put {α : Type} {E : Elem α} {f : α → List Value} (hO : ∀ w lo hi cs x, E.O w lo hi cs x ↔ cs = f x) {w : World} {lo hi i : Nat} {v : Value} {xs : List α} {x : α} (h : E.OS w lo hi v xs) (hhs : hi ≤ w.heap.size) (hx : xs[i]? = some x) :
    ∃ g c, v = .slice (some ⟨g, 0, none⟩) xs.length c ∧ lo ≤ g ∧ g < hi ∧ g < w.heap.size ∧ (∀ (j : Nat) (u : Value), (f x)[j]? = some u → w.cell? ⟨g, i * E.sz + j, none⟩ = some u ∧ w.frozen? ⟨g, i * E.sz + j, none⟩ = false) ∧
      ∀ (j : Nat) (u u0 : Value) (x' : α), (f x)[j]? = some u0 → u.ownBlock = none → (f x).set j u = f x' → E.OS (w.setCell ⟨g, i * E.sz + j, none⟩ u) lo hi v (xs.set i x') := by
  have hlt : i < xs.length := (List.getElem?_eq_some_iff.1 hx).1
  obtain ⟨g, c, y, cs, hv, g1, g2, g3, hy, hcs, hcell, _, hset⟩ := h.elem hlt hhs
  rw [hx] at hy
  injection hy with hy
  subst hy
  rw [hO] at hcs
  subst hcs
  exact ⟨g, c, hv, g1, g2, g3, hcell, fun j u u0 x' hu0 hu he => hset j u u0 x' hu0 (fun b hb => by rw [hu] at hb; cases hb) ((hO _ _ _ _ _).2 he)⟩

/-- The first n elements as marks, by a function of the place. -/
def mkTo {α : Type} (m : Nat → α) (n : Nat) : List α := (List.range n).map m
theorem mkTo_len {α : Type} (m : Nat → α) (n : Nat) : (mkTo m n).length = n := by simp [mkTo]
theorem mkTo_mid {α : Type} {m : Nat → α} {xs : List α} {i : Nat} (h : i < xs.length) : (mkTo m i ++ xs.drop i).set i (m i) = mkTo m (i + 1) ++ xs.drop (i + 1) := by
  rw [List.set_append_right _ _ (by rw [mkTo_len]; exact Nat.le_refl _), mkTo_len, Nat.sub_self, List.drop_eq_getElem_cons h, List.set_cons_zero]; simp [mkTo, List.range_succ]
theorem mkTo_at {α : Type} {m : Nat → α} {xs : List α} {i : Nat} {x : α} (h : xs[i]? = some x) : (mkTo m i ++ xs.drop i)[i]? = some x := by
  rw [List.getElem?_append_right (by rw [mkTo_len]; exact Nat.le_refl _), mkTo_len, Nat.sub_self, List.getElem?_drop]; simpa using h
theorem mkTo_mlen {α : Type} {m : Nat → α} {xs : List α} {i : Nat} (h : i ≤ xs.length) : (mkTo m i ++ xs.drop i).length = xs.length := by
  rw [List.length_append, mkTo_len, List.length_drop]; omega
theorem mkTo_get {α : Type} {m : Nat → α} {n i : Nat} (h : i < n) : (mkTo m n)[i]? = some (m i) := by simp [mkTo, h]

def MarkToRel {α : Type} (E : Elem α) (m : Nat → α) (s : Int) (w : World) (lo hi : Nat) (v : Value) (xs : List α) (k : Int) (kk i : Value) (wr : World) : Prop :=
  ∃ j : Nat, j ≤ xs.length ∧ i = .int .i64 j ∧ kk = .int .i64 (k + s * j) ∧ E.OS wr lo hi v (mkTo m j ++ xs.drop j) ∧ Only (fun b => v.ownBlock = some b) w wr ∧ wr.heap.size = w.heap.size
def HeldToRel (s : Int) (n : Nat) (k : Int) (kk i : Value) : Prop := ∃ j : Nat, j ≤ n ∧ i = .int .i64 j ∧ kk = .int .i64 (k + s * j)
end Go.Proofs.Ythpcippgifmabaa
