/-
  What is owned, while one of its elements is being changed.
-/
import Derived.Test.YtnnjilkjjdiblaaBase
namespace Go.Proofs.Ytnnjilkjjdiblaa
set_option maxRecDepth 100000
open Go.RowKit

/-- What is owned, of which nothing is said about the i-th element but its cells. -/
structure Elem.OSx {α : Type} (E : Elem α) (w : World) (lo hi : Nat) (v : Value) (css : List (List Value)) (xs : List α) (i : Nat) : Prop where
  own : OSl w lo hi E.e E.sz v xs.length css.flatten
  len : css.length = xs.length
  sizes : ∀ cs ∈ css, cs.length = E.sz
  at_ : ∀ (k : Nat) (x : α), k ≠ i → xs[k]? = some x → ∃ cs, css[k]? = some cs ∧ E.O w lo hi cs x
  apart : ∀ (i j : Nat) (cs cs' : List Value) (b : Nat), i ≠ j → css[i]? = some cs → css[j]? = some cs' → b ∈ blocks cs → b ∉ blocks cs'
  far : ∀ cs ∈ css, ∀ b ∈ blocks cs, v.ownBlock ≠ some b
section
variable {α : Type} {E : Elem α} {w w' : World} {lo hi i g c n : Nat} {v : Value} {xs : List α} {css : List (List Value)} {cs : List Value}
theorem Elem.OS.openx (h : E.OS w lo hi v xs) (hlt : i < xs.length) : ∃ g c x cs css, v = .slice (some ⟨g, 0, none⟩) xs.length c ∧ lo ≤ g ∧ g < hi ∧ g < w.heap.size ∧ xs[i]? = some x ∧ css[i]? = some cs ∧ E.O w lo hi cs x ∧ E.OSx w lo hi v css xs i := by
  obtain ⟨css, h1, h2, h3⟩ := h
  obtain ⟨x, hx⟩ : ∃ x, xs[i]? = some x := ⟨xs[i], List.getElem?_eq_getElem hlt⟩
  obtain ⟨cs, hcs, hO⟩ := h2.at_ i x hx
  obtain ⟨g, c, rfl, g1, g2, g3⟩ := h1.form (by omega)
  exact ⟨g, c, x, cs, css, rfl, g1, g2, g3, hx, hcs, hO, h1, h2.len, h2.read.sizes, fun k x _ hk => h2.at_ k x hk, h2.apart, h3⟩
theorem Elem.OSx.same (h : E.OSx w lo hi v css xs i) (k : Same lo hi w w') : E.OSx w' lo hi v css xs i :=
  ⟨h.own.same k, h.len, h.sizes, fun j x hj hx => let ⟨cs, a, b⟩ := h.at_ j x hj hx; ⟨cs, a, E.sameO b k⟩, h.apart, h.far⟩
theorem Elem.OSx.cell {j : Nat} {u : Value} (h : E.OSx w lo hi (.slice (some ⟨g, 0, none⟩) n c) css xs i) (hn : n = xs.length) (hci : css[i]? = some cs) (hu : cs[j]? = some u) : w.cell? ⟨g, i * E.sz + j, none⟩ = some u ∧ w.frozen? ⟨g, i * E.sz + j, none⟩ = false := by
  subst hn
  exact h.own.cell (flatten_at h.sizes hci hu)
theorem Elem.OSx.put {j : Nat} {u u0 : Value} (h : E.OSx w lo hi (.slice (some ⟨g, 0, none⟩) n c) css xs i) (hn : n = xs.length) (hci : css[i]? = some cs) (hu0 : cs[j]? = some u0) (hu : ∀ b, u.ownBlock = some b → u0.ownBlock = some b) :
    E.OSx (w.setCell ⟨g, i * E.sz + j, none⟩ u) lo hi (.slice (some ⟨g, 0, none⟩) n c) (css.set i (cs.set j u)) xs i := by
  subst hn
  have hj : j < cs.length := (List.getElem?_eq_some_iff.1 hu0).1
  have hmem := List.mem_of_getElem? hci
  have hlt' := (List.getElem?_eq_some_iff.1 hci).1
  have hbl : ∀ b ∈ blocks (cs.set j u), b ∈ blocks cs := by
    intro b hb
    obtain ⟨a, ha, hab⟩ := List.mem_filterMap.1 hb
    rcases List.mem_or_eq_of_mem_set ha with ha | rfl
    · exact List.mem_filterMap.2 ⟨a, ha, hab⟩
    · exact List.mem_filterMap.2 ⟨u0, List.mem_of_getElem? hu0, hu b hab⟩
  have old : ∀ (b k : Nat) (c : List Value), (css.set i (cs.set j u))[k]? = some c → b ∈ blocks c → ∃ c0, css[k]? = some c0 ∧ b ∈ blocks c0 := by
    intro b k c hc hbb
    by_cases hik : i = k
    · subst hik
      rw [List.getElem?_set_self hlt'] at hc
      injection hc with hc
      subst hc
      exact ⟨cs, hci, hbl b hbb⟩
    · rw [List.getElem?_set_ne hik] at hc
      exact ⟨c, hc, hbb⟩
  refine ⟨?_, by simp [h.len], ?_, ?_, ?_, ?_⟩
  · rw [← flatten_set h.sizes hci hj]
    exact h.own.set (by have := (List.getElem?_eq_some_iff.1 (flatten_at h.sizes hci hu0)).1; exact this)
  · intro c' hc'
    rcases List.mem_or_eq_of_mem_set hc' with hc' | rfl
    · exact h.sizes c' hc'
    · simp [h.sizes cs hmem]
  · intro k y hk hy
    obtain ⟨ck, a, b⟩ := h.at_ k y hk hy
    refine ⟨ck, by rw [List.getElem?_set_ne (Ne.symm hk)]; exact a, E.loc b fun b' hb' => Below.heap_setCell _ _ _ _ ?_⟩
    intro e
    exact h.far ck (List.mem_of_getElem? a) b' hb' (by simp [Value.ownBlock]; exact e.symm)
  · intro k l c1 c2 b hkl hc1 hc2 hb1 hb2
    obtain ⟨c0, a0, b0⟩ := old b k c1 hc1 hb1
    obtain ⟨c1', a1, b1⟩ := old b l c2 hc2 hb2
    exact h.apart k l c0 c1' b hkl a0 a1 b0 b1
  · intro c' hc' b hb
    rcases List.mem_or_eq_of_mem_set hc' with hc' | rfl
    · exact h.far c' hc' b hb
    · exact h.far cs hmem b (hbl b hb)
theorem Elem.OSx.inner (h : E.OSx w lo hi v css xs i) (hci : css[i]? = some cs) (ho : Only (fun b => b ∈ blocks cs) w w') (hsz : hi ≤ w.heap.size) : E.OSx w' lo hi v css xs i := by
  have hmem := List.mem_of_getElem? hci
  refine ⟨h.own.loc fun b hb => ho.block b ?_ (fun hbb => h.far cs hmem b hbb hb), h.len, h.sizes, fun k x hk hx => ?_, h.apart, h.far⟩
  · have := h.own.2.1 b hb; omega
  · obtain ⟨ck, a, b⟩ := h.at_ k x hk hx
    exact ⟨ck, a, E.loc b fun b' hb' => ho.block b' (by have := (E.blk b b' hb').2; omega) (fun hbb => h.apart i k cs ck b' (Ne.symm hk) hci a hbb hb')⟩
theorem Elem.OSx.close {x' : α} (h : E.OSx w lo hi v css xs i) (hci : css[i]? = some cs) (hO : E.O w lo hi cs x') : E.OS w lo hi v (xs.set i x') := by
  have hlt' := (List.getElem?_eq_some_iff.1 hci).1
  refine ⟨css, by rw [List.length_set]; exact h.own, ⟨by simp [h.len], fun k x hx => ?_, h.apart⟩, h.far⟩
  by_cases hik : i = k
  · subst hik
    rw [List.getElem?_set_self (by rw [← h.len]; exact hlt')] at hx
    injection hx with hx
    subst hx
    exact ⟨cs, hci, hO⟩
  · rw [List.getElem?_set_ne hik] at hx
    exact h.at_ k x (Ne.symm hik) hx
end
end Go.Proofs.Ytnnjilkjjdiblaa
