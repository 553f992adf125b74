/-
  A family whose generations marry among themselves: what keeps it valid.
-/
import Derived.Test.YthpcippgifmabaaVilM
namespace Go.Proofs.Ythpcippgifmabaa
set_option maxRecDepth 100000
open Go.RowKit

theorem depL_at {xs : List Person} {i m : Nat} (hi : i < m) : ∀ {n : Nat}, m ≤ n → (depL xs n)[i]? = (depL xs m)[i]? := by
  intro n
  induction n with
  | zero => intro h; omega
  | succ n ih =>
    intro h
    by_cases e : m = n + 1
    · rw [e]
    · rw [depL, List.getElem?_append_left (by rw [depL_len]; omega)]
      exact ih (by omega)
theorem depL_app {xs ns : List Person} : depL (xs ++ ns) xs.length = depL xs xs.length :=
  depL_same _ fun k hk => ⟨xs[k], xs[k], by rw [List.getElem?_append_left hk]; exact List.getElem?_eq_getElem hk, List.getElem?_eq_getElem hk, rfl, rfl⟩
theorem dep_old {xs ns : List Person} {i : Nat} (hi : i < xs.length) : (depL (xs ++ ns) (xs ++ ns).length)[i]? = (depL xs xs.length)[i]? := by
  rw [depL_at (m := xs.length) hi (by simp), depL_app]
theorem dep_push {xs : List Person} {x : Person} : depL (xs ++ [x]) (xs ++ [x]).length = depL xs xs.length ++ [depOf x (depL xs xs.length)] := by
  rw [show (xs ++ [x]).length = xs.length + 1 by simp, depL_succ (x := x) (by simp), depL_app]
/-- Before a round with k generations left. -/
structure ClosG (wd k : Nat) (xs : List Person) : Prop where
  g : Grown 300 xs
  dep : ∀ d ∈ depL xs xs.length, d ≤ 9 - (k : Int)
  last : xs = [] ∨ wd ≤ xs.length ∧ ∃ a b : Person, xs[xs.length - wd]? = some a ∧ xs[xs.length - wd + 1]? = some b ∧ a.sex = 1 ∧ b.sex = 2 ∧ a.born = 25 * (11 - (k : Int)) ∧ b.born = 25 * (11 - (k : Int))
/-- Within a round. -/
structure ClosJ (k j : Nat) (xs zs : List Person) : Prop where
  g : Grown 300 zs
  dep : ∀ d ∈ depL zs zs.length, d ≤ 10 - (k : Int)
  ns : ∃ ns : List Person, zs = xs ++ ns ∧ ns.length = j ∧ ∀ (i : Nat) (z : Person), ns[i]? = some z → z.sex = 1 + (i : Int) % 2 ∧ z.born = 25 * (12 - (k : Int))
theorem ClosG.zero (wd k : Nat) : ClosG wd k [] := ⟨Grown.nil _, fun d h => by simp [depL] at h, .inl rfl⟩
theorem ClosJ.zero {wd k : Nat} {xs : List Person} (h : ClosG wd k xs) : ClosJ k 0 xs xs := ⟨h.g, fun d hd => by have := h.dep d hd; omega, [], by simp, rfl, fun i z hz => by simp at hz⟩
theorem clos_par {wd k j : Nat} {xs zs : List Person} {q s : Int} {a : Person} {i : Nat} (hG : ClosG wd k xs) (hJ : ClosJ k j xs zs) (hk : 1 ≤ k) (hi : xs[i]? = some a) (hs : a.sex = s) (hb : a.born = 25 * (11 - (k : Int))) (hq : q = -1 ∨ q = i) : Par zs q s (25 * (12 - (k : Int))) ∧ upTo (depL zs zs.length) q ≤ 10 - (k : Int) ∨ q = -1 := by
  rcases hq with rfl | rfl
  · exact .inr rfl
  left
  obtain ⟨ns, rfl, _, _⟩ := hJ.ns
  have hl := (List.getElem?_eq_some_iff.1 hi).1
  have hd : (depL (xs ++ ns) (xs ++ ns).length).getD i 0 ≤ 9 - (k : Int) := by
    rw [List.getD, dep_old hl]
    have hl2 : i < (depL xs xs.length).length := by rw [depL_len]; exact hl
    rw [List.getElem?_eq_getElem hl2]
    exact hG.dep _ (List.getElem_mem hl2)
  refine ⟨.inr ⟨i, a, rfl, by rw [List.getElem?_append_left hl]; exact hi, hs, by omega, by omega⟩, ?_⟩
  unfold upTo
  rw [if_pos (by omega), Int.toNat_natCast]
  omega
theorem ClosJ.push {wd k j : Nat} {xs zs : List Person} {f m : Int} (hG : ClosG wd k xs) (hJ : ClosJ k j xs zs) (hk : 1 ≤ k ∧ k ≤ 10) (hl : zs.length = xs.length + j) (hl2 : zs.length < 40) (hf : f = -1 ∨ 0 < xs.length ∧ f = (xs.length : Int) - wd) (hm : m = -1 ∨ 0 < xs.length ∧ m = (xs.length : Int) - wd + 1) :
    ClosJ k (j + 1) xs (zs ++ [⟨called (xs.length + j), 1 + (j : Int) % 2, f, m, 25 * (12 - (k : Int)), -1⟩]) := by
  have hf' : Par zs f 1 (25 * (12 - (k : Int))) ∧ upTo (depL zs zs.length) f ≤ 10 - (k : Int) ∨ f = -1 := by
    rcases hf with rfl | ⟨h0, rfl⟩
    · exact .inr rfl
    rcases hG.last with h | ⟨h1, a, b, ha, hb, a1, b1, a2, b2⟩
    · rw [h] at h0; simp at h0
    · exact clos_par hG hJ hk.1 ha a1 a2 (.inr (by omega))
  have hm' : Par zs m 2 (25 * (12 - (k : Int))) ∧ upTo (depL zs zs.length) m ≤ 10 - (k : Int) ∨ m = -1 := by
    rcases hm with rfl | ⟨h0, rfl⟩
    · exact .inr rfl
    rcases hG.last with h | ⟨h1, a, b, ha, hb, a1, b1, a2, b2⟩
    · rw [h] at h0; simp at h0
    · exact clos_par hG hJ hk.1 hb b1 b2 (.inr (by omega))
  have up1 : upTo (depL zs zs.length) (-1) = 0 := by simp [upTo]
  refine ⟨hJ.g.push (by omega) hl2 (by rw [hl]) (by simp only; omega) (by simp only; omega) rfl ?_ ?_, fun d hd => ?_, ?_⟩
  · rcases hf' with h | h
    · exact h.1
    · exact .inl h
  · rcases hm' with h | h
    · exact h.1
    · exact .inl h
  · rw [dep_push] at hd
    rcases List.mem_append.1 hd with hd | hd
    · exact hJ.dep d hd
    · rw [List.mem_singleton] at hd
      subst hd
      unfold depOf
      simp only
      have e1 : upTo (depL zs zs.length) f ≤ 10 - (k : Int) := by
        rcases hf' with h | rfl
        · exact h.2
        · rw [up1]; omega
      have e2 : upTo (depL zs zs.length) m ≤ 10 - (k : Int) := by
        rcases hm' with h | rfl
        · exact h.2
        · rw [up1]; omega
      omega
  · obtain ⟨ns, rfl, hn, hz⟩ := hJ.ns
    refine ⟨ns ++ [⟨called (xs.length + j), 1 + (j : Int) % 2, f, m, 25 * (12 - (k : Int)), -1⟩], by rw [List.append_assoc], by simp [hn], fun i z h => ?_⟩
    rcases Nat.lt_trichotomy i ns.length with hlt | rfl | hgt
    · rw [List.getElem?_append_left hlt] at h; exact hz i z h
    · rw [List.getElem?_append_right (Nat.le_refl _), Nat.sub_self] at h
      injection h with h
      subst h
      rw [hn]; exact ⟨rfl, rfl⟩
    · rw [List.getElem?_eq_none (by simp; omega)] at h
      cases h
theorem ClosJ.done {wd k : Nat} {xs zs : List Person} (hJ : ClosJ k wd xs zs) (hw : 2 ≤ wd) (hk : 1 ≤ k) : ClosG wd (k - 1) zs := by
  refine ⟨hJ.g, fun d hd => by have := hJ.dep d hd; omega, .inr ?_⟩
  obtain ⟨ns, rfl, hn, hz⟩ := hJ.ns
  have h0 : ns[0]? = some ns[0] := List.getElem?_eq_getElem (by omega)
  have h1 : ns[1]? = some ns[1] := List.getElem?_eq_getElem (by omega)
  have z0 := hz 0 _ h0
  have z1 := hz 1 _ h1
  have e : (xs ++ ns).length - wd = xs.length := by simp; omega
  refine ⟨by simp; omega, ns[0], ns[1], ?_, ?_, by simpa using z0.1, by simpa using z1.1, by omega, by omega⟩
  · rw [e, List.getElem?_append_right (Nat.le_refl _), Nat.sub_self]; exact h0
  · rw [e, List.getElem?_append_right (by omega), show xs.length + 1 - xs.length = 1 by omega]; exact h1
end Go.Proofs.Ythpcippgifmabaa
