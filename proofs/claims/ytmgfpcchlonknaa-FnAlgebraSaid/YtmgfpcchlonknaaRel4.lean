/-
  Equality of relations.
-/
import Derived.Test.YtmgfpcchlonknaaRel3
namespace Go.Proofs.Ytmgfpcchlonknaa
set_option maxRecDepth 100000
open Go.RowKit

def SameRel (n : Nat) (p q : Nat → Nat → Bool) (w : World) (i : Value) (wr : World) : Prop := ∃ (k d : Nat), k ≤ n ∧ i = .int .i64 k ∧ wr = w.drewN d ∧ ∀ a b, a < k → b < n → p a b = q a b
def SameIn (n k : Nat) (p q : Nat → Nat → Bool) (w : World) (i : Value) (wr : World) : Prop := ∃ (j d : Nat), j ≤ n ∧ i = .int .i64 j ∧ wr = w.drewN d ∧ ∀ b, b < j → p k b = q k b
theorem mat_ne {n a b : Nat} {p q : Nat → Nat → Bool} (ha : a < n) (hb : b < n) (h : p a b ≠ q a b) : eqB (mat n p) (mat n q) = false := eqB_ne fun e => by
  have h1 : (mat n p)[a]? = (mat n q)[a]? := by rw [e]
  rw [mat_at ha, mat_at ha] at h1
  injection h1 with h1
  have h2 : ((List.range n).map (p a))[b]? = ((List.range n).map (q a))[b]? := by rw [h1]
  simp [hb] at h2
  exact h h2

set_option maxHeartbeats 1000000 in
theorem l2Same_any (A B : Option Addr) (c d lo hi lo' hi' n : Nat) (p q : Nat → Nat → Bool) (w : World) (hn : n ≤ 40) (h : EBoolS.AS w lo hi A (mat n p)) (h' : EBoolS.AS w lo' hi' B (mat n q)) :
    Calls Try.prog 118 #[.slice A n c, .slice B n d] w fun e w' => ∃ m, e = .returned (.bool (eqB (mat n p) (mat n q))) ∧ w.drewN m = w' := by
  go_enter Try.func118, Try.ntmps118
  go_wp2
  go_loopw [9] (fun i wr => SameRel n p q w i wr) (fun i _ => n - (intOf i).toNat)
  case atStart => exact ⟨0, 0, Nat.zero_le _, rfl, rfl, fun a b ha _ => absurd ha (Nat.not_lt_zero _)⟩
  case round =>
    obtain ⟨k, m, hk, rfl, hw, he⟩ := hrel
    have HE := Lib.hid he; have HW := Lib.hid hw; clear he hw
    by_cases hlt : k < n
    · obtain ⟨g1, o1, r1, q1, cc1, rfl, _, _, _, _, _, _, k1, _⟩ := mat_read (b := 0) (HW.out ▸ h.drewN m : EBoolS.AS wr lo hi A (mat n p)) hlt (by omega)
      go_wp2
      obtain ⟨wo, rfl⟩ : ∃ wo : World, wo = wr := ⟨_, rfl⟩
      go_loopw [17] (fun i wr => SameIn n k p q wo i wr) (fun i _ => n - (intOf i).toNat)
      case atStart => exact ⟨0, 0, Nat.zero_le _, rfl, rfl, fun b hb => absurd hb (Nat.not_lt_zero _)⟩
      case round =>
        obtain ⟨j, m2, hj, rfl, hw2, he2⟩ := hrel
        have HE2 := Lib.hid he2; have HW2 := Lib.hid hw2; clear he2 hw2
        by_cases hlt2 : j < n
        · have e1 : EBoolS.AS wr lo hi (some ⟨g1, o1, none⟩) (mat n p) := HW2.out ▸ (HW.out ▸ h.drewN m : EBoolS.AS wo lo hi (some ⟨g1, o1, none⟩) (mat n p)).drewN m2
          have e2 : EBoolS.AS wr lo' hi' B (mat n q) := HW2.out ▸ (HW.out ▸ h'.drewN m : EBoolS.AS wo lo' hi' B (mat n q)).drewN m2
          obtain ⟨g1', o1', r1', q1', cc1', hA, _, _, _, _, _, _, k2, k3⟩ := mat_read e1 hlt hlt2
          obtain ⟨g2, o2, r2, q2, cc2, rfl, _, _, _, _, _, _, k4, k5⟩ := mat_read e2 hlt hlt2
          injection hA with hA
          injection hA with hA1 hA2
          subst hA1; subst hA2
          have t1 : (0 : Int) ≤ (k : Int) := by omega
          have t2 : (k : Int) < (n : Int) := by omega
          have t3 : (0 : Int) ≤ (j : Int) := by omega
          have t4 : (j : Int) < (n : Int) := by omega
          clear e1 e2 k1
          generalize hx : p k j = x at k3
          generalize hy : q k j = y at k5
          have HX := Lib.hid hx; have HY := Lib.hid hy; clear hx hy
          go_wp2
          go_quiet (fail)
          go_wp2
          · have hxy : (x != y) = true := by assumption
            go_ret
            refine ⟨_, ret_bool (mat_ne hlt hlt2 ?_).symm, by rw [HW2.out, HW.out, World.drewN_drewN, World.drewN_drewN]⟩
            rw [HX.out, HY.out]; simpa using hxy
          · have hxy : (x != y) = false := by assumption
            refine ⟨⟨j + 1, _, by omega, by go_num, by rw [HW2.out, World.drewN_drewN], fun b hb => ?_⟩, by simp [intOf]; omega⟩
            by_cases hbj : b = j
            · subst hbj; rw [HX.out, HY.out]; simpa using hxy
            · exact HE2.out b (by omega)
        · obtain rfl : j = n := by omega
          go_wp2
          refine ⟨⟨k + 1, _, by omega, by go_num, by rw [HW2.out, HW.out, World.drewN_drewN], fun a b ha hb => ?_⟩, by simp [intOf]; omega⟩
          by_cases hak : a = k
          · subst hak; exact HE2.out b hb
          · exact HE.out a b (by omega) hb
    · obtain rfl : k = n := by omega
      go_wp2
      go_ret
      exact ⟨_, ret_bool (eqB_of (mat_congr HE.out)).symm, HW.out.symm⟩

/-- Ascending rows are equal just if they have the same members. -/
theorem row_ext {n : Int} {xs ys : List Int} : ∀ {last : Int}, rowOk n last xs = true → rowOk n last ys = true → (∀ b, b ∈ xs ↔ b ∈ ys) → xs = ys := by
  induction xs generalizing ys with
  | nil =>
    intro last _ _ h
    cases ys with
    | nil => rfl
    | cons y r => exact absurd ((h y).2 (by simp)) (by simp)
  | cons x r ih =>
    intro last hx hy h
    cases ys with
    | nil => exact absurd ((h x).1 (by simp)) (by simp)
    | cons y s =>
      have mx := rowOk_mem hx; have my := rowOk_mem hy
      rw [rowOk] at hx hy
      split at hx
      · cases hx
      split at hy
      · cases hy
      have rx := rowOk_mem hx; have ry := rowOk_mem hy
      have hxy : x = y := by
        rcases List.mem_cons.1 ((h x).1 (by simp)) with e | e
        · exact e
        · rcases List.mem_cons.1 ((h y).2 (by simp)) with e' | e'
          · exact e'.symm
          · have := (ry x e).1; have := (rx y e').1; omega
      subst hxy
      rw [ih hx hy fun b => ?_]
      constructor
      · intro hb
        rcases List.mem_cons.1 ((h b).1 (by simp [hb])) with e | e
        · have := (rx b hb).1; omega
        · exact e
      · intro hb
        rcases List.mem_cons.1 ((h b).2 (by simp [hb])) with e | e
        · have := (ry b hb).1; omega
        · exact e
theorem grid_eq {n : Nat} {xs ys : List (List Int)} (hx : xs.length = n) (hy : ys.length = n) (h1 : ∀ x ∈ xs, rowOk (n : Int) (-1) x = true) (h2 : ∀ x ∈ ys, rowOk (n : Int) (-1) x = true) : eqB (mat n (gridP xs)) (mat n (gridP ys)) = eqB xs ys := by
  by_cases h : xs = ys
  · subst h; rw [eqB_refl, eqB_refl]
  · rw [eqB_ne h]
    -- some row differs in some member
    have : ∃ a, a < n ∧ xs.getD a [] ≠ ys.getD a [] := by
      refine Classical.byContradiction fun hn => h ?_
      apply List.ext_getElem?
      intro a
      by_cases ha : a < n
      · have := Classical.byContradiction fun hne => hn ⟨a, ha, hne⟩
        simp only [List.getD] at this
        rw [List.getElem?_eq_getElem (by omega), List.getElem?_eq_getElem (by omega)] at this ⊢
        simpa using this
      · rw [List.getElem?_eq_none (by omega), List.getElem?_eq_none (by omega)]
    obtain ⟨a, ha, hne⟩ := this
    have m1 : xs.getD a [] ∈ xs := by simp [List.getD, List.getElem?_eq_getElem (show a < xs.length by omega)]
    have m2 : ys.getD a [] ∈ ys := by simp [List.getD, List.getElem?_eq_getElem (show a < ys.length by omega)]
    have : ∃ b : Int, ¬ (b ∈ xs.getD a [] ↔ b ∈ ys.getD a []) := Classical.byContradiction fun hn => hne (row_ext (h1 _ m1) (h2 _ m2) fun b => Classical.byContradiction fun hb => hn ⟨b, hb⟩)
    obtain ⟨b, hb⟩ := this
    have hr : 0 ≤ b ∧ b < n := by
      by_cases hm : b ∈ xs.getD a []
      · have := rowOk_mem (h1 _ m1) b hm; omega
      · have hm' : b ∈ ys.getD a [] := Classical.byContradiction fun hn => hb (iff_of_false hm hn)
        have := rowOk_mem (h2 _ m2) b hm'; omega
    obtain ⟨b, rfl⟩ := Int.eq_ofNat_of_zero_le hr.1
    refine mat_ne ha (show b < n by omega) fun e => hb ?_
    simp only [gridP, hasB, decide_eq_decide] at e
    exact e
def equalM (r s : Relation) : Bool := bothOk r s && eqB r.rows s.rows
theorem bothOk_parts {s t : Int} {xs ys : List (List Int)} (h : bothOk ⟨s, xs⟩ ⟨t, ys⟩ = true) : relOk ⟨s, xs⟩ = true ∧ relOk ⟨t, ys⟩ = true ∧ s = t := by
  simp only [bothOk, Bool.and_eq_true, decide_eq_true_eq] at h
  exact ⟨h.1.1, h.1.2, h.2⟩
end Go.Proofs.Ytmgfpcchlonknaa
