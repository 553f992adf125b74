/-
  The sex of the person from whom a step is made.
  A kin type that leads back: plain definitions.
-/
import Derived.Test.YtnnjilkjjdiblaaTyp2
import Derived.Test.YtnnjilkjjdiblaaRevT

/-! ## SexB -/
namespace Go.Proofs.Ytnnjilkjjdiblaa
set_option maxRecDepth 100000
open Go.RowKit

def sexBM (t : KinType) (k : Nat) : Int := if k = 0 then egoM t else sexTo (t.steps.getD (k - 1) ⟨0, 0⟩).kind
theorem sexBM_pos {t : KinType} {k : Nat} {s : Step} (hk : 0 < k) (h : t.steps[k - 1]? = some s) : sexBM t k = sexTo s.kind := by
  rw [sexBM, if_neg (by omega), List.getD, h]; rfl

theorem sexBefore_any (s : Int) (A : Option Addr) (c lo hi : Nat) (xs : List Step) (k : Nat) (w : World) (h : EStep.AS w lo hi A xs) (hh : hi ≤ w.heap.size) (hok : typeOk ⟨s, xs⟩ = true) (hk : k ≤ xs.length) :
    Calls Try.prog 90 #[.agg #[.int .i64 s, .slice A xs.length c], .int .i64 k] w fun e w' => e = .returned (.int .i64 (sexBM ⟨s, xs⟩ k)) ∧ Below w.heap.size w w' := by
  have hl := typeOk_len hok
  simp only at hl
  by_cases h0 : k = 0
  · subst h0
    go_enter Try.func90, Try.ntmps90
    go_wp2_with (go_at_call 87; (with_reducible refine (egoOf_any s A c lo hi xs _ (h.same (by (with_reducible repeat' first | exact Same.refl _ _ _ | assumption | (refine Same.setCell ?_ (by first | omega | (simp; omega) | (simp; done) | (dsimp only; omega)) _) | (refine Same.alloc ?_ (by first | omega | (simp; omega) | (simp; done) | (dsimp only; omega)) _) | (refine Same.drewN ?_ _) | (refine Same.drew ?_)))) (by first | omega | (simp; omega) | (simp; done) | (dsimp only; omega))).mono ?_); rintro e w1 ⟨rfl, hb1⟩)
    go_ret
    exact ⟨ret_int (by rw [sexBM, if_pos rfl]), by (with_reducible repeat' first | exact Below.refl _ _ | assumption | (refine Below.setCell ?_ (by first | omega | (simp; omega) | (simp; done) | (dsimp only; omega)) _) | (refine Below.alloc ?_ (by first | omega | (simp; omega) | (simp; done) | (dsimp only; omega)) _) | (refine below_drewN ?_ _) | (refine Below.drew ?_) | (refine Below.trans ?_ (hb1.mono (by first | omega | (simp; omega) | (simp; done) | (dsimp only; omega)))))⟩
  · have hlt : k - 1 < xs.length := by omega
    obtain ⟨b, off, ⟨x, y⟩, rfl, _, hbh, _, hxk, hc1, hc2⟩ := AStep.at_ h hlt
    have hbw : b < w.heap.size := by omega
    have k12 := typeOk_at hok hxk
    have HS := Lib.hid (sexBM_pos (t := ⟨s, xs⟩) (by omega : 0 < k) hxk); clear hxk
    have n0 : ((k : Int) == 0) = false := beq_eq_false_iff_ne.2 (by omega)
    have e1 : ((k : Int) - 1) = ((k - 1 : Nat) : Int) := by omega
    have k1 := k12.1; have k2 := k12.2; simp only at k1 k2; clear k12 hok
    go_enter Try.func90, Try.ntmps90
    go_wp2_with (go_at_call 173; refine (stepSex_any x _ k1 k2).mono ?_; rintro e w2 ⟨rfl, rfl⟩)
    go_ret
    exact ⟨ret_int (by rw [HS.out]), by (with_reducible repeat' first | exact Below.refl _ _ | assumption | (refine Below.setCell ?_ (by first | omega | (simp; omega) | (simp; done) | (dsimp only; omega)) _) | (refine Below.alloc ?_ (by first | omega | (simp; omega) | (simp; done) | (dsimp only; omega)) _) | (refine below_drewN ?_ _) | (refine Below.drew ?_))⟩
theorem sexBM_succ {t : KinType} {k : Nat} {s : Step} (h : t.steps[k]? = some s) : sexBM t (k + 1) = sexTo s.kind := sexBM_pos (by omega) h
theorem sexTo_in (k : Int) : sexTo k = 1 ∨ sexTo k = 2 := by unfold sexTo; split <;> simp
theorem egoM_in {t : KinType} (h : typeOk t = true) (h' : egoM t ≠ 0) : egoM t = 1 ∨ egoM t = 2 := by
  have := typeOk_ego h
  unfold egoM at h' ⊢
  split at h' <;> rename_i h0
  · rw [if_pos h0]
    split at h'
    · exact absurd rfl h'
    · split at h' <;> rename_i h1
      · simp [h1]
      · split at h' <;> rename_i h2
        · simp [h2]
        · exact absurd rfl h'
  · rw [if_neg h0]; omega
theorem sexBM_in {t : KinType} (h : typeOk t = true) (h' : egoM t ≠ 0) (k : Nat) : sexBM t k = 1 ∨ sexBM t k = 2 := by
  unfold sexBM; split
  · exact egoM_in h h'
  · exact sexTo_in _
/-- The steps of a valid list have ages from 0 to 2. -/
theorem stepsOk_age {xs : List Step} : ∀ {sex : Int} {k : Nat} {s : Step}, stepsOk sex xs = true → xs[k]? = some s → 0 ≤ s.age ∧ s.age ≤ 2 := by
  induction xs with
  | nil => intro sex k s _ h; simp at h
  | cons x r ih =>
    intro sex k s h hk
    simp only [stepsOk, Bool.and_eq_true] at h
    cases k with
    | zero =>
      simp at hk; subst hk
      have := h.1
      simp [stepOk] at this; omega
    | succ k => simp at hk; exact ih h.2 hk
theorem typeOk_age {t : KinType} {k : Nat} {s : Step} (h : typeOk t = true) (hk : t.steps[k]? = some s) : 0 ≤ s.age ∧ s.age ≤ 2 := by
  simp only [typeOk, Bool.and_eq_true] at h
  exact stepsOk_age h.2 hk
end Go.Proofs.Ytnnjilkjjdiblaa

/-! ## RevM -/
namespace Go.Proofs.Ytnnjilkjjdiblaa
set_option maxRecDepth 100000
open Go.RowKit

def bk (s : Int) (xs : List Step) (k : Nat) : Step := backM (xs.getD k ⟨0, 0⟩) (sexBM ⟨s, xs⟩ k)
/-- The first k steps, led back. -/
def revL (s : Int) (xs : List Step) (k : Nat) : List Step := ((List.range k).map (bk s xs)).reverse
/-- The steps from the n-th down to the m-th, led back. -/
def downL (s : Int) (xs : List Step) (n m : Nat) : List Step := (List.range (n - m)).map fun j => bk s xs (n - 1 - j)
def revT (t : KinType) : KinType × Bool := if typeOk t = true ∧ (t.steps.length = 0 ∨ egoM t ≠ 0) then (⟨sexM t, revL t.ego t.steps t.steps.length⟩, true) else (zeroT, false)
theorem revL_len (s : Int) (xs : List Step) (k : Nat) : (revL s xs k).length = k := by simp [revL]
theorem downL_len (s : Int) (xs : List Step) (n m : Nat) : (downL s xs n m).length = n - m := by simp [downL]
theorem revL_succ (s : Int) (xs : List Step) (k : Nat) : revL s xs (k + 1) = [bk s xs k] ++ revL s xs k := by simp [revL, List.range_succ]
theorem downL_succ (s : Int) (xs : List Step) {n m : Nat} (h : m < n) : downL s xs n m = downL s xs n (m + 1) ++ [bk s xs m] := by
  rw [downL, show n - m = (n - (m + 1)) + 1 by omega, List.range_succ, List.map_append]
  rw [downL, List.map_singleton, show n - 1 - (n - (m + 1)) = m by omega]
theorem downL_end (s : Int) (xs : List Step) (n : Nat) : downL s xs n 0 = revL s xs n := by
  apply List.ext_getElem?
  intro i
  by_cases hi : i < n
  · rw [revL, List.getElem?_reverse (by simpa using hi)]
    simp only [downL, List.getElem?_map, List.length_map, List.length_range]
    rw [List.getElem?_range (by omega), List.getElem?_range (by omega)]
    rfl
  · rw [List.getElem?_eq_none (by rw [downL_len]; omega), List.getElem?_eq_none (by rw [revL_len]; omega)]
theorem downL_start (s : Int) (xs : List Step) (n : Nat) : downL s xs n n = [] := by simp [downL]
theorem bk_at {s : Int} {xs : List Step} {k : Nat} {x : Step} (h : xs[k]? = some x) : bk s xs k = backM x (sexBM ⟨s, xs⟩ k) := by rw [bk, List.getD, h]; rfl
theorem revT_bad {t : KinType} (h : typeOk t = false) : revT t = (zeroT, false) := if_neg fun k => by rw [h] at k; cases k.1
theorem revT_ego {t : KinType} (h : t.steps.length ≠ 0) (h' : egoM t = 0) : revT t = (zeroT, false) := if_neg fun k => by rcases k.2 with k | k; exact h k; exact k h'
theorem revT_good {t : KinType} (h : typeOk t = true) (h' : t.steps.length = 0 ∨ egoM t ≠ 0) : revT t = (⟨sexM t, revL t.ego t.steps t.steps.length⟩, true) := if_pos ⟨h, h'⟩
theorem one_step (w : World) (x : Step) : EStep.OS (w.alloc (.cells #[.int .i64 x.kind, .int .i64 x.age] 72)) w.heap.size (w.alloc (.cells #[.int .i64 x.kind, .int .i64 x.age] 72)).heap.size (.slice (some ⟨w.heap.size, 0, none⟩) 1 1) [x] := by
  have hf : Fill (w.alloc (.cells #[.int .i64 x.kind, .int .i64 x.age] 72)) w.heap.size 72 2 [.int .i64 x.kind, .int .i64 x.age] 2 := ⟨_, heap_alloc_new w _, rfl, fun i hi => by
    rcases (by omega : i = 0 ∨ i = 1) with rfl | rfl <;> rfl⟩
  exact flat_os.2 (hf.own (n := 1) (sz := 2) rfl rfl (Nat.le_refl _) (by simp [BIG]))
end Go.Proofs.Ytnnjilkjjdiblaa
