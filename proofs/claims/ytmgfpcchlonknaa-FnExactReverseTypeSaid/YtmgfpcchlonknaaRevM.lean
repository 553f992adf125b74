/-
  A kin type that leads back: plain definitions.
-/
import Derived.Test.YtmgfpcchlonknaaRevT
import Derived.Test.YtmgfpcchlonknaaSexB
namespace Go.Proofs.Ytmgfpcchlonknaa
set_option maxRecDepth 100000
open Go.RowKit

def bk (s : Int) (xs : List Step) (k : Nat) : Step := backM (xs.getD k ⟨0, 0⟩) (sexBM ⟨s, xs⟩ k)
/-- The first k steps, led back. -/
def revL (s : Int) (xs : List Step) (k : Nat) : List Step := ((List.range k).map (bk s xs)).reverse
/-- The steps from the n-th down to the m-th, led back. -/
def downL (s : Int) (xs : List Step) (n m : Nat) : List Step := (List.range (n - m)).map fun j => bk s xs (n - 1 - j)
def revT (t : KinType) : KinType × Bool := if typeOk t = true ∧ (t.steps.length = 0 ∨ egoM t ≠ 0) then (⟨sexM t, revL t.ego t.steps t.steps.length⟩, true) else (zeroT, false)
theorem revL_len (s : Int) (xs : List Step) (k : Nat) : (revL s xs k).length = k := by simp [revL]
theorem downL_len (s : Int) (xs : List Step) (n m : Nat) : (downL s xs n m).length = n - m := by simp [downL]
theorem revL_succ (s : Int) (xs : List Step) (k : Nat) : revL s xs (k + 1) = [bk s xs k] ++ revL s xs k := by simp [revL, List.range_succ]
theorem downL_succ (s : Int) (xs : List Step) {n m : Nat} (h : m < n) : downL s xs n m = downL s xs n (m + 1) ++ [bk s xs m] := by
  rw [downL, show n - m = (n - (m + 1)) + 1 by omega, List.range_succ, List.map_append]
  rw [downL, List.map_singleton, show n - 1 - (n - (m + 1)) = m by omega]
theorem downL_end (s : Int) (xs : List Step) (n : Nat) : downL s xs n 0 = revL s xs n := by
  apply List.ext_getElem?
  intro i
  by_cases hi : i < n
  · rw [revL, List.getElem?_reverse (by simpa using hi)]
    simp only [downL, List.getElem?_map, List.length_map, List.length_range]
    rw [List.getElem?_range (by omega), List.getElem?_range (by omega)]
    rfl
  · rw [List.getElem?_eq_none (by rw [downL_len]; omega), List.getElem?_eq_none (by rw [revL_len]; omega)]
theorem downL_start (s : Int) (xs : List Step) (n : Nat) : downL s xs n n = [] := by simp [downL]
theorem bk_at {s : Int} {xs : List Step} {k : Nat} {x : Step} (h : xs[k]? = some x) : bk s xs k = backM x (sexBM ⟨s, xs⟩ k) := by rw [bk, List.getD, h]; rfl
theorem revT_bad {t : KinType} (h : typeOk t = false) : revT t = (zeroT, false) := if_neg fun k => by rw [h] at k; cases k.1
theorem revT_ego {t : KinType} (h : t.steps.length ≠ 0) (h' : egoM t = 0) : revT t = (zeroT, false) := if_neg fun k => by rcases k.2 with k | k; exact h k; exact k h'
theorem revT_good {t : KinType} (h : typeOk t = true) (h' : t.steps.length = 0 ∨ egoM t ≠ 0) : revT t = (⟨sexM t, revL t.ego t.steps t.steps.length⟩, true) := if_pos ⟨h, h'⟩
theorem revT_len (t : KinType) : (revT t).1.steps.length ≤ 8 := by
  unfold revT; split
  · rename_i h; simp only [revL_len]; exact typeOk_len h.1
  · simp [zeroT]
theorem one_step (w : World) (x : Step) : EStep.OS (w.alloc (.cells #[.int .i64 x.kind, .int .i64 x.age] 93)) w.heap.size (w.alloc (.cells #[.int .i64 x.kind, .int .i64 x.age] 93)).heap.size (.slice (some ⟨w.heap.size, 0, none⟩) 1 1) [x] := by
  have hf : Fill (w.alloc (.cells #[.int .i64 x.kind, .int .i64 x.age] 93)) w.heap.size 93 2 [.int .i64 x.kind, .int .i64 x.age] 2 := ⟨_, heap_alloc_new w _, rfl, fun i hi => by
    rcases (by omega : i = 0 ∨ i = 1) with rfl | rfl <;> rfl⟩
  exact flat_os.2 (hf.own (n := 1) (sz := 2) rfl rfl (Nat.le_refl _) (by simp [BIG]))
end Go.Proofs.Ytmgfpcchlonknaa
