/-
  Bounds of the sizes of results.
-/
import Derived.Test.YtmgfpcchlonknaaMat
namespace Go.Proofs.Ytmgfpcchlonknaa
set_option maxRecDepth 100000
open Go.RowKit

theorem tot_le {xs : List (List Int)} {n : Nat} (h : ∀ x ∈ xs, x.length ≤ n) : tot xs ≤ xs.length * n := by
  induction xs with
  | nil => simp [tot]
  | cons y r ih =>
    have h1 := h y (by simp)
    have h2 := ih fun x hx => h x (by simp [hx])
    simp only [tot, List.length_cons, Nat.add_mul, Nat.one_mul]; omega
theorem relM_tot (n : Nat) (p : Nat → Nat → Bool) : tot (relM n p) ≤ n * n := by
  have := tot_le (xs := relM n p) (n := n) fun x hx => by
    simp only [relM, relTo, List.mem_map] at hx
    obtain ⟨a, _, rfl⟩ := hx
    exact idxTo_len _ _
  rwa [relM_len] at this
theorem relM_tot' {n : Nat} (p : Nat → Nat → Bool) (h : n ≤ 40) : tot (relM n p) ≤ 1600 :=
  Nat.le_trans (relM_tot n p) (Nat.mul_le_mul h h)
theorem emptyM_tot (n : Int) : tot (emptyM n).rows ≤ 1600 := by
  unfold emptyM; split
  · exact relM_tot' _ (by omega)
  · simp [zeroRel, tot]
theorem identM_tot (n : Int) : tot (identM n).rows ≤ 1600 := by
  unfold identM; split
  · exact relM_tot' _ (by omega)
  · simp [zeroRel, tot]
end Go.Proofs.Ytmgfpcchlonknaa
