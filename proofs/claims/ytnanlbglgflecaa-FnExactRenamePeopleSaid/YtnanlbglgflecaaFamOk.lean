/-
  What makes a family valid: the model.
-/
import Derived.Test.YtnanlbglgflecaaPeople
import Derived.Test.YtnanlbglgflecaaUnions
namespace Go.Proofs.Ytnanlbglgflecaa
set_option maxRecDepth 100000
open Go.RowKit

def unionsOk (xs : List Person) (ys : List Union) (k : Nat) : Bool := (List.range k).all (unionOk xs ys)
theorem unionsOk_succ (xs : List Person) (ys : List Union) (k : Nat) : unionsOk xs ys (k + 1) = (unionsOk xs ys k && unionOk xs ys k) := by simp [unionsOk, List.range_succ]
theorem unionsOk_bad {xs : List Person} {ys : List Union} {k n : Nat} (h : unionOk xs ys k = false) (hk : k < n) : unionsOk xs ys n = false := by
  rw [unionsOk, List.all_eq_false]
  exact ⟨k, List.mem_range.2 hk, by rw [h]; simp⟩
def famOk (xs : List Person) (ys : List Union) : Bool := decide (xs.length ≤ 40 ∧ ys.length ≤ 60) && peopleOk xs xs.length && flatOk (depL xs xs.length) xs.length && unionsOk xs ys ys.length
theorem famOk_len {xs : List Person} {ys : List Union} (h : ¬ (xs.length ≤ 40 ∧ ys.length ≤ 60)) : famOk xs ys = false := by rw [famOk, decide_eq_false h]; rfl
theorem famOk_in {xs : List Person} {ys : List Union} (h : xs.length ≤ 40 ∧ ys.length ≤ 60) : famOk xs ys = (peopleOk xs xs.length && flatOk (depL xs xs.length) xs.length && unionsOk xs ys ys.length) := by rw [famOk, decide_eq_true h]; rfl
theorem totP_mem {xs : List Person} (h : totP xs ≤ 1048576) : ∀ x ∈ xs, x.name.size ≤ 1048576 := by
  induction xs with
  | nil => intro x hx; cases hx
  | cons y r ih =>
    intro x hx
    simp only [totP] at h
    rcases List.mem_cons.1 hx with rfl | hx
    · omega
    · exact ih (by omega) x hx
theorem OS_cap {α : Type} {E : Elem α} {w : World} {lo hi n c : Nat} {A : Option Addr} {xs : List α} (h : E.OS w lo hi (.slice A n c) xs) : n ≤ c ∧ c ≤ maxLen := by
  obtain ⟨A', c', he, h1, h2, _⟩ := h.read
  injection he with e1 e2 e3
  subst e1; subst e3
  exact ⟨by omega, h2⟩
/-- A loop that asks one after the other. -/
def AskRel (P : Nat → Bool) (n : Nat) (w : World) (i : Value) (wr : World) : Prop :=
  ∃ k : Nat, k ≤ n ∧ i = .int .i64 k ∧ Below w.heap.size w wr ∧ P k = true

end Go.Proofs.Ytnanlbglgflecaa
