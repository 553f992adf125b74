/-
  Marks of the steps of a rule, held against what they should be; bounds of what is read.
-/
import Derived.Test.YtnnjilkjjdiblaaMarkRule
import Derived.Test.YtnnjilkjjdiblaaPRuleI
namespace Go.Proofs.Ytnnjilkjjdiblaa
set_option maxRecDepth 100000
open Go.RowKit

theorem heldRule_any (x0 : ByteArray) (x1 x2 : Int) (A B : Option Addr) (c d lo hi : Nat) (n m : Nat) (k : Int) (w : World) (h : EStep.AS w lo hi A (mkTo (markStep k) n)) (h' : EStep.AS w lo hi B (mkTo (markStep (k + 2 * n)) m)) (hh : hi ≤ w.heap.size) (h0 : 0 ≤ k) (h1 : k + 2 * n + 2 * m ≤ 4611686018427387904) :
    Calls Try.prog 46 #[.agg #[.string x0, .int .i64 x1, .int .i64 x2, .slice A n c, .slice B m d], .int .i64 k] w fun e w' => e = .returned (.int .i64 (k + 2 * n + 2 * m)) ∧ Below w.heap.size w w' := by
  have k1 : 0 ≤ k + 2 * (n : Int) := by omega
  have k2 : ¬ k + 2 * (n : Int) < 0 := by omega
  have k3 : ¬ k + 2 * (n : Int) + 2 * (m : Int) < 0 := by omega
  go_enter Try.func46, Try.ntmps46
  go_wp2_with (first
    | (go_at_call 116; (with_reducible refine (heldStepS_own A c lo hi n k _ (h.same (by (with_reducible repeat' first | exact Same.refl _ _ _ | assumption | (refine Same.setCell ?_ (by first | omega | (simp; omega) | (simp; done) | (dsimp only; omega)) _) | (refine Same.alloc ?_ (by first | omega | (simp; omega) | (simp; done) | (dsimp only; omega)) _) | (refine Same.drewN ?_ _) | (refine Same.drew ?_)))) h0 (by omega)).mono ?_); rintro e w1 ⟨rfl, rfl⟩)
    | (go_at_call 116; (with_reducible refine (heldStepS_own B d lo hi m (k + 2 * n) _ (h'.same (by (with_reducible repeat' first | exact Same.refl _ _ _ | assumption | (refine Same.setCell ?_ (by first | omega | (simp; omega) | (simp; done) | (dsimp only; omega)) _) | (refine Same.alloc ?_ (by first | omega | (simp; omega) | (simp; done) | (dsimp only; omega)) _) | (refine Same.drewN ?_ _) | (refine Same.drew ?_)))) k1 (by omega)).mono ?_); rintro e w1 ⟨rfl, rfl⟩))
  go_ret
  exact ⟨rfl, by (with_reducible repeat' first | exact Below.refl _ _ | assumption | (refine Below.setCell ?_ (by first | omega | (simp; omega) | (simp; done) | (dsimp only; omega)) _) | (refine Below.alloc ?_ (by first | omega | (simp; omega) | (simp; done) | (dsimp only; omega)) _) | (refine below_drewN ?_ _) | (refine Below.drew ?_))⟩
theorem pRule_len (s : ByteArray) : (pRuleM s).1.src.length ≤ 4 ∧ (pRuleM s).1.dst.length ≤ 4 := by
  unfold pRuleM
  cases candS s with
  | none => exact ⟨Nat.zero_le _, Nat.zero_le _⟩
  | some r =>
    simp only [finR]
    split
    · rename_i h
      obtain ⟨_, _, _, _, _, _, _, l2, l3⟩ := ruleOk_parts h.1
      exact ⟨l2, l3⟩
    · exact ⟨Nat.zero_le _, Nat.zero_le _⟩
end Go.Proofs.Ytnnjilkjjdiblaa
