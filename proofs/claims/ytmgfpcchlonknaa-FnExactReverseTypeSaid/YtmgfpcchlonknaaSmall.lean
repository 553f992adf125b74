/-
  Small functions: whether a number lies between two others; names.
-/
import Derived.Test.YtmgfpcchlonknaaBase
namespace Go.Proofs.Ytmgfpcchlonknaa
set_option maxRecDepth 100000
open Go.RowKit

def inB (x a b : Int) : Bool := decide (a ≤ x ∧ x ≤ b)
theorem l1In_any (x a b : Int) (w : World) : Calls Try.prog 74 #[.int .i64 x, .int .i64 a, .int .i64 b] w fun e w' => e = .returned (.bool (inB x a b)) ∧ w = w' := by
  go_enter Try.func74, Try.ntmps74
  go_wp2
  all_goals (go_ret; exact ⟨ret_bool (by simp [inB]; omega), rfl⟩)

theorem inB_true {x a b : Int} (h : a ≤ x ∧ x ≤ b) : inB x a b = true := by simp [inB, h]
theorem inB_false {x a b : Int} (h : ¬ (a ≤ x ∧ x ≤ b)) : inB x a b = false := by simp only [inB, h, decide_false]


def lower (c : UInt8) : Bool := decide (97 ≤ c.toNat ∧ c.toNat ≤ 122)
def nameOk (s : ByteArray) : Bool := decide (1 ≤ s.size ∧ s.size ≤ 12) && s.data.toList.all lower
def NameRel (s : ByteArray) (i : Value) (w wr : World) : Prop := ∃ k : Nat, k ≤ s.size ∧ i = .int .i64 k ∧ w = wr ∧ (s.data.toList.drop k).all lower = s.data.toList.all lower
theorem bytes_drop {s : ByteArray} {k : Nat} (h : k < s.size) : s.data.toList.drop k = s[k] :: s.data.toList.drop (k + 1) := by
  have : k < s.data.toList.length := by simpa using h
  rw [List.drop_eq_getElem_cons this]; rfl

end Go.Proofs.Ytmgfpcchlonknaa
