/-
  The text of a mark: the letter m and a number's digits.
-/
import Derived.Test.YthpcippgifmabaaDoorBase
import Derived.Laws.Concat
import Derived.Laws.IdiomStrings
namespace Go.Proofs.YthpcippgifmabaaDoor
set_option maxRecDepth 100000
open Go.RowKit

theorem add_run' (a b : ByteArray) (h : a.size ≤ 4000000000000000000) (h' : b.size ≤ 4000000000000000000) (w : World) : (Op.stringOp .add a b).run Tryd.prog w = .ok (.string (a ++ b)) w := run_string_add_sum _ a b (by omega)

def digT (m : Nat) : ByteArray := if _h : m = 0 then ⟨#[]⟩ else digT (m / 10) ++ ⟨#[UInt8.ofNat (48 + m % 10)]⟩
termination_by m
theorem digT_zero : digT 0 = ⟨#[]⟩ := by rw [digT]; simp
theorem digT_pos {m : Nat} (h : 0 < m) : digT m = digT (m / 10) ++ ⟨#[UInt8.ofNat (48 + m % 10)]⟩ := by rw [digT, dif_neg (by omega)]
theorem digT_size : ∀ (d m : Nat), m < 10 ^ d → (digT m).size ≤ d := by
  intro d
  induction d with
  | zero =>
    intro m h
    have hm : m = 0 := by simpa using h
    rw [hm, digT_zero]; exact Nat.le_refl _
  | succ d ih =>
    intro m h
    rcases Nat.eq_zero_or_pos m with rfl | hm
    · rw [digT_zero]; exact Nat.zero_le _
    · rw [digT_pos hm]
      have := ih (m / 10) (by rw [Nat.pow_succ] at h; omega)
      have e : (⟨#[UInt8.ofNat (48 + m % 10)]⟩ : ByteArray).size = 1 := rfl
      rw [ByteArray.size_append, e]; omega
def markT (k : Int) : ByteArray := ⟨#[109]⟩ ++ digT k.toNat
def DigRel (k : Nat) (w : World) (a o : Value) (wr : World) : Prop :=
  ∃ (m : Nat) (acc : ByteArray), m ≤ k ∧ a = .int .i64 m ∧ o = .string acc ∧ digT m ++ acc = digT k ∧ Below w.heap.size w wr

end Go.Proofs.YthpcippgifmabaaDoor
