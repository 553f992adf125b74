/-
  Small functions: whether a number lies between two others; names.
-/
import Derived.Test.YthpcippgifmabaaBase
namespace Go.Proofs.Ythpcippgifmabaa
set_option maxRecDepth 100000
open Go.RowKit

def inB (x a b : Int) : Bool := decide (a ≤ x ∧ x ≤ b)
theorem l1In_any (x a b : Int) (w : World) : Calls Try.prog 106 #[.int .i64 x, .int .i64 a, .int .i64 b] w fun e w' => e = .returned (.bool (inB x a b)) ∧ w = w' := by
  go_enter Try.func106, Try.ntmps106
  go_wp2
  all_goals (go_ret; exact ⟨ret_bool (by simp [inB]; omega), rfl⟩)

theorem inB_true {x a b : Int} (h : a ≤ x ∧ x ≤ b) : inB x a b = true := by simp [inB, h]
theorem inB_false {x a b : Int} (h : ¬ (a ≤ x ∧ x ≤ b)) : inB x a b = false := by simp only [inB, h, decide_false]


def lower (c : UInt8) : Bool := decide (97 ≤ c.toNat ∧ c.toNat ≤ 122)
def nameOk (s : ByteArray) : Bool := decide (1 ≤ s.size ∧ s.size ≤ 12) && s.data.toList.all lower
def NameRel (s : ByteArray) (i : Value) (w wr : World) : Prop := ∃ k : Nat, k ≤ s.size ∧ i = .int .i64 k ∧ w = wr ∧ (s.data.toList.drop k).all lower = s.data.toList.all lower
theorem bytes_drop {s : ByteArray} {k : Nat} (h : k < s.size) : s.data.toList.drop k = s[k] :: s.data.toList.drop (k + 1) := by
  have : k < s.data.toList.length := by simpa using h
  rw [List.drop_eq_getElem_cons this]; rfl

theorem implIsName_any (s : ByteArray) (w : World) (hs : s.size ≤ 140737488355328) : Calls Try.prog 73 #[.string s] w fun e w' => e = .returned (.bool (nameOk s)) ∧ w = w' := by
  by_cases hl : 1 ≤ s.size ∧ s.size ≤ 12
  · obtain ⟨l1, l2⟩ := hl
    go_enter Try.func73, Try.ntmps73
    go_wp2
    go_loopw [3] (fun i wr => NameRel s i w wr) (fun i _ => s.size - (intOf i).toNat)
    case atStart => exact ⟨0, Nat.zero_le _, rfl, rfl, rfl⟩
    case round =>
      obtain ⟨k, hk, rfl, rfl, he⟩ := hrel
      have HE := Lib.hid he; clear he
      by_cases hlt : k < s.size
      · have HD := Lib.hid (bytes_drop hlt)
        by_cases hlo : 97 ≤ (s[k].toNat : Int) ∧ (s[k].toNat : Int) ≤ 122
        · obtain ⟨b1, b2⟩ := hlo
          go_wp2
          exact ⟨⟨k + 1, by omega, by go_num, rfl, by rw [← HE.out, HD.out, List.all_cons, show lower s[k] = true by simp [lower]; omega]; rfl⟩, by simp [intOf]; omega⟩
        · go_wp2
          all_goals (go_ret; exact ⟨ret_bool (by rw [nameOk, ← HE.out, HD.out, List.all_cons, show lower s[k] = false by simp [lower]; omega]; simp), rfl⟩)
      · go_wp2
        go_ret
        exact ⟨ret_bool (by rw [nameOk, ← HE.out, List.drop_eq_nil_of_le (by simp; omega)]; simp; omega), rfl⟩
  · go_enter Try.func73, Try.ntmps73
    go_wp2
    all_goals (go_ret; exact ⟨ret_bool (by simp only [nameOk, hl, decide_false, Bool.false_and]), rfl⟩)

theorem specIsName_any (s : ByteArray) (w : World) (hs : s.size ≤ 140737488355328) : Calls Try.prog 105 #[.string s] w fun e w' => e = .returned (.bool (nameOk s)) ∧ w = w' := by
  go_enter Try.func105, Try.ntmps105
  go_wp2
  go_loopw [3] (fun i wr => NameRel s i w wr) (fun i _ => s.size - (intOf i).toNat)
  case atStart => exact ⟨0, Nat.zero_le _, rfl, rfl, rfl⟩
  case round =>
    obtain ⟨k, hk, rfl, rfl, he⟩ := hrel
    have HE := Lib.hid he; clear he
    by_cases hlt : k < s.size
    · have HD := Lib.hid (bytes_drop hlt)
      by_cases hlo : 97 ≤ (s[k].toNat : Int) ∧ (s[k].toNat : Int) ≤ 122
      · obtain ⟨b1, b2⟩ := hlo
        go_wp2
        exact ⟨⟨k + 1, by omega, by go_num, rfl, by rw [← HE.out, HD.out, List.all_cons, show lower s[k] = true by simp [lower]; omega]; rfl⟩, by simp [intOf]; omega⟩
      · go_wp2
        all_goals (go_ret; exact ⟨ret_bool (by rw [nameOk, ← HE.out, HD.out, List.all_cons, show lower s[k] = false by simp [lower]; omega]; simp), rfl⟩)
    · go_wp2_with (go_at_call 106; refine (l1In_any _ _ _ _).mono ?_; rintro e w' ⟨rfl, rfl⟩)
      go_ret
      exact ⟨ret_bool (by rw [nameOk, ← HE.out, List.drop_eq_nil_of_le (by simp; omega)]; simp only [inB, List.all_nil, Bool.and_true]; congr 1; rw [eq_iff_iff]; omega), rfl⟩
end Go.Proofs.Ythpcippgifmabaa
