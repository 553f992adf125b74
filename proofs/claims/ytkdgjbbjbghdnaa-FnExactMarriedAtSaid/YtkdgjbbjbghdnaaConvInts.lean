/-
  Sizes, copies and equality of slices of ints and of slices of such slices: what each function returns and what it leaves of memory.
-/
import Derived.Test.YtkdgjbbjbghdnaaBase
namespace Go.Proofs.Ytkdgjbbjbghdnaa
set_option maxRecDepth 100000
open Go.RowKit

theorem int_info : (Try.prog.info? 3).map (fun i => (i.zero, i.size, i.bytes)) = some (some (.int .i64 0), 1, 8) := by kernel_rfl
theorem ints_info : (Try.prog.info? 44).map (fun i => (i.zero, i.size, i.bytes)) = some (some (.slice none 0 0), 1, 24) := by kernel_rfl

def tot : List (List Int) → Nat
  | [] => 0
  | x :: r => x.length + tot r

theorem le_tot {x : List Int} {xs : List (List Int)} (h : x ∈ xs) : x.length ≤ tot xs := by
  induction xs with
  | nil => cases h
  | cons y r ih =>
    simp only [tot]
    rcases List.mem_cons.1 h with rfl | h
    · omega
    · have := ih h; omega
def SzRel (xss : List (List Int)) (left0 : Int) (l i : Value) : Prop :=
  ∃ (k : Nat) (left : Int), k ≤ xss.length ∧ i = .int .i64 k ∧ l = .int .i64 left ∧ 0 ≤ left ∧ left ≤ 1048576 ∧ left - tot (xss.drop k) = left0 - xss.length - tot xss
theorem eqIntS_any (A B : Option Addr) (c d lo hi lo' hi' : Nat) (xs ys : List Int) (w : World) (h : EInt.AS w lo hi A xs) (h' : EInt.AS w lo' hi' B ys) :
    Calls Try.prog 33 #[.slice A xs.length c, .slice B ys.length d] w fun e w' => ∃ n, e = .returned (.bool (eqB xs ys)) ∧ w.drewN n = w' := by
  have hx := h.le
  unfold BIG at hx
  by_cases hn : xs.length = ys.length
  · have n1 : xs.length ≤ ys.length := by omega
    have n2 : ys.length ≤ xs.length := by omega
    clear hn
    go_enter Try.func33, Try.ntmps33
    go_wp2
    go_loopw [5] (fun i wr => EqRel xs ys w i wr) (fun i _ => xs.length - (intOf i).toNat)
    case atStart => exact ⟨0, 0, Nat.zero_le _, rfl, rfl, by simp⟩
    case round =>
      obtain ⟨k, n, hk, rfl, hw, he⟩ := hrel
      have HE := Lib.hid he; clear he
      have h := hw ▸ h.drewN n; have h' := hw ▸ h'.drewN n
      have HW := Lib.hid hw; clear hw
      by_cases hlt : k < xs.length
      · obtain ⟨b1, o1, x, rfl, _, _, hd1, _, hc1⟩ := AInt.at_ h hlt
        obtain ⟨b2, o2, y, rfl, _, _, hd2, _, hc2⟩ := AInt.at_ h' (by omega : k < ys.length)
        have HD1 := Lib.hid hd1; have HD2 := Lib.hid hd2; clear hd1 hd2
        have q1 : (0 : Int) ≤ (k : Int) := by omega
        have q2 : (k : Int) < (xs.length : Int) := by omega
        have q3 : (k : Int) < (ys.length : Int) := by omega
        go_wp2
        go_quiet (fail)
        go_wp2
        · have hxy : (x != y) = true := by assumption
          go_ret
          exact ⟨_, ret_bool (eqB_no HE.out HD1.out HD2.out (eqB_int_ne hxy)), by rw [HW.out, World.drewN_drewN]⟩
        · have hxy : (x != y) = false := by assumption
          exact ⟨⟨k + 1, _, by omega, by go_num, by rw [HW.out, World.drewN_drewN], eqB_yes HE.out HD1.out HD2.out (eqB_int_eq hxy)⟩, by simp [intOf]; omega⟩
      · go_wp2
        go_ret
        exact ⟨_, ret_bool (eqB_end HE.out (by omega) (by omega)), HW.out.symm⟩
  · go_enter Try.func33, Try.ntmps33
    go_wp2
    go_ret
    exact ⟨0, ret_bool (eqB_len hn).symm, rfl⟩

end Go.Proofs.Ytkdgjbbjbghdnaa
