/-
  Which of two lists of steps comes first, in the program and in the reference.
-/
import Derived.Test.YtnanlbglgflecaaRuleM
namespace Go.Proofs.Ytnanlbglgflecaa
set_option maxRecDepth 100000
open Go.RowKit

def cmpI (a b : Int) : Int := if a < b then -1 else if b < a then 1 else 0
theorem cmpI_lt {a b : Int} (h : a < b) : cmpI a b = -1 := if_pos h
theorem cmpI_gt {a b : Int} (h : b < a) : cmpI a b = 1 := by rw [cmpI, if_neg (by omega), if_pos h]
theorem cmpI_eq (a : Int) : cmpI a a = 0 := by rw [cmpI, if_neg (by omega), if_neg (by omega)]
theorem cmpI_ne {a b : Int} (h : a ≠ b) : cmpI a b = if a < b then -1 else 1 := by
  by_cases h1 : a < b
  · rw [cmpI_lt h1, if_pos h1]
  · rw [cmpI_gt (by omega), if_neg h1]
theorem compareInts_any (a b : Int) (w : World) : Calls Try.prog 222 #[.int .i64 a, .int .i64 b] w fun e w' => e = .returned (.int .i64 (cmpI a b)) ∧ w = w' := by
  by_cases h1 : a < b
  · have HC := Lib.hid (cmpI_lt h1)
    go_enter Try.func222, Try.ntmps222
    go_wp2
    go_ret
    exact ⟨ret_int (by rw [HC.out]), rfl⟩
  · by_cases h2 : b < a
    · have HC := Lib.hid (cmpI_gt h2)
      go_enter Try.func222, Try.ntmps222
      go_wp2
      go_ret
      exact ⟨ret_int (by rw [HC.out]), rfl⟩
    · obtain rfl : a = b := by omega
      go_enter Try.func222, Try.ntmps222
      go_wp2
      go_ret
      exact ⟨ret_int (by rw [cmpI_eq]), rfl⟩
theorem quiet_add_left {P : Program} {f : FuncId} {args : Array Value} {w : World} {a n : Nat} {v : Value}
    (h : Calls P f args (w.drewN (a + n)) fun e w' => e = .returned v ∧ w.drewN (a + n) = w') :
    Calls P f args (w.drewN (a + n)) fun e w'' => e = .returned v ∧ ∃ m, w'' = w.drewN (a + m) :=
  h.mono fun _ _ ⟨he, hm⟩ => ⟨he, n, hm.symm⟩

def LexRel (xs ys : List Step) (w : World) (i : Value) (wr : World) : Prop :=
  ∃ (k n : Nat), k ≤ xs.length ∧ i = .int .i64 k ∧ wr = w.drewN n ∧ lexC (xs.drop k) (ys.drop k) = lexC xs ys

set_option maxHeartbeats 1000000 in
theorem compareSteps_any (A B : Option Addr) (c d lo hi lo' hi' : Nat) (xs ys : List Step) (w : World) (h : EStep.AS w lo hi A xs) (h' : EStep.AS w lo' hi' B ys) (hn : xs.length = ys.length) :
    Calls Try.prog 194 #[.slice A xs.length c, .slice B ys.length d] w fun e w' => ∃ n, e = .returned (.int .i64 (lexC xs ys)) ∧ w.drewN n = w' := by
  have hx := h.le
  unfold BIG at hx
  have n1 : xs.length ≤ ys.length := by omega
  have n2 : ys.length ≤ xs.length := by omega
  have HN := Lib.hid hn; clear hn
  go_enter Try.func194, Try.ntmps194
  go_wp2
  go_loopw [5] (fun i wr => LexRel xs ys w i wr) (fun i _ => xs.length - (intOf i).toNat)
  case atStart => exact ⟨0, 0, Nat.zero_le _, rfl, rfl, by simp⟩
  case round =>
    obtain ⟨k, n, hk, rfl, hw, he⟩ := hrel
    have HE := Lib.hid he; clear he
    have h := hw ▸ h.drewN n; have h' := hw ▸ h'.drewN n
    have HW := Lib.hid hw; clear hw
    by_cases hlt : k < xs.length
    · obtain ⟨b1, o1, ⟨x, y⟩, rfl, l1, m1, hd1, _, hc1, hc2⟩ := AStep.at_ h hlt
      obtain ⟨b2, o2, ⟨x', y'⟩, rfl, l2, m2, hd2, _, hc3, hc4⟩ := AStep.at_ h' (by omega : k < ys.length)
      have HD1 := Lib.hid hd1; have HD2 := Lib.hid hd2; clear hd1 hd2
      simp only at hc1 hc2 hc3 hc4
      have q1 : (0 : Int) ≤ (k : Int) := by omega
      have q2 : (k : Int) < (xs.length : Int) := by omega
      have q3 : (k : Int) < (ys.length : Int) := by omega
      by_cases hxx : x = x'
      · have HXX := Lib.hid hxx
        have nx : (x != x') = false := by simp [hxx]
        clear hxx
        by_cases hyy : y = y'
        · have HYY := Lib.hid hyy
          have ny : (y != y') = false := by simp [hyy]
          clear hyy
          go_wp2
          go_quiet (fail)
          go_wp2
          go_quiet (fail)
          go_wp2
          exact ⟨⟨k + 1, _, by omega, by go_num, by rw [HW.out]; (try simp only [World.drewN_drewN]); rfl, lexC_next HE.out HD1.out HD2.out HXX.out HYY.out⟩, by simp [intOf]; omega⟩
        · have HYY := Lib.hid hyy
          have ny : (y != y') = true := by simp [hyy]
          clear hyy
          go_wp2
          go_quiet (fail)
          go_wp2
          go_quiet (fail)
          go_wp2
          go_quiet ((go_at_call 222; exact quiet_add_left (compareInts_any y y' _)))
          go_wp2
          go_ret
          exact ⟨_, ret_int (by rw [lexC_age HE.out HD1.out HD2.out HXX.out HYY.out, cmpI_ne HYY.out]), by rw [HW.out]; (try simp only [World.drewN_drewN]); rfl⟩
      · have HXX := Lib.hid hxx
        have nx : (x != x') = true := by simp [hxx]
        clear hxx
        go_wp2
        go_quiet (fail)
        go_wp2
        go_quiet ((go_at_call 222; exact quiet_add_left (compareInts_any x x' _)))
        go_wp2
        go_ret
        exact ⟨_, ret_int (by rw [lexC_kind HE.out HD1.out HD2.out HXX.out, cmpI_ne HXX.out]), by rw [HW.out]; (try simp only [World.drewN_drewN]); rfl⟩
    · have HL := Lib.hid (lexC_end HE.out (by omega))
      go_wp2_with (go_at_call 222; refine (compareInts_any _ _ _).mono ?_; rintro e w1 ⟨rfl, rfl⟩)
      go_ret
      exact ⟨_, ret_int (by rw [HL.out, HN.out, cmpI_eq]), HW.out.symm⟩

set_option maxHeartbeats 1000000 in
theorem l4Before_any (A B : Option Addr) (c d lo hi lo' hi' : Nat) (xs ys : List Step) (w : World) (h : EStep.AS w lo hi A xs) (h' : EStep.AS w lo' hi' B ys) :
    Calls Try.prog 189 #[.slice A xs.length c, .slice B ys.length d] w fun e w' => ∃ n, e = .returned (.bool (beforeM xs ys)) ∧ w.drewN n = w' := by
  have hx := h.le; have hy := h'.le
  unfold BIG at hx hy
  by_cases hn : xs.length = ys.length
  · have n1 : xs.length ≤ ys.length := by omega
    have n2 : ys.length ≤ xs.length := by omega
    have HB := Lib.hid (beforeM_lex hn)
    clear hn
    have nb : ((xs.length : Int) != (ys.length : Int)) = false := by simp; omega
    go_enter Try.func189, Try.ntmps189
    go_wp2
    go_loopw [18] (fun i wr => LexRel xs ys w i wr) (fun i _ => xs.length - (intOf i).toNat)
    case atStart => exact ⟨0, 0, Nat.zero_le _, rfl, rfl, by simp⟩
    case round =>
      obtain ⟨k, n, hk, rfl, hw, he⟩ := hrel
      have HE := Lib.hid he; clear he
      have h := hw ▸ h.drewN n; have h' := hw ▸ h'.drewN n
      have HW := Lib.hid hw; clear hw
      by_cases hlt : k < xs.length
      · obtain ⟨b1, o1, ⟨x, y⟩, rfl, l1, m1, hd1, _, hc1, hc2⟩ := AStep.at_ h hlt
        obtain ⟨b2, o2, ⟨x', y'⟩, rfl, l2, m2, hd2, _, hc3, hc4⟩ := AStep.at_ h' (by omega : k < ys.length)
        have HD1 := Lib.hid hd1; have HD2 := Lib.hid hd2; clear hd1 hd2
        simp only at hc1 hc2 hc3 hc4
        have q1 : (0 : Int) ≤ (k : Int) := by omega
        have q2 : (k : Int) < (xs.length : Int) := by omega
        have q3 : (k : Int) < (ys.length : Int) := by omega
        by_cases hxx : x = x'
        · have HXX := Lib.hid hxx
          have nx : (x != x') = false := by simp [hxx]
          clear hxx
          by_cases hyy : y = y'
          · have HYY := Lib.hid hyy
            have ny : (y != y') = false := by simp [hyy]
            clear hyy
            go_wp2
            go_quiet (fail)
            go_wp2
            go_quiet (fail)
            go_wp2
            exact ⟨⟨k + 1, _, by omega, by go_num, by rw [HW.out]; (try simp only [World.drewN_drewN]); rfl, lexC_next HE.out HD1.out HD2.out HXX.out HYY.out⟩, by simp [intOf]; omega⟩
          · have HYY := Lib.hid hyy
            have ny : (y != y') = true := by simp [hyy]
            clear hyy
            go_wp2
            go_quiet (fail)
            go_wp2
            go_quiet (fail)
            go_wp2
            go_quiet (fail)
            go_wp2
            all_goals
              go_ret
              exact ⟨_, ret_bool (by rw [HB.out, lexC_age HE.out HD1.out HD2.out HXX.out HYY.out]; have := HYY.out; simp only at this ⊢; split <;> simp <;> omega), by rw [HW.out]; (try simp only [World.drewN_drewN]); rfl⟩
        · have HXX := Lib.hid hxx
          have nx : (x != x') = true := by simp [hxx]
          clear hxx
          go_wp2
          go_quiet (fail)
          go_wp2
          go_quiet (fail)
          go_wp2
          all_goals
            go_ret
            exact ⟨_, ret_bool (by rw [HB.out, lexC_kind HE.out HD1.out HD2.out HXX.out]; have := HXX.out; simp only at this ⊢; split <;> simp <;> omega), by rw [HW.out]; (try simp only [World.drewN_drewN]); rfl⟩
      · have HL := Lib.hid (lexC_end HE.out (by omega))
        go_wp2
        go_ret
        exact ⟨_, ret_bool (by rw [HB.out, HL.out]; first | done | rfl), HW.out.symm⟩
  · have HB := Lib.hid (beforeM_len hn)
    have nb : ((xs.length : Int) != (ys.length : Int)) = true := by simp; omega
    clear hn
    go_enter Try.func189, Try.ntmps189
    go_wp2
    all_goals
      go_ret
      exact ⟨0, ret_bool (by rw [HB.out]; first | done | rfl | (simp; done) | (simp; omega)), rfl⟩
end Go.Proofs.Ytnanlbglgflecaa
