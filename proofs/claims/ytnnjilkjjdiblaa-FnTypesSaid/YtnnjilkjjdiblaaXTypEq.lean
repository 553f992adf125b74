/-
  Equality of kin types, in the reference and in the program.
-/
import Derived.Test.YtnnjilkjjdiblaaConvTyp
namespace Go.Proofs.Ytnnjilkjjdiblaa
set_option maxRecDepth 100000
open Go.RowKit

theorem step_guard : Try.prog.eqGuardType Try.prog.depth 72 = false := by kernel_rfl
theorem step_held : Try.prog.stoodInHeld 72 = false := by kernel_rfl
theorem step_und : Try.prog.underlying 72 = some (.struct (Try.prog.fieldsOf 72)) := by kernel_rfl
theorem step_neq (x y x' y' : Int) (w : World) : (binOp .neq 72 (.agg #[.int .i64 x, .int .i64 y]) (.agg #[.int .i64 x', .int .i64 y'])).run Try.prog w = .ok (.bool (!eqB (⟨x, y⟩ : Step) ⟨x', y'⟩)) w := by
  have h : (Op.equalIn 10000 72 (.agg #[.int .i64 x, .int .i64 y]) (.agg #[.int .i64 x', .int .i64 y'])).run Try.prog w = .ok (eqB (⟨x, y⟩ : Step) ⟨x', y'⟩) w := by
    rw [run_equalIn_struct _ _ _ _ _ step_und step_held]
    simp [go_sem, eqB]
    by_cases h1 : x = x' <;> by_cases h2 : y = y' <;> simp [h1, h2]
  rw [run_neq_struct, h]; rfl

theorem l3Steps_any (A B : Option Addr) (c d lo hi lo' hi' : Nat) (xs ys : List Step) (w : World) (h : EStep.AS w lo hi A xs) (h' : EStep.AS w lo' hi' B ys) :
    Calls Try.prog 110 #[.slice A xs.length c, .slice B ys.length d] w fun e w' => ∃ n, e = .returned (.bool (eqB xs ys)) ∧ w.drewN n = w' := by
  have hx := h.le
  unfold BIG at hx
  by_cases hn : xs.length = ys.length
  · have n1 : xs.length ≤ ys.length := by omega
    have n2 : ys.length ≤ xs.length := by omega
    clear hn
    have nb : ((xs.length : Int) != (ys.length : Int)) = false := by simp; omega
    go_enter Try.func110, Try.ntmps110
    go_wp2
    go_loopw [13] (fun i wr => EqRel xs ys w i wr) (fun i _ => xs.length - (intOf i).toNat)
    case atStart => exact ⟨0, 0, Nat.zero_le _, rfl, rfl, by simp⟩
    case round =>
      obtain ⟨k, n, hk, rfl, hw, he⟩ := hrel
      have HE := Lib.hid he; clear he
      have h := hw ▸ h.drewN n; have h' := hw ▸ h'.drewN n
      have HW := Lib.hid hw; clear hw
      by_cases hlt : k < xs.length
      · obtain ⟨b1, o1, ⟨x, y⟩, rfl, l1, m1, hd1, _, hc1, hc2⟩ := AStep.at_ h hlt
        obtain ⟨b2, o2, ⟨x', y'⟩, rfl, l2, m2, hd2, _, hc3, hc4⟩ := AStep.at_ h' (by omega : k < ys.length)
        have HD1 := Lib.hid hd1; have HD2 := Lib.hid hd2; clear hd1 hd2
        have q1 : (0 : Int) ≤ (k : Int) := by omega
        have q2 : (k : Int) < (xs.length : Int) := by omega
        have q3 : (k : Int) < (ys.length : Int) := by omega
        have e1 := step_guard
        have e2 := fun w => step_neq x y x' y' w
        go_wp2
        go_quiet (fail)
        go_wp2
        · have hxy : (!eqB (⟨x, y⟩ : Step) ⟨x', y'⟩) = true := by assumption
          go_ret
          exact ⟨_, ret_bool (eqB_no HE.out HD1.out HD2.out (not_true hxy)), by rw [HW.out, World.drewN_drewN]⟩
        · have hxy : (!eqB (⟨x, y⟩ : Step) ⟨x', y'⟩) = false := by assumption
          exact ⟨⟨k + 1, _, by omega, by go_num, by rw [HW.out, World.drewN_drewN], eqB_yes HE.out HD1.out HD2.out (not_false hxy)⟩, by simp [intOf]; omega⟩
      · go_wp2
        go_ret
        exact ⟨_, ret_bool (eqB_end HE.out (by omega) (by omega)), HW.out.symm⟩
  · go_enter Try.func110, Try.ntmps110
    go_wp2
    go_ret
    exact ⟨0, ret_bool (eqB_len hn).symm, rfl⟩

theorem specEqualTypes_any (A B : Option Addr) (c d lo hi lo' hi' : Nat) (s t : Int) (xs ys : List Step) (w : World) (h : EStep.AS w lo hi A xs) (h' : EStep.AS w lo' hi' B ys) (hh : hi ≤ w.heap.size) (hh' : hi' ≤ w.heap.size) :
    Calls Try.prog 31 #[.agg #[.int .i64 s, .slice A xs.length c], .agg #[.int .i64 t, .slice B ys.length d]] w fun e w' => e = .returned (.bool (eqB (⟨s, xs⟩ : KinType) ⟨t, ys⟩)) ∧ Below w.heap.size w w' := by
  by_cases hst : s = t
  · have hb : (s == t) = true := by simpa using hst
    go_enter Try.func31, Try.ntmps31
    go_wp2_with (go_at_call 110; refine (l3Steps_any A B c d lo hi lo' hi' xs ys _ (h.same ?_) (h'.same ?_)).mono ?_; (with_reducible repeat' first | exact Same.refl _ _ _ | assumption | (refine Same.setCell ?_ (by first | omega | (simp; omega) | (simp; done) | (dsimp only; omega)) _) | (refine Same.alloc ?_ (by first | omega | (simp; omega) | (simp; done) | (dsimp only; omega)) _) | (refine Same.drewN ?_ _) | (refine Same.drew ?_)); (with_reducible repeat' first | exact Same.refl _ _ _ | assumption | (refine Same.setCell ?_ (by first | omega | (simp; omega) | (simp; done) | (dsimp only; omega)) _) | (refine Same.alloc ?_ (by first | omega | (simp; omega) | (simp; done) | (dsimp only; omega)) _) | (refine Same.drewN ?_ _) | (refine Same.drew ?_)); rintro e w1 ⟨n, rfl, rfl⟩)
    go_ret
    exact ⟨ret_bool (by simp [eqB, hst]), by (with_reducible repeat' first | exact Below.refl _ _ | assumption | (refine Below.setCell ?_ (by first | omega | (simp; omega) | (simp; done) | (dsimp only; omega)) _) | (refine Below.alloc ?_ (by first | omega | (simp; omega) | (simp; done) | (dsimp only; omega)) _) | (refine below_drewN ?_ _) | (refine Below.drew ?_))⟩
  · have hb : (s == t) = false := by simpa using hst
    go_enter Try.func31, Try.ntmps31
    go_wp2_with (go_at_call 110; refine (l3Steps_any A B c d lo hi lo' hi' xs ys _ (h.same ?_) (h'.same ?_)).mono ?_; (with_reducible repeat' first | exact Same.refl _ _ _ | assumption | (refine Same.setCell ?_ (by first | omega | (simp; omega) | (simp; done) | (dsimp only; omega)) _) | (refine Same.alloc ?_ (by first | omega | (simp; omega) | (simp; done) | (dsimp only; omega)) _) | (refine Same.drewN ?_ _) | (refine Same.drew ?_)); (with_reducible repeat' first | exact Same.refl _ _ _ | assumption | (refine Same.setCell ?_ (by first | omega | (simp; omega) | (simp; done) | (dsimp only; omega)) _) | (refine Same.alloc ?_ (by first | omega | (simp; omega) | (simp; done) | (dsimp only; omega)) _) | (refine Same.drewN ?_ _) | (refine Same.drew ?_)); rintro e w1 ⟨n, rfl, rfl⟩)
    go_ret
    exact ⟨ret_bool (by simp [eqB, hst]), by (with_reducible repeat' first | exact Below.refl _ _ | assumption | (refine Below.setCell ?_ (by first | omega | (simp; omega) | (simp; done) | (dsimp only; omega)) _) | (refine Below.alloc ?_ (by first | omega | (simp; omega) | (simp; done) | (dsimp only; omega)) _) | (refine below_drewN ?_ _) | (refine Below.drew ?_))⟩

end Go.Proofs.Ytnnjilkjjdiblaa
