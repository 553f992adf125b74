/-
  sort.Slice's family: is it sorted? (ranges of less than fifty).
-/
import Derived.Test.YthpcippgifmabaaSortA
namespace Go.Proofs.Ythpcippgifmabaa
set_option maxRecDepth 100000
open Go.RowKit
open Go.Sort (Holds swp scanSorted partialIns partialInsertionSort size_swp)
variable {m9 : Nat}

theorem partial_eq {lt : Fin (m9 + 1) → Fin (m9 + 1) → Bool} {d : Array (Fin (m9 + 1))} {a b : Nat} (h : b - a < 50) : partialInsertionSort lt d a b = (d, decide (scanSorted lt d b (a + 1) = b)) := by
  unfold partialInsertionSort
  rw [partialIns]
  by_cases e : scanSorted lt d b (a + 1) = b
  · simp [e]
  · simp [e, h]
theorem scanSorted_go {lt : Fin (m9 + 1) → Fin (m9 + 1) → Bool} {d : Array (Fin (m9 + 1))} {b i : Nat} (h : i < b) (hl : lt d[i]! d[i - 1]! = false) : scanSorted lt d b i = scanSorted lt d b (i + 1) := by
  rw [scanSorted, if_pos (by simp [h, hl])]
theorem scanSorted_stop {lt : Fin (m9 + 1) → Fin (m9 + 1) → Bool} {d : Array (Fin (m9 + 1))} {b i : Nat} (h : ¬ i < b ∨ lt d[i]! d[i - 1]! = true) : scanSorted lt d b i = i := by
  rw [scanSorted, if_neg (by rcases h with h | h <;> simp [h])]

set_option maxHeartbeats 4000000 in
theorem partial_any (lt : Fin (m9 + 1) → Fin (m9 + 1) → Bool) (lb sb : Array Value) (r off a b : Nat) (d : Array (Fin (m9 + 1))) (w : World) (hL : Less lt lb r off d.size w) (hH : Holds encF w r off d) (hab : a < b) (hb : b ≤ d.size) (hsz : d.size < 50) :
    Calls Try.prog 102 #[.agg #[.func (.func 54) #[] lb, .func (.func 90) #[] sb], .int .i64 a, .int .i64 b] w fun e w' =>
      e = .returned (.bool (partialInsertionSort lt d a b).2) ∧ Below w.heap.size w w' := by
  have hr := hL.row
  rw [partial_eq (by omega)]
  obtain ⟨R, hR⟩ : ∃ R, scanSorted lt d b (a + 1) = R := ⟨_, rfl⟩
  simp only [hR]
  go_enter Try.func102, Try.ntmps102
  go_upto_region 1 with fail
  have F : Blk (w.alloc (.cells #[.func (.func 54) #[] lb, .func (.func 90) #[] sb] 103)) w.heap.size 103 #[.func (.func 54) #[] lb, .func (.func 90) #[] sb] := Blk.new _ rfl
  have hb0 : Below w.heap.size w (w.alloc (.cells #[.func (.func 54) #[] lb, .func (.func 90) #[] sb] 103)) := by (with_reducible repeat' first | exact Below.refl _ _ | assumption | (refine Below.setCell ?_ (by first | omega | (simp; omega) | (simp; done) | (dsimp only; omega)) _) | (refine Below.alloc ?_ (by first | omega | (simp; omega) | (simp; done) | (dsimp only; omega)) _) | (refine below_drewN ?_ _) | (refine Below.drew ?_))
  generalize (w.alloc (.cells #[.func (.func 54) #[] lb, .func (.func 90) #[] sb] 103)) = w0 at F hb0
  have lF := F.lt
  have hz0 := hb0.size
  have S0 := (Srt.refl hH).below hr hb0
  have L0 := hL.of S0
  have HR := Lib.hid hR
  clear hR
  go_wp2
  refine wp_loop_rounds 1 ?_
  rw [rounds_succ]
  go_wp2
  go_loopw [7] (fun v7 wr => ∃ i : Nat, v7 = .int .i64 i ∧ a + 1 ≤ i ∧ i ≤ b ∧ Below w0.heap.size w0 wr ∧ scanSorted lt d b i = R) (fun v _ => b + 1 - (intOf v).toNat)
  case atStart => exact ⟨a + 1, by go_num, Nat.le_refl _, by omega, Below.refl _ _, HR.out⟩
  case round =>
    obtain ⟨i, rfl, hi1, hi2, hbk, hS⟩ := hrel
    have HS := Lib.hid hS
    clear hS
    have Fr := F.below hbk lF
    have lr := Fr.lt
    have e0 := Fr.cell (i := 0) rfl
    by_cases h : i < b
    · have hz : (i : Int) < (b : Int) := by omega
      have hl := L0.at ((Srt.refl S0.holds).below (by omega) hbk) rfl i (i - 1) (by omega) (by omega)
      cases hv : lt d[i]! d[i - 1]! with
      | true =>
        rw [hv] at hl
        have hne : ¬ (i : Int) = (b : Int) := by omega
        have hsm : (b : Int) - (a : Int) < 50 := by omega
        go_wp2_with (go_at_call 54; (with_reducible refine (hl _ _ (by omega) (by omega)).mono ?_); rintro e w1 ⟨rfl, hq⟩)
        go_ret
        exact ⟨by rw [← HS.out, scanSorted_stop (Or.inr hv), decide_eq_false (by omega)]; rfl, hb0.trans ((hbk.trans (hq.mono hbk.size)).mono hz0)⟩
      | false =>
        rw [hv] at hl
        go_wp2_with (go_at_call 54; (with_reducible refine (hl _ _ (by omega) (by omega)).mono ?_); rintro e w1 ⟨rfl, hq⟩)
        exact ⟨⟨i + 1, by go_num, by omega, by omega, hbk.trans (hq.mono hbk.size), by rw [← HS.out, scanSorted_go h hv]⟩, by simp [intOf]; omega⟩
    · obtain rfl : i = b := by omega
      go_wp2
      go_ret
      exact ⟨by rw [← HS.out, scanSorted_stop (Or.inl h), decide_eq_true rfl]; rfl, hb0.trans (hbk.mono hz0)⟩
end Go.Proofs.Ythpcippgifmabaa
