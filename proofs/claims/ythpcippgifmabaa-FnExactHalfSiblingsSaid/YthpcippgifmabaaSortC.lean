/-
  sort.Slice's family: the heap sort, whole.
-/
import Derived.Test.YthpcippgifmabaaSortB
import Derived.Sort.WalkB3
namespace Go.Proofs.Ythpcippgifmabaa
set_option maxRecDepth 100000
open Go.RowKit
open Go.Sort (Holds swp siftDown heapBuild heapPop heapSort size_swp)
variable {m9 : Nat}

set_option maxHeartbeats 4000000 in
theorem heapSort_any (lt : Fin (m9 + 1) → Fin (m9 + 1) → Bool) (lb sb : Array Value) (r off a b : Nat) (d : Array (Fin (m9 + 1))) (w : World) (hL : Less lt lb r off d.size w) (hS : Swp m9 sb r off d.size) (hH : Holds encF w r off d) (hab : a < b) (hb : b ≤ d.size) (hsz : d.size < 1000) :
    Calls Try.prog 98 #[.agg #[.func (.func 54) #[] lb, .func (.func 90) #[] sb], .int .i64 a, .int .i64 b] w fun e w' =>
      e = .returned (.tuple #[]) ∧ Srt w r off (heapSort lt d a b) w' := by
  have hr := hL.row
  obtain ⟨hi, hhi⟩ : ∃ hi, hi = b - a := ⟨b - a, rfl⟩
  have hz : heapSort lt d a b = heapPop lt a hi (heapBuild lt hi a ((hi - 1) / 2 + 1) d) := by rw [heapSort, ← hhi]
  have hA : a + hi ≤ b := by omega
  have hB : b ≤ a + hi := by omega
  clear hhi
  have HZ := Lib.hid hz
  clear hz
  go_enter Try.func98, Try.ntmps98
  go_upto_region 1 with fail
  have F : Blk (w.alloc (.cells #[.func (.func 54) #[] lb, .func (.func 90) #[] sb] 103)) w.heap.size 103 #[.func (.func 54) #[] lb, .func (.func 90) #[] sb] := Blk.new _ rfl
  have S0 : Srt w r off d (w.alloc (.cells #[.func (.func 54) #[] lb, .func (.func 90) #[] sb] 103)) := (Srt.refl hH).below hr (by (with_reducible repeat' first | exact Below.refl _ _ | assumption | (refine Below.setCell ?_ (by first | omega | (simp; omega) | (simp; done) | (dsimp only; omega)) _) | (refine Below.alloc ?_ (by first | omega | (simp; omega) | (simp; done) | (dsimp only; omega)) _) | (refine below_drewN ?_ _) | (refine Below.drew ?_)))
  generalize (w.alloc (.cells #[.func (.func 54) #[] lb, .func (.func 90) #[] sb] 103)) = w0 at F S0
  have lF := F.lt
  have hr0z := S0.size
  have L0 := hL.of S0
  have w1 : (b : Int) - (a : Int) = (hi : Int) := by omega
  go_wp2
  go_loopw [9] (fun v9 wr => ∃ (k : Nat) (x : Int) (dk : Array (Fin (m9 + 1))), v9 = .int .i64 x ∧ x + 1 = k ∧ k ≤ (hi - 1) / 2 + 1 ∧ dk.size = d.size ∧ Srt w0 r off dk wr ∧ heapBuild lt hi a k dk = heapBuild lt hi a ((hi - 1) / 2 + 1) d) (fun v _ => (intOf v + 1).toNat)
  case atStart => exact ⟨(hi - 1) / 2 + 1, _, d, rfl, by omega, Nat.le_refl _, rfl, Srt.refl S0.holds, rfl⟩
  case round =>
    obtain ⟨k, x, dk, rfl, hx, hk, hsk, hwr, hO⟩ := hrel
    have Fr := hwr.blk F (by omega)
    have lr := Fr.lt
    have e0 := Fr.cell (i := 0) rfl; have e1 := Fr.cell (i := 1) rfl
    have hzr := hwr.size
    cases k with
    | succ k =>
      obtain rfl : x = (k : Int) := by omega
      have HO := Lib.hid hO
      clear hO
      have hc := siftDown_any lt lb sb r off k hi a dk wr (by rw [hsk]; exact L0.of hwr) (by rw [hsk]; exact hS) hwr.holds (by omega) (by omega) (by omega)
      go_wp2_with (go_at_call 108; (with_reducible refine hc.mono ?_); rintro e w3 ⟨rfl, S3⟩)
      exact ⟨⟨k, (k : Int) - 1, siftDown lt hi a k dk, by go_num, by omega, by omega, by rw [Sort.size_siftDown _ _ _ _ _ _ (Nat.le_refl _)]; exact hsk, hwr.trans S3, by rw [← HO.out]; rfl⟩, by simp [intOf]⟩
    | zero =>
      obtain rfl : x = -1 := by omega
      have HO := Lib.hid (show dk = heapBuild lt hi a ((hi - 1) / 2 + 1) d from hO)
      clear hO hx hk
      have w3 : ((hi : Int) - 1) = (hi : Int) - 1 := rfl
      go_wp2
      go_loopw [10] (fun v9 wr => ∃ (k : Nat) (x : Int) (dj : Array (Fin (m9 + 1))), v9 = .int .i64 x ∧ x + 1 = k ∧ k ≤ hi ∧ dj.size = d.size ∧ Srt w0 r off dj wr ∧ heapPop lt a k dj = heapPop lt a hi dk) (fun v _ => (intOf v + 1).toNat)
      case atStart => exact ⟨hi, _, dk, rfl, by omega, Nat.le_refl _, hsk, hwr, rfl⟩
      case round =>
        clear Fr lr e0 e1 hzr
        obtain ⟨k, x, dj, rfl, hx, hk, hsj, hwj, hO⟩ := hrel
        have Fr := hwj.blk F (by omega)
        have lr := Fr.lt
        have e0 := Fr.cell (i := 0) rfl; have e1 := Fr.cell (i := 1) rfl
        have hzr := hwj.size
        cases k with
        | succ k =>
          obtain rfl : x = (k : Int) := by omega
          have HP := Lib.hid hO
          clear hO
          go_wp2
          obtain ⟨w4, hs, S4⟩ := hS.at hwj hsj a (a + k) (by omega) (by omega)
          rw [hs, Oper.upon_value]
          rotate_left
          · omega
          · omega
          clear hs
          have F4 := S4.blk F (by omega)
          have g0 := F4.cell (i := 0) rfl; have g1 := F4.cell (i := 1) rfl
          have hz4 := S4.size
          have hs4 : (swp dj a (a + k)).size = d.size := by rw [size_swp]; exact hsj
          have hc := siftDown_any lt lb sb r off 0 k a (swp dj a (a + k)) w4 (by rw [hs4]; exact L0.of S4) (by rw [hs4]; exact hS) S4.holds (by omega) (by omega) (by omega)
          rw [show ((0 : Nat) : Int) = 0 from rfl] at hc
          go_wp2_with (go_at_call 108; (with_reducible refine hc.mono ?_); rintro e w5 ⟨rfl, S5⟩)
          exact ⟨⟨k, (k : Int) - 1, siftDown lt k a 0 (swp dj a (a + k)), by go_num, by omega, by omega, by rw [Sort.size_siftDown _ _ _ _ _ _ (Nat.le_refl _)]; exact hs4, S4.trans S5, by rw [← HP.out]; rfl⟩, by simp [intOf]⟩
        | zero =>
          obtain rfl : x = -1 := by omega
          have HP := Lib.hid (show dj = heapPop lt a hi dk from hO)
          clear hO hx hk
          go_wp2
          go_end0
          exact ⟨rfl, S0.trans (by rw [HZ.out, ← HO.out, ← HP.out]; exact hwj)⟩
end Go.Proofs.Ythpcippgifmabaa
