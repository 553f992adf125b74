/-
  sort.Slice's family: the heap sort.
-/
import Derived.Test.YthpcippgifmabaaSortA

namespace Go.Proofs.Ythpcippgifmabaa
set_option maxRecDepth 100000
open Go.RowKit
open Go.Sort (Holds swp siftDown heapBuild heapPop heapSort size_swp)
variable {m9 : Nat}

section
variable {lt : Fin (m9 + 1) → Fin (m9 + 1) → Bool} {hi first root : Nat} {d : Array (Fin (m9 + 1))}
theorem sift_stop (h : hi ≤ 2 * root + 1) : siftDown lt hi first root d = d := by rw [siftDown, dif_pos h]
theorem sift_right (h : 2 * root + 2 < hi) (hl : lt d[first + (2 * root + 1)]! d[first + (2 * root + 2)]! = true) :
    siftDown lt hi first root d = if lt d[first + root]! d[first + (2 * root + 2)]! = true then siftDown lt hi first (2 * root + 2) (swp d (first + root) (first + (2 * root + 2))) else d := by
  rw [siftDown, dif_neg (by omega), if_pos (by rw [Bool.and_eq_true, decide_eq_true_iff]; exact ⟨h, hl⟩)]
  cases lt d[first + root]! d[first + (2 * root + 2)]! <;> simp [h]
theorem sift_left (h : ¬ hi ≤ 2 * root + 1) (hl : ¬ 2 * root + 2 < hi ∨ lt d[first + (2 * root + 1)]! d[first + (2 * root + 2)]! = false) :
    siftDown lt hi first root d = if lt d[first + root]! d[first + (2 * root + 1)]! = true then siftDown lt hi first (2 * root + 1) (swp d (first + root) (first + (2 * root + 1))) else d := by
  rw [siftDown, dif_neg h, if_neg (by
    rw [Bool.and_eq_true, decide_eq_true_iff]; rintro ⟨h1, h2⟩
    rcases hl with hl | hl
    · exact hl h1
    · exact Bool.noConfusion (hl.symm.trans h2))]
  cases lt d[first + root]! d[first + (2 * root + 1)]! <;> simp
end

set_option maxHeartbeats 4000000 in
theorem siftDown_any (lt : Fin (m9 + 1) → Fin (m9 + 1) → Bool) (lb sb : Array Value) (r off root hi first : Nat) (d : Array (Fin (m9 + 1))) (w : World) (hL : Less lt lb r off d.size w) (hS : Swp m9 sb r off d.size) (hH : Holds encF w r off d) (hb : first + hi ≤ d.size) (hr0 : root ≤ d.size) (hsz : d.size < 1000) :
    Calls Try.prog 108 #[.agg #[.func (.func 54) #[] lb, .func (.func 90) #[] sb], .int .i64 root, .int .i64 hi, .int .i64 first] w fun e w' =>
      e = .returned (.tuple #[]) ∧ Srt w r off (siftDown lt hi first root d) w' := by
  have hr := hL.row
  go_enter Try.func108, Try.ntmps108
  go_upto_region 1 with fail
  have F : Blk (w.alloc (.cells #[.func (.func 54) #[] lb, .func (.func 90) #[] sb] 103)) w.heap.size 103 #[.func (.func 54) #[] lb, .func (.func 90) #[] sb] := Blk.new _ rfl
  have S0 : Srt w r off d (w.alloc (.cells #[.func (.func 54) #[] lb, .func (.func 90) #[] sb] 103)) := (Srt.refl hH).below hr (by (with_reducible repeat' first | exact Below.refl _ _ | assumption | (refine Below.setCell ?_ (by first | omega | (simp; omega) | (simp; done) | (dsimp only; omega)) _) | (refine Below.alloc ?_ (by first | omega | (simp; omega) | (simp; done) | (dsimp only; omega)) _) | (refine below_drewN ?_ _) | (refine Below.drew ?_)))
  generalize (w.alloc (.cells #[.func (.func 54) #[] lb, .func (.func 90) #[] sb] 103)) = w0 at F S0
  have lF := F.lt
  have hr0z := S0.size
  have L0 := hL.of S0
  go_wp2
  go_loopw [8] (fun v8 wr => ∃ (k : Nat) (dk : Array (Fin (m9 + 1))), v8 = .int .i64 k ∧ k ≤ d.size ∧ dk.size = d.size ∧ Srt w0 r off dk wr ∧ siftDown lt hi first k dk = siftDown lt hi first root d) (fun v _ => hi + d.size + 1 - (intOf v).toNat)
  case atStart => exact ⟨root, d, rfl, hr0, rfl, Srt.refl S0.holds, rfl⟩
  case round =>
    obtain ⟨k, dk, rfl, hk, hsk, hwr, hO⟩ := hrel
    have HO := Lib.hid hO
    clear hO
    have Fr := hwr.blk F (by omega)
    have lr := Fr.lt
    have hz := hwr.size
    have e0 := Fr.cell (i := 0) rfl
    by_cases h1 : hi ≤ 2 * k + 1
    · have h1z : (2 * (k : Int) + 1 ≥ (hi : Int)) := by omega
      go_wp2
      go_end0
      exact ⟨rfl, S0.trans (by rw [← HO.out, sift_stop h1]; exact hwr)⟩
    · have h1z : ¬ (2 * (k : Int) + 1 ≥ (hi : Int)) := by omega
--@sift
      by_cases h2 : 2 * k + 2 < hi
      · have h2z : 2 * (k : Int) + 1 + 1 < (hi : Int) := by omega
        have hl := L0.at hwr hsk (first + (2 * k + 1)) (first + (2 * k + 2)) (by omega) (by omega)
        cases hlv : lt dk[first + (2 * k + 1)]! dk[first + (2 * k + 2)]! with
        | true =>
          rw [hlv] at hl
          go_upto_region 6 with (go_at_call 54; (with_reducible refine (hl _ _ (by omega) (by omega)).mono ?_); rintro e w2 ⟨rfl, hq⟩)
          have S2 := hwr.below (by omega) hq
          have F2 := Fr.below hq lr
          have hz2 := hq.size
          replace e0 := F2.cell (i := 0) rfl
          have hl2 := L0.at S2 hsk (first + k) (first + (2 * k + 2)) (by omega) (by omega)
          have lr2 := F2.lt
          cases hlv2 : lt dk[first + k]! dk[first + (2 * k + 2)]! with
          | true =>
            rw [hlv2] at hl2
            go_wp2_with (go_at_call 54; (with_reducible refine (hl2 _ _ (by omega) (by omega)).mono ?_); rintro e w3 ⟨rfl, hq3⟩; (have e1 := (F2.below hq3 lr2).cell (i := 1) rfl))
            obtain ⟨w4, hs, S4⟩ := hS.at (S2.below (by omega) hq3) hsk (first + k) (first + (2 * k + 2)) (by omega) (by omega)
            rw [hs, Oper.upon_value]
            rotate_left
            · omega
            · omega
            clear hs
            go_wp2
            exact ⟨⟨2 * k + 2, swp dk (first + k) (first + (2 * k + 2)), by go_num, by omega, by rw [size_swp]; exact hsk, S4, by rw [← HO.out, sift_right h2 hlv, if_pos hlv2]⟩, by simp [intOf]; omega⟩
          | false =>
            rw [hlv2] at hl2
            go_wp2_with (go_at_call 54; (with_reducible refine (hl2 _ _ (by omega) (by omega)).mono ?_); rintro e w3 ⟨rfl, hq3⟩)
            (try simp only [Exit.inBlock, Exit.then]); refine bodyPost_ret (results_none rfl _ _ _) rfl ?_
            exact ⟨rfl, S0.trans (by rw [← HO.out, sift_right h2 hlv, if_neg (by rw [hlv2]; simp)]; exact S2.below (by omega) hq3)⟩
        | false =>
          rw [hlv] at hl
          go_upto_region 6 with (go_at_call 54; (with_reducible refine (hl _ _ (by omega) (by omega)).mono ?_); rintro e w2 ⟨rfl, hq⟩)
          have S2 := hwr.below (by omega) hq
          have F2 := Fr.below hq lr
          have hz2 := hq.size
          replace e0 := F2.cell (i := 0) rfl
          have hl2 := L0.at S2 hsk (first + k) (first + (2 * k + 1)) (by omega) (by omega)
          have lr2 := F2.lt
          cases hlv2 : lt dk[first + k]! dk[first + (2 * k + 1)]! with
          | true =>
            rw [hlv2] at hl2
            go_wp2_with (go_at_call 54; (with_reducible refine (hl2 _ _ (by omega) (by omega)).mono ?_); rintro e w3 ⟨rfl, hq3⟩; (have e1 := (F2.below hq3 lr2).cell (i := 1) rfl))
            obtain ⟨w4, hs, S4⟩ := hS.at (S2.below (by omega) hq3) hsk (first + k) (first + (2 * k + 1)) (by omega) (by omega)
            rw [hs, Oper.upon_value]
            rotate_left
            · omega
            · omega
            clear hs
            go_wp2
            exact ⟨⟨2 * k + 1, swp dk (first + k) (first + (2 * k + 1)), by go_num, by omega, by rw [size_swp]; exact hsk, S4, by rw [← HO.out, sift_left h1 (Or.inr hlv), if_pos hlv2]⟩, by simp [intOf]; omega⟩
          | false =>
            rw [hlv2] at hl2
            go_wp2_with (go_at_call 54; (with_reducible refine (hl2 _ _ (by omega) (by omega)).mono ?_); rintro e w3 ⟨rfl, hq3⟩)
            (try simp only [Exit.inBlock, Exit.then]); refine bodyPost_ret (results_none rfl _ _ _) rfl ?_
            exact ⟨rfl, S0.trans (by rw [← HO.out, sift_left h1 (Or.inr hlv), if_neg (by rw [hlv2]; simp)]; exact S2.below (by omega) hq3)⟩
      · have h2z : ¬ 2 * (k : Int) + 1 + 1 < (hi : Int) := by omega
        go_upto_region 6 with fail
        have hl2 := L0.at hwr hsk (first + k) (first + (2 * k + 1)) (by omega) (by omega)
        have lr2 := Fr.lt
        cases hlv2 : lt dk[first + k]! dk[first + (2 * k + 1)]! with
        | true =>
          rw [hlv2] at hl2
          go_wp2_with (go_at_call 54; (with_reducible refine (hl2 _ _ (by omega) (by omega)).mono ?_); rintro e w3 ⟨rfl, hq3⟩; (have e1 := (Fr.below hq3 lr2).cell (i := 1) rfl))
          obtain ⟨w4, hs, S4⟩ := hS.at (hwr.below (by omega) hq3) hsk (first + k) (first + (2 * k + 1)) (by omega) (by omega)
          rw [hs, Oper.upon_value]
          rotate_left
          · omega
          · omega
          clear hs
          go_wp2
          exact ⟨⟨2 * k + 1, swp dk (first + k) (first + (2 * k + 1)), by go_num, by omega, by rw [size_swp]; exact hsk, S4, by rw [← HO.out, sift_left h1 (Or.inl h2), if_pos hlv2]⟩, by simp [intOf]; omega⟩
        | false =>
          rw [hlv2] at hl2
          go_wp2_with (go_at_call 54; (with_reducible refine (hl2 _ _ (by omega) (by omega)).mono ?_); rintro e w3 ⟨rfl, hq3⟩)
          (try simp only [Exit.inBlock, Exit.then]); refine bodyPost_ret (results_none rfl _ _ _) rfl ?_
          exact ⟨rfl, S0.trans (by rw [← HO.out, sift_left h1 (Or.inl h2), if_neg (by rw [hlv2]; simp)]; exact hwr.below (by omega) hq3)⟩
--@/sift
end Go.Proofs.Ythpcippgifmabaa
