/-
  sort.Slice's family: the partition of equals.
-/
import Derived.Test.YthpcippgifmabaaSortA
import Derived.Sort.LotC
import Derived.Deep.CutBlock
namespace Go.Proofs.Ythpcippgifmabaa
set_option maxRecDepth 100000
open Go.RowKit
open Go.Sort (Holds swp scanUp scanDown partEqLoop partitionEqual size_swp)
variable {m9 : Nat}

section
variable {p : Fin (m9 + 1) → Bool} {d : Array (Fin (m9 + 1))} {i j : Nat}
theorem scanUp_go (h : i ≤ j) (hp : p d[i]! = true) : scanUp p d j i = scanUp p d j (i + 1) := by rw [scanUp, if_pos (by simp [h, hp])]
theorem scanUp_stop (h : ¬ i ≤ j ∨ p d[i]! = false) : scanUp p d j i = i := by rw [scanUp, if_neg (by rcases h with h | h <;> simp [h])]
theorem scanDown_go (h : i ≤ j + 1) (hp : p d[j + 1]! = true) : scanDown p d i (j + 1) = scanDown p d i j := by rw [scanDown, if_pos (by simp [h, hp])]
theorem scanDown_stop (_hi : 1 ≤ i) (h : ¬ i ≤ j ∨ p d[j]! = false) : scanDown p d i j = j := by
  cases j with
  | zero => rfl
  | succ j => rw [scanDown, if_neg (by rcases h with h | h <;> simp [h])]
end

set_option maxHeartbeats 8000000 in
theorem partEq_any (lt : Fin (m9 + 1) → Fin (m9 + 1) → Bool) (lb sb : Array Value) (r off a b pivot : Nat) (d : Array (Fin (m9 + 1))) (w : World) (hL : Less lt lb r off d.size w) (hS : Swp m9 sb r off d.size) (hH : Holds encF w r off d) (hap : a ≤ pivot) (hpb : pivot < b) (hb : b ≤ d.size) (hsz : d.size < 1000) :
    Calls Try.prog 103 #[.agg #[.func (.func 54) #[] lb, .func (.func 90) #[] sb], .int .i64 a, .int .i64 b, .int .i64 pivot] w fun e w' =>
      e = .returned (.int .i64 (partitionEqual lt d a b pivot).1) ∧ Srt w r off (partitionEqual lt d a b pivot).2 w' := by
  have hr := hL.row
  obtain ⟨R, hR⟩ : ∃ R, partitionEqual lt d a b pivot = R := ⟨_, rfl⟩
  rw [hR]
  have HR := Lib.hid (show partEqLoop lt a (a + 1) (b - 1) (swp d a pivot) = R from hR)
  clear hR
  go_enter Try.func103, Try.ntmps103
  go_upto_region 1 with fail
  have F : Blk (w.alloc (.cells #[.func (.func 54) #[] lb, .func (.func 90) #[] sb] 103)) w.heap.size 103 #[.func (.func 54) #[] lb, .func (.func 90) #[] sb] := Blk.new _ rfl
  have S0 : Srt w r off d (w.alloc (.cells #[.func (.func 54) #[] lb, .func (.func 90) #[] sb] 103)) := (Srt.refl hH).below hr (by (with_reducible repeat' first | exact Below.refl _ _ | assumption | (refine Below.setCell ?_ (by first | omega | (simp; omega) | (simp; done) | (dsimp only; omega)) _) | (refine Below.alloc ?_ (by first | omega | (simp; omega) | (simp; done) | (dsimp only; omega)) _) | (refine below_drewN ?_ _) | (refine Below.drew ?_)))
  generalize (w.alloc (.cells #[.func (.func 54) #[] lb, .func (.func 90) #[] sb] 103)) = w0 at F S0
  have lF := F.lt
  have hz0 := S0.size
  have L0 := hL.of S0
  have e0 := F.cell (i := 0) rfl; have e1 := F.cell (i := 1) rfl
  go_wp2
  obtain ⟨w1, hs, S1⟩ := hS.at (Srt.refl S0.holds) rfl a pivot (by omega) (by omega)
  rw [hs, Oper.upon_value]
  rotate_left
  · omega
  · omega
  clear hs e0 e1
  have hs1 : (swp d a pivot).size = d.size := size_swp _ _ _
  go_wp2
  go_loopw [9, 10] (fun vi vj wr => ∃ (i j : Nat) (dk : Array (Fin (m9 + 1))), vi = .int .i64 i ∧ vj = .int .i64 j ∧ a < i ∧ i ≤ j + 1 ∧ j < b ∧ dk.size = d.size ∧ Srt w0 r off dk wr ∧ partEqLoop lt a i j dk = R) (fun vi vj _ => (intOf vj + 1 - intOf vi).toNat)
  case atStart => exact ⟨a + 1, b - 1, _, by go_num, by go_num, by omega, by omega, by omega, hs1, S1, HR.out⟩
  case round =>
    obtain ⟨i, j, dk, rfl, rfl, hai, hij, hjb, hsk, hwr, hO⟩ := hrel
    rw [Sort.partEqLoop_eq] at hO
    obtain ⟨I, hI⟩ : ∃ I, Sort.scanUp (fun x => !lt dk[a]! x) dk j i = I := ⟨_, rfl⟩
    rw [hI] at hO
    obtain ⟨J, hJ⟩ : ∃ J, Sort.scanDown (fun x => lt dk[a]! x) dk I j = J := ⟨_, rfl⟩
    rw [hJ] at hO
    have HO := Lib.hid hO; have HI := Lib.hid hI; have HJ := Lib.hid hJ
    clear hO hI hJ
    go_upto_block 2 with fail
    go_cut [9] from 20 to 56 (fun v wc => v = .int .i64 I ∧ i ≤ I ∧ I ≤ j + 1 ∧ (I ≤ j → lt dk[a]! dk[I]! = true) ∧ Srt w0 r off dk wc)
    case first =>
      go_wp2_with fail
      go_loopw [9] (fun v wc => ∃ k : Nat, v = .int .i64 k ∧ i ≤ k ∧ k ≤ j + 1 ∧ Srt w0 r off dk wc ∧ scanUp (fun x => !lt dk[a]! x) dk j k = I) (fun v _ => j + 1 - (intOf v).toNat)
      case atStart => exact ⟨i, rfl, Nat.le_refl _, hij, hwr, HI.out⟩
      case round =>
        clear hwr
        obtain ⟨k, rfl, hk1, hk2, hwk, hK⟩ := hrel
        have HK := Lib.hid hK
        clear hK
        have Fr := hwk.blk F (by omega)
        have e0 := Fr.cell (i := 0) rfl
        have hzk := hwk.size
        by_cases h : k ≤ j
        · have hz : (k : Int) ≤ (j : Int) := by omega
          have hl := L0.at hwk hsk a k (by omega) (by omega)
          cases hv : lt dk[a]! dk[k]! with
          | false =>
            rw [hv] at hl
            go_wp2_with (go_at_call 54; (with_reducible refine (hl _ _ (by omega) (by omega)).mono ?_); rintro e w2 ⟨rfl, hq⟩)
            exact ⟨⟨k + 1, by go_num, by omega, by omega, hwk.below (by omega) hq, by rw [← HK.out, scanUp_go h (by simp [hv])]⟩, by simp [intOf]; omega⟩
          | true =>
            rw [hv] at hl
            have hk : k = I := by rw [← HK.out, scanUp_stop (Or.inr (by simp [hv]))]
            go_wp2_with (go_at_call 54; (with_reducible refine (hl _ _ (by omega) (by omega)).mono ?_); rintro e w2 ⟨rfl, hq⟩)
            go_meet
            case rel => exact ⟨by rw [← hk], by omega, by omega, fun _ => by rw [← hk]; exact hv, hwk.below (by omega) hq⟩
        · have hz : ¬ (k : Int) ≤ (j : Int) := by omega
          have hk : k = I := by rw [← HK.out, scanUp_stop (Or.inl h)]
          go_wp2
          go_meet
          case rel => exact ⟨by rw [← hk], by omega, by omega, fun h' => absurd h' (by omega), hwk⟩
    case rest =>
      clear hwr
      obtain ⟨rfl, hI1, hI2, hIv, hw2⟩ := hcut
      have HIV := Lib.hid hIv
      clear hIv
      go_upto_block 4 with fail
      go_cut [10] from 20 to 56 (fun v wc => v = .int .i64 J ∧ I ≤ J + 1 ∧ J ≤ j ∧ (I ≤ J → lt dk[a]! dk[J]! = false) ∧ Srt w0 r off dk wc)
      case first =>
        go_wp2_with fail
        go_loopw [10] (fun v wc => ∃ k : Nat, v = .int .i64 k ∧ I ≤ k + 1 ∧ k ≤ j ∧ Srt w0 r off dk wc ∧ scanDown (fun x => lt dk[a]! x) dk I k = J) (fun v _ => (intOf v).toNat)
        case atStart => exact ⟨j, rfl, hI2, Nat.le_refl _, hw2, HJ.out⟩
        case round =>
          clear hw2
          obtain ⟨k, rfl, hk1, hk2, hwk, hK⟩ := hrel
          have HK := Lib.hid hK
          clear hK
          have Fr := hwk.blk F (by omega)
          have e0 := Fr.cell (i := 0) rfl
          have hzk := hwk.size
          by_cases h : I ≤ k
          · have hz : (I : Int) ≤ (k : Int) := by omega
            have hl := L0.at hwk hsk a k (by omega) (by omega)
            obtain ⟨m, rfl⟩ : ∃ m, k = m + 1 := ⟨k - 1, by omega⟩
            cases hv : lt dk[a]! dk[m + 1]! with
            | true =>
              rw [hv] at hl
              go_wp2_with (go_at_call 54; (with_reducible refine (hl _ _ (by omega) (by omega)).mono ?_); rintro e w2 ⟨rfl, hq⟩)
              exact ⟨⟨m, by go_num, by omega, by omega, hwk.below (by omega) hq, by rw [← HK.out, scanDown_go h (by simp [hv])]⟩, by simp [intOf]⟩
            | false =>
              rw [hv] at hl
              have hk : m + 1 = J := by rw [← HK.out, scanDown_stop (by omega) (Or.inr (by simp [hv]))]
              go_wp2_with (go_at_call 54; (with_reducible refine (hl _ _ (by omega) (by omega)).mono ?_); rintro e w2 ⟨rfl, hq⟩)
              go_meet
              case rel => exact ⟨by rw [← hk], by omega, by omega, fun _ => by rw [← hk]; exact hv, hwk.below (by omega) hq⟩
          · have hz : ¬ (I : Int) ≤ (k : Int) := by omega
            have hk : k = J := by rw [← HK.out, scanDown_stop (by omega) (Or.inl h)]
            go_wp2
            go_meet
            case rel => exact ⟨by rw [← hk], by omega, by omega, fun h' => absurd h' (by omega), hwk⟩
      case rest =>
        clear hw2
        obtain ⟨rfl, hJ1, hJ2, hJv, hw3⟩ := hcut
        have HJV := Lib.hid hJv
        clear hJv
        have Fr := hw3.blk F (by omega)
        have lr := Fr.lt
        have e0 := Fr.cell (i := 0) rfl; have e1 := Fr.cell (i := 1) rfl
        have hz3 := hw3.size
        by_cases h : I > J
        · have hz : (I : Int) > (J : Int) := by omega
          have HO2 := HO.out
          rw [if_pos h] at HO2
          go_wp2
          go_ret
          subst HO2
          exact ⟨rfl, S0.trans hw3⟩
        · have hz : ¬ (I : Int) > (J : Int) := by omega
          have hIJ : I < J := by
            rcases Nat.lt_or_ge I J with h' | h'
            · exact h'
            · obtain rfl : I = J := by omega
              exact absurd ((HIV.out (by omega)).symm.trans (HJV.out (by omega))) (by simp)
          have HO2 := HO.out
          rw [if_neg h] at HO2
          have HP := Lib.hid HO2
          clear HO2
          go_wp2
          obtain ⟨w4, hs, S4⟩ := hS.at hw3 hsk I J (by omega) (by omega)
          rw [hs, Oper.upon_value]
          rotate_left
          · omega
          · omega
          clear hs
          go_wp2
          go_roundw
          case rel => exact ⟨I + 1, J - 1, swp dk I J, by go_num, by go_num, by omega, by omega, by omega, by rw [size_swp]; exact hsk, S4, HP.out⟩
          case measure => simp [intOf]; omega
end Go.Proofs.Ythpcippgifmabaa
