/-
  sort.Slice's family: the partition.
-/
import Derived.Test.YthpcippgifmabaaSortF
namespace Go.Proofs.Ythpcippgifmabaa
set_option maxRecDepth 100000
open Go.RowKit
open Go.Sort (Holds swp scanUp scanDown partLoop partition size_swp)
variable {m9 : Nat}

theorem partition_eq {lt : Fin (m9 + 1) → Fin (m9 + 1) → Bool} {d : Array (Fin (m9 + 1))} {a b pivot I J : Nat} (hI : scanUp (fun x => lt x (swp d a pivot)[a]!) (swp d a pivot) (b - 1) (a + 1) = I) (hJ : scanDown (fun x => !lt x (swp d a pivot)[a]!) (swp d a pivot) I (b - 1) = J) :
    partition lt d a b pivot = if I > J then (J, true, swp (swp d a pivot) J a) else ((partLoop lt a (I + 1) (J - 1) (swp (swp d a pivot) I J)).1, false, swp (partLoop lt a (I + 1) (J - 1) (swp (swp d a pivot) I J)).2 (partLoop lt a (I + 1) (J - 1) (swp (swp d a pivot) I J)).1 a) := by
  unfold partition
  simp only [hI, hJ]

set_option maxHeartbeats 16000000 in
theorem partition_any (lt : Fin (m9 + 1) → Fin (m9 + 1) → Bool) (lb sb : Array Value) (r off a b pivot : Nat) (d : Array (Fin (m9 + 1))) (w : World) (hL : Less lt lb r off d.size w) (hS : Swp m9 sb r off d.size) (hH : Holds encF w r off d) (_hap : a ≤ pivot) (hpb : pivot < b) (hab : a + 1 < b) (hb : b ≤ d.size) (hsz : d.size < 1000) :
    Calls Try.prog 104 #[.agg #[.func (.func 54) #[] lb, .func (.func 90) #[] sb], .int .i64 a, .int .i64 b, .int .i64 pivot] w fun e w' =>
      e = .returned (.tuple #[.int .i64 (partition lt d a b pivot).1, .bool (partition lt d a b pivot).2.1]) ∧ Srt w r off (partition lt d a b pivot).2.2 w' := by
  have hr := hL.row
  obtain ⟨dk, hdk⟩ : ∃ dk, swp d a pivot = dk := ⟨_, rfl⟩
  have hsk : dk.size = d.size := by rw [← hdk]; exact size_swp _ _ _
  obtain ⟨I, hI⟩ : ∃ I, scanUp (fun x => lt x dk[a]!) dk (b - 1) (a + 1) = I := ⟨_, rfl⟩
  obtain ⟨J, hJ⟩ : ∃ J, scanDown (fun x => !lt x dk[a]!) dk I (b - 1) = J := ⟨_, rfl⟩
  have hp : partition lt d a b pivot = if I > J then (J, true, swp dk J a) else ((partLoop lt a (I + 1) (J - 1) (swp dk I J)).1, false, swp (partLoop lt a (I + 1) (J - 1) (swp dk I J)).2 (partLoop lt a (I + 1) (J - 1) (swp dk I J)).1 a) := by
    subst hdk; exact partition_eq hI hJ
  obtain ⟨R, hR⟩ : ∃ R, partition lt d a b pivot = R := ⟨_, rfl⟩
  rw [hR] at hp ⊢
  have HP := Lib.hid hp; have HD := Lib.hid hdk; have HI := Lib.hid hI; have HJ := Lib.hid hJ
  clear hp hR hdk hI hJ
  obtain ⟨b1, hb1⟩ : ∃ b1, b = b1 + 1 := ⟨b - 1, by omega⟩
  rw [show b - 1 = b1 by omega] at HI HJ
  have hbl : b ≤ b1 + 1 := by omega
  have hbg : b1 + 1 ≤ b := by omega
  clear hb1
  go_enter Try.func104, Try.ntmps104
  go_upto_region 1 with fail
  have F : Blk (w.alloc (.cells #[.func (.func 54) #[] lb, .func (.func 90) #[] sb] 103)) w.heap.size 103 #[.func (.func 54) #[] lb, .func (.func 90) #[] sb] := Blk.new _ rfl
  have S0 : Srt w r off d (w.alloc (.cells #[.func (.func 54) #[] lb, .func (.func 90) #[] sb] 103)) := (Srt.refl hH).below hr (by (with_reducible repeat' first | exact Below.refl _ _ | assumption | (refine Below.setCell ?_ (by first | omega | (simp; omega) | (simp; done) | (dsimp only; omega)) _) | (refine Below.alloc ?_ (by first | omega | (simp; omega) | (simp; done) | (dsimp only; omega)) _) | (refine below_drewN ?_ _) | (refine Below.drew ?_)))
  generalize (w.alloc (.cells #[.func (.func 54) #[] lb, .func (.func 90) #[] sb] 103)) = w0 at F S0
  have lF := F.lt
  have hz0 := S0.size
  have L0 := hL.of S0
  have e0 := F.cell (i := 0) rfl; have e1 := F.cell (i := 1) rfl
  go_wp2
  obtain ⟨w1, hs, S1⟩ := hS.at (Srt.refl S0.holds) rfl a pivot (by omega) (by omega)
  rw [hs, Oper.upon_value]
  rotate_left
  · omega
  · omega
  clear hs
  rw [HD.out] at S1
  clear e0 e1
  go_upto_block 0 with fail
  go_cut [10] (fun v wc => v = .int .i64 I ∧ (a + 1) ≤ I ∧ I ≤ b1 + 1 ∧ (I ≤ b1 → lt dk[I]! dk[a]! = false) ∧ Srt w0 r off dk wc)
  case first =>
    go_wp2_with fail
    go_loopw [10] (fun v wc => ∃ k : Nat, v = .int .i64 k ∧ (a + 1) ≤ k ∧ k ≤ b1 + 1 ∧ Srt w0 r off dk wc ∧ scanUp (fun x => lt x dk[a]!) dk b1 k = I) (fun v _ => b1 + 1 - (intOf v).toNat)
    case atStart => exact ⟨(a + 1), by go_num, Nat.le_refl _, by omega, S1, HI.out⟩
    case round =>
      clear S1
      obtain ⟨k, rfl, hk1, hk2, hwk, hK⟩ := hrel
      have HK := Lib.hid hK
      clear hK
      have Fr := hwk.blk F (by omega)
      have e0 := Fr.cell (i := 0) rfl
      have hzk := hwk.size
      by_cases h : k ≤ b1
      · have hz : (k : Int) ≤ (b1 : Int) := by omega
        have hl := L0.at hwk hsk k a (by omega) (by omega)
        cases hv : lt dk[k]! dk[a]! with
        | true =>
          rw [hv] at hl
          go_wp2_with (go_at_call 54; (with_reducible refine (hl _ _ (by omega) (by omega)).mono ?_); rintro e w9 ⟨rfl, hq⟩)
          exact ⟨⟨k + 1, by go_num, by omega, by omega, hwk.below (by omega) hq, by rw [← HK.out, scanUp_go h (by simp [hv])]⟩, by simp [intOf]; omega⟩
        | false =>
          rw [hv] at hl
          have hk : k = I := by rw [← HK.out, scanUp_stop (Or.inr (by simp [hv]))]
          go_wp2_with (go_at_call 54; (with_reducible refine (hl _ _ (by omega) (by omega)).mono ?_); rintro e w9 ⟨rfl, hq⟩)
          go_meet
          case rel => exact ⟨by rw [← hk], by omega, by omega, fun _ => by rw [← hk]; exact hv, hwk.below (by omega) hq⟩
      · have hz : ¬ (k : Int) ≤ (b1 : Int) := by omega
        have hk : k = I := by rw [← HK.out, scanUp_stop (Or.inl h)]
        go_wp2
        go_meet
        case rel => exact ⟨by rw [← hk], by omega, by omega, fun h' => absurd h' (by omega), hwk⟩
  case rest =>
    clear S1
    obtain ⟨rfl, hI1, hI2, hIv, hw2⟩ := hcut
    have HIV := Lib.hid hIv
    clear hIv
    go_upto_block 2 with fail
    go_cut [11] (fun v wc => v = .int .i64 J ∧ I ≤ J + 1 ∧ J ≤ b1 ∧ (I ≤ J → lt dk[J]! dk[a]! = true) ∧ Srt w0 r off dk wc)
    case first =>
      go_wp2_with fail
      go_loopw [11] (fun v wc => ∃ k : Nat, v = .int .i64 k ∧ I ≤ k + 1 ∧ k ≤ b1 ∧ Srt w0 r off dk wc ∧ scanDown (fun x => !lt x dk[a]!) dk I k = J) (fun v _ => (intOf v).toNat)
      case atStart => exact ⟨b1, by go_num, by omega, Nat.le_refl _, hw2, HJ.out⟩
      case round =>
        clear hw2
        obtain ⟨k, rfl, hk1, hk2, hwk, hK⟩ := hrel
        have HK := Lib.hid hK
        clear hK
        have Fr := hwk.blk F (by omega)
        have e0 := Fr.cell (i := 0) rfl
        have hzk := hwk.size
        by_cases h : I ≤ k
        · have hz : (I : Int) ≤ (k : Int) := by omega
          have hl := L0.at hwk hsk k a (by omega) (by omega)
          obtain ⟨m, rfl⟩ : ∃ m, k = m + 1 := ⟨k - 1, by omega⟩
          cases hv : lt dk[m + 1]! dk[a]! with
          | false =>
            rw [hv] at hl
            go_wp2_with (go_at_call 54; (with_reducible refine (hl _ _ (by omega) (by omega)).mono ?_); rintro e w9 ⟨rfl, hq⟩)
            exact ⟨⟨m, by go_num, by omega, by omega, hwk.below (by omega) hq, by rw [← HK.out, scanDown_go h (by simp [hv])]⟩, by simp [intOf]⟩
          | true =>
            rw [hv] at hl
            have hk : m + 1 = J := by rw [← HK.out, scanDown_stop (by omega) (Or.inr (by simp [hv]))]
            go_wp2_with (go_at_call 54; (with_reducible refine (hl _ _ (by omega) (by omega)).mono ?_); rintro e w9 ⟨rfl, hq⟩)
            go_meet
            case rel => exact ⟨by rw [← hk], by omega, by omega, fun _ => by rw [← hk]; exact hv, hwk.below (by omega) hq⟩
        · have hz : ¬ (I : Int) ≤ (k : Int) := by omega
          have hk : k = J := by rw [← HK.out, scanDown_stop (by omega) (Or.inl h)]
          go_wp2
          go_meet
          case rel => exact ⟨by rw [← hk], by omega, by omega, fun h' => absurd h' (by omega), hwk⟩
    case rest =>
      clear hw2
      obtain ⟨rfl, hJ1, hJ2, hJv, hw3⟩ := hcut
      have HJV := Lib.hid hJv
      clear hJv
      have Fr := hw3.blk F (by omega)
      have e0 := Fr.cell (i := 0) rfl; have e1 := Fr.cell (i := 1) rfl
      have hz3 := hw3.size
      by_cases h : I > J
      · have hz : (I : Int) > (J : Int) := by omega
        have HP2 := Lib.hid (HP.out.trans (if_pos h))
        go_wp2
        obtain ⟨w4, hs, S4⟩ := hS.at hw3 hsk J a (by omega) (by omega)
        rw [hs, Oper.upon_value]
        rotate_left
        · omega
        · omega
        clear hs
        go_wp2
        (try simp only [Exit.inBlock, Exit.then]); refine bodyPost_ret (v := .tuple #[.int .i64 J, .bool true]) (by simp [results, Try.results104, go_sem]) rfl ?_
        rw [HP2.out]
        exact ⟨rfl, S0.trans S4⟩
      · have hz : ¬ (I : Int) > (J : Int) := by omega
        have hIJ : I < J := by
          rcases Nat.lt_or_ge I J with h' | h'
          · exact h'
          · obtain rfl : I = J := by omega
            exact absurd ((HIV.out (by omega)).symm.trans (HJV.out (by omega))) (by simp)
        have HP2 := Lib.hid (HP.out.trans (if_neg h))
        go_wp2
        obtain ⟨w4, hs, S4⟩ := hS.at hw3 hsk I J (by omega) (by omega)
        rw [hs, Oper.upon_value]
        rotate_left
        · omega
        · omega
        clear hs
        obtain ⟨d0, hd0⟩ : ∃ d0, swp dk I J = d0 := ⟨_, rfl⟩
        rw [hd0] at HP2 S4
        have hs0 : d0.size = d.size := by rw [← hd0, size_swp]; exact hsk
        obtain ⟨I0, hI0⟩ : ∃ I0, I + 1 = I0 := ⟨_, rfl⟩
        obtain ⟨J0, hJ0⟩ : ∃ J0, J - 1 = J0 := ⟨_, rfl⟩
        rw [hI0, hJ0] at HP2
        obtain ⟨Q, hQ⟩ : ∃ Q, partLoop lt a I0 J0 d0 = Q := ⟨_, rfl⟩
        rw [hQ] at HP2
        have HQ := Lib.hid hQ
        clear hQ hd0
        go_wp2
        go_loopw [10, 11] (fun vi vj wr => ∃ (i j : Nat) (dk : Array (Fin (m9 + 1))), vi = .int .i64 i ∧ vj = .int .i64 j ∧ a < i ∧ i ≤ j + 1 ∧ j < b ∧ dk.size = d.size ∧ Srt w0 r off dk wr ∧ partLoop lt a i j dk = Q) (fun vi vj _ => (intOf vj + 1 - intOf vi).toNat)
        case atStart => exact ⟨I0, J0, d0, by go_num, by go_num, by omega, by omega, by omega, hs0, S4, HQ.out⟩
        case round =>
          clear hw3 S4 e0 e1 Fr hz3 hIJ h hz HIV HJV HI HJ hI1 hI2 hJ1 hJ2 hs0 HQ hsk hI0 hJ0
          obtain ⟨i, j, dk, rfl, rfl, hai, hij, hjb, hsk, hwr, hO⟩ := hrel
          rw [Sort.partLoop_eq] at hO
          obtain ⟨I, hI⟩ : ∃ I, scanUp (fun x => lt x dk[a]!) dk j i = I := ⟨_, rfl⟩
          rw [hI] at hO
          obtain ⟨J, hJ⟩ : ∃ J, scanDown (fun x => !lt x dk[a]!) dk I j = J := ⟨_, rfl⟩
          rw [hJ] at hO
          have HO := Lib.hid hO; have HI := Lib.hid hI; have HJ := Lib.hid hJ
          clear hO hI hJ
          go_upto_block 6 with fail
          go_cut [10] from 64 to 100 (fun v wc => v = .int .i64 I ∧ i ≤ I ∧ I ≤ j + 1 ∧ (I ≤ j → lt dk[I]! dk[a]! = false) ∧ Srt w0 r off dk wc)
          case first =>
            go_wp2_with fail
            go_loopw [10] (fun v wc => ∃ k : Nat, v = .int .i64 k ∧ i ≤ k ∧ k ≤ j + 1 ∧ Srt w0 r off dk wc ∧ scanUp (fun x => lt x dk[a]!) dk j k = I) (fun v _ => j + 1 - (intOf v).toNat)
            case atStart => exact ⟨i, by go_num, Nat.le_refl _, by omega, hwr, HI.out⟩
            case round =>
              clear hwr
              obtain ⟨k, rfl, hk1, hk2, hwk, hK⟩ := hrel
              have HK := Lib.hid hK
              clear hK
              have Fr := hwk.blk F (by omega)
              have e0 := Fr.cell (i := 0) rfl
              have hzk := hwk.size
              by_cases h : k ≤ j
              · have hz : (k : Int) ≤ (j : Int) := by omega
                have hl := L0.at hwk hsk k a (by omega) (by omega)
                cases hv : lt dk[k]! dk[a]! with
                | true =>
                  rw [hv] at hl
                  go_wp2_with (go_at_call 54; (with_reducible refine (hl _ _ (by omega) (by omega)).mono ?_); rintro e w9 ⟨rfl, hq⟩)
                  exact ⟨⟨k + 1, by go_num, by omega, by omega, hwk.below (by omega) hq, by rw [← HK.out, scanUp_go h (by simp [hv])]⟩, by simp [intOf]; omega⟩
                | false =>
                  rw [hv] at hl
                  have hk : k = I := by rw [← HK.out, scanUp_stop (Or.inr (by simp [hv]))]
                  go_wp2_with (go_at_call 54; (with_reducible refine (hl _ _ (by omega) (by omega)).mono ?_); rintro e w9 ⟨rfl, hq⟩)
                  go_meet
                  case rel => exact ⟨by rw [← hk], by omega, by omega, fun _ => by rw [← hk]; exact hv, hwk.below (by omega) hq⟩
              · have hz : ¬ (k : Int) ≤ (j : Int) := by omega
                have hk : k = I := by rw [← HK.out, scanUp_stop (Or.inl h)]
                go_wp2
                go_meet
                case rel => exact ⟨by rw [← hk], by omega, by omega, fun h' => absurd h' (by omega), hwk⟩
          case rest =>
            clear hwr
            obtain ⟨rfl, hI1, hI2, hIv, hw2⟩ := hcut
            have HIV := Lib.hid hIv
            clear hIv
            go_upto_block 8 with fail
            go_cut [11] from 64 to 100 (fun v wc => v = .int .i64 J ∧ I ≤ J + 1 ∧ J ≤ j ∧ (I ≤ J → lt dk[J]! dk[a]! = true) ∧ Srt w0 r off dk wc)
            case first =>
              go_wp2_with fail
              go_loopw [11] (fun v wc => ∃ k : Nat, v = .int .i64 k ∧ I ≤ k + 1 ∧ k ≤ j ∧ Srt w0 r off dk wc ∧ scanDown (fun x => !lt x dk[a]!) dk I k = J) (fun v _ => (intOf v).toNat)
              case atStart => exact ⟨j, by go_num, by omega, Nat.le_refl _, hw2, HJ.out⟩
              case round =>
                clear hw2
                obtain ⟨k, rfl, hk1, hk2, hwk, hK⟩ := hrel
                have HK := Lib.hid hK
                clear hK
                have Fr := hwk.blk F (by omega)
                have e0 := Fr.cell (i := 0) rfl
                have hzk := hwk.size
                by_cases h : I ≤ k
                · have hz : (I : Int) ≤ (k : Int) := by omega
                  have hl := L0.at hwk hsk k a (by omega) (by omega)
                  obtain ⟨m, rfl⟩ : ∃ m, k = m + 1 := ⟨k - 1, by omega⟩
                  cases hv : lt dk[m + 1]! dk[a]! with
                  | false =>
                    rw [hv] at hl
                    go_wp2_with (go_at_call 54; (with_reducible refine (hl _ _ (by omega) (by omega)).mono ?_); rintro e w9 ⟨rfl, hq⟩)
                    exact ⟨⟨m, by go_num, by omega, by omega, hwk.below (by omega) hq, by rw [← HK.out, scanDown_go h (by simp [hv])]⟩, by simp [intOf]⟩
                  | true =>
                    rw [hv] at hl
                    have hk : m + 1 = J := by rw [← HK.out, scanDown_stop (by omega) (Or.inr (by simp [hv]))]
                    go_wp2_with (go_at_call 54; (with_reducible refine (hl _ _ (by omega) (by omega)).mono ?_); rintro e w9 ⟨rfl, hq⟩)
                    go_meet
                    case rel => exact ⟨by rw [← hk], by omega, by omega, fun _ => by rw [← hk]; exact hv, hwk.below (by omega) hq⟩
                · have hz : ¬ (I : Int) ≤ (k : Int) := by omega
                  have hk : k = J := by rw [← HK.out, scanDown_stop (by omega) (Or.inl h)]
                  go_wp2
                  go_meet
                  case rel => exact ⟨by rw [← hk], by omega, by omega, fun h' => absurd h' (by omega), hwk⟩
            case rest =>
              clear hw2
              obtain ⟨rfl, hJ1, hJ2, hJv, hw3⟩ := hcut
              have HJV := Lib.hid hJv
              clear hJv
              have Fr := hw3.blk F (by omega)
              have e0 := Fr.cell (i := 0) rfl; have e1 := Fr.cell (i := 1) rfl
              have hz3 := hw3.size
              by_cases h : I > J
              · have hz : (I : Int) > (J : Int) := by omega
                have HQ := Lib.hid ((if_pos h).symm.trans HO.out)
                go_wp2
                obtain ⟨w4, hs, S4⟩ := hS.at hw3 hsk J a (by omega) (by omega)
                rw [hs, Oper.upon_value]
                rotate_left
                · omega
                · omega
                clear hs
                go_wp2
                (try simp only [Exit.inBlock, Exit.then]); refine bodyPost_ret (v := .tuple #[.int .i64 J, .bool false]) (by simp [results, Try.results104, go_sem]) rfl ?_
                rw [HP2.out, ← HQ.out]
                exact ⟨rfl, S0.trans S4⟩
              · have hz : ¬ (I : Int) > (J : Int) := by omega
                have hIJ : I < J := by
                  rcases Nat.lt_or_ge I J with h' | h'
                  · exact h'
                  · obtain rfl : I = J := by omega
                    exact absurd ((HIV.out (by omega)).symm.trans (HJV.out (by omega))) (by simp)
                have HQ := Lib.hid ((if_neg h).symm.trans HO.out)
                go_wp2
                obtain ⟨w4, hs, S4⟩ := hS.at hw3 hsk I J (by omega) (by omega)
                rw [hs, Oper.upon_value]
                rotate_left
                · omega
                · omega
                clear hs
                go_wp2
                go_roundw
                case rel => exact ⟨I + 1, J - 1, swp dk I J, by go_num, by go_num, by omega, by omega, by omega, by rw [size_swp]; exact hsk, S4, HQ.out⟩
                case measure => simp [intOf]; omega
end Go.Proofs.Ythpcippgifmabaa
