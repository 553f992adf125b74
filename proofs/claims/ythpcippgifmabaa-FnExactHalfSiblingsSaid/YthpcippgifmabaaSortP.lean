/-
  sort.Slice's family: pdqsort_func.
-/
import Derived.Test.YthpcippgifmabaaSortC
import Derived.Test.YthpcippgifmabaaSortD
import Derived.Test.YthpcippgifmabaaSortE
import Derived.Test.YthpcippgifmabaaSortG
import Derived.Test.YthpcippgifmabaaSortL
import Derived.Sort.Walk13
import Derived.Sort.AssemblyPlain
namespace Go.Proofs.Ythpcippgifmabaa
set_option maxRecDepth 100000
open Go.RowKit
open Go.Sort (Holds swp SWO pdq rd Hint hintCode size_swp partition partitionEqual)
variable {m9 : Nat}

theorem hint_two : ∀ {h : Hint}, hintCode h = 2 → h = .decreasing := by intro h; cases h <;> simp [hintCode]
set_option maxHeartbeats 16000000 in
theorem pdq_any (lt : Fin (m9 + 1) → Fin (m9 + 1) → Bool) (hO : SWO lt) (lb sb : Array Value) (r off : Nat) : ∀ (N a b limit : Nat) (d : Array (Fin (m9 + 1))) (w : World), b - a < N → Less lt lb r off d.size w → Swp m9 sb r off d.size → Holds encF w r off d → a ≤ b → b ≤ d.size → d.size < 50 → limit < 1000 → Sort.Below lt a b d →
    Calls Try.prog 81 #[.agg #[.func (.func 54) #[] lb, .func (.func 90) #[] sb], .int .i64 a, .int .i64 b, .int .i64 limit] w fun e w' =>
      e = .returned (.tuple #[]) ∧ Srt w r off (pdq lt d a b limit true true) w' := by
  intro N
  induction N with
  | zero => intro _ _ _ _ _ h; exact absurd h (Nat.not_lt_zero _)
  | succ N ih =>
    intro a b limit d w hN hL hS hH hab hb hsz hlimit hBel0
    have hr := hL.row
    go_enter Try.func81, Try.ntmps81
    go_upto_region 1 with fail
    have F : Blk (w.alloc (.cells #[.func (.func 54) #[] lb, .func (.func 90) #[] sb] 103)) w.heap.size 103 #[.func (.func 54) #[] lb, .func (.func 90) #[] sb] := Blk.new _ rfl
    have S0 : Srt w r off d (w.alloc (.cells #[.func (.func 54) #[] lb, .func (.func 90) #[] sb] 103)) := (Srt.refl hH).below hr (by (with_reducible repeat' first | exact Below.refl _ _ | assumption | (refine Below.setCell ?_ (by first | omega | (simp; omega) | (simp; done) | (dsimp only; omega)) _) | (refine Below.alloc ?_ (by first | omega | (simp; omega) | (simp; done) | (dsimp only; omega)) _) | (refine below_drewN ?_ _) | (refine Below.drew ?_)))
    generalize (w.alloc (.cells #[.func (.func 54) #[] lb, .func (.func 90) #[] sb] 103)) = w0 at F S0
    have lF := F.lt
    have hz0 := S0.size
    have L0 := hL.of S0
    clear hL hH
    go_wp2
    go_loopg [1, 2, 3, 8, 9] (b - a) (fun k s1 s2 s3 s8 s9 wr => ∃ (a' b' lim : Nat) (wb wp : Bool) (dk : Array (Fin (m9 + 1))), s1 = .int .i64 a' ∧ s2 = .int .i64 b' ∧ s3 = .int .i64 lim ∧ s8 = .bool wb ∧ s9 = .bool wp ∧
      a' ≤ b' ∧ b' ≤ d.size ∧ b' - a' ≤ k ∧ k ≤ b - a ∧ lim ≤ limit ∧ dk.size = d.size ∧ Sort.Below lt a' b' dk ∧ Srt w0 r off dk wr ∧ pdq lt dk a' b' lim wb wp = pdq lt d a b limit true true)
    case atStart => exact ⟨a, b, limit, true, true, d, rfl, rfl, rfl, rfl, rfl, hab, hb, Nat.le_refl _, Nat.le_refl _, Nat.le_refl _, rfl, hBel0, Srt.refl S0.holds, rfl⟩
    case round =>
      obtain ⟨a', b', lim, wb, wp, dk, rfl, rfl, rfl, rfl, rfl, hab', hb', hk, hkN, hlim, hds, hBel, hwr, heq⟩ := hrel
      have A := Lib.hid heq
      clear heq
      have Fr := hwr.blk F (by omega)
      have lr := Fr.lt
      have e0 := Fr.cell (i := 0) rfl; have e1 := Fr.cell (i := 1) rfl
      have hzr := hwr.size
      by_cases h12 : b' - a' ≤ 12
      · have h12z : (b' : Int) - (a' : Int) ≤ 12 := by omega
        have hc := insertion_any lt lb sb r off a' b' dk wr (by rw [hds]; exact L0.of hwr) (by rw [hds]; exact hS) hwr.holds hab' (by omega) (by omega)
        go_wp2_with (go_at_call 97; (with_reducible refine hc.mono ?_); rintro e w1 ⟨rfl, S1⟩)
        (try simp only [Exit.inBlock, Exit.then]); refine bodyPost_ret (results_none rfl _ _ _) rfl ?_
        exact ⟨rfl, S0.trans (hwr.trans (by rw [← A.out, Sort.pdq_small h12]; exact S1))⟩
      · have h12z : ¬ ((b' : Int) - (a' : Int) ≤ 12) := by omega
        by_cases hl0 : lim = 0
        · subst hl0
          have hc := heapSort_any lt lb sb r off a' b' dk wr (by rw [hds]; exact L0.of hwr) (by rw [hds]; exact hS) hwr.holds (by omega) (by omega) (by omega)
          go_wp2_with (go_at_call 98; (with_reducible refine hc.mono ?_); rintro e w1 ⟨rfl, S1⟩)
          (try simp only [Exit.inBlock, Exit.then]); refine bodyPost_ret (results_none rfl _ _ _) rfl ?_
          exact ⟨rfl, S0.trans (hwr.trans (by rw [← A.out, Sort.pdq_heap h12 rfl]; exact S1))⟩
        · have hl0z : ¬ ((lim : Int) = 0) := by omega
          obtain ⟨s1, B1, hc1, s2, B2, hpv, s3, B3⟩ := Sort.rd_facts (lt := lt) (limit := lim) (wb := wb) (wp := wp) hO Sort.partialInsertionSort_holds Sort.reverseRange_holds (show a' < b' by omega) (show b' ≤ dk.size by omega) hBel
          have Q1 := Lib.hid (fun (h : wb = false) => show (rd lt dk a' b' lim wb wp).d1 = Sort.breakPatterns dk a' b' ∧ (rd lt dk a' b' lim wb wp).lim = lim - 1 by subst h; exact Sort.rd_false)
          have Q2 := Lib.hid (fun (h : wb = true) => show (rd lt dk a' b' lim wb wp).d1 = dk ∧ (rd lt dk a' b' lim wb wp).lim = lim by subst h; exact Sort.rd_true)
          have Q3 := Lib.hid (Sort.rd_c (lt := lt) (d := dk) (a := a') (b := b') (limit := lim) (wb := wb) (wp := wp))
          have Q4 := Lib.hid (Sort.rd_dec (lt := lt) (d := dk) (a := a') (b := b') (limit := lim) (wb := wb) (wp := wp))
          have Q5 := Lib.hid (Sort.rd_not (lt := lt) (d := dk) (a := a') (b := b') (limit := lim) (wb := wb) (wp := wp))
          have Q6 := Lib.hid (Sort.rd_pi_yes (lt := lt) (d := dk) (a := a') (b := b') (limit := lim) (wb := wb) (wp := wp))
          have Q7 := Lib.hid (Sort.rd_pi_no (lt := lt) (d := dk) (a := a') (b := b') (limit := lim) (wb := wb) (wp := wp))
          have q8 := Sort.rd_lim_le (lt := lt) (d := dk) (a := a') (b := b') (limit := lim) (wb := wb) (wp := wp)
          have G1 := Lib.hid (Sort.pdq_done (lt := lt) (d := dk) (a := a') (b := b') (limit := lim) (wb := wb) (wp := wp) h12 hl0)
          have G2 := Lib.hid (Sort.pdq_eq (lt := lt) (d := dk) (a := a') (b := b') (limit := lim) (wb := wb) (wp := wp) h12 hl0)
          have G3 := Lib.hid (Sort.pdq_left (lt := lt) (d := dk) (a := a') (b := b') (limit := lim) (wb := wb) (wp := wp) h12 hl0)
          have G4 := Lib.hid (Sort.pdq_right (lt := lt) (d := dk) (a := a') (b := b') (limit := lim) (wb := wb) (wp := wp) h12 hl0)
          generalize rd lt dk a' b' lim wb wp = O at *
          obtain ⟨P, hP⟩ : ∃ P, pdq lt dk a' b' lim wb wp = P := ⟨_, rfl⟩
          rw [hP] at A G1 G2 G3 G4
          clear hP
          go_upto_if 35 with fail
          go_cut [3] from 19 (fun s3 wc => s3 = .int .i64 O.lim ∧ Srt w0 r off O.d1 wc)
          case first =>
            cases wb
            · have K := Lib.hid (Q1.out rfl)
              clear Q1 Q2
              have hc := break_any lb sb r off a' b' dk wr (by omega) (by rw [hds]; exact hS) hwr.holds hab' (by omega) (by omega) (by rw [← K.out.1]; exact s1)
              go_wp2_with (go_at_call 99; (with_reducible refine hc.mono ?_); rintro e w1 ⟨rfl, S1⟩)
              go_meet
              case rel => exact ⟨by rw [K.out.2]; congr 1; omega, by rw [K.out.1]; exact hwr.trans S1⟩
            · have K := Lib.hid (Q2.out rfl)
              clear Q1 Q2
              go_wp2_with fail
              go_meet
              case rel => exact ⟨by rw [K.out.2], by rw [K.out.1]; exact hwr⟩
          case rest =>
            obtain ⟨rfl, hw1⟩ := hcut
            clear hwr Fr lr e0 e1 hzr Q1 Q2
            have Fr := hw1.blk F (by omega)
            have lr := Fr.lt
            have e0 := Fr.cell (i := 0) rfl; have e1 := Fr.cell (i := 1) rfl
            have hzr := hw1.size
            have z1 : O.d1.size = d.size := s1.trans hds
            have hc := choosePivot_any lt lb sb r off a' b' O.d1 wc (by rw [z1]; exact L0.of hw1) hw1.holds (by omega) (by omega) (by omega)
            rw [← Q3.out] at hc
            go_upto_if 50 with (go_at_call 100; (with_reducible refine hc.mono ?_); rintro e w2 ⟨rfl, hq⟩)
            have hw2 := hw1.below (by omega) hq
            clear hc e0 e1
            have F2 := Fr.below hq lr
            have l2 := F2.lt
            have e0 := F2.cell (i := 0) rfl; have e1 := F2.cell (i := 1) rfl
            go_cut [11, 12] from 19 (fun s11 s12 wc => s11 = .int .i64 O.pivot ∧ s12 = .int .i64 (hintCode O.hint) ∧ Srt w0 r off O.d2 wc)
            case first =>
              by_cases hh : O.c.2 = .decreasing
              · have hcode : hintCode O.c.2 = 2 := by rw [hh]; rfl
                obtain ⟨g1, g2, g3⟩ := Q4.out hh
                have hc := reverse_any lb sb r off a' b' O.d1 w2 (by have := hw2.size; omega) (by rw [z1]; exact hS) hw2.holds hab' (by omega) (by omega) (by rw [← g1, s2, s1])
                have G5 := Lib.hid (And.intro g1 (And.intro g2 g3))
                clear g1 g2 g3 hh
                go_wp2_with (go_at_call 101; (with_reducible refine hc.mono ?_); rintro e w3 ⟨rfl, S3⟩)
                go_meet
                case rel =>
                  refine ⟨?_, by rw [G5.out.2.2]; rfl, by rw [G5.out.1]; exact hw2.trans S3⟩
                  have := G5.out.2.1
                  rw [this]
                  congr 1
                  omega
              · have hcode : ¬ (hintCode O.c.2 = 2) := fun h => hh (hint_two h)
                have G5 := Lib.hid (Q5.out hh)
                clear hh
                go_wp2_with fail
                go_meet
                case rel => exact ⟨by rw [G5.out.2.1], by rw [G5.out.2.2], by rw [G5.out.1]; exact hw2⟩
            case rest =>
              obtain ⟨rfl, rfl, hw3⟩ := hcut
              clear hw1 hw2 F2 l2 e0 e1 Fr lr hzr hq
              have Fr := hw3.blk F (by omega)
              have lr := Fr.lt
              have e0 := Fr.cell (i := 0) rfl; have e1 := Fr.cell (i := 1) rfl
              have hzr := hw3.size
              have z2 : O.d2.size = d.size := s2.trans hds
              have z3 : O.pi.1.size = d.size := s3.trans hds
              go_upto_region 16 with fail
              go_cut [12, 68] from 19 (fun s12 s68 wx => s12 = .int .i64 (hintCode O.hint) ∧ s68 = .bool (wb && wp && decide (O.hint = .increasing)) ∧ wx = wc)
              case first =>
                cases wb <;> cases wp <;> cases hh3 : O.hint <;>
                  (have hcode3 := congrArg hintCode hh3
                   simp only [hintCode] at hcode3
                   go_wp2_with fail
                   go_meet
                   exact ⟨by simp [hh3, hintCode], by simp [hh3, hintCode], rfl⟩)
              case rest =>
                obtain ⟨rfl, rfl, rfl⟩ := hcut
                go_upto_if 68 with fail
                go_cut [] from 19 (fun wx => O.pi.2 = false ∧ Srt w0 r off O.pi.1 wx)
                case first =>
                  cases h68 : (wb && wp && decide (O.hint = .increasing)) with
                  | false =>
                    have K := Lib.hid (Q7.out h68)
                    go_wp2_with fail
                    go_meet
                    case rel => exact ⟨by rw [K.out], by rw [K.out]; exact hw3⟩
                  | true =>
                    have k1 := Q6.out h68
                    have hc := partial_any lt lb sb r off a' b' O.d2 wc (by rw [z2]; exact L0.of hw3) hw3.holds (by omega) (by omega) (by omega)
                    rw [← k1] at hc
                    rw [partial_eq (by omega)] at k1
                    have k2 : O.pi.1 = O.d2 := by rw [k1]
                    have K := Lib.hid k2
                    clear k1 k2
                    cases hp : O.pi.2 with
                    | false =>
                      rw [hp] at hc
                      go_wp2_with (go_at_call 102; (with_reducible refine hc.mono ?_); rintro e w4 ⟨rfl, hq⟩)
                      go_meet
                      case rel => exact ⟨hp, by rw [K.out]; exact hw3.below (by omega) hq⟩
                    | true =>
                      rw [hp] at hc
                      go_wp2_with (go_at_call 102; (with_reducible refine hc.mono ?_); rintro e w4 ⟨rfl, hq⟩)
                      (try simp only [Exit.inBlock, Exit.then]); refine bodyPost_ret (results_none rfl _ _ _) rfl ?_
                      exact ⟨rfl, S0.trans (by rw [← A.out, G1.out hp, K.out]; exact hw3.below (by omega) hq)⟩
                case rest =>
                  obtain ⟨hp2, hw5⟩ := hcut
                  clear hw3 e0 e1 Fr lr hzr
                  have Fr := hw5.blk F (by omega)
                  have lr := Fr.lt
                  have e0 := Fr.cell (i := 0) rfl; have e1 := Fr.cell (i := 1) rfl
                  have hzr := hw5.size
                  obtain ⟨T, hT⟩ : ∃ T, (decide (a' > 0) && !lt O.pi.1[a' - 1]! O.pi.1[O.pivot]!) = T := ⟨_, rfl⟩
                  have HT := Lib.hid hT
                  clear hT
                  go_upto_region 18 with fail
                  go_cut [83] from 19 (fun s83 wx => s83 = .bool T ∧ Srt w0 r off O.pi.1 wx)
                  case first =>
                    rcases Nat.eq_zero_or_pos a' with ha0 | ha0
                    · have ha0z : decide ((a' : Int) > 0) = false := decide_eq_false (by omega)
                      have K := Lib.hid (show T = false by rw [← HT.out]; simp [ha0])
                      go_wp2_with fail
                      go_meet
                      case rel => exact ⟨by rw [K.out], hw5⟩
                    · have ha0z : (a' : Int) > 0 := by omega
                      have hl := L0.at hw5 z3 (a' - 1) O.pivot (by omega) (by omega)
                      cases hlv : lt O.pi.1[a' - 1]! O.pi.1[O.pivot]! with
                      | false =>
                        rw [hlv] at hl
                        have K := Lib.hid (show T = true by rw [← HT.out]; simp [ha0, hlv])
                        go_wp2_with (go_at_call 54; (with_reducible refine (hl _ _ (by omega) (by omega)).mono ?_); rintro e w6 ⟨rfl, hq⟩)
                        go_meet
                        case rel => exact ⟨by rw [K.out], hw5.below (by omega) hq⟩
                      | true =>
                        rw [hlv] at hl
                        have K := Lib.hid (show T = false by rw [← HT.out]; simp [hlv])
                        go_wp2_with (go_at_call 54; (with_reducible refine (hl _ _ (by omega) (by omega)).mono ?_); rintro e w6 ⟨rfl, hq⟩)
                        go_meet
                        case rel => exact ⟨by rw [K.out], hw5.below (by omega) hq⟩
                  case rest =>
                    obtain ⟨rfl, hw6⟩ := hcut
                    clear hw5 e0 e1 Fr lr hzr
                    have Fr := hw6.blk F (by omega)
                    have lr := Fr.lt
                    have e0 := Fr.cell (i := 0) rfl; have e1 := Fr.cell (i := 1) rfl
                    have hzr := hw6.size
                    cases T with
                    | true =>
                      have h87 := HT.out
                      have h87' := HT.out
                      simp only [Bool.and_eq_true, decide_eq_true_eq, Bool.not_eq_true'] at h87'
                      obtain ⟨mid, d4, hx⟩ : ∃ mid d4, partitionEqual lt O.pi.1 a' b' O.pivot = (mid, d4) := ⟨_, _, rfl⟩
                      obtain ⟨r1, r2, r3, r4, -⟩ := Sort.round_eq hO (Sort.partitionEqual_holds lt) h87'.1 hpv.1 hpv.2 (show b' ≤ O.pi.1.size by omega) B3 h87'.2 hx
                      have hc := partEq_any lt lb sb r off a' b' O.pivot O.pi.1 _ (by rw [z3]; exact L0.of hw6) (by rw [z3]; exact hS) hw6.holds hpv.1 hpv.2 (by omega) (by omega)
                      have g := G2.out hp2 h87 (by rw [hx]; exact ⟨r1, r2⟩)
                      rw [hx] at hc g
                      have G := Lib.hid g
                      clear hx g h87 h87' HT
                      go_wp2_with (go_at_call 103; (with_reducible refine hc.mono ?_); rintro e w7 ⟨rfl, S7⟩)
                      go_roundg (b' - mid)
                      case measure => omega
                      case rel => exact ⟨mid, b', O.lim, wb, wp, d4, rfl, rfl, rfl, rfl, rfl, r2, hb', Nat.le_refl _, by omega, Nat.le_trans q8 hlim, by rw [r3]; exact z3, r4, hw6.trans S7, G.out.symm.trans A.out⟩
                    | false =>
                      have h87 := HT.out
                      obtain ⟨mid, ap, d4, hx⟩ : ∃ mid ap d4, partition lt O.pi.1 a' b' O.pivot = (mid, ap, d4) := ⟨_, _, _, rfl⟩
                      obtain ⟨r1, r2, r3, r4, r5, r6, r7⟩ := Sort.round_part hO (Sort.partition_holds lt) hpv.1 hpv.2 (show b' ≤ O.pi.1.size by omega) B3 hx
                      have hc := partition_any lt lb sb r off a' b' O.pivot O.pi.1 _ (by rw [z3]; exact L0.of hw6) (by rw [z3]; exact hS) hw6.holds hpv.1 hpv.2 (by omega) (by omega) (by omega)
                      have g3 := G3.out hp2 h87 (by rw [hx]; exact ⟨r1, r2⟩)
                      have g4 := G4.out hp2 h87 (by rw [hx]; exact ⟨r1, r2⟩)
                      rw [hx] at hc g3 g4
                      (try dsimp only at hc g3 g4)
                      have G3' := Lib.hid g3
                      have G4' := Lib.hid g4
                      have R6 := Lib.hid r6
                      have R7 := Lib.hid r7
                      clear hx g3 g4 h87 HT r6 r7
                      go_upto_if 109 with (go_at_call 104; (with_reducible refine hc.mono ?_); rintro e w7 ⟨rfl, S7⟩)
                      have hw7 := hw6.trans S7
                      have z7 : d4.size = d.size := r3.trans z3
                      clear e0 e1 Fr lr hzr hw6 S7 hc
                      have Fr := hw7.blk F (by omega)
                      have lr := Fr.lt
                      have e0 := Fr.cell (i := 0) rfl; have e1 := Fr.cell (i := 1) rfl
                      have hzr := hw7.size
                      by_cases h4 : mid - a' < b' - mid
                      · have h4z : (mid : Int) - (a' : Int) < (b' : Int) - (mid : Int) := by omega
                        have hih := ih a' mid O.lim d4 _ (by omega) (by rw [z7]; exact L0.of hw7) (by rw [z7]; exact hS) hw7.holds (by omega) (by omega) (by omega) (by omega) r4
                        obtain ⟨pL, sL⟩ := Sort.pdq_sorts lt hO d4 a' mid O.lim true true (by omega) (by omega) r4
                        have R8 := Lib.hid (R6.out _ pL sL).1
                        have G := Lib.hid (G3'.out h4)
                        have s8 : (pdq lt d4 a' mid O.lim true true).size = d.size := by rw [pL.1]; exact z7
                        clear pL sL G3' G4' R6 R7
                        generalize pdq lt d4 a' mid O.lim true true = D at hih R8 G s8
                        go_wp2_with (go_at_call 81; (with_reducible refine hih.mono ?_); rintro e w8 ⟨rfl, S8⟩)
                        go_roundg (b' - (mid + 1))
                        case measure => omega
                        case rel =>
                          refine ⟨mid + 1, b', O.lim, decide (mid - a' ≥ (b' - a') / 8), ap, D, by simp, rfl, rfl, ?_, rfl, by omega, by omega, Nat.le_refl _, by omega, Nat.le_trans q8 hlim, s8, R8.out, hw7.trans S8, G.out.symm.trans A.out⟩
                          exact congrArg Value.bool (eighth (by omega) (by omega))
                      · have h4z : ¬ ((mid : Int) - (a' : Int) < (b' : Int) - (mid : Int)) := by omega
                        have hih := ih (mid + 1) b' O.lim d4 _ (by omega) (by rw [z7]; exact L0.of hw7) (by rw [z7]; exact hS) hw7.holds (by omega) (by omega) (by omega) (by omega) r5
                        obtain ⟨pL, sL⟩ := Sort.pdq_sorts lt hO d4 (mid + 1) b' O.lim true true (by omega) (by omega) r5
                        have R8 := Lib.hid (R7.out _ pL sL).1
                        have G := Lib.hid (G4'.out h4)
                        have s8 : (pdq lt d4 (mid + 1) b' O.lim true true).size = d.size := by rw [pL.1]; exact z7
                        clear pL sL G3' G4' R6 R7
                        generalize pdq lt d4 (mid + 1) b' O.lim true true = D at hih R8 G s8
                        rw [show ((mid + 1 : Nat) : Int) = (mid : Int) + 1 by omega] at hih
                        go_wp2_with (go_at_call 81; (with_reducible refine hih.mono ?_); rintro e w8 ⟨rfl, S8⟩)
                        go_roundg (mid - a')
                        case measure => omega
                        case rel =>
                          refine ⟨a', mid, O.lim, decide (b' - mid ≥ (b' - a') / 8), ap, D, rfl, rfl, rfl, ?_, rfl, by omega, by omega, Nat.le_refl _, by omega, Nat.le_trans q8 hlim, s8, R8.out, hw7.trans S8, G.out.symm.trans A.out⟩
                          exact congrArg Value.bool (eighth (by omega) (by omega))
end Go.Proofs.Ythpcippgifmabaa
