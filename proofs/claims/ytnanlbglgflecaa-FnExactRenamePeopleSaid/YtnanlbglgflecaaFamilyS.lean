/-
  Whether a family is valid, in the reference.
-/
import Derived.Test.YtnanlbglgflecaaFamOk
import Derived.Test.YtnanlbglgflecaaUnionS
import Derived.Test.YtnanlbglgflecaaPersonS
namespace Go.Proofs.Ytnanlbglgflecaa
set_option maxRecDepth 100000
open Go.RowKit

set_option maxHeartbeats 4000000 in
theorem specIsFamily_any (A B : Option Addr) (c d lo hi : Nat) (xs : List Person) (ys : List Union) (w : World) (h : EPerson.AS w lo hi A xs) (h' : EUnion.AS w lo hi B ys) (hh : hi ≤ w.heap.size) (hs : totP xs ≤ 1048576) :
    Calls Try.prog 122 #[.agg #[.slice A xs.length c, .slice B ys.length d]] w fun e w' => e = .returned (.bool (famOk xs ys)) ∧ Below w.heap.size w w' := by
  replace hs := totP_mem hs
  have hx := h.le
  have hy := h'.le
  unfold BIG at hx hy
  by_cases hl : xs.length ≤ 40 ∧ ys.length ≤ 60
  · rw [famOk_in hl]
    generalize hR : (peopleOk xs xs.length && flatOk (depL xs xs.length) xs.length && unionsOk xs ys ys.length) = R
    have HR := Lib.hid hR; clear hR
    obtain ⟨hl1, hl2⟩ := hl
    have HH := Lib.hid h; have HH' := Lib.hid h'; clear h h'
    go_enter Try.func122, Try.ntmps122
    go_wp2
    generalize hW : w.alloc (.cells #[.slice A xs.length c, .slice B ys.length d] 66) = W
    have e0 : W.cell? ⟨w.heap.size, 0, none⟩ = some (.slice A xs.length c) := by subst hW; simp [go_sem]
    have e1 : W.cell? ⟨w.heap.size, 1, none⟩ = some (.slice B ys.length d) := by subst hW; simp [go_sem]
    have hbW : Below w.heap.size w W := by subst hW; (with_reducible repeat' first | exact Below.refl _ _ | assumption | (refine Below.setCell ?_ (by first | omega | (simp; omega) | (simp; done) | (dsimp only; omega)) _) | (refine Below.alloc ?_ (by first | omega | (simp; omega) | (simp; done) | (dsimp only; omega)) _) | (refine below_drewN ?_ _) | (refine Below.drew ?_))
    have zW : W.heap.size = w.heap.size + 1 := by subst hW; simp
    clear hW
    go_loopw [20] (fun i wr => AskRel (peopleOk xs) xs.length W i wr) (fun i _ => xs.length - (intOf i).toNat)
    case atStart => exact ⟨0, by omega, rfl, Below.refl _ _, rfl⟩
    case round =>
      obtain ⟨k, hk, rfl, hb, hp⟩ := hrel
      have HP := Lib.hid hp; clear hp
      have z1 := hb.size
      have hbw : Below w.heap.size w wr := hbW.trans (hb.mono (by first | omega | (simp; omega) | (simp; done) | (dsimp only; omega)))
      have d0 := (hb.cell (p := ⟨w.heap.size, 0, none⟩) (by first | omega | (simp; omega) | (simp; done) | (dsimp only; omega))).trans e0
      have d1 := (hb.cell (p := ⟨w.heap.size, 1, none⟩) (by first | omega | (simp; omega) | (simp; done) | (dsimp only; omega))).trans e1
      have hX : EPerson.AS wr lo hi A xs := HH.out.same (Same.of_below hbw hh)
      have hY : EUnion.AS wr lo hi B ys := HH'.out.same (Same.of_below hbw hh)
      have l1 : w.heap.size < wr.heap.size := by omega
      have HD := Lib.hid (peopleOk_died HP.out)
      by_cases hlt : k < xs.length
      · cases hq : personOk xs k with
        | false =>
          have HQ := Lib.hid hq; clear hq
          have HN := Lib.hid (HR.out.symm.trans (show _ = false by rw [peopleOk_bad HQ.out hlt]; rfl))
          go_wp2_with (go_at_call 196; (with_reducible refine (l1Person_any _ _ _ _ lo hi xs ys _ _ hX (by omega) hlt HD.out hs).mono ?_); rintro e w1 ⟨rfl, hb1⟩; simp only [HQ.out])
          go_ret
          exact ⟨ret_bool HN.out.symm, by (with_reducible repeat' first | exact Below.refl _ _ | assumption | (refine Below.setCell ?_ (by first | omega | (simp; omega) | (simp; done) | (dsimp only; omega)) _) | (refine Below.alloc ?_ (by first | omega | (simp; omega) | (simp; done) | (dsimp only; omega)) _) | (refine below_drewN ?_ _) | (refine Below.drew ?_) | (refine Below.trans ?_ (hb1.mono (by first | omega | (simp; omega) | (simp; done) | (dsimp only; omega)))) | (refine Below.trans ?_ (hbw.mono (by first | omega | (simp; omega) | (simp; done) | (dsimp only; omega)))))⟩
        | true =>
          have HQ := Lib.hid hq; clear hq
          have HN := Lib.hid (show peopleOk xs (k + 1) = true by rw [peopleOk_succ, HP.out, HQ.out]; rfl)
          go_wp2_with (go_at_call 196; (with_reducible refine (l1Person_any _ _ _ _ lo hi xs ys _ _ hX (by omega) hlt HD.out hs).mono ?_); rintro e w1 ⟨rfl, hb1⟩; simp only [HQ.out])
          exact ⟨⟨k + 1, by omega, by go_num, by (with_reducible repeat' first | exact Below.refl _ _ | assumption | (refine Below.setCell ?_ (by first | omega | (simp; omega) | (simp; done) | (dsimp only; omega)) _) | (refine Below.alloc ?_ (by first | omega | (simp; omega) | (simp; done) | (dsimp only; omega)) _) | (refine below_drewN ?_ _) | (refine Below.drew ?_) | (refine Below.trans ?_ (hb1.mono (by first | omega | (simp; omega) | (simp; done) | (dsimp only; omega)))) | (refine Below.trans ?_ (hb.mono (by first | omega | (simp; omega) | (simp; done) | (dsimp only; omega))))), HN.out⟩, by simp [intOf]; omega⟩
      · obtain rfl : k = xs.length := by omega
        have hB := Lib.hid (peopleOk_before HP.out)
        go_wp2_with (go_at_call 197; (with_reducible refine (l1Depths_any _ _ _ _ lo hi xs ys _ hX (by omega) hl1 hB.out).mono ?_); rintro e w1 ⟨A1, c1, rfl, ho1, hb1⟩; have z2 := hb1.size; replace d0 := (hb1.cell (by first | omega | (simp; omega) | (simp; done) | (dsimp only; omega))).trans d0; replace d1 := (hb1.cell (by first | omega | (simp; omega) | (simp; done) | (dsimp only; omega))).trans d1)
        have hlen := Lib.hid (depL_len xs xs.length)
        have hds := ho1.read.as
        have hbw1 : Below w.heap.size w w1 := hbw.trans (hb1.mono (by first | omega | (simp; omega) | (simp; done) | (dsimp only; omega)))
        have hle1 : (depL xs xs.length).length ≤ 40 := by rw [hlen.out]; exact hl1
        go_loopw [31] (fun i wr => AskRel (flatOk (depL xs xs.length)) (depL xs xs.length).length w1 i wr) (fun i _ => (depL xs xs.length).length - (intOf i).toNat)
        case atStart => exact ⟨0, by omega, rfl, Below.refl _ _, rfl⟩
        case round =>
          obtain ⟨j, hj, rfl, hb2, hp2⟩ := hrel
          have HP2 := Lib.hid hp2; clear hp2
          have z3 := hb2.size
          have hbw2 : Below w.heap.size w wr := hbw1.trans (hb2.mono (by first | omega | (simp; omega) | (simp; done) | (dsimp only; omega)))
          have f0 := (hb2.cell (p := ⟨w.heap.size, 0, none⟩) (by first | omega | (simp; omega) | (simp; done) | (dsimp only; omega))).trans d0
          have f1 := (hb2.cell (p := ⟨w.heap.size, 1, none⟩) (by first | omega | (simp; omega) | (simp; done) | (dsimp only; omega))).trans d1
          by_cases hjl : j < (depL xs xs.length).length
          · obtain ⟨b', off', e, rfl, g1, g2, _, g3, g4⟩ := AInt.at_ (k := j) (hds.same (Same.of_below hb2 (Nat.le_refl _))) hjl
            have HG := Lib.hid g3; clear g3
            have lb' : b' < wr.heap.size := by omega
            by_cases hd : e ≤ 10
            · have HN := Lib.hid (show flatOk (depL xs xs.length) (j + 1) = true by rw [flatOk_succ HG.out, HP2.out]; simp [hd])
              go_wp2
              exact ⟨⟨j + 1, by omega, by go_num, hb2, HN.out⟩, by simp [intOf]; omega⟩
            · have HN := Lib.hid (HR.out.symm.trans (show _ = false by rw [flatOk_bad HG.out (by rw [← hlen.out]; exact hjl) (by omega)]; simp))
              go_wp2
              go_ret
              exact ⟨ret_bool HN.out.symm, hbw2⟩
          · obtain rfl : j = (depL xs xs.length).length := by omega
            have HF := Lib.hid (show flatOk (depL xs xs.length) xs.length = true by have := HP2.out; rwa [hlen.out] at this)
            clear hj hjl
            have hX2 : EPerson.AS wr lo hi A xs := HH.out.same (Same.of_below hbw2 hh)
            have hY2 : EUnion.AS wr lo hi B ys := HH'.out.same (Same.of_below hbw2 hh)
            go_wp2
            obtain ⟨w2, rfl⟩ : ∃ w2 : World, w2 = wr := ⟨_, rfl⟩
            go_loopw [41] (fun i wr => AskRel (unionsOk xs ys) ys.length w2 i wr) (fun i _ => ys.length - (intOf i).toNat)
            case atStart => exact ⟨0, by omega, rfl, Below.refl _ _, rfl⟩
            case round =>
              obtain ⟨i, hi', rfl, hb4, hp4⟩ := hrel
              have HP4 := Lib.hid hp4; clear hp4
              have z5 := hb4.size
              have hbw4 : Below w.heap.size w wr := hbw2.trans (hb4.mono (by first | omega | (simp; omega) | (simp; done) | (dsimp only; omega)))
              replace f0 := (hb4.cell (p := ⟨w.heap.size, 0, none⟩) (by first | omega | (simp; omega) | (simp; done) | (dsimp only; omega))).trans f0
              replace f1 := (hb4.cell (p := ⟨w.heap.size, 1, none⟩) (by first | omega | (simp; omega) | (simp; done) | (dsimp only; omega))).trans f1
              have hX4 : EPerson.AS wr lo hi A xs := HH.out.same (Same.of_below hbw4 hh)
              have hY4 : EUnion.AS wr lo hi B ys := HH'.out.same (Same.of_below hbw4 hh)
              have HV : Hid (∀ (i : Nat) (x : Person), xs[i]? = some x → -1 ≤ x.died) := Lib.hid fun i x hx => (HD.out i x (List.getElem?_eq_some_iff.1 hx).1 hx).1
              by_cases hil : i < ys.length
              · cases hq : unionOk xs ys i with
                | false =>
                  have HQ := Lib.hid hq; clear hq
                  have HN := Lib.hid (HR.out.symm.trans (show _ = false by rw [unionsOk_bad HQ.out hil]; simp))
                  go_wp2_with (go_at_call 198; (with_reducible refine (l1Union_any _ _ _ _ lo hi xs ys _ _ hX4 hY4 (by omega) hil HV.out).mono ?_); rintro e w5 ⟨rfl, hb5⟩; simp only [HQ.out])
                  go_ret
                  exact ⟨ret_bool HN.out.symm, by (with_reducible repeat' first | exact Below.refl _ _ | assumption | (refine Below.setCell ?_ (by first | omega | (simp; omega) | (simp; done) | (dsimp only; omega)) _) | (refine Below.alloc ?_ (by first | omega | (simp; omega) | (simp; done) | (dsimp only; omega)) _) | (refine below_drewN ?_ _) | (refine Below.drew ?_) | (refine Below.trans ?_ (hb5.mono (by first | omega | (simp; omega) | (simp; done) | (dsimp only; omega)))) | (refine Below.trans ?_ (hbw4.mono (by first | omega | (simp; omega) | (simp; done) | (dsimp only; omega)))))⟩
                | true =>
                  have HQ := Lib.hid hq; clear hq
                  have HN := Lib.hid (show unionsOk xs ys (i + 1) = true by rw [unionsOk_succ, HP4.out, HQ.out]; rfl)
                  go_wp2_with (go_at_call 198; (with_reducible refine (l1Union_any _ _ _ _ lo hi xs ys _ _ hX4 hY4 (by omega) hil HV.out).mono ?_); rintro e w5 ⟨rfl, hb5⟩; simp only [HQ.out])
                  exact ⟨⟨i + 1, by omega, by go_num, by (with_reducible repeat' first | exact Below.refl _ _ | assumption | (refine Below.setCell ?_ (by first | omega | (simp; omega) | (simp; done) | (dsimp only; omega)) _) | (refine Below.alloc ?_ (by first | omega | (simp; omega) | (simp; done) | (dsimp only; omega)) _) | (refine below_drewN ?_ _) | (refine Below.drew ?_) | (refine Below.trans ?_ (hb5.mono (by first | omega | (simp; omega) | (simp; done) | (dsimp only; omega)))) | (refine Below.trans ?_ (hb4.mono (by first | omega | (simp; omega) | (simp; done) | (dsimp only; omega))))), HN.out⟩, by simp [intOf]; omega⟩
              · obtain rfl : i = ys.length := by omega
                have HN := Lib.hid (HR.out.symm.trans (show _ = true by rw [HP.out, HF.out, HP4.out]; rfl))
                go_wp2
                go_ret
                exact ⟨ret_bool HN.out.symm, hbw4⟩
  · have HN := Lib.hid (famOk_len hl)
    rcases (by omega : 40 < xs.length ∨ xs.length ≤ 40 ∧ 60 < ys.length) with q | ⟨q, q'⟩
    all_goals
      go_enter Try.func122, Try.ntmps122
      go_wp2
      go_ret
      exact ⟨ret_bool HN.out.symm, by (with_reducible repeat' first | exact Below.refl _ _ | assumption | (refine Below.setCell ?_ (by first | omega | (simp; omega) | (simp; done) | (dsimp only; omega)) _) | (refine Below.alloc ?_ (by first | omega | (simp; omega) | (simp; done) | (dsimp only; omega)) _) | (refine below_drewN ?_ _) | (refine Below.drew ?_))⟩
end Go.Proofs.Ytnanlbglgflecaa
