/-
  To whom one is married, in the program.
-/
import Derived.Test.YtkdgjbbjbghdnaaEndI
import Derived.Test.YtkdgjbbjbghdnaaKinI
import Derived.Test.YtkdgjbbjbghdnaaOth
namespace Go.Proofs.Ytkdgjbbjbghdnaa
set_option maxRecDepth 100000
open Go.RowKit

set_option maxHeartbeats 8000000 in
theorem marriedAt_any (A B : Option Addr) (c d lo hi : Nat) (xs : List Person) (ys : List Union) (p yr : Int) (w : World) (h : EPerson.AS w lo hi A xs) (h' : EUnion.AS w lo hi B ys) (hh : hi ≤ w.heap.size) (hfam : famOk xs ys = true) :
    Calls Try.prog 77 #[.agg #[.slice A xs.length c, .slice B ys.length d], .int .i64 p, .int .i64 yr] w (RetIntS w (marL xs ys p yr ys.length)) := by
    have hl60 := (famOk_parts hfam).2.1
    have HFAM := Lib.hid hfam
    clear hfam
    have hHX := Lib.hid h
    have hHY := Lib.hid h'
    go_enter Try.func77, Try.ntmps77
    go_wp2
    generalize hW : w.alloc (.cells #[.slice A xs.length c, .slice B ys.length d] 31) = W
    have e0 : W.cell? ⟨w.heap.size, 0, none⟩ = some (.slice A xs.length c) := by subst hW; simp [go_sem]
    have e1 : W.cell? ⟨w.heap.size, 1, none⟩ = some (.slice B ys.length d) := by subst hW; simp [go_sem]
    have hbw : Below w.heap.size w W := by subst hW; (with_reducible repeat' first | exact Below.refl _ _ | assumption | (refine Below.setCell ?_ (by first | omega | (simp; omega) | (simp; done) | (dsimp only; omega)) _) | (refine Below.alloc ?_ (by first | omega | (simp; omega) | (simp; done) | (dsimp only; omega)) _) | (refine below_drewN ?_ _) | (refine Below.drew ?_))
    have lt1 : w.heap.size < W.heap.size := by subst hW; simp
    clear hW
    have hX := hHX.out.same (Same.of_below hbw hh)
    have hY := hHY.out.same (Same.of_below hbw hh)
    have z1 := hbw.size
    clear h h'
    go_loopw [7, 16] (fun v i wr => AccRel EInt (marL xs ys p yr) ys.length W v i wr) (fun _ i _ => ys.length - (intOf i).toNat)
    case atStart => exact ⟨0, _, _, Nat.zero_le _, rfl, rfl, Elem.OS.nil, by (with_reducible repeat' first | exact Below.refl _ _ | assumption | (refine Below.setCell ?_ (by first | omega | (simp; omega) | (simp; done) | (dsimp only; omega)) _) | (refine Below.alloc ?_ (by first | omega | (simp; omega) | (simp; done) | (dsimp only; omega)) _) | (refine below_drewN ?_ _) | (refine Below.drew ?_))⟩
    case round =>
      obtain ⟨k, A1, c1, hk, rfl, rfl, ho, hbk⟩ := hrel
      have hz := hbk.size
      have hpl := marL_len xs ys p yr k
      have d0 := (hbk.cell (p := ⟨w.heap.size, 0, none⟩) (by first | omega | (simp; omega) | (simp; done) | (dsimp only; omega))).trans e0
      have d1 := (hbk.cell (p := ⟨w.heap.size, 1, none⟩) (by first | omega | (simp; omega) | (simp; done) | (dsimp only; omega))).trans e1
      have lw : w.heap.size < wr.heap.size := by omega
      have lw1 : w.heap.size < wr.heap.size + 1 := by omega
      have hXr := hX.same (Same.of_below hbk (by omega))
      have hYr := hY.same (Same.of_below hbk (by omega))
      by_cases hlt : k < ys.length
      · obtain ⟨b, off, ⟨m, f, s', t'⟩, rfl, g1, g2, _, hyk, hc0, hc1, hc2, hc3⟩ := AUnion.at_ hYr hlt
        obtain ⟨m', f', x, y', hm0, hf0, _, _, hxm, hxf, _, _, v3, v4, _, v5, _⟩ := famOk_union HFAM.out hyk
        have hte : t' = -1 ∨ 0 ≤ t' := by simp only at v3; omega
        have hE := endAt_of (xs := xs) hm0 hf0 hxm hxf
        simp only at hm0 hf0 hc0 hc1 hc2 hc3
        subst hm0; subst hf0
        have hoc := other_cases ⟨m', f', s', t'⟩ p (by simp) (by simp)
        obtain ⟨ev, eb, hEE⟩ : ∃ (ev : Int) (eb : Bool), endM x y' ⟨m', f', s', t'⟩ = (ev, eb) := ⟨_, _, rfl⟩
        have HMO : Hid (marOf xs p yr ⟨m', f', s', t'⟩ = if s' ≤ yr ∧ (eb = false ∨ yr < ev) then otherM ⟨m', f', s', t'⟩ p else none) := Lib.hid (by rw [marOf, hE, hEE])
        have HE := Lib.hid hEE
        have HM := Lib.hid hxm; have HFF := Lib.hid hxf
        have HK := Lib.hid hyk
        clear hyk hxm hxf hEE hE v3
        have lb : b < wr.heap.size := by omega
        rcases hoc with ⟨q, o1, o2, o3, o4⟩ | ⟨o1, ⟨q, o2⟩, o3⟩
        · have HQ := Lib.hid o3
          clear o2 o3
          by_cases hs : s' ≤ yr
          · cases eb with
            | false =>
              have HPP := Lib.hid (show marL xs ys p yr (k + 1) = marL xs ys p yr k ++ [q] by rw [marL_succ HK.out, HMO.out, if_pos (by simp; omega), o1]; rfl)
              clear o1
              go_wp2_with (first
                | (go_at_call 76; (with_reducible refine (other_any _ _ _ _ _ _).mono ?_); rintro e w3 ⟨rfl, hb3⟩; simp only [HQ.out]; (obtain ⟨hb3c, hb3f⟩ := bcell hb3); (have hb3z := hb3.size); (try simp only [szs] at hb3c hb3f hb3z); have lt3 : w.heap.size < w3.heap.size := (by omega); have lu3 : wr.heap.size < w3.heap.size := (by omega))
                | (go_at_call 70; (with_reducible refine (unionEnd_any _ _ _ _ lo hi xs ys _ _ _ _ x y' _ (hXr.same (by (with_reducible repeat' first | exact Same.refl _ _ _ | assumption | (refine Same.setCell ?_ (by first | omega | (simp; omega) | (simp; done) | (dsimp only; omega)) _) | (refine Same.alloc ?_ (by first | omega | (simp; omega) | (simp; done) | (dsimp only; omega)) _) | (refine Same.drewN ?_ _) | (refine Same.drew ?_) | (refine Same.trans ?_ (Same.of_below hb3 (by first | omega | (simp; omega) | (simp; done) | (dsimp only; omega))))))) (hYr.same (by (with_reducible repeat' first | exact Same.refl _ _ _ | assumption | (refine Same.setCell ?_ (by first | omega | (simp; omega) | (simp; done) | (dsimp only; omega)) _) | (refine Same.alloc ?_ (by first | omega | (simp; omega) | (simp; done) | (dsimp only; omega)) _) | (refine Same.drewN ?_ _) | (refine Same.drew ?_) | (refine Same.trans ?_ (Same.of_below hb3 (by first | omega | (simp; omega) | (simp; done) | (dsimp only; omega))))))) (by first | omega | (simp; omega) | (simp; done) | (dsimp only; omega)) HM.out HFF.out hte v4 v5).mono ?_); rintro e w4 ⟨rfl, hb4⟩; simp only [HE.out]; (obtain ⟨hb4c, hb4f⟩ := bcell hb4); (have hb4z := hb4.size); (try simp only [szs] at hb4c hb4f hb4z))
                | (at_builtin; refine wpList_app1 tyIntS _ (marL xs ys p yr k) _ [.int .i64 _] ⟨w4.heap.size, 0, none⟩ 1 (lo := W.heap.size) (hi := wr.heap.size) (ho.same (by (with_reducible repeat' first | exact Same.refl _ _ _ | assumption | (refine Same.setCell ?_ (by first | omega | (simp; omega) | (simp; done) | (dsimp only; omega)) _) | (refine Same.alloc ?_ (by first | omega | (simp; omega) | (simp; done) | (dsimp only; omega)) _) | (refine Same.drewN ?_ _) | (refine Same.drew ?_) | (refine Same.trans ?_ (Same.of_below hb4 (by first | omega | (simp; omega) | (simp; done) | (dsimp only; omega)))) | (refine Same.trans ?_ (Same.of_below hb3 (by first | omega | (simp; omega) | (simp; done) | (dsimp only; omega))))))) rfl (by (first | omega | (simp; omega) | (simp; done) | (dsimp only; omega))) hz rfl _ _ rfl rfl rfl rfl (cell_one_at _ _ _ _ (by simp)) (by first | rfl | (simp; done) | (simp; rfl)) (by omega) (by decide) (fun A' c' w5 ho5 hg5 hc5 hm5 => ?_)))
              all_goals
                refine ⟨⟨k + 1, A', c', by omega, by go_num, by rw [HPP.out]; simp, ?_, ?_⟩, by simp [intOf]; omega⟩
                · rw [HPP.out]; simpa using ho5
                · exact Below.grown (w := World.alloc _ _) (by (with_reducible repeat' first | exact Below.refl _ _ | assumption | (refine Below.setCell ?_ (by first | omega | (simp; omega) | (simp; done) | (dsimp only; omega)) _) | (refine Below.alloc ?_ (by first | omega | (simp; omega) | (simp; done) | (dsimp only; omega)) _) | (refine below_drewN ?_ _) | (refine Below.drew ?_) | (refine Below.trans ?_ (hb4.mono (by first | omega | (simp; omega) | (simp; done) | (dsimp only; omega)))) | (refine Below.trans ?_ (hb3.mono (by first | omega | (simp; omega) | (simp; done) | (dsimp only; omega)))) | (refine Below.trans ?_ (hbk.mono (by first | omega | (simp; omega) | (simp; done) | (dsimp only; omega)))))) hg5 (by simp; omega) (fun k hk => (ho.blkv k hk).1)
            | true =>
              by_cases hv : yr < ev
              · skip
                have HPP := Lib.hid (show marL xs ys p yr (k + 1) = marL xs ys p yr k ++ [q] by rw [marL_succ HK.out, HMO.out, if_pos (by simp; omega), o1]; rfl)
                clear o1
                go_wp2_with (first
                  | (go_at_call 76; (with_reducible refine (other_any _ _ _ _ _ _).mono ?_); rintro e w3 ⟨rfl, hb3⟩; simp only [HQ.out]; (obtain ⟨hb3c, hb3f⟩ := bcell hb3); (have hb3z := hb3.size); (try simp only [szs] at hb3c hb3f hb3z); have lt3 : w.heap.size < w3.heap.size := (by omega); have lu3 : wr.heap.size < w3.heap.size := (by omega))
                  | (go_at_call 70; (with_reducible refine (unionEnd_any _ _ _ _ lo hi xs ys _ _ _ _ x y' _ (hXr.same (by (with_reducible repeat' first | exact Same.refl _ _ _ | assumption | (refine Same.setCell ?_ (by first | omega | (simp; omega) | (simp; done) | (dsimp only; omega)) _) | (refine Same.alloc ?_ (by first | omega | (simp; omega) | (simp; done) | (dsimp only; omega)) _) | (refine Same.drewN ?_ _) | (refine Same.drew ?_) | (refine Same.trans ?_ (Same.of_below hb3 (by first | omega | (simp; omega) | (simp; done) | (dsimp only; omega))))))) (hYr.same (by (with_reducible repeat' first | exact Same.refl _ _ _ | assumption | (refine Same.setCell ?_ (by first | omega | (simp; omega) | (simp; done) | (dsimp only; omega)) _) | (refine Same.alloc ?_ (by first | omega | (simp; omega) | (simp; done) | (dsimp only; omega)) _) | (refine Same.drewN ?_ _) | (refine Same.drew ?_) | (refine Same.trans ?_ (Same.of_below hb3 (by first | omega | (simp; omega) | (simp; done) | (dsimp only; omega))))))) (by first | omega | (simp; omega) | (simp; done) | (dsimp only; omega)) HM.out HFF.out hte v4 v5).mono ?_); rintro e w4 ⟨rfl, hb4⟩; simp only [HE.out]; (obtain ⟨hb4c, hb4f⟩ := bcell hb4); (have hb4z := hb4.size); (try simp only [szs] at hb4c hb4f hb4z))
                  | (at_builtin; refine wpList_app1 tyIntS _ (marL xs ys p yr k) _ [.int .i64 _] ⟨w4.heap.size, 0, none⟩ 1 (lo := W.heap.size) (hi := wr.heap.size) (ho.same (by (with_reducible repeat' first | exact Same.refl _ _ _ | assumption | (refine Same.setCell ?_ (by first | omega | (simp; omega) | (simp; done) | (dsimp only; omega)) _) | (refine Same.alloc ?_ (by first | omega | (simp; omega) | (simp; done) | (dsimp only; omega)) _) | (refine Same.drewN ?_ _) | (refine Same.drew ?_) | (refine Same.trans ?_ (Same.of_below hb4 (by first | omega | (simp; omega) | (simp; done) | (dsimp only; omega)))) | (refine Same.trans ?_ (Same.of_below hb3 (by first | omega | (simp; omega) | (simp; done) | (dsimp only; omega))))))) rfl (by (first | omega | (simp; omega) | (simp; done) | (dsimp only; omega))) hz rfl _ _ rfl rfl rfl rfl (cell_one_at _ _ _ _ (by simp)) (by first | rfl | (simp; done) | (simp; rfl)) (by omega) (by decide) (fun A' c' w5 ho5 hg5 hc5 hm5 => ?_)))
                all_goals
                  refine ⟨⟨k + 1, A', c', by omega, by go_num, by rw [HPP.out]; simp, ?_, ?_⟩, by simp [intOf]; omega⟩
                  · rw [HPP.out]; simpa using ho5
                  · exact Below.grown (w := World.alloc _ _) (by (with_reducible repeat' first | exact Below.refl _ _ | assumption | (refine Below.setCell ?_ (by first | omega | (simp; omega) | (simp; done) | (dsimp only; omega)) _) | (refine Below.alloc ?_ (by first | omega | (simp; omega) | (simp; done) | (dsimp only; omega)) _) | (refine below_drewN ?_ _) | (refine Below.drew ?_) | (refine Below.trans ?_ (hb4.mono (by first | omega | (simp; omega) | (simp; done) | (dsimp only; omega)))) | (refine Below.trans ?_ (hb3.mono (by first | omega | (simp; omega) | (simp; done) | (dsimp only; omega)))) | (refine Below.trans ?_ (hbk.mono (by first | omega | (simp; omega) | (simp; done) | (dsimp only; omega)))))) hg5 (by simp; omega) (fun k hk => (ho.blkv k hk).1)
              · skip
                have HPP := Lib.hid (show marL xs ys p yr (k + 1) = marL xs ys p yr k by rw [marL_succ HK.out, HMO.out, if_neg (by simp; omega)]; simp)
                clear o1
                go_wp2_with (first
                  | (go_at_call 76; (with_reducible refine (other_any _ _ _ _ _ _).mono ?_); rintro e w3 ⟨rfl, hb3⟩; simp only [HQ.out]; (obtain ⟨hb3c, hb3f⟩ := bcell hb3); (have hb3z := hb3.size); (try simp only [szs] at hb3c hb3f hb3z); have lt3 : w.heap.size < w3.heap.size := (by omega); have lu3 : wr.heap.size < w3.heap.size := (by omega))
                  | (go_at_call 70; (with_reducible refine (unionEnd_any _ _ _ _ lo hi xs ys _ _ _ _ x y' _ (hXr.same (by (with_reducible repeat' first | exact Same.refl _ _ _ | assumption | (refine Same.setCell ?_ (by first | omega | (simp; omega) | (simp; done) | (dsimp only; omega)) _) | (refine Same.alloc ?_ (by first | omega | (simp; omega) | (simp; done) | (dsimp only; omega)) _) | (refine Same.drewN ?_ _) | (refine Same.drew ?_) | (refine Same.trans ?_ (Same.of_below hb3 (by first | omega | (simp; omega) | (simp; done) | (dsimp only; omega))))))) (hYr.same (by (with_reducible repeat' first | exact Same.refl _ _ _ | assumption | (refine Same.setCell ?_ (by first | omega | (simp; omega) | (simp; done) | (dsimp only; omega)) _) | (refine Same.alloc ?_ (by first | omega | (simp; omega) | (simp; done) | (dsimp only; omega)) _) | (refine Same.drewN ?_ _) | (refine Same.drew ?_) | (refine Same.trans ?_ (Same.of_below hb3 (by first | omega | (simp; omega) | (simp; done) | (dsimp only; omega))))))) (by first | omega | (simp; omega) | (simp; done) | (dsimp only; omega)) HM.out HFF.out hte v4 v5).mono ?_); rintro e w4 ⟨rfl, hb4⟩; simp only [HE.out]; (obtain ⟨hb4c, hb4f⟩ := bcell hb4); (have hb4z := hb4.size); (try simp only [szs] at hb4c hb4f hb4z)))
                refine ⟨⟨k + 1, A1, c1, by omega, by go_num, by rw [HPP.out], ?_, by (with_reducible repeat' first | exact Below.refl _ _ | assumption | (refine Below.setCell ?_ (by first | omega | (simp; omega) | (simp; done) | (dsimp only; omega)) _) | (refine Below.alloc ?_ (by first | omega | (simp; omega) | (simp; done) | (dsimp only; omega)) _) | (refine below_drewN ?_ _) | (refine Below.drew ?_) | (refine Below.trans ?_ (hb4.mono (by first | omega | (simp; omega) | (simp; done) | (dsimp only; omega)))) | (refine Below.trans ?_ (hb3.mono (by first | omega | (simp; omega) | (simp; done) | (dsimp only; omega)))) | (refine Below.trans ?_ (hbk.mono (by first | omega | (simp; omega) | (simp; done) | (dsimp only; omega)))))⟩, by simp [intOf]; omega⟩
                rw [HPP.out]; exact (ho.same (by (with_reducible repeat' first | exact Same.refl _ _ _ | assumption | (refine Same.setCell ?_ (by first | omega | (simp; omega) | (simp; done) | (dsimp only; omega)) _) | (refine Same.alloc ?_ (by first | omega | (simp; omega) | (simp; done) | (dsimp only; omega)) _) | (refine Same.drewN ?_ _) | (refine Same.drew ?_) | (refine Same.trans ?_ (Same.of_below hb4 (by first | omega | (simp; omega) | (simp; done) | (dsimp only; omega)))) | (refine Same.trans ?_ (Same.of_below hb3 (by first | omega | (simp; omega) | (simp; done) | (dsimp only; omega))))))).mono (Nat.le_refl _) (by omega)
          · skip
            have HPP := Lib.hid (show marL xs ys p yr (k + 1) = marL xs ys p yr k by rw [marL_succ HK.out, HMO.out, if_neg (by omega)]; simp)
            clear o1
            go_wp2_with (go_at_call 76; (with_reducible refine (other_any _ _ _ _ _ _).mono ?_); rintro e w3 ⟨rfl, hb3⟩; simp only [HQ.out]; (obtain ⟨hb3c, hb3f⟩ := bcell hb3); (have hb3z := hb3.size); (try simp only [szs] at hb3c hb3f hb3z); have lt3 : w.heap.size < w3.heap.size := (by omega); have lu3 : wr.heap.size < w3.heap.size := (by omega))
            refine ⟨⟨k + 1, A1, c1, by omega, by go_num, by rw [HPP.out], ?_, by (with_reducible repeat' first | exact Below.refl _ _ | assumption | (refine Below.setCell ?_ (by first | omega | (simp; omega) | (simp; done) | (dsimp only; omega)) _) | (refine Below.alloc ?_ (by first | omega | (simp; omega) | (simp; done) | (dsimp only; omega)) _) | (refine below_drewN ?_ _) | (refine Below.drew ?_) | (refine Below.trans ?_ (hb3.mono (by first | omega | (simp; omega) | (simp; done) | (dsimp only; omega)))) | (refine Below.trans ?_ (hbk.mono (by first | omega | (simp; omega) | (simp; done) | (dsimp only; omega)))))⟩, by simp [intOf]; omega⟩
            rw [HPP.out]; exact (ho.same (by (with_reducible repeat' first | exact Same.refl _ _ _ | assumption | (refine Same.setCell ?_ (by first | omega | (simp; omega) | (simp; done) | (dsimp only; omega)) _) | (refine Same.alloc ?_ (by first | omega | (simp; omega) | (simp; done) | (dsimp only; omega)) _) | (refine Same.drewN ?_ _) | (refine Same.drew ?_) | (refine Same.trans ?_ (Same.of_below hb3 (by first | omega | (simp; omega) | (simp; done) | (dsimp only; omega))))))).mono (Nat.le_refl _) (by omega)
        · have HQ := Lib.hid o3
          clear o2 o3
          have HPP := Lib.hid (show marL xs ys p yr (k + 1) = marL xs ys p yr k by rw [marL_succ HK.out, HMO.out, o1, ite_self]; simp)
          clear o1
          go_wp2_with (go_at_call 76; (with_reducible refine (other_any _ _ _ _ _ _).mono ?_); rintro e w3 ⟨rfl, hb3⟩; simp only [HQ.out]; (obtain ⟨hb3c, hb3f⟩ := bcell hb3); (have hb3z := hb3.size); (try simp only [szs] at hb3c hb3f hb3z); have lt3 : w.heap.size < w3.heap.size := (by omega); have lu3 : wr.heap.size < w3.heap.size := (by omega))
          refine ⟨⟨k + 1, A1, c1, by omega, by go_num, by rw [HPP.out], ?_, by (with_reducible repeat' first | exact Below.refl _ _ | assumption | (refine Below.setCell ?_ (by first | omega | (simp; omega) | (simp; done) | (dsimp only; omega)) _) | (refine Below.alloc ?_ (by first | omega | (simp; omega) | (simp; done) | (dsimp only; omega)) _) | (refine below_drewN ?_ _) | (refine Below.drew ?_) | (refine Below.trans ?_ (hb3.mono (by first | omega | (simp; omega) | (simp; done) | (dsimp only; omega)))) | (refine Below.trans ?_ (hbk.mono (by first | omega | (simp; omega) | (simp; done) | (dsimp only; omega)))))⟩, by simp [intOf]; omega⟩
          rw [HPP.out]; exact (ho.same (by (with_reducible repeat' first | exact Same.refl _ _ _ | assumption | (refine Same.setCell ?_ (by first | omega | (simp; omega) | (simp; done) | (dsimp only; omega)) _) | (refine Same.alloc ?_ (by first | omega | (simp; omega) | (simp; done) | (dsimp only; omega)) _) | (refine Same.drewN ?_ _) | (refine Same.drew ?_) | (refine Same.trans ?_ (Same.of_below hb3 (by first | omega | (simp; omega) | (simp; done) | (dsimp only; omega))))))).mono (Nat.le_refl _) (by omega)
      · obtain rfl : k = ys.length := by omega
        go_wp2
        go_ret
        exact ⟨_, _, rfl, ho.mono z1 (Nat.le_refl _), by (with_reducible repeat' first | exact Below.refl _ _ | assumption | (refine Below.setCell ?_ (by first | omega | (simp; omega) | (simp; done) | (dsimp only; omega)) _) | (refine Below.alloc ?_ (by first | omega | (simp; omega) | (simp; done) | (dsimp only; omega)) _) | (refine below_drewN ?_ _) | (refine Below.drew ?_) | (refine Below.trans ?_ (hbk.mono (by first | omega | (simp; omega) | (simp; done) | (dsimp only; omega)))) | (refine Below.trans ?_ (hbw.mono (by first | omega | (simp; omega) | (simp; done) | (dsimp only; omega)))))⟩

set_option maxHeartbeats 2000000 in
theorem implMarriedAt_any (A B : Option Addr) (c d lo hi : Nat) (xs : List Person) (ys : List Union) (p yr : Int) (w : World) (h : EPerson.AS w lo hi A xs) (h' : EUnion.AS w lo hi B ys) (hh : hi ≤ w.heap.size) (hdc : ys.length ≤ d ∧ d ≤ maxLen) (hs : totP xs ≤ 1048576) :
    Calls Try.prog 40 #[.agg #[.slice A xs.length c, .slice B ys.length d], .int .i64 p, .int .i64 yr] w (RetIntS w (marriedM xs ys p yr)) := by
  cases ho : hasOk xs ys p with
  | false =>
    have HO := Lib.hid ho
    have HN := Lib.hid (show marriedM xs ys p yr = [] by rw [marriedM, ho]; rfl)
    clear ho
    rw [HN.out]
    go_enter Try.func40, Try.ntmps40
    go_wp2_with (go_at_call 63; refine (has_any _ _ _ _ lo hi xs ys (some ⟨w.heap.size + 1, 0, none⟩) _ _ _ [p] _ (h.same (by (with_reducible repeat' first | exact Same.refl _ _ _ | assumption | (refine Same.setCell ?_ (by first | omega | (simp; omega) | (simp; done) | (dsimp only; omega)) _) | (refine Same.alloc ?_ (by first | omega | (simp; omega) | (simp; done) | (dsimp only; omega)) _) | (refine Same.drewN ?_ _) | (refine Same.drew ?_)))) (h'.same (by (with_reducible repeat' first | exact Same.refl _ _ _ | assumption | (refine Same.setCell ?_ (by first | omega | (simp; omega) | (simp; done) | (dsimp only; omega)) _) | (refine Same.alloc ?_ (by first | omega | (simp; omega) | (simp; done) | (dsimp only; omega)) _) | (refine Same.drewN ?_ _) | (refine Same.drew ?_)))) (by first | omega | (simp; omega) | (simp; done) | (dsimp only; omega)) hdc hs (ints_as' _ _ [p] rfl (by simp [BIG]) _ (by simp)) (by first | omega | (simp; omega) | (simp; done) | (dsimp only; omega))).mono ?_; rintro e w1 ⟨rfl, hb1⟩; simp only [hasOk_all, HO.out]; (obtain ⟨hb1c, hb1f⟩ := bcell hb1); (have hb1z := hb1.size); (try simp only [szs] at hb1c hb1f hb1z); have lt1 : w.heap.size < w1.heap.size := (by omega))
    go_ret
    exact ⟨none, 0, rfl, Elem.OS.nil, by (with_reducible repeat' first | exact Below.refl _ _ | assumption | (refine Below.setCell ?_ (by first | omega | (simp; omega) | (simp; done) | (dsimp only; omega)) _) | (refine Below.alloc ?_ (by first | omega | (simp; omega) | (simp; done) | (dsimp only; omega)) _) | (refine below_drewN ?_ _) | (refine Below.drew ?_) | (refine Below.trans ?_ (hb1.mono (by first | omega | (simp; omega) | (simp; done) | (dsimp only; omega)))))⟩
  | true =>
    have HO := Lib.hid ho
    have HN := Lib.hid (show marriedM xs ys p yr = marL xs ys p yr ys.length by rw [marriedM, if_pos ho])
    obtain ⟨hfam, _, _⟩ := hasOk_fam ho
    have HFAM := Lib.hid hfam
    clear ho hfam
    rw [HN.out]
    go_enter Try.func40, Try.ntmps40
    go_wp2_with (first
      | (go_at_call 63; refine (has_any _ _ _ _ lo hi xs ys (some ⟨w.heap.size + 1, 0, none⟩) _ _ _ [p] _ (h.same (by (with_reducible repeat' first | exact Same.refl _ _ _ | assumption | (refine Same.setCell ?_ (by first | omega | (simp; omega) | (simp; done) | (dsimp only; omega)) _) | (refine Same.alloc ?_ (by first | omega | (simp; omega) | (simp; done) | (dsimp only; omega)) _) | (refine Same.drewN ?_ _) | (refine Same.drew ?_)))) (h'.same (by (with_reducible repeat' first | exact Same.refl _ _ _ | assumption | (refine Same.setCell ?_ (by first | omega | (simp; omega) | (simp; done) | (dsimp only; omega)) _) | (refine Same.alloc ?_ (by first | omega | (simp; omega) | (simp; done) | (dsimp only; omega)) _) | (refine Same.drewN ?_ _) | (refine Same.drew ?_)))) (by first | omega | (simp; omega) | (simp; done) | (dsimp only; omega)) hdc hs (ints_as' _ _ [p] rfl (by simp [BIG]) _ (by simp)) (by first | omega | (simp; omega) | (simp; done) | (dsimp only; omega))).mono ?_; rintro e w1 ⟨rfl, hb1⟩; simp only [hasOk_all, HO.out]; (obtain ⟨hb1c, hb1f⟩ := bcell hb1); (have hb1z := hb1.size); (try simp only [szs] at hb1c hb1f hb1z); have lt1 : w.heap.size < w1.heap.size := (by omega))
      | (go_at_call 77; (with_reducible refine (marriedAt_any _ _ _ _ lo hi xs ys _ _ _ (h.same (by (with_reducible repeat' first | exact Same.refl _ _ _ | assumption | (refine Same.setCell ?_ (by first | omega | (simp; omega) | (simp; done) | (dsimp only; omega)) _) | (refine Same.alloc ?_ (by first | omega | (simp; omega) | (simp; done) | (dsimp only; omega)) _) | (refine Same.drewN ?_ _) | (refine Same.drew ?_) | (refine Same.trans ?_ (Same.of_below hb1 (by first | omega | (simp; omega) | (simp; done) | (dsimp only; omega))))))) (h'.same (by (with_reducible repeat' first | exact Same.refl _ _ _ | assumption | (refine Same.setCell ?_ (by first | omega | (simp; omega) | (simp; done) | (dsimp only; omega)) _) | (refine Same.alloc ?_ (by first | omega | (simp; omega) | (simp; done) | (dsimp only; omega)) _) | (refine Same.drewN ?_ _) | (refine Same.drew ?_) | (refine Same.trans ?_ (Same.of_below hb1 (by first | omega | (simp; omega) | (simp; done) | (dsimp only; omega))))))) (by first | omega | (simp; omega) | (simp; done) | (dsimp only; omega)) HFAM.out).mono ?_); rintro e w2 ⟨A2, c2, rfl, ho2, hb2⟩; have hz2 := hb2.size))
    go_ret
    exact ⟨A2, c2, rfl, ho2.mono (by omega) (Nat.le_refl _), by (with_reducible repeat' first | exact Below.refl _ _ | assumption | (refine Below.setCell ?_ (by first | omega | (simp; omega) | (simp; done) | (dsimp only; omega)) _) | (refine Below.alloc ?_ (by first | omega | (simp; omega) | (simp; done) | (dsimp only; omega)) _) | (refine below_drewN ?_ _) | (refine Below.drew ?_) | (refine Below.trans ?_ (hb2.mono (by first | omega | (simp; omega) | (simp; done) | (dsimp only; omega)))) | (refine Below.trans ?_ (hb1.mono (by first | omega | (simp; omega) | (simp; done) | (dsimp only; omega)))))⟩
end Go.Proofs.Ytkdgjbbjbghdnaa
