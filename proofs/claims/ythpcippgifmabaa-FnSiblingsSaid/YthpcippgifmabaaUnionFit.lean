/-
  Whether a union is right, in the program and in the reference.
-/
import Derived.Test.YthpcippgifmabaaUnions
import Derived.Deep.Cut
import Derived.Deep.DeepCutAuto
namespace Go.Proofs.Ythpcippgifmabaa
set_option maxRecDepth 100000
open Go.RowKit

theorem uf_cases (a1 p1 s a4 p4 t : Int) : a1 ≠ 1 ∨ a1 = 1 ∧ p1 ≠ 2 ∨ a1 = 1 ∧ p1 = 2 ∧ 9999 < s ∨ a1 = 1 ∧ p1 = 2 ∧ s ≤ 9999 ∧ s < a4 ∨ a1 = 1 ∧ p1 = 2 ∧ s ≤ 9999 ∧ a4 ≤ s ∧ s < p4 ∨ a1 = 1 ∧ p1 = 2 ∧ s ≤ 9999 ∧ a4 ≤ s ∧ p4 ≤ s ∧ t ≠ -1 ∧ t < s ∨ a1 = 1 ∧ p1 = 2 ∧ s ≤ 9999 ∧ a4 ≤ s ∧ p4 ≤ s ∧ t ≠ -1 ∧ s ≤ t ∧ 9999 < t ∨ a1 = 1 ∧ p1 = 2 ∧ s ≤ 9999 ∧ a4 ≤ s ∧ p4 ≤ s ∧ (t = -1 ∨ s ≤ t ∧ t ≤ 9999) := by
  by_cases h1 : a1 = 1
  · refine .inr ?_
    by_cases h2 : p1 = 2
    · refine .inr ?_
      by_cases h3 : 9999 < s
      · exact .inl ⟨h1, h2, h3⟩
      · refine .inr ?_
        by_cases h4 : s < a4
        · exact .inl ⟨h1, h2, by omega, h4⟩
        · refine .inr ?_
          by_cases h5 : s < p4
          · exact .inl ⟨h1, h2, by omega, by omega, h5⟩
          · refine .inr ?_
            by_cases h6 : t = -1
            · exact .inr (.inr ⟨h1, h2, by omega, by omega, by omega, .inl h6⟩)
            · by_cases h7 : t < s
              · exact .inl ⟨h1, h2, by omega, by omega, by omega, h6, h7⟩
              · refine .inr ?_
                by_cases h8 : 9999 < t
                · exact .inl ⟨h1, h2, by omega, by omega, by omega, h6, by omega, h8⟩
                · exact .inr ⟨h1, h2, by omega, by omega, by omega, .inr ⟨by omega, by omega⟩⟩
    · exact .inl ⟨h1, h2⟩
  · exact .inl h1

set_option maxHeartbeats 8000000 in
theorem unionFits_any (A B : Option Addr) (c d lo hi : Nat) (xs : List Person) (ys : List Union) (k : Nat) (w : World) (h : EPerson.AS w lo hi A xs) (h' : EUnion.AS w lo hi B ys) (hh : hi ≤ w.heap.size) (hk : k < ys.length) (hdc : ys.length ≤ d ∧ d ≤ maxLen) (hv : ∀ (i : Nat) (x : Person), xs[i]? = some x → -1 ≤ x.died) :
    Calls Try.prog 76 #[.agg #[.slice A xs.length c, .slice B ys.length d], .int .i64 k] w fun e w' => e = .returned (.bool (unionOk xs ys k)) ∧ Below w.heap.size w w' := by
  have hx := h.le
  have hy := h'.le
  unfold BIG at hx hy
  obtain ⟨b, off, ⟨m, f, s, t⟩, rfl, g1, g2, _, hyk, hc0, hc1, hc2, hc3⟩ := AUnion.at_ h' hk
  rw [unionOk_of hyk]
  clear hyk
  generalize hR : unionOf xs ys k ⟨m, f, s, t⟩ = R
  replace hR := Lib.hid hR
  simp only at hc0 hc1 hc2 hc3
  have lb : b < w.heap.size := by omega
  by_cases hr : 0 ≤ m ∧ m < xs.length ∧ 0 ≤ f ∧ f < xs.length
  · obtain ⟨r1, r2, r3, r4⟩ := hr
    obtain ⟨m, rfl⟩ := Int.eq_ofNat_of_zero_le r1
    obtain ⟨f, rfl⟩ := Int.eq_ofNat_of_zero_le r3
    obtain ⟨b1, o1, ⟨a0, a1, a2, a3, a4, a5⟩, rfl, l1, l2, _, hxm, hm0, hm1, hm2, hm3, hm4, hm5⟩ := APerson.at_ (k := m) h (by omega)
    obtain ⟨b2, o2, ⟨p0, p1, p2, p3, p4, p5⟩, he, _, _, _, hxf, hf0, hf1, hf2, hf3, hf4, hf5⟩ := APerson.at_ (k := f) h (by omega)
    injection he with he; injection he with he1 he2 _; subst he1; subst he2
    simp only at hm0 hm1 hm2 hm3 hm4 hm5 hf0 hf1 hf2 hf3 hf4 hf5
    replace hR := Lib.hid ((unionOf_in (ys := ys) (k := k) (u := ⟨m, f, s, t⟩) rfl rfl hxm hxf).symm.trans hR.out)
    have HXM := Lib.hid hxm; have HXF := Lib.hid hxf; clear hxm hxf
    have lb1 : b1 < w.heap.size := by omega
    have hdm := hv m _ HXM.out
    have hdf := hv f _ HXF.out
    simp only at hdm hdf
    clear hv
    go_enter Try.func76, Try.ntmps76
    go_upto_region 4 with fail
    generalize hW : ((w.alloc (.cells #[.slice (some ⟨b1, o1, none⟩) xs.length c, .slice (some ⟨b, off, none⟩) ys.length d] 26)).alloc (.cells #[.int .i64 m, .int .i64 f, .int .i64 s, .int .i64 t] 73)) = W
    have e0 : W.cell? ⟨w.heap.size, 0, none⟩ = some (.slice (some ⟨b1, o1, none⟩) xs.length c) := by subst hW; simp [go_sem]
    have e5 : W.cell? ⟨w.heap.size, 1, none⟩ = some (.slice (some ⟨b, off, none⟩) ys.length d) := by subst hW; simp [go_sem]
    have e1 : W.cell? ⟨w.heap.size + 1, 0, none⟩ = some (.int .i64 m) := by subst hW; simp [go_sem]
    have e2 : W.cell? ⟨w.heap.size + 1, 1, none⟩ = some (.int .i64 f) := by subst hW; simp [go_sem]
    have e3 : W.cell? ⟨w.heap.size + 1, 2, none⟩ = some (.int .i64 s) := by subst hW; simp [go_sem]
    have e4 : W.cell? ⟨w.heap.size + 1, 3, none⟩ = some (.int .i64 t) := by subst hW; simp [go_sem]
    have hbW : Below w.heap.size w W := by subst hW; (with_reducible repeat' first | exact Below.refl _ _ | assumption | (refine Below.setCell ?_ (by first | omega | (simp; omega) | (simp; done) | (dsimp only; omega)) _) | (refine Below.alloc ?_ (by first | omega | (simp; omega) | (simp; done) | (dsimp only; omega)) _) | (refine below_drewN ?_ _) | (refine Below.drew ?_))
    have zW : W.heap.size = w.heap.size + 2 := by subst hW; simp
    clear hW
    replace hm0 := (hbW.cell (p := ⟨b1, o1 + m * 6, none⟩) lb1).trans hm0
    replace hm1 := (hbW.cell (p := ⟨b1, o1 + m * 6 + 1, none⟩) lb1).trans hm1
    replace hm2 := (hbW.cell (p := ⟨b1, o1 + m * 6 + 2, none⟩) lb1).trans hm2
    replace hm3 := (hbW.cell (p := ⟨b1, o1 + m * 6 + 3, none⟩) lb1).trans hm3
    replace hm4 := (hbW.cell (p := ⟨b1, o1 + m * 6 + 4, none⟩) lb1).trans hm4
    replace hm5 := (hbW.cell (p := ⟨b1, o1 + m * 6 + 5, none⟩) lb1).trans hm5
    replace hf0 := (hbW.cell (p := ⟨b1, o1 + f * 6, none⟩) lb1).trans hf0
    replace hf1 := (hbW.cell (p := ⟨b1, o1 + f * 6 + 1, none⟩) lb1).trans hf1
    replace hf2 := (hbW.cell (p := ⟨b1, o1 + f * 6 + 2, none⟩) lb1).trans hf2
    replace hf3 := (hbW.cell (p := ⟨b1, o1 + f * 6 + 3, none⟩) lb1).trans hf3
    replace hf4 := (hbW.cell (p := ⟨b1, o1 + f * 6 + 4, none⟩) lb1).trans hf4
    replace hf5 := (hbW.cell (p := ⟨b1, o1 + f * 6 + 5, none⟩) lb1).trans hf5
    have lbW : b1 < W.heap.size := by omega
    go_cut [6, 7] (fun v e wx => ∃ g6 g7 : Nat, v = .pointer (some ⟨g6, 0, none⟩) ∧ e = .pointer (some ⟨g7, 0, none⟩) ∧ Below W.heap.size W wx ∧ W.heap.size ≤ g6 ∧ W.heap.size ≤ g7 ∧ Blk wx g6 48 #[.string a0, .int .i64 a1, .int .i64 a2, .int .i64 a3, .int .i64 a4, .int .i64 a5] ∧ Blk wx g7 48 #[.string p0, .int .i64 p1, .int .i64 p2, .int .i64 p3, .int .i64 p4, .int .i64 p5])
    case first =>
      have vm0 := fun o : Obj => (past1 (p := ⟨b1, o1 + m * 6, none⟩) lbW o).trans hm0
      have xm0 := fun o o' : Obj => (past2 (p := ⟨b1, o1 + m * 6, none⟩) lbW o o').trans hm0
      have vf0 := fun o : Obj => (past1 (p := ⟨b1, o1 + f * 6, none⟩) lbW o).trans hf0
      have xf0 := fun o o' : Obj => (past2 (p := ⟨b1, o1 + f * 6, none⟩) lbW o o').trans hf0
      have vm1 := fun o : Obj => (past1 (p := ⟨b1, o1 + m * 6 + 1, none⟩) lbW o).trans hm1
      have xm1 := fun o o' : Obj => (past2 (p := ⟨b1, o1 + m * 6 + 1, none⟩) lbW o o').trans hm1
      have vf1 := fun o : Obj => (past1 (p := ⟨b1, o1 + f * 6 + 1, none⟩) lbW o).trans hf1
      have xf1 := fun o o' : Obj => (past2 (p := ⟨b1, o1 + f * 6 + 1, none⟩) lbW o o').trans hf1
      have vm2 := fun o : Obj => (past1 (p := ⟨b1, o1 + m * 6 + 2, none⟩) lbW o).trans hm2
      have xm2 := fun o o' : Obj => (past2 (p := ⟨b1, o1 + m * 6 + 2, none⟩) lbW o o').trans hm2
      have vf2 := fun o : Obj => (past1 (p := ⟨b1, o1 + f * 6 + 2, none⟩) lbW o).trans hf2
      have xf2 := fun o o' : Obj => (past2 (p := ⟨b1, o1 + f * 6 + 2, none⟩) lbW o o').trans hf2
      have vm3 := fun o : Obj => (past1 (p := ⟨b1, o1 + m * 6 + 3, none⟩) lbW o).trans hm3
      have xm3 := fun o o' : Obj => (past2 (p := ⟨b1, o1 + m * 6 + 3, none⟩) lbW o o').trans hm3
      have vf3 := fun o : Obj => (past1 (p := ⟨b1, o1 + f * 6 + 3, none⟩) lbW o).trans hf3
      have xf3 := fun o o' : Obj => (past2 (p := ⟨b1, o1 + f * 6 + 3, none⟩) lbW o o').trans hf3
      have vm4 := fun o : Obj => (past1 (p := ⟨b1, o1 + m * 6 + 4, none⟩) lbW o).trans hm4
      have xm4 := fun o o' : Obj => (past2 (p := ⟨b1, o1 + m * 6 + 4, none⟩) lbW o o').trans hm4
      have vf4 := fun o : Obj => (past1 (p := ⟨b1, o1 + f * 6 + 4, none⟩) lbW o).trans hf4
      have xf4 := fun o o' : Obj => (past2 (p := ⟨b1, o1 + f * 6 + 4, none⟩) lbW o o').trans hf4
      have vm5 := fun o : Obj => (past1 (p := ⟨b1, o1 + m * 6 + 5, none⟩) lbW o).trans hm5
      have xm5 := fun o o' : Obj => (past2 (p := ⟨b1, o1 + m * 6 + 5, none⟩) lbW o o').trans hm5
      have vf5 := fun o : Obj => (past1 (p := ⟨b1, o1 + f * 6 + 5, none⟩) lbW o).trans hf5
      have xf5 := fun o o' : Obj => (past2 (p := ⟨b1, o1 + f * 6 + 5, none⟩) lbW o o').trans hf5
      go_region
      all_goals
        go_wp2_with fail
        go_meet
        refine ⟨_, _, rfl, rfl, by (with_reducible repeat' first | exact Below.refl _ _ | assumption | (refine Below.setCell ?_ (by first | omega | (simp; omega) | (simp; done) | (dsimp only; omega)) _) | (refine Below.alloc ?_ (by first | omega | (simp; omega) | (simp; done) | (dsimp only; omega)) _) | (refine below_drewN ?_ _) | (refine Below.drew ?_)), by omega, by omega, ?_, ?_⟩
        all_goals first
          | exact ((Blk.new (t := 48) W (by omega)).alloc _).drew
          | exact (Blk.new (t := 48) (W.alloc _) (by simp; omega)).drew
    case rest =>
      obtain ⟨g6, g7, rfl, rfl, hb1, l6, l7, R6, R7⟩ := hcut
      obtain ⟨w1, rfl⟩ : ∃ w1 : World, w1 = wc := ⟨_, rfl⟩
      (replace e0 := (hb1.cell (by first | omega | (simp; omega) | (simp; done) | (dsimp only; omega))).trans e0; replace e1 := (hb1.cell (by first | omega | (simp; omega) | (simp; done) | (dsimp only; omega))).trans e1; replace e2 := (hb1.cell (by first | omega | (simp; omega) | (simp; done) | (dsimp only; omega))).trans e2; replace e3 := (hb1.cell (by first | omega | (simp; omega) | (simp; done) | (dsimp only; omega))).trans e3; replace e4 := (hb1.cell (by first | omega | (simp; omega) | (simp; done) | (dsimp only; omega))).trans e4; replace e5 := (hb1.cell (by first | omega | (simp; omega) | (simp; done) | (dsimp only; omega))).trans e5; replace hbW := hbW.trans (hb1.mono (by first | omega | (simp; omega) | (simp; done) | (dsimp only; omega))); have zhb1 := hb1.size; clear hb1)
      clear hm0 hm1 hm2 hm3 hm4 hm5 hf0 hf1 hf2 hf3 hf4 hf5
      have k6 := R6.lt
      have k7 := R7.lt
      have a60 : w1.cell? ⟨g6, 0, none⟩ = some (.string a0) := R6.cell (i := 0) rfl
      have a61 : w1.cell? ⟨g6, 1, none⟩ = some (.int .i64 a1) := R6.cell (i := 1) rfl
      have a62 : w1.cell? ⟨g6, 2, none⟩ = some (.int .i64 a2) := R6.cell (i := 2) rfl
      have a63 : w1.cell? ⟨g6, 3, none⟩ = some (.int .i64 a3) := R6.cell (i := 3) rfl
      have a64 : w1.cell? ⟨g6, 4, none⟩ = some (.int .i64 a4) := R6.cell (i := 4) rfl
      have a65 : w1.cell? ⟨g6, 5, none⟩ = some (.int .i64 a5) := R6.cell (i := 5) rfl
      have a70 : w1.cell? ⟨g7, 0, none⟩ = some (.string p0) := R7.cell (i := 0) rfl
      have a71 : w1.cell? ⟨g7, 1, none⟩ = some (.int .i64 p1) := R7.cell (i := 1) rfl
      have a72 : w1.cell? ⟨g7, 2, none⟩ = some (.int .i64 p2) := R7.cell (i := 2) rfl
      have a73 : w1.cell? ⟨g7, 3, none⟩ = some (.int .i64 p3) := R7.cell (i := 3) rfl
      have a74 : w1.cell? ⟨g7, 4, none⟩ = some (.int .i64 p4) := R7.cell (i := 4) rfl
      have a75 : w1.cell? ⟨g7, 5, none⟩ = some (.int .i64 p5) := R7.cell (i := 5) rfl
      have HF : Hid (¬ (a1 = 1 ∧ p1 = 2 ∧ s ≤ 9999 ∧ a4 ≤ s ∧ p4 ≤ s ∧ (t = -1 ∨ s ≤ t ∧ t ≤ 9999)) → R = false) := by
        refine Lib.hid fun hn => ?_
        rw [← hR.out, Bool.eq_false_iff]
        intro hh
        simp only [yearsOk, liveOk, Bool.and_eq_true, Bool.or_eq_true, decide_eq_true_eq] at hh
        omega
      rcases uf_cases a1 p1 s a4 p4 t with c | c | c | c | c | c | c | c
      iterate 7
        · have HP := Lib.hid (HF.out (by omega))
          clear HF hdm hdf hR R6 R7 a60 a62 a63 a65 a70 a72 a73 a75 e0 e1 e2 e5 h h' HXM HXF hc0 hc1 hc2 hc3 l1 l2 l6 l7 g1 g2 hx hy hdc hk lb lb1 lbW r1 r2 r3 r4
          have n1 : a1 ≠ 1 → (a1 == 1) = false := fun h => by simp [h]
          have n2 : p1 ≠ 2 → (p1 == 2) = false := fun h => by simp [h]
          have n3 : t ≠ -1 → (t == -1) = false ∧ (t != -1) = true := fun h => by simp [h]
          first
            | (obtain ⟨c1, c2, c3, c4, c5, c6, c7, c8⟩ := c; obtain ⟨n3, n4⟩ := n3 c6)
            | (obtain ⟨c1, c2, c3, c4, c5, c6, c7⟩ := c; obtain ⟨n3, n4⟩ := n3 c6)
            | obtain ⟨c1, c2, c3, c4, c5⟩ := c
            | obtain ⟨c1, c2, c3, c4⟩ := c
            | obtain ⟨c1, c2, c3⟩ := c
            | (obtain ⟨c1, c2⟩ := c; replace n2 := n2 c2)
            | (have c1 := c; replace n1 := n1 c)
          try subst c1
          try subst c2
          go_wp2
          go_ret
          exact ⟨ret_bool HP.out.symm, by (with_reducible repeat' first | exact Below.refl _ _ | assumption | (refine Below.setCell ?_ (by first | omega | (simp; omega) | (simp; done) | (dsimp only; omega)) _) | (refine Below.alloc ?_ (by first | omega | (simp; omega) | (simp; done) | (dsimp only; omega)) _) | (refine below_drewN ?_ _) | (refine Below.drew ?_))⟩
      · obtain ⟨q1, q2, q3, q4, q5, q6⟩ := c
        subst q1; subst q2
        clear HF
        have HP0 : Hid (R = (liveOk ⟨m, f, s, t⟩ ⟨a0, 1, a2, a3, a4, a5⟩ && liveOk ⟨m, f, s, t⟩ ⟨p0, 2, p2, p3, p4, p5⟩ && noDup ys k ⟨m, f, s, t⟩)) := Lib.hid (by
          rw [← hR.out]
          have h1 : yearsOk ⟨m, f, s, t⟩ = true := by simp [yearsOk]; omega
          simp [h1])
        clear hR
        have g1 : Hid (∀ j : Nat, j < 2 → ∃ v : Int, (v = (if j = 0 then a5 else p5)) ∧ -1 ≤ v ∧ ((v = -1 ∨ s ≤ v ∧ t ≤ v) → (if j = 0 then liveOk ⟨m, f, s, t⟩ ⟨a0, 1, a2, a3, a4, a5⟩ else liveOk ⟨m, f, s, t⟩ ⟨p0, 2, p2, p3, p4, p5⟩) = true) ∧ (¬ (v = -1 ∨ s ≤ v ∧ t ≤ v) → R = false)) := Lib.hid (by
          intro j hj
          refine ⟨_, rfl, ?_, ?_, ?_⟩
          · split <;> assumption
          · split <;> (intro h; simp [liveOk]; omega)
          · split
            · intro h
              have : liveOk ⟨m, f, s, t⟩ ⟨a0, 1, a2, a3, a4, a5⟩ = false := by rw [Bool.eq_false_iff]; intro hh; simp only [liveOk, Bool.and_eq_true, Bool.or_eq_true, decide_eq_true_eq] at hh; omega
              rw [HP0.out, this]; simp
            · intro h
              have : liveOk ⟨m, f, s, t⟩ ⟨p0, 2, p2, p3, p4, p5⟩ = false := by rw [Bool.eq_false_iff]; intro hh; simp only [liveOk, Bool.and_eq_true, Bool.or_eq_true, decide_eq_true_eq] at hh; omega
              rw [HP0.out, this]; simp)
        have HQ := Lib.hid q6
        have nt : t ≠ -1 → (t == -1) = false ∧ (t != -1) = true := fun h => by simp [h]
        have hys := Lib.hid h'
        clear hdm hdf h h' HXM HXF hc0 hc1 hc2 hc3 l1 l2 l6 l7 hx lb1 lbW r1 r2 r3 r4
        have qq : (t = -1 ∧ (t == -1) = true ∧ (t != -1) = false ∧ True) ∨ ((t == -1) = false ∧ (t != -1) = true ∧ s ≤ t ∧ t ≤ 9999) := by
          by_cases h : t = -1
          · exact .inl ⟨h, by simp [h], by simp [h], trivial⟩
          · exact .inr ⟨(nt h).1, (nt h).2, by omega, by omega⟩
        clear nt q6
        rcases qq with ⟨q7, q8, q9, q10⟩ | ⟨q7, q8, q9, q10⟩
        all_goals
          go_wp2
          go_loopw [101] (fun i wr => UFLive ⟨m, f, s, t⟩ ⟨a0, 1, a2, a3, a4, a5⟩ ⟨p0, 2, p2, p3, p4, p5⟩ w1 w1.heap.size #[.string a0, .int .i64 1, .int .i64 a2, .int .i64 a3, .int .i64 a4, .int .i64 a5, .string p0, .int .i64 2, .int .i64 p2, .int .i64 p3, .int .i64 p4, .int .i64 p5] i wr) (fun i _ => 2 - (intOf i).toNat)
          case atStart => exact ⟨0, by omega, rfl, by (with_reducible repeat' first | exact Below.refl _ _ | assumption | (refine Below.setCell ?_ (by first | omega | (simp; omega) | (simp; done) | (dsimp only; omega)) _) | (refine Below.alloc ?_ (by first | omega | (simp; omega) | (simp; done) | (dsimp only; omega)) _) | (refine below_drewN ?_ _) | (refine Below.drew ?_)), Blk.new _ rfl, by omega, by omega⟩
          case round =>
            obtain ⟨j, hj, rfl, hbj, hBj, hl1, hl2⟩ := hrel
            have HL1 := Lib.hid hl1; have HL2 := Lib.hid hl2; clear hl1 hl2
            have zj := hbj.size
            have l9 : w.heap.size + 1 < wr.heap.size := by omega
            have d1 := (hbj.cell (p := ⟨w.heap.size + 1, 0, none⟩) (by first | omega | (simp; omega) | (simp; done) | (dsimp only; omega))).trans e1
            have d2 := (hbj.cell (p := ⟨w.heap.size + 1, 1, none⟩) (by first | omega | (simp; omega) | (simp; done) | (dsimp only; omega))).trans e2
            have d3 := (hbj.cell (p := ⟨w.heap.size + 1, 2, none⟩) (by first | omega | (simp; omega) | (simp; done) | (dsimp only; omega))).trans e3
            have d4 := (hbj.cell (p := ⟨w.heap.size + 1, 3, none⟩) (by first | omega | (simp; omega) | (simp; done) | (dsimp only; omega))).trans e4
            have d5 := (hbj.cell (p := ⟨w.heap.size, 1, none⟩) (by first | omega | (simp; omega) | (simp; done) | (dsimp only; omega))).trans e5
            by_cases hjl : j < 2
            · obtain ⟨v, hv, hv1, hv2, hv3⟩ := g1.out j hjl
              have lBj := hBj.lt
              have hc : ∃ (b0 : ByteArray) (b1 b2 b3 b4 : Int), wr.cell? ⟨w1.heap.size, j * 6, none⟩ = some (.string b0) ∧ wr.cell? ⟨w1.heap.size, j * 6 + 1, none⟩ = some (.int .i64 b1) ∧ wr.cell? ⟨w1.heap.size, j * 6 + 2, none⟩ = some (.int .i64 b2) ∧ wr.cell? ⟨w1.heap.size, j * 6 + 3, none⟩ = some (.int .i64 b3) ∧ wr.cell? ⟨w1.heap.size, j * 6 + 4, none⟩ = some (.int .i64 b4) ∧ wr.cell? ⟨w1.heap.size, j * 6 + 5, none⟩ = some (.int .i64 v) := by
                rcases (by omega : j = 0 ∨ j = 1) with rfl | rfl
                · exact ⟨a0, 1, a2, a3, a4, hBj.cell (i := 0) rfl, hBj.cell (i := 1) rfl, hBj.cell (i := 2) rfl, hBj.cell (i := 3) rfl, hBj.cell (i := 4) rfl, by rw [hv]; exact hBj.cell (i := 5) rfl⟩
                · exact ⟨p0, 2, p2, p3, p4, hBj.cell (i := 6) rfl, hBj.cell (i := 7) rfl, hBj.cell (i := 8) rfl, hBj.cell (i := 9) rfl, hBj.cell (i := 10) rfl, by rw [hv]; exact hBj.cell (i := 11) rfl⟩
              obtain ⟨b0, b1', b2, b3, b4, f0, f1, f2, f3, f4, f5⟩ := hc
              clear hv
              have HV2 := Lib.hid hv2; have HV3 := Lib.hid hv3; clear hv2 hv3
              have nv : v ≠ -1 → (v == -1) = false ∧ (v != -1) = true := fun h => by simp [h]
              have i1 : (0 : Int) ≤ (j : Int) ∧ (j : Int) < 2 := by omega
              have hnext : Hid ((v = -1 ∨ s ≤ v ∧ t ≤ v) → ∀ wr', Below w1.heap.size w1 wr' → Blk wr' w1.heap.size 48 #[.string a0, .int .i64 1, .int .i64 a2, .int .i64 a3, .int .i64 a4, .int .i64 a5, .string p0, .int .i64 2, .int .i64 p2, .int .i64 p3, .int .i64 p4, .int .i64 p5] → UFLive ⟨m, f, s, t⟩ ⟨a0, 1, a2, a3, a4, a5⟩ ⟨p0, 2, p2, p3, p4, p5⟩ w1 w1.heap.size #[.string a0, .int .i64 1, .int .i64 a2, .int .i64 a3, .int .i64 a4, .int .i64 a5, .string p0, .int .i64 2, .int .i64 p2, .int .i64 p3, .int .i64 p4, .int .i64 p5] (.int .i64 (↑(j + 1) : Int)) wr') := Lib.hid fun hc wr' hb hB => by
                have h2 := HV2.out hc
                refine ⟨j + 1, by omega, rfl, hb, hB, fun _ => ?_, fun h => ?_⟩
                · by_cases h0 : j = 0
                  · rw [if_pos h0] at h2; exact h2
                  · exact HL1.out (by omega)
                · rw [if_neg (by omega)] at h2; exact h2
              have ej : ((↑(j + 1) : Int)) = (j : Int) + 1 := by omega
              rw [ej] at hnext
              have mj : 2 - (intOf (.int .i64 ((j : Int) + 1))).toNat < 2 - (intOf (.int .i64 (j : Int))).toNat := by simp [intOf]; omega
              by_cases hv : v = -1 ∨ v < s ∨ s ≤ v ∧ v < t
              · rcases hv with hv | hv | ⟨hv, hv'⟩
                · have nv1 : (v == -1) = true := by simp [hv]
                  have nv2 : (v != -1) = false := by simp [hv]
                  go_wp2
                  exact ⟨hnext.out (.inl hv) _ (by (with_reducible repeat' first | exact Below.refl _ _ | assumption | (refine Below.setCell ?_ (by first | omega | (simp; omega) | (simp; done) | (dsimp only; omega)) _) | (refine Below.alloc ?_ (by first | omega | (simp; omega) | (simp; done) | (dsimp only; omega)) _) | (refine below_drewN ?_ _) | (refine Below.drew ?_) | (refine Below.trans ?_ (hbj.mono (by first | omega | (simp; omega) | (simp; done) | (dsimp only; omega)))))) (hBj.alloc _), mj⟩
                · by_cases hv' : v = -1
                  · have nv1 : (v == -1) = true := by simp [hv']
                    have nv2 : (v != -1) = false := by simp [hv']
                    go_wp2
                    exact ⟨hnext.out (.inl hv') _ (by (with_reducible repeat' first | exact Below.refl _ _ | assumption | (refine Below.setCell ?_ (by first | omega | (simp; omega) | (simp; done) | (dsimp only; omega)) _) | (refine Below.alloc ?_ (by first | omega | (simp; omega) | (simp; done) | (dsimp only; omega)) _) | (refine below_drewN ?_ _) | (refine Below.drew ?_) | (refine Below.trans ?_ (hbj.mono (by first | omega | (simp; omega) | (simp; done) | (dsimp only; omega)))))) (hBj.alloc _), mj⟩
                  · obtain ⟨nv1, nv2⟩ := nv hv'
                    have HN := Lib.hid (HV3.out (by omega))
                    go_wp2
                    go_ret
                    exact ⟨ret_bool HN.out.symm, by (with_reducible repeat' first | exact Below.refl _ _ | assumption | (refine Below.setCell ?_ (by first | omega | (simp; omega) | (simp; done) | (dsimp only; omega)) _) | (refine Below.alloc ?_ (by first | omega | (simp; omega) | (simp; done) | (dsimp only; omega)) _) | (refine below_drewN ?_ _) | (refine Below.drew ?_) | (refine Below.trans ?_ (hbj.mono (by first | omega | (simp; omega) | (simp; done) | (dsimp only; omega)))) | (refine Below.trans ?_ (hbW.mono (by first | omega | (simp; omega) | (simp; done) | (dsimp only; omega)))))⟩
                · first
                    | (exfalso; omega)
                    | (by_cases hv'' : v = -1
                       · have nv1 : (v == -1) = true := by simp [hv'']
                         have nv2 : (v != -1) = false := by simp [hv'']
                         go_wp2
                         exact ⟨hnext.out (.inl hv'') _ (by (with_reducible repeat' first | exact Below.refl _ _ | assumption | (refine Below.setCell ?_ (by first | omega | (simp; omega) | (simp; done) | (dsimp only; omega)) _) | (refine Below.alloc ?_ (by first | omega | (simp; omega) | (simp; done) | (dsimp only; omega)) _) | (refine below_drewN ?_ _) | (refine Below.drew ?_) | (refine Below.trans ?_ (hbj.mono (by first | omega | (simp; omega) | (simp; done) | (dsimp only; omega)))))) (hBj.alloc _), mj⟩
                       · obtain ⟨nv1, nv2⟩ := nv hv''
                         have HN := Lib.hid (HV3.out (by omega))
                         go_wp2
                         go_ret
                         exact ⟨ret_bool HN.out.symm, by (with_reducible repeat' first | exact Below.refl _ _ | assumption | (refine Below.setCell ?_ (by first | omega | (simp; omega) | (simp; done) | (dsimp only; omega)) _) | (refine Below.alloc ?_ (by first | omega | (simp; omega) | (simp; done) | (dsimp only; omega)) _) | (refine below_drewN ?_ _) | (refine Below.drew ?_) | (refine Below.trans ?_ (hbj.mono (by first | omega | (simp; omega) | (simp; done) | (dsimp only; omega)))) | (refine Below.trans ?_ (hbW.mono (by first | omega | (simp; omega) | (simp; done) | (dsimp only; omega)))))⟩)
              · obtain ⟨nv1, nv2⟩ := nv (by omega)
                have hv1 : s ≤ v := by omega
                have hv2 : t ≤ v := by omega
                clear hv
                go_wp2
                exact ⟨hnext.out (.inr ⟨hv1, hv2⟩) _ (by (with_reducible repeat' first | exact Below.refl _ _ | assumption | (refine Below.setCell ?_ (by first | omega | (simp; omega) | (simp; done) | (dsimp only; omega)) _) | (refine Below.alloc ?_ (by first | omega | (simp; omega) | (simp; done) | (dsimp only; omega)) _) | (refine below_drewN ?_ _) | (refine Below.drew ?_) | (refine Below.trans ?_ (hbj.mono (by first | omega | (simp; omega) | (simp; done) | (dsimp only; omega)))))) (hBj.alloc _), mj⟩
            · have hA := HL1.out (by omega)
              have hP := HL2.out (by omega)
              have HP1 := Lib.hid (HP0.out.trans (by rw [hA, hP]; rfl : _ = noDup ys k ⟨m, f, s, t⟩))
              clear HP0 HL1 HL2 hA hP g1
              obtain rfl : j = 2 := by omega
              have i3 : (0 : Int) ≤ (k : Int) ∧ (k : Int) ≤ (d : Int) := by omega
              go_wp2
              obtain ⟨w2, rfl⟩ : ∃ w2 : World, w2 = wr := ⟨_, rfl⟩
              go_loopw [133] (fun i wr => UFDup ys ⟨m, f, s, t⟩ k w2 i wr) (fun i _ => k - (intOf i).toNat)
              case atStart => exact ⟨0, by omega, rfl, by (with_reducible repeat' first | exact Below.refl _ _ | assumption | (refine Below.setCell ?_ (by first | omega | (simp; omega) | (simp; done) | (dsimp only; omega)) _) | (refine Below.alloc ?_ (by first | omega | (simp; omega) | (simp; done) | (dsimp only; omega)) _) | (refine below_drewN ?_ _) | (refine Below.drew ?_)), rfl⟩
              case round =>
                obtain ⟨i, hi, rfl, hb2, hnd⟩ := hrel
                have z2 := hb2.size
                have HND := Lib.hid hnd; clear hnd
                have l10 : w.heap.size + 1 < wr.heap.size := by omega
                have HB := Lib.hid (show Below w.heap.size w wr from hbW.trans ((hbj.mono (by first | omega | (simp; omega) | (simp; done) | (dsimp only; omega))).trans (hb2.mono (by first | omega | (simp; omega) | (simp; done) | (dsimp only; omega)))))
                by_cases hik : i < k
                · obtain ⟨b', off', ⟨m', f', s', t'⟩, he, _, _, _, hyi, h0, h1, h2, h3⟩ := AUnion.at_ (k := i) (hys.out.same (Same.of_below HB.out (by first | omega | (simp; omega) | (simp; done) | (dsimp only; omega)))) (by omega)
                  injection he with he; injection he with he1 he2 _; subst he1; subst he2
                  simp only at h0 h1 h2 h3
                  have HYI := Lib.hid hyi; clear hyi
                  replace d1 := (hb2.cell (p := ⟨w.heap.size + 1, 0, none⟩) (by first | omega | (simp; omega) | (simp; done) | (dsimp only; omega))).trans d1
                  replace d2 := (hb2.cell (p := ⟨w.heap.size + 1, 1, none⟩) (by first | omega | (simp; omega) | (simp; done) | (dsimp only; omega))).trans d2
                  have lbr : b < wr.heap.size := by omega
                  have i4 : (0 : Int) ≤ (i : Int) ∧ (i : Int) < (k : Int) := by omega
                  by_cases hm : m' = m
                  · by_cases hf : f' = f
                    · subst hm; subst hf
                      have HN := Lib.hid (HP1.out.trans (noDup_found (u := ⟨m, f, s, t⟩) HYI.out (by simp [sameUnion]) hik))
                      go_wp2
                      go_ret
                      exact ⟨ret_bool HN.out.symm, by (with_reducible repeat' first | exact Below.refl _ _ | assumption | (refine Below.setCell ?_ (by first | omega | (simp; omega) | (simp; done) | (dsimp only; omega)) _) | (refine Below.alloc ?_ (by first | omega | (simp; omega) | (simp; done) | (dsimp only; omega)) _) | (refine below_drewN ?_ _) | (refine Below.drew ?_) | (refine Below.trans ?_ (HB.out.mono (by first | omega | (simp; omega) | (simp; done) | (dsimp only; omega)))))⟩
                    · have HS := Lib.hid (noDup_step HYI.out (u := ⟨m, f, s, t⟩) (by simp [sameUnion, hf]) HND.out)
                      have n1 : (f' == (f : Int)) = false := by simpa using hf
                      subst hm
                      clear hf
                      go_wp2
                      exact ⟨⟨i + 1, by omega, by go_num, by (with_reducible repeat' first | exact Below.refl _ _ | assumption | (refine Below.setCell ?_ (by first | omega | (simp; omega) | (simp; done) | (dsimp only; omega)) _) | (refine Below.alloc ?_ (by first | omega | (simp; omega) | (simp; done) | (dsimp only; omega)) _) | (refine below_drewN ?_ _) | (refine Below.drew ?_) | (refine Below.trans ?_ (hb2.mono (by first | omega | (simp; omega) | (simp; done) | (dsimp only; omega))))), HS.out⟩, by simp [intOf]; omega⟩
                  · have HS := Lib.hid (noDup_step HYI.out (u := ⟨m, f, s, t⟩) (by simp [sameUnion, hm]) HND.out)
                    have n1 : (m' == (m : Int)) = false := by simpa using hm
                    clear hm
                    go_wp2
                    exact ⟨⟨i + 1, by omega, by go_num, by (with_reducible repeat' first | exact Below.refl _ _ | assumption | (refine Below.setCell ?_ (by first | omega | (simp; omega) | (simp; done) | (dsimp only; omega)) _) | (refine Below.alloc ?_ (by first | omega | (simp; omega) | (simp; done) | (dsimp only; omega)) _) | (refine below_drewN ?_ _) | (refine Below.drew ?_) | (refine Below.trans ?_ (hb2.mono (by first | omega | (simp; omega) | (simp; done) | (dsimp only; omega))))), HS.out⟩, by simp [intOf]; omega⟩
                · obtain rfl : i = k := by omega
                  have HN := Lib.hid (HP1.out.trans HND.out)
                  go_wp2
                  go_ret
                  exact ⟨ret_bool HN.out.symm, by (with_reducible repeat' first | exact Below.refl _ _ | assumption | (refine Below.setCell ?_ (by first | omega | (simp; omega) | (simp; done) | (dsimp only; omega)) _) | (refine Below.alloc ?_ (by first | omega | (simp; omega) | (simp; done) | (dsimp only; omega)) _) | (refine below_drewN ?_ _) | (refine Below.drew ?_) | (refine Below.trans ?_ (HB.out.mono (by first | omega | (simp; omega) | (simp; done) | (dsimp only; omega)))))⟩
  · have HP := Lib.hid (hR.out.symm.trans (unionOf_out (xs := xs) (ys := ys) (k := k) (u := ⟨m, f, s, t⟩) hr))
    go_enter Try.func76, Try.ntmps76
    go_wp2
    all_goals first
      | (go_ret; exact ⟨ret_bool HP.out.symm, by (with_reducible repeat' first | exact Below.refl _ _ | assumption | (refine Below.setCell ?_ (by first | omega | (simp; omega) | (simp; done) | (dsimp only; omega)) _) | (refine Below.alloc ?_ (by first | omega | (simp; omega) | (simp; done) | (dsimp only; omega)) _) | (refine below_drewN ?_ _) | (refine Below.drew ?_))⟩)
      | (exfalso; omega)
end Go.Proofs.Ythpcippgifmabaa
