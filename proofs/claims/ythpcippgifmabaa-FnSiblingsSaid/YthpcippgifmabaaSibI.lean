/-
  The program's siblings: half siblings; the functions that choose.
-/
import Derived.Test.YthpcippgifmabaaSibM
import Derived.Test.YthpcippgifmabaaLeadI
namespace Go.Proofs.Ythpcippgifmabaa
set_option maxRecDepth 100000
open Go.RowKit

theorem halfOf_of {x y : Person} {a b : Nat} (hc : ¬ a = b) (hf : fullOf x y a b = false) : halfOf x y a b = (decide (0 ≤ x.father ∧ x.father = y.father) || decide (0 ≤ x.mother ∧ x.mother = y.mother)) := by
  have h2 : b ≠ a := Ne.symm hc
  rw [halfOf, hf, decide_eq_true h2, Bool.true_and, Bool.not_false, Bool.true_and]

set_option maxHeartbeats 4000000 in
theorem areHalf_any (A B : Option Addr) (c d lo hi : Nat) (xs : List Person) (ys : List Union) (a b : Nat) (w : World) (h : EPerson.AS w lo hi A xs) (h' : EUnion.AS w lo hi B ys) (hh : hi ≤ w.heap.size) (ha : a < xs.length) (hb : b < xs.length) :
    Calls Try.prog 33 #[.agg #[.slice A xs.length c, .slice B ys.length d], .int .i64 a, .int .i64 b] w fun e w' => e = .returned (.bool (halfAt xs a b)) ∧ Below w.heap.size w w' := by
  have hx := h.le
  unfold BIG at hx
  obtain ⟨g, off, ⟨x0, x1, x2, x3, x4, x5⟩, rfl, g1, g2, _, hxk, hc0, hc1, hc2, hc3, hc4, hc5⟩ := APerson.at_ h ha
  obtain ⟨g', off', ⟨y0, y1, y2, y3, y4, y5⟩, he, _, _, _, hyk, hd0, hd1, hd2, hd3, hd4, hd5⟩ := APerson.at_ h hb
  injection he with he; injection he with he1 he2 _; subst he1; subst he2
  have HFO := Lib.hid (fullAt_of hxk hyk)
  rw [halfAt_of hxk hyk]
  clear hxk hyk
  simp only at hc0 hc1 hc2 hc3 hc4 hc5 hd0 hd1 hd2 hd3 hd4 hd5
  generalize hR : halfOf ⟨x0, x1, x2, x3, x4, x5⟩ ⟨y0, y1, y2, y3, y4, y5⟩ a b = R
  have HR := Lib.hid hR; clear hR
  have lb : g < w.heap.size := by omega
  have i1 : (0 : Int) ≤ (a : Int) ∧ (a : Int) < (xs.length : Int) := by omega
  have i2 : (0 : Int) ≤ (b : Int) ∧ (b : Int) < (xs.length : Int) := by omega
  go_enter Try.func33, Try.ntmps33
  go_upto_region 1 with fail
  generalize hW : w.alloc (.cells #[.slice (some ⟨g, off, none⟩) xs.length c, .slice B ys.length d] 26) = W
  have e0 : W.cell? ⟨w.heap.size, 0, none⟩ = some (.slice (some ⟨g, off, none⟩) xs.length c) := by subst hW; simp [go_sem]
  have e1 : W.cell? ⟨w.heap.size, 1, none⟩ = some (.slice B ys.length d) := by subst hW; simp [go_sem]
  have hbW : Below w.heap.size w W := by subst hW; (with_reducible repeat' first | exact Below.refl _ _ | assumption | (refine Below.setCell ?_ (by first | omega | (simp; omega) | (simp; done) | (dsimp only; omega)) _) | (refine Below.alloc ?_ (by first | omega | (simp; omega) | (simp; done) | (dsimp only; omega)) _) | (refine below_drewN ?_ _) | (refine Below.drew ?_))
  have zW : w.heap.size < W.heap.size := by subst hW; simp
  clear hW
  replace hc0 := (hbW.cell (p := ⟨g, off + a * 6, none⟩) lb).trans hc0
  replace hc1 := (hbW.cell (p := ⟨g, off + a * 6 + 1, none⟩) lb).trans hc1
  replace hc2 := (hbW.cell (p := ⟨g, off + a * 6 + 2, none⟩) lb).trans hc2
  replace hc3 := (hbW.cell (p := ⟨g, off + a * 6 + 3, none⟩) lb).trans hc3
  replace hc4 := (hbW.cell (p := ⟨g, off + a * 6 + 4, none⟩) lb).trans hc4
  replace hc5 := (hbW.cell (p := ⟨g, off + a * 6 + 5, none⟩) lb).trans hc5
  replace hd0 := (hbW.cell (p := ⟨g, off + b * 6, none⟩) lb).trans hd0
  replace hd1 := (hbW.cell (p := ⟨g, off + b * 6 + 1, none⟩) lb).trans hd1
  replace hd2 := (hbW.cell (p := ⟨g, off + b * 6 + 2, none⟩) lb).trans hd2
  replace hd3 := (hbW.cell (p := ⟨g, off + b * 6 + 3, none⟩) lb).trans hd3
  replace hd4 := (hbW.cell (p := ⟨g, off + b * 6 + 4, none⟩) lb).trans hd4
  replace hd5 := (hbW.cell (p := ⟨g, off + b * 6 + 5, none⟩) lb).trans hd5
  have lbW : g < W.heap.size := by omega
  go_cut [7, 8] (fun v e wx => ∃ g6 g7 : Nat, v = .pointer (some ⟨g6, 0, none⟩) ∧ e = .pointer (some ⟨g7, 0, none⟩) ∧ Below W.heap.size W wx ∧ W.heap.size ≤ g6 ∧ W.heap.size ≤ g7 ∧ Blk wx g6 48 #[.string x0, .int .i64 x1, .int .i64 x2, .int .i64 x3, .int .i64 x4, .int .i64 x5] ∧ Blk wx g7 48 #[.string y0, .int .i64 y1, .int .i64 y2, .int .i64 y3, .int .i64 y4, .int .i64 y5])
  case first =>
    have vc0 := fun o : Obj => (past1 (p := ⟨g, off + a * 6, none⟩) lbW o).trans hc0
    have xc0 := fun o o' : Obj => (past2 (p := ⟨g, off + a * 6, none⟩) lbW o o').trans hc0
    have vd0 := fun o : Obj => (past1 (p := ⟨g, off + b * 6, none⟩) lbW o).trans hd0
    have xd0 := fun o o' : Obj => (past2 (p := ⟨g, off + b * 6, none⟩) lbW o o').trans hd0
    have vc1 := fun o : Obj => (past1 (p := ⟨g, off + a * 6 + 1, none⟩) lbW o).trans hc1
    have xc1 := fun o o' : Obj => (past2 (p := ⟨g, off + a * 6 + 1, none⟩) lbW o o').trans hc1
    have vd1 := fun o : Obj => (past1 (p := ⟨g, off + b * 6 + 1, none⟩) lbW o).trans hd1
    have xd1 := fun o o' : Obj => (past2 (p := ⟨g, off + b * 6 + 1, none⟩) lbW o o').trans hd1
    have vc2 := fun o : Obj => (past1 (p := ⟨g, off + a * 6 + 2, none⟩) lbW o).trans hc2
    have xc2 := fun o o' : Obj => (past2 (p := ⟨g, off + a * 6 + 2, none⟩) lbW o o').trans hc2
    have vd2 := fun o : Obj => (past1 (p := ⟨g, off + b * 6 + 2, none⟩) lbW o).trans hd2
    have xd2 := fun o o' : Obj => (past2 (p := ⟨g, off + b * 6 + 2, none⟩) lbW o o').trans hd2
    have vc3 := fun o : Obj => (past1 (p := ⟨g, off + a * 6 + 3, none⟩) lbW o).trans hc3
    have xc3 := fun o o' : Obj => (past2 (p := ⟨g, off + a * 6 + 3, none⟩) lbW o o').trans hc3
    have vd3 := fun o : Obj => (past1 (p := ⟨g, off + b * 6 + 3, none⟩) lbW o).trans hd3
    have xd3 := fun o o' : Obj => (past2 (p := ⟨g, off + b * 6 + 3, none⟩) lbW o o').trans hd3
    have vc4 := fun o : Obj => (past1 (p := ⟨g, off + a * 6 + 4, none⟩) lbW o).trans hc4
    have xc4 := fun o o' : Obj => (past2 (p := ⟨g, off + a * 6 + 4, none⟩) lbW o o').trans hc4
    have vd4 := fun o : Obj => (past1 (p := ⟨g, off + b * 6 + 4, none⟩) lbW o).trans hd4
    have xd4 := fun o o' : Obj => (past2 (p := ⟨g, off + b * 6 + 4, none⟩) lbW o o').trans hd4
    have vc5 := fun o : Obj => (past1 (p := ⟨g, off + a * 6 + 5, none⟩) lbW o).trans hc5
    have xc5 := fun o o' : Obj => (past2 (p := ⟨g, off + a * 6 + 5, none⟩) lbW o o').trans hc5
    have vd5 := fun o : Obj => (past1 (p := ⟨g, off + b * 6 + 5, none⟩) lbW o).trans hd5
    have xd5 := fun o o' : Obj => (past2 (p := ⟨g, off + b * 6 + 5, none⟩) lbW o o').trans hd5
    go_region
    all_goals
      go_wp2_with fail
      go_meet
      refine ⟨_, _, rfl, rfl, by (with_reducible repeat' first | exact Below.refl _ _ | assumption | (refine Below.setCell ?_ (by first | omega | (simp; omega) | (simp; done) | (dsimp only; omega)) _) | (refine Below.alloc ?_ (by first | omega | (simp; omega) | (simp; done) | (dsimp only; omega)) _) | (refine below_drewN ?_ _) | (refine Below.drew ?_)), by omega, by omega, ?_, ?_⟩
      all_goals first
        | exact ((Blk.new (t := 48) W (by omega)).alloc _).drew
        | exact (Blk.new (t := 48) (W.alloc _) (by simp)).drew
  case rest =>
    obtain ⟨g6, g7, rfl, rfl, hb1, l6, l7, R6, R7⟩ := hcut
    obtain ⟨w1, rfl⟩ : ∃ w1 : World, w1 = wc := ⟨_, rfl⟩
    have hb2 := hbW.trans (hb1.mono (by omega))
    replace e0 := (hb1.cell (p := ⟨w.heap.size, 0, none⟩) zW).trans e0
    replace e1 := (hb1.cell (p := ⟨w.heap.size, 1, none⟩) zW).trans e1
    have hz2 := hb2.size
    have p2 := R6.cell (i := 2) rfl
    have p3 := R6.cell (i := 3) rfl
    have q2 := R7.cell (i := 2) rfl
    have q3 := R7.cell (i := 3) rfl
    clear hc0 hc1 hc2 hc3 hc4 hc5 hd0 hd1 hd2 hd3 hd4 hd5
    by_cases c0 : a = b
    · have HN := Lib.hid (HR.out.symm.trans (show _ = false by simp [halfOf, c0]))
      subst c0
      have n1 : ((a : Int) != (a : Int)) = false := by simp
      have n2 : ((a : Int) == (a : Int)) = true := by simp
      go_wp2
      go_ret
      exact ⟨ret_bool (by rw [HN.out]; try simp), by (with_reducible repeat' first | exact Below.refl _ _ | assumption | (refine Below.setCell ?_ (by first | omega | (simp; omega) | (simp; done) | (dsimp only; omega)) _) | (refine Below.alloc ?_ (by first | omega | (simp; omega) | (simp; done) | (dsimp only; omega)) _) | (refine below_drewN ?_ _) | (refine Below.drew ?_) | (refine Below.trans ?_ (hb2.mono (by first | omega | (simp; omega) | (simp; done) | (dsimp only; omega)))))⟩
    · have n1 : ((a : Int) != (b : Int)) = true := by simp; omega
      have n2 : ((a : Int) == (b : Int)) = false := by simp; omega
      cases hf : fullOf ⟨x0, x1, x2, x3, x4, x5⟩ ⟨y0, y1, y2, y3, y4, y5⟩ a b with
      | true =>
        have HF := Lib.hid (HFO.out.trans hf)
        have HN := Lib.hid (HR.out.symm.trans (show _ = false by simp [halfOf, hf]))
        clear hf HFO HR
        go_wp2_with (go_at_call 31; (with_reducible refine (areFull_any _ _ _ _ lo hi xs ys a b _ (h.same (by (with_reducible repeat' first | exact Same.refl _ _ _ | assumption | (refine Same.setCell ?_ (by first | omega | (simp; omega) | (simp; done) | (dsimp only; omega)) _) | (refine Same.alloc ?_ (by first | omega | (simp; omega) | (simp; done) | (dsimp only; omega)) _) | (refine Same.drewN ?_ _) | (refine Same.drew ?_) | (refine Same.trans ?_ (Same.of_below hb2 (by first | omega | (simp; omega) | (simp; done) | (dsimp only; omega))))))) (h'.same (by (with_reducible repeat' first | exact Same.refl _ _ _ | assumption | (refine Same.setCell ?_ (by first | omega | (simp; omega) | (simp; done) | (dsimp only; omega)) _) | (refine Same.alloc ?_ (by first | omega | (simp; omega) | (simp; done) | (dsimp only; omega)) _) | (refine Same.drewN ?_ _) | (refine Same.drew ?_) | (refine Same.trans ?_ (Same.of_below hb2 (by first | omega | (simp; omega) | (simp; done) | (dsimp only; omega))))))) (by have := hb2.size; omega) ha hb).mono ?_); rintro e w2 ⟨rfl, hbF⟩; simp only [HF.out]; have P6 := R6.below hbF R6.lt; have P7 := R7.below hbF R7.lt; have p2 := P6.cell (i := 2) rfl; have p3 := P6.cell (i := 3) rfl; have q2 := P7.cell (i := 2) rfl; have q3 := P7.cell (i := 3) rfl)
        go_ret
        exact ⟨ret_bool (by rw [HN.out]; try simp), by (with_reducible repeat' first | exact Below.refl _ _ | assumption | (refine Below.setCell ?_ (by first | omega | (simp; omega) | (simp; done) | (dsimp only; omega)) _) | (refine Below.alloc ?_ (by first | omega | (simp; omega) | (simp; done) | (dsimp only; omega)) _) | (refine below_drewN ?_ _) | (refine Below.drew ?_) | (refine Below.trans ?_ (hbF.mono (by first | omega | (simp; omega) | (simp; done) | (dsimp only; omega)))) | (refine Below.trans ?_ (hb2.mono (by first | omega | (simp; omega) | (simp; done) | (dsimp only; omega)))))⟩
      | false =>
        have HF := Lib.hid (HFO.out.trans hf)
        have HV := Lib.hid (HR.out.symm.trans (halfOf_of c0 hf))
        clear hf HFO HR
        have second : ∀ (dv : Bool), Hid (decide (0 ≤ x3 ∧ x3 = y3) = dv) → (dv = true ∧ 0 ≤ x3 ∧ (x3 == y3) = true) ∨ (dv = false ∧ 0 ≤ x3 ∧ (x3 == y3) = false) ∨ (dv = false ∧ ¬ 0 ≤ x3) := by
          intro dv hd
          have hd := hd.out
          by_cases q1 : 0 ≤ x3
          · by_cases q2 : x3 = y3
            · exact .inl ⟨hd.symm.trans (decide_eq_true ⟨q1, q2⟩), q1, beq_iff_eq.2 q2⟩
            · exact .inr (.inl ⟨hd.symm.trans (decide_eq_false fun h => q2 h.2), q1, beq_false_of_ne q2⟩)
          · exact .inr (.inr ⟨hd.symm.trans (decide_eq_false fun h => q1 h.1), q1⟩)
        by_cases c1 : 0 ≤ x2
        · have C1 := Lib.hid c1
          by_cases c2 : x2 = y2
          · have HN := Lib.hid (HV.out.trans (show _ = true by rw [decide_eq_true ⟨c1, c2⟩]; rfl))
            have n3 : (x2 == y2) = true := by simp [c2]
            clear c2 HV second
            go_wp2_with (go_at_call 31; (with_reducible refine (areFull_any _ _ _ _ lo hi xs ys a b _ (h.same (by (with_reducible repeat' first | exact Same.refl _ _ _ | assumption | (refine Same.setCell ?_ (by first | omega | (simp; omega) | (simp; done) | (dsimp only; omega)) _) | (refine Same.alloc ?_ (by first | omega | (simp; omega) | (simp; done) | (dsimp only; omega)) _) | (refine Same.drewN ?_ _) | (refine Same.drew ?_) | (refine Same.trans ?_ (Same.of_below hb2 (by first | omega | (simp; omega) | (simp; done) | (dsimp only; omega))))))) (h'.same (by (with_reducible repeat' first | exact Same.refl _ _ _ | assumption | (refine Same.setCell ?_ (by first | omega | (simp; omega) | (simp; done) | (dsimp only; omega)) _) | (refine Same.alloc ?_ (by first | omega | (simp; omega) | (simp; done) | (dsimp only; omega)) _) | (refine Same.drewN ?_ _) | (refine Same.drew ?_) | (refine Same.trans ?_ (Same.of_below hb2 (by first | omega | (simp; omega) | (simp; done) | (dsimp only; omega))))))) (by have := hb2.size; omega) ha hb).mono ?_); rintro e w2 ⟨rfl, hbF⟩; simp only [HF.out]; have P6 := R6.below hbF R6.lt; have P7 := R7.below hbF R7.lt; have p2 := P6.cell (i := 2) rfl; have p3 := P6.cell (i := 3) rfl; have q2 := P7.cell (i := 2) rfl; have q3 := P7.cell (i := 3) rfl)
            go_ret
            exact ⟨ret_bool (by rw [HN.out]; try simp), by (with_reducible repeat' first | exact Below.refl _ _ | assumption | (refine Below.setCell ?_ (by first | omega | (simp; omega) | (simp; done) | (dsimp only; omega)) _) | (refine Below.alloc ?_ (by first | omega | (simp; omega) | (simp; done) | (dsimp only; omega)) _) | (refine below_drewN ?_ _) | (refine Below.drew ?_) | (refine Below.trans ?_ (hbF.mono (by first | omega | (simp; omega) | (simp; done) | (dsimp only; omega)))) | (refine Below.trans ?_ (hb2.mono (by first | omega | (simp; omega) | (simp; done) | (dsimp only; omega)))))⟩
          · have n3 : (x2 == y2) = false := by simp [c2]
            obtain ⟨dv, hdv⟩ : ∃ dv, decide (0 ≤ x3 ∧ x3 = y3) = dv := ⟨_, rfl⟩
            have HD := Lib.hid hdv
            have HN := Lib.hid (HV.out.trans (show _ = dv by rw [decide_eq_false (fun h => c2 h.2), Bool.false_or]; exact hdv))
            have sec := second dv HD
            clear hdv HD HV second c1 c2
            rcases sec with ⟨rfl, q1, q2⟩ | ⟨rfl, q1, q2⟩ | ⟨rfl, q1⟩
            · skip
              have c1 := C1.out
              go_wp2_with (go_at_call 31; (with_reducible refine (areFull_any _ _ _ _ lo hi xs ys a b _ (h.same (by (with_reducible repeat' first | exact Same.refl _ _ _ | assumption | (refine Same.setCell ?_ (by first | omega | (simp; omega) | (simp; done) | (dsimp only; omega)) _) | (refine Same.alloc ?_ (by first | omega | (simp; omega) | (simp; done) | (dsimp only; omega)) _) | (refine Same.drewN ?_ _) | (refine Same.drew ?_) | (refine Same.trans ?_ (Same.of_below hb2 (by first | omega | (simp; omega) | (simp; done) | (dsimp only; omega))))))) (h'.same (by (with_reducible repeat' first | exact Same.refl _ _ _ | assumption | (refine Same.setCell ?_ (by first | omega | (simp; omega) | (simp; done) | (dsimp only; omega)) _) | (refine Same.alloc ?_ (by first | omega | (simp; omega) | (simp; done) | (dsimp only; omega)) _) | (refine Same.drewN ?_ _) | (refine Same.drew ?_) | (refine Same.trans ?_ (Same.of_below hb2 (by first | omega | (simp; omega) | (simp; done) | (dsimp only; omega))))))) (by have := hb2.size; omega) ha hb).mono ?_); rintro e w2 ⟨rfl, hbF⟩; simp only [HF.out]; have P6 := R6.below hbF R6.lt; have P7 := R7.below hbF R7.lt; have p2 := P6.cell (i := 2) rfl; have p3 := P6.cell (i := 3) rfl; have q2 := P7.cell (i := 2) rfl; have q3 := P7.cell (i := 3) rfl)
              go_ret
              exact ⟨ret_bool (by rw [HN.out]; try simp), by (with_reducible repeat' first | exact Below.refl _ _ | assumption | (refine Below.setCell ?_ (by first | omega | (simp; omega) | (simp; done) | (dsimp only; omega)) _) | (refine Below.alloc ?_ (by first | omega | (simp; omega) | (simp; done) | (dsimp only; omega)) _) | (refine below_drewN ?_ _) | (refine Below.drew ?_) | (refine Below.trans ?_ (hbF.mono (by first | omega | (simp; omega) | (simp; done) | (dsimp only; omega)))) | (refine Below.trans ?_ (hb2.mono (by first | omega | (simp; omega) | (simp; done) | (dsimp only; omega)))))⟩
            · skip
              have c1 := C1.out
              go_wp2_with (go_at_call 31; (with_reducible refine (areFull_any _ _ _ _ lo hi xs ys a b _ (h.same (by (with_reducible repeat' first | exact Same.refl _ _ _ | assumption | (refine Same.setCell ?_ (by first | omega | (simp; omega) | (simp; done) | (dsimp only; omega)) _) | (refine Same.alloc ?_ (by first | omega | (simp; omega) | (simp; done) | (dsimp only; omega)) _) | (refine Same.drewN ?_ _) | (refine Same.drew ?_) | (refine Same.trans ?_ (Same.of_below hb2 (by first | omega | (simp; omega) | (simp; done) | (dsimp only; omega))))))) (h'.same (by (with_reducible repeat' first | exact Same.refl _ _ _ | assumption | (refine Same.setCell ?_ (by first | omega | (simp; omega) | (simp; done) | (dsimp only; omega)) _) | (refine Same.alloc ?_ (by first | omega | (simp; omega) | (simp; done) | (dsimp only; omega)) _) | (refine Same.drewN ?_ _) | (refine Same.drew ?_) | (refine Same.trans ?_ (Same.of_below hb2 (by first | omega | (simp; omega) | (simp; done) | (dsimp only; omega))))))) (by have := hb2.size; omega) ha hb).mono ?_); rintro e w2 ⟨rfl, hbF⟩; simp only [HF.out]; have P6 := R6.below hbF R6.lt; have P7 := R7.below hbF R7.lt; have p2 := P6.cell (i := 2) rfl; have p3 := P6.cell (i := 3) rfl; have q2 := P7.cell (i := 2) rfl; have q3 := P7.cell (i := 3) rfl)
              go_ret
              exact ⟨ret_bool (by rw [HN.out]; try simp), by (with_reducible repeat' first | exact Below.refl _ _ | assumption | (refine Below.setCell ?_ (by first | omega | (simp; omega) | (simp; done) | (dsimp only; omega)) _) | (refine Below.alloc ?_ (by first | omega | (simp; omega) | (simp; done) | (dsimp only; omega)) _) | (refine below_drewN ?_ _) | (refine Below.drew ?_) | (refine Below.trans ?_ (hbF.mono (by first | omega | (simp; omega) | (simp; done) | (dsimp only; omega)))) | (refine Below.trans ?_ (hb2.mono (by first | omega | (simp; omega) | (simp; done) | (dsimp only; omega)))))⟩
            · skip
              have c1 := C1.out
              go_wp2_with (go_at_call 31; (with_reducible refine (areFull_any _ _ _ _ lo hi xs ys a b _ (h.same (by (with_reducible repeat' first | exact Same.refl _ _ _ | assumption | (refine Same.setCell ?_ (by first | omega | (simp; omega) | (simp; done) | (dsimp only; omega)) _) | (refine Same.alloc ?_ (by first | omega | (simp; omega) | (simp; done) | (dsimp only; omega)) _) | (refine Same.drewN ?_ _) | (refine Same.drew ?_) | (refine Same.trans ?_ (Same.of_below hb2 (by first | omega | (simp; omega) | (simp; done) | (dsimp only; omega))))))) (h'.same (by (with_reducible repeat' first | exact Same.refl _ _ _ | assumption | (refine Same.setCell ?_ (by first | omega | (simp; omega) | (simp; done) | (dsimp only; omega)) _) | (refine Same.alloc ?_ (by first | omega | (simp; omega) | (simp; done) | (dsimp only; omega)) _) | (refine Same.drewN ?_ _) | (refine Same.drew ?_) | (refine Same.trans ?_ (Same.of_below hb2 (by first | omega | (simp; omega) | (simp; done) | (dsimp only; omega))))))) (by have := hb2.size; omega) ha hb).mono ?_); rintro e w2 ⟨rfl, hbF⟩; simp only [HF.out]; have P6 := R6.below hbF R6.lt; have P7 := R7.below hbF R7.lt; have p2 := P6.cell (i := 2) rfl; have p3 := P6.cell (i := 3) rfl; have q2 := P7.cell (i := 2) rfl; have q3 := P7.cell (i := 3) rfl)
              go_ret
              exact ⟨ret_bool (by rw [HN.out]; try simp), by (with_reducible repeat' first | exact Below.refl _ _ | assumption | (refine Below.setCell ?_ (by first | omega | (simp; omega) | (simp; done) | (dsimp only; omega)) _) | (refine Below.alloc ?_ (by first | omega | (simp; omega) | (simp; done) | (dsimp only; omega)) _) | (refine below_drewN ?_ _) | (refine Below.drew ?_) | (refine Below.trans ?_ (hbF.mono (by first | omega | (simp; omega) | (simp; done) | (dsimp only; omega)))) | (refine Below.trans ?_ (hb2.mono (by first | omega | (simp; omega) | (simp; done) | (dsimp only; omega)))))⟩
        · have C1 := Lib.hid c1
          obtain ⟨dv, hdv⟩ : ∃ dv, decide (0 ≤ x3 ∧ x3 = y3) = dv := ⟨_, rfl⟩
          have HD := Lib.hid hdv
          have HN := Lib.hid (HV.out.trans (show _ = dv by rw [decide_eq_false (fun h => c1 h.1), Bool.false_or]; exact hdv))
          have sec := second dv HD
          clear hdv HD HV second c1 
          rcases sec with ⟨rfl, q1, q2⟩ | ⟨rfl, q1, q2⟩ | ⟨rfl, q1⟩
          · skip
            have c1 := C1.out
            go_wp2_with (go_at_call 31; (with_reducible refine (areFull_any _ _ _ _ lo hi xs ys a b _ (h.same (by (with_reducible repeat' first | exact Same.refl _ _ _ | assumption | (refine Same.setCell ?_ (by first | omega | (simp; omega) | (simp; done) | (dsimp only; omega)) _) | (refine Same.alloc ?_ (by first | omega | (simp; omega) | (simp; done) | (dsimp only; omega)) _) | (refine Same.drewN ?_ _) | (refine Same.drew ?_) | (refine Same.trans ?_ (Same.of_below hb2 (by first | omega | (simp; omega) | (simp; done) | (dsimp only; omega))))))) (h'.same (by (with_reducible repeat' first | exact Same.refl _ _ _ | assumption | (refine Same.setCell ?_ (by first | omega | (simp; omega) | (simp; done) | (dsimp only; omega)) _) | (refine Same.alloc ?_ (by first | omega | (simp; omega) | (simp; done) | (dsimp only; omega)) _) | (refine Same.drewN ?_ _) | (refine Same.drew ?_) | (refine Same.trans ?_ (Same.of_below hb2 (by first | omega | (simp; omega) | (simp; done) | (dsimp only; omega))))))) (by have := hb2.size; omega) ha hb).mono ?_); rintro e w2 ⟨rfl, hbF⟩; simp only [HF.out]; have P6 := R6.below hbF R6.lt; have P7 := R7.below hbF R7.lt; have p2 := P6.cell (i := 2) rfl; have p3 := P6.cell (i := 3) rfl; have q2 := P7.cell (i := 2) rfl; have q3 := P7.cell (i := 3) rfl)
            go_ret
            exact ⟨ret_bool (by rw [HN.out]; try simp), by (with_reducible repeat' first | exact Below.refl _ _ | assumption | (refine Below.setCell ?_ (by first | omega | (simp; omega) | (simp; done) | (dsimp only; omega)) _) | (refine Below.alloc ?_ (by first | omega | (simp; omega) | (simp; done) | (dsimp only; omega)) _) | (refine below_drewN ?_ _) | (refine Below.drew ?_) | (refine Below.trans ?_ (hbF.mono (by first | omega | (simp; omega) | (simp; done) | (dsimp only; omega)))) | (refine Below.trans ?_ (hb2.mono (by first | omega | (simp; omega) | (simp; done) | (dsimp only; omega)))))⟩
          · skip
            have c1 := C1.out
            go_wp2_with (go_at_call 31; (with_reducible refine (areFull_any _ _ _ _ lo hi xs ys a b _ (h.same (by (with_reducible repeat' first | exact Same.refl _ _ _ | assumption | (refine Same.setCell ?_ (by first | omega | (simp; omega) | (simp; done) | (dsimp only; omega)) _) | (refine Same.alloc ?_ (by first | omega | (simp; omega) | (simp; done) | (dsimp only; omega)) _) | (refine Same.drewN ?_ _) | (refine Same.drew ?_) | (refine Same.trans ?_ (Same.of_below hb2 (by first | omega | (simp; omega) | (simp; done) | (dsimp only; omega))))))) (h'.same (by (with_reducible repeat' first | exact Same.refl _ _ _ | assumption | (refine Same.setCell ?_ (by first | omega | (simp; omega) | (simp; done) | (dsimp only; omega)) _) | (refine Same.alloc ?_ (by first | omega | (simp; omega) | (simp; done) | (dsimp only; omega)) _) | (refine Same.drewN ?_ _) | (refine Same.drew ?_) | (refine Same.trans ?_ (Same.of_below hb2 (by first | omega | (simp; omega) | (simp; done) | (dsimp only; omega))))))) (by have := hb2.size; omega) ha hb).mono ?_); rintro e w2 ⟨rfl, hbF⟩; simp only [HF.out]; have P6 := R6.below hbF R6.lt; have P7 := R7.below hbF R7.lt; have p2 := P6.cell (i := 2) rfl; have p3 := P6.cell (i := 3) rfl; have q2 := P7.cell (i := 2) rfl; have q3 := P7.cell (i := 3) rfl)
            go_ret
            exact ⟨ret_bool (by rw [HN.out]; try simp), by (with_reducible repeat' first | exact Below.refl _ _ | assumption | (refine Below.setCell ?_ (by first | omega | (simp; omega) | (simp; done) | (dsimp only; omega)) _) | (refine Below.alloc ?_ (by first | omega | (simp; omega) | (simp; done) | (dsimp only; omega)) _) | (refine below_drewN ?_ _) | (refine Below.drew ?_) | (refine Below.trans ?_ (hbF.mono (by first | omega | (simp; omega) | (simp; done) | (dsimp only; omega)))) | (refine Below.trans ?_ (hb2.mono (by first | omega | (simp; omega) | (simp; done) | (dsimp only; omega)))))⟩
          · skip
            have c1 := C1.out
            go_wp2_with (go_at_call 31; (with_reducible refine (areFull_any _ _ _ _ lo hi xs ys a b _ (h.same (by (with_reducible repeat' first | exact Same.refl _ _ _ | assumption | (refine Same.setCell ?_ (by first | omega | (simp; omega) | (simp; done) | (dsimp only; omega)) _) | (refine Same.alloc ?_ (by first | omega | (simp; omega) | (simp; done) | (dsimp only; omega)) _) | (refine Same.drewN ?_ _) | (refine Same.drew ?_) | (refine Same.trans ?_ (Same.of_below hb2 (by first | omega | (simp; omega) | (simp; done) | (dsimp only; omega))))))) (h'.same (by (with_reducible repeat' first | exact Same.refl _ _ _ | assumption | (refine Same.setCell ?_ (by first | omega | (simp; omega) | (simp; done) | (dsimp only; omega)) _) | (refine Same.alloc ?_ (by first | omega | (simp; omega) | (simp; done) | (dsimp only; omega)) _) | (refine Same.drewN ?_ _) | (refine Same.drew ?_) | (refine Same.trans ?_ (Same.of_below hb2 (by first | omega | (simp; omega) | (simp; done) | (dsimp only; omega))))))) (by have := hb2.size; omega) ha hb).mono ?_); rintro e w2 ⟨rfl, hbF⟩; simp only [HF.out]; have P6 := R6.below hbF R6.lt; have P7 := R7.below hbF R7.lt; have p2 := P6.cell (i := 2) rfl; have p3 := P6.cell (i := 3) rfl; have q2 := P7.cell (i := 2) rfl; have q3 := P7.cell (i := 3) rfl)
            go_ret
            exact ⟨ret_bool (by rw [HN.out]; try simp), by (with_reducible repeat' first | exact Below.refl _ _ | assumption | (refine Below.setCell ?_ (by first | omega | (simp; omega) | (simp; done) | (dsimp only; omega)) _) | (refine Below.alloc ?_ (by first | omega | (simp; omega) | (simp; done) | (dsimp only; omega)) _) | (refine below_drewN ?_ _) | (refine Below.drew ?_) | (refine Below.trans ?_ (hbF.mono (by first | omega | (simp; omega) | (simp; done) | (dsimp only; omega)))) | (refine Below.trans ?_ (hb2.mono (by first | omega | (simp; omega) | (simp; done) | (dsimp only; omega)))))⟩

theorem kidP_kidAt {xs : List Person} {p i : Nat} (h : i < xs.length) : kidP xs (p : Int) i = kidAt xs p i := by
  rw [kidP_of (List.getElem?_eq_getElem h), kidAt_of (List.getElem?_eq_getElem h)]
  rfl

theorem childrenOfFn_any (A B : Option Addr) (c d lo hi gf gp : Nat) (xs : List Person) (ys : List Union) (p k : Nat) (w : World) (h : EPerson.AS w lo hi A xs) (h' : EUnion.AS w lo hi B ys) (hh : hi ≤ w.heap.size) (_hp : p < xs.length) (hk : k < xs.length)
    (Ff : Blk w gf 26 #[.slice A xs.length c, .slice B ys.length d]) (Fp : Blk w gp 3 #[.int .i64 p]) :
    Calls Try.prog 55 #[.int .i64 k, .pointer (some ⟨gf, 0, none⟩), .pointer (some ⟨gp, 0, none⟩)] w fun e w' => e = .returned (.bool (kidAt xs p k)) ∧ Below w.heap.size w w' := by
  have e0 := Ff.cell (i := 0) rfl; have e1 := Ff.cell (i := 1) rfl; have e2 := Fp.cell (i := 0) rfl
  have l0 := Ff.lt; have l1 := Fp.lt
  obtain ⟨R, hR⟩ : ∃ R, kidAt xs p k = R := ⟨_, rfl⟩
  have HR := Lib.hid hR
  rw [hR]
  clear hR
  go_enter Try.func55, Try.ntmps55
  go_wp2_with (go_at_call 56; (with_reducible refine (isParent_any _ _ _ _ lo hi xs ys p k _ (h.same (by (with_reducible repeat' first | exact Same.refl _ _ _ | assumption | (refine Same.setCell ?_ (by first | omega | (simp; omega) | (simp; done) | (dsimp only; omega)) _) | (refine Same.alloc ?_ (by first | omega | (simp; omega) | (simp; done) | (dsimp only; omega)) _) | (refine Same.drewN ?_ _) | (refine Same.drew ?_)))) (h'.same (by (with_reducible repeat' first | exact Same.refl _ _ _ | assumption | (refine Same.setCell ?_ (by first | omega | (simp; omega) | (simp; done) | (dsimp only; omega)) _) | (refine Same.alloc ?_ (by first | omega | (simp; omega) | (simp; done) | (dsimp only; omega)) _) | (refine Same.drewN ?_ _) | (refine Same.drew ?_)))) (by first | omega | (simp; omega) | (simp; done) | (dsimp only; omega)) hk).mono ?_); rintro e w2 ⟨rfl, hb2⟩; simp only [HR.out])
  go_ret
  exact ⟨rfl, by (with_reducible repeat' first | exact Below.refl _ _ | assumption | (refine Below.setCell ?_ (by first | omega | (simp; omega) | (simp; done) | (dsimp only; omega)) _) | (refine Below.alloc ?_ (by first | omega | (simp; omega) | (simp; done) | (dsimp only; omega)) _) | (refine below_drewN ?_ _) | (refine Below.drew ?_) | (refine Below.trans ?_ (hb2.mono (by first | omega | (simp; omega) | (simp; done) | (dsimp only; omega)))))⟩

theorem FullSiblingsFn_any (A B : Option Addr) (c d lo hi gf gp : Nat) (xs : List Person) (ys : List Union) (p k : Nat) (w : World) (h : EPerson.AS w lo hi A xs) (h' : EUnion.AS w lo hi B ys) (hh : hi ≤ w.heap.size) (hp : p < xs.length) (hk : k < xs.length)
    (Ff : Blk w gf 26 #[.slice A xs.length c, .slice B ys.length d]) (Fp : Blk w gp 3 #[.int .i64 p]) :
    Calls Try.prog 30 #[.int .i64 k, .pointer (some ⟨gf, 0, none⟩), .pointer (some ⟨gp, 0, none⟩)] w fun e w' => e = .returned (.bool (fullAt xs p k)) ∧ Below w.heap.size w w' := by
  have e0 := Ff.cell (i := 0) rfl; have e1 := Ff.cell (i := 1) rfl; have e2 := Fp.cell (i := 0) rfl
  have l0 := Ff.lt; have l1 := Fp.lt
  obtain ⟨R, hR⟩ : ∃ R, fullAt xs p k = R := ⟨_, rfl⟩
  have HR := Lib.hid hR
  rw [hR]
  clear hR
  go_enter Try.func30, Try.ntmps30
  go_wp2_with (go_at_call 31; (with_reducible refine (areFull_any _ _ _ _ lo hi xs ys p k _ (h.same (by (with_reducible repeat' first | exact Same.refl _ _ _ | assumption | (refine Same.setCell ?_ (by first | omega | (simp; omega) | (simp; done) | (dsimp only; omega)) _) | (refine Same.alloc ?_ (by first | omega | (simp; omega) | (simp; done) | (dsimp only; omega)) _) | (refine Same.drewN ?_ _) | (refine Same.drew ?_)))) (h'.same (by (with_reducible repeat' first | exact Same.refl _ _ _ | assumption | (refine Same.setCell ?_ (by first | omega | (simp; omega) | (simp; done) | (dsimp only; omega)) _) | (refine Same.alloc ?_ (by first | omega | (simp; omega) | (simp; done) | (dsimp only; omega)) _) | (refine Same.drewN ?_ _) | (refine Same.drew ?_)))) (by first | omega | (simp; omega) | (simp; done) | (dsimp only; omega)) hp hk).mono ?_); rintro e w2 ⟨rfl, hb2⟩; simp only [HR.out])
  go_ret
  exact ⟨rfl, by (with_reducible repeat' first | exact Below.refl _ _ | assumption | (refine Below.setCell ?_ (by first | omega | (simp; omega) | (simp; done) | (dsimp only; omega)) _) | (refine Below.alloc ?_ (by first | omega | (simp; omega) | (simp; done) | (dsimp only; omega)) _) | (refine below_drewN ?_ _) | (refine Below.drew ?_) | (refine Below.trans ?_ (hb2.mono (by first | omega | (simp; omega) | (simp; done) | (dsimp only; omega)))))⟩

theorem HalfSiblingsFn_any (A B : Option Addr) (c d lo hi gf gp : Nat) (xs : List Person) (ys : List Union) (p k : Nat) (w : World) (h : EPerson.AS w lo hi A xs) (h' : EUnion.AS w lo hi B ys) (hh : hi ≤ w.heap.size) (hp : p < xs.length) (hk : k < xs.length)
    (Ff : Blk w gf 26 #[.slice A xs.length c, .slice B ys.length d]) (Fp : Blk w gp 3 #[.int .i64 p]) :
    Calls Try.prog 32 #[.int .i64 k, .pointer (some ⟨gf, 0, none⟩), .pointer (some ⟨gp, 0, none⟩)] w fun e w' => e = .returned (.bool (halfAt xs p k)) ∧ Below w.heap.size w w' := by
  have e0 := Ff.cell (i := 0) rfl; have e1 := Ff.cell (i := 1) rfl; have e2 := Fp.cell (i := 0) rfl
  have l0 := Ff.lt; have l1 := Fp.lt
  obtain ⟨R, hR⟩ : ∃ R, halfAt xs p k = R := ⟨_, rfl⟩
  have HR := Lib.hid hR
  rw [hR]
  clear hR
  go_enter Try.func32, Try.ntmps32
  go_wp2_with (go_at_call 33; (with_reducible refine (areHalf_any _ _ _ _ lo hi xs ys p k _ (h.same (by (with_reducible repeat' first | exact Same.refl _ _ _ | assumption | (refine Same.setCell ?_ (by first | omega | (simp; omega) | (simp; done) | (dsimp only; omega)) _) | (refine Same.alloc ?_ (by first | omega | (simp; omega) | (simp; done) | (dsimp only; omega)) _) | (refine Same.drewN ?_ _) | (refine Same.drew ?_)))) (h'.same (by (with_reducible repeat' first | exact Same.refl _ _ _ | assumption | (refine Same.setCell ?_ (by first | omega | (simp; omega) | (simp; done) | (dsimp only; omega)) _) | (refine Same.alloc ?_ (by first | omega | (simp; omega) | (simp; done) | (dsimp only; omega)) _) | (refine Same.drewN ?_ _) | (refine Same.drew ?_)))) (by first | omega | (simp; omega) | (simp; done) | (dsimp only; omega)) hp hk).mono ?_); rintro e w2 ⟨rfl, hb2⟩; simp only [HR.out])
  go_ret
  exact ⟨rfl, by (with_reducible repeat' first | exact Below.refl _ _ | assumption | (refine Below.setCell ?_ (by first | omega | (simp; omega) | (simp; done) | (dsimp only; omega)) _) | (refine Below.alloc ?_ (by first | omega | (simp; omega) | (simp; done) | (dsimp only; omega)) _) | (refine below_drewN ?_ _) | (refine Below.drew ?_) | (refine Below.trans ?_ (hb2.mono (by first | omega | (simp; omega) | (simp; done) | (dsimp only; omega)))))⟩
end Go.Proofs.Ythpcippgifmabaa
