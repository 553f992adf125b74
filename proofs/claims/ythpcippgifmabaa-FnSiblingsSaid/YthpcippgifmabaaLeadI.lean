/-
  Where a step leads, in the program.
-/
import Derived.Test.YthpcippgifmabaaGLead
import Derived.Test.YthpcippgifmabaaGFamI
import Derived.Test.YthpcippgifmabaaGRule
namespace Go.Proofs.Ythpcippgifmabaa
set_option maxRecDepth 100000
open Go.RowKit

set_option maxHeartbeats 4000000 in
theorem areFull_any (A B : Option Addr) (c d lo hi : Nat) (xs : List Person) (ys : List Union) (a b : Nat) (w : World) (h : EPerson.AS w lo hi A xs) (_h' : EUnion.AS w lo hi B ys) (hh : hi ≤ w.heap.size) (ha : a < xs.length) (hb : b < xs.length) :
    Calls Try.prog 31 #[.agg #[.slice A xs.length c, .slice B ys.length d], .int .i64 a, .int .i64 b] w fun e w' => e = .returned (.bool (fullAt xs a b)) ∧ Below w.heap.size w w' := by
  have hx := h.le
  unfold BIG at hx
  obtain ⟨g, off, ⟨x0, x1, x2, x3, x4, x5⟩, rfl, g1, g2, _, hxk, hc0, hc1, hc2, hc3, hc4, hc5⟩ := APerson.at_ h ha
  obtain ⟨g', off', ⟨y0, y1, y2, y3, y4, y5⟩, he, _, _, _, hyk, hd0, hd1, hd2, hd3, hd4, hd5⟩ := APerson.at_ h hb
  injection he with he; injection he with he1 he2 _; subst he1; subst he2
  rw [fullAt_of hxk hyk]
  clear hxk hyk
  simp only at hc0 hc1 hc2 hc3 hc4 hc5 hd0 hd1 hd2 hd3 hd4 hd5
  generalize hR : fullOf ⟨x0, x1, x2, x3, x4, x5⟩ ⟨y0, y1, y2, y3, y4, y5⟩ a b = R
  have HR := Lib.hid hR; clear hR
  have lb : g < w.heap.size := by omega
  have i1 : (0 : Int) ≤ (a : Int) ∧ (a : Int) < (xs.length : Int) := by omega
  have i2 : (0 : Int) ≤ (b : Int) ∧ (b : Int) < (xs.length : Int) := by omega
  go_enter Try.func31, Try.ntmps31
  go_upto_region 1 with fail
  generalize hW : w.alloc (.cells #[.slice (some ⟨g, off, none⟩) xs.length c, .slice B ys.length d] 26) = W
  have e0 : W.cell? ⟨w.heap.size, 0, none⟩ = some (.slice (some ⟨g, off, none⟩) xs.length c) := by subst hW; simp [go_sem]
  have e1 : W.cell? ⟨w.heap.size, 1, none⟩ = some (.slice B ys.length d) := by subst hW; simp [go_sem]
  have hbW : Below w.heap.size w W := by subst hW; (with_reducible repeat' first | exact Below.refl _ _ | assumption | (refine Below.setCell ?_ (by first | omega | (simp; omega) | (simp; done) | (dsimp only; omega)) _) | (refine Below.alloc ?_ (by first | omega | (simp; omega) | (simp; done) | (dsimp only; omega)) _) | (refine below_drewN ?_ _) | (refine Below.drew ?_))
  have zW : w.heap.size < W.heap.size := by subst hW; simp
  clear hW
  replace hc0 := (hbW.cell (p := ⟨g, off + a * 6, none⟩) lb).trans hc0
  replace hc1 := (hbW.cell (p := ⟨g, off + a * 6 + 1, none⟩) lb).trans hc1
  replace hc2 := (hbW.cell (p := ⟨g, off + a * 6 + 2, none⟩) lb).trans hc2
  replace hc3 := (hbW.cell (p := ⟨g, off + a * 6 + 3, none⟩) lb).trans hc3
  replace hc4 := (hbW.cell (p := ⟨g, off + a * 6 + 4, none⟩) lb).trans hc4
  replace hc5 := (hbW.cell (p := ⟨g, off + a * 6 + 5, none⟩) lb).trans hc5
  replace hd0 := (hbW.cell (p := ⟨g, off + b * 6, none⟩) lb).trans hd0
  replace hd1 := (hbW.cell (p := ⟨g, off + b * 6 + 1, none⟩) lb).trans hd1
  replace hd2 := (hbW.cell (p := ⟨g, off + b * 6 + 2, none⟩) lb).trans hd2
  replace hd3 := (hbW.cell (p := ⟨g, off + b * 6 + 3, none⟩) lb).trans hd3
  replace hd4 := (hbW.cell (p := ⟨g, off + b * 6 + 4, none⟩) lb).trans hd4
  replace hd5 := (hbW.cell (p := ⟨g, off + b * 6 + 5, none⟩) lb).trans hd5
  have lbW : g < W.heap.size := by omega
  go_cut [7, 8] (fun v e wx => ∃ g6 g7 : Nat, v = .pointer (some ⟨g6, 0, none⟩) ∧ e = .pointer (some ⟨g7, 0, none⟩) ∧ Below W.heap.size W wx ∧ W.heap.size ≤ g6 ∧ W.heap.size ≤ g7 ∧ Blk wx g6 48 #[.string x0, .int .i64 x1, .int .i64 x2, .int .i64 x3, .int .i64 x4, .int .i64 x5] ∧ Blk wx g7 48 #[.string y0, .int .i64 y1, .int .i64 y2, .int .i64 y3, .int .i64 y4, .int .i64 y5])
  case first =>
    have vc0 := fun o : Obj => (past1 (p := ⟨g, off + a * 6, none⟩) lbW o).trans hc0
    have xc0 := fun o o' : Obj => (past2 (p := ⟨g, off + a * 6, none⟩) lbW o o').trans hc0
    have vd0 := fun o : Obj => (past1 (p := ⟨g, off + b * 6, none⟩) lbW o).trans hd0
    have xd0 := fun o o' : Obj => (past2 (p := ⟨g, off + b * 6, none⟩) lbW o o').trans hd0
    have vc1 := fun o : Obj => (past1 (p := ⟨g, off + a * 6 + 1, none⟩) lbW o).trans hc1
    have xc1 := fun o o' : Obj => (past2 (p := ⟨g, off + a * 6 + 1, none⟩) lbW o o').trans hc1
    have vd1 := fun o : Obj => (past1 (p := ⟨g, off + b * 6 + 1, none⟩) lbW o).trans hd1
    have xd1 := fun o o' : Obj => (past2 (p := ⟨g, off + b * 6 + 1, none⟩) lbW o o').trans hd1
    have vc2 := fun o : Obj => (past1 (p := ⟨g, off + a * 6 + 2, none⟩) lbW o).trans hc2
    have xc2 := fun o o' : Obj => (past2 (p := ⟨g, off + a * 6 + 2, none⟩) lbW o o').trans hc2
    have vd2 := fun o : Obj => (past1 (p := ⟨g, off + b * 6 + 2, none⟩) lbW o).trans hd2
    have xd2 := fun o o' : Obj => (past2 (p := ⟨g, off + b * 6 + 2, none⟩) lbW o o').trans hd2
    have vc3 := fun o : Obj => (past1 (p := ⟨g, off + a * 6 + 3, none⟩) lbW o).trans hc3
    have xc3 := fun o o' : Obj => (past2 (p := ⟨g, off + a * 6 + 3, none⟩) lbW o o').trans hc3
    have vd3 := fun o : Obj => (past1 (p := ⟨g, off + b * 6 + 3, none⟩) lbW o).trans hd3
    have xd3 := fun o o' : Obj => (past2 (p := ⟨g, off + b * 6 + 3, none⟩) lbW o o').trans hd3
    have vc4 := fun o : Obj => (past1 (p := ⟨g, off + a * 6 + 4, none⟩) lbW o).trans hc4
    have xc4 := fun o o' : Obj => (past2 (p := ⟨g, off + a * 6 + 4, none⟩) lbW o o').trans hc4
    have vd4 := fun o : Obj => (past1 (p := ⟨g, off + b * 6 + 4, none⟩) lbW o).trans hd4
    have xd4 := fun o o' : Obj => (past2 (p := ⟨g, off + b * 6 + 4, none⟩) lbW o o').trans hd4
    have vc5 := fun o : Obj => (past1 (p := ⟨g, off + a * 6 + 5, none⟩) lbW o).trans hc5
    have xc5 := fun o o' : Obj => (past2 (p := ⟨g, off + a * 6 + 5, none⟩) lbW o o').trans hc5
    have vd5 := fun o : Obj => (past1 (p := ⟨g, off + b * 6 + 5, none⟩) lbW o).trans hd5
    have xd5 := fun o o' : Obj => (past2 (p := ⟨g, off + b * 6 + 5, none⟩) lbW o o').trans hd5
    go_region
    all_goals
      go_wp2_with fail
      go_meet
      refine ⟨_, _, rfl, rfl, by (with_reducible repeat' first | exact Below.refl _ _ | assumption | (refine Below.setCell ?_ (by first | omega | (simp; omega) | (simp; done) | (dsimp only; omega)) _) | (refine Below.alloc ?_ (by first | omega | (simp; omega) | (simp; done) | (dsimp only; omega)) _) | (refine below_drewN ?_ _) | (refine Below.drew ?_)), by omega, by omega, ?_, ?_⟩
      all_goals first
        | exact ((Blk.new (t := 48) W (by omega)).alloc _).drew
        | exact (Blk.new (t := 48) (W.alloc _) (by simp)).drew
  case rest =>
    obtain ⟨g6, g7, rfl, rfl, hb1, l6, l7, R6, R7⟩ := hcut
    obtain ⟨w1, rfl⟩ : ∃ w1 : World, w1 = wc := ⟨_, rfl⟩
    have hb2 := hbW.trans (hb1.mono (by omega))
    have p2 := R6.cell (i := 2) rfl
    have p3 := R6.cell (i := 3) rfl
    have q2 := R7.cell (i := 2) rfl
    have q3 := R7.cell (i := 3) rfl
    clear hc0 hc1 hc2 hc3 hc4 hc5 hd0 hd1 hd2 hd3 hd4 hd5
    by_cases c0 : a = b
    · have HN := Lib.hid (HR.out.symm.trans (show _ = false by simp [fullOf, c0]))
      subst c0
      have n1 : ((a : Int) != (a : Int)) = false := by simp
      have n2 : ((a : Int) == (a : Int)) = true := by simp
      go_wp2
      go_ret
      exact ⟨ret_bool (by rw [HN.out]; try simp), by (with_reducible repeat' first | exact Below.refl _ _ | assumption | (refine Below.setCell ?_ (by first | omega | (simp; omega) | (simp; done) | (dsimp only; omega)) _) | (refine Below.alloc ?_ (by first | omega | (simp; omega) | (simp; done) | (dsimp only; omega)) _) | (refine below_drewN ?_ _) | (refine Below.drew ?_) | (refine Below.trans ?_ (hb2.mono (by first | omega | (simp; omega) | (simp; done) | (dsimp only; omega)))))⟩
    · have n1 : ((a : Int) != (b : Int)) = true := by simp; omega
      have n2 : ((a : Int) == (b : Int)) = false := by simp; omega
      by_cases c1 : 0 ≤ x2
      · by_cases c2 : 0 ≤ x3
        · by_cases c3 : x2 = y2
          · have n3 : (x2 == y2) = true := by simp [c3]
            by_cases c4 : x3 = y3
            · have HN := Lib.hid (HR.out.symm.trans (show _ = true by simp [fullOf, c0, c1, c2, ← c3, ← c4]))
              have n4 : (x3 == y3) = true := by simp [c4]
              clear c3 c4
              go_wp2
              go_ret
              exact ⟨ret_bool (by rw [HN.out]; try simp), by (with_reducible repeat' first | exact Below.refl _ _ | assumption | (refine Below.setCell ?_ (by first | omega | (simp; omega) | (simp; done) | (dsimp only; omega)) _) | (refine Below.alloc ?_ (by first | omega | (simp; omega) | (simp; done) | (dsimp only; omega)) _) | (refine below_drewN ?_ _) | (refine Below.drew ?_) | (refine Below.trans ?_ (hb2.mono (by first | omega | (simp; omega) | (simp; done) | (dsimp only; omega)))))⟩
            · have HN := Lib.hid (HR.out.symm.trans (show _ = false by simp [fullOf, c4]))
              have n4 : (x3 == y3) = false := by simp [c4]
              clear c3 c4
              go_wp2
              go_ret
              exact ⟨ret_bool (by rw [HN.out]; try simp), by (with_reducible repeat' first | exact Below.refl _ _ | assumption | (refine Below.setCell ?_ (by first | omega | (simp; omega) | (simp; done) | (dsimp only; omega)) _) | (refine Below.alloc ?_ (by first | omega | (simp; omega) | (simp; done) | (dsimp only; omega)) _) | (refine below_drewN ?_ _) | (refine Below.drew ?_) | (refine Below.trans ?_ (hb2.mono (by first | omega | (simp; omega) | (simp; done) | (dsimp only; omega)))))⟩
          · have HN := Lib.hid (HR.out.symm.trans (show _ = false by simp [fullOf, c3]))
            have n3 : (x2 == y2) = false := by simp [c3]
            clear c3
            go_wp2
            go_ret
            exact ⟨ret_bool (by rw [HN.out]; try simp), by (with_reducible repeat' first | exact Below.refl _ _ | assumption | (refine Below.setCell ?_ (by first | omega | (simp; omega) | (simp; done) | (dsimp only; omega)) _) | (refine Below.alloc ?_ (by first | omega | (simp; omega) | (simp; done) | (dsimp only; omega)) _) | (refine below_drewN ?_ _) | (refine Below.drew ?_) | (refine Below.trans ?_ (hb2.mono (by first | omega | (simp; omega) | (simp; done) | (dsimp only; omega)))))⟩
        · have HN := Lib.hid (HR.out.symm.trans (show _ = false by simp [fullOf, c2]))
          go_wp2
          go_ret
          exact ⟨ret_bool (by rw [HN.out]; try simp), by (with_reducible repeat' first | exact Below.refl _ _ | assumption | (refine Below.setCell ?_ (by first | omega | (simp; omega) | (simp; done) | (dsimp only; omega)) _) | (refine Below.alloc ?_ (by first | omega | (simp; omega) | (simp; done) | (dsimp only; omega)) _) | (refine below_drewN ?_ _) | (refine Below.drew ?_) | (refine Below.trans ?_ (hb2.mono (by first | omega | (simp; omega) | (simp; done) | (dsimp only; omega)))))⟩
      · have HN := Lib.hid (HR.out.symm.trans (show _ = false by simp [fullOf, c1]))
        go_wp2
        go_ret
        exact ⟨ret_bool (by rw [HN.out]; try simp), by (with_reducible repeat' first | exact Below.refl _ _ | assumption | (refine Below.setCell ?_ (by first | omega | (simp; omega) | (simp; done) | (dsimp only; omega)) _) | (refine Below.alloc ?_ (by first | omega | (simp; omega) | (simp; done) | (dsimp only; omega)) _) | (refine below_drewN ?_ _) | (refine Below.drew ?_) | (refine Below.trans ?_ (hb2.mono (by first | omega | (simp; omega) | (simp; done) | (dsimp only; omega)))))⟩

set_option maxHeartbeats 4000000 in
theorem isParent_any (A B : Option Addr) (c d lo hi : Nat) (xs : List Person) (ys : List Union) (a b : Nat) (w : World) (h : EPerson.AS w lo hi A xs) (_h' : EUnion.AS w lo hi B ys) (hh : hi ≤ w.heap.size) (hb : b < xs.length) :
    Calls Try.prog 56 #[.agg #[.slice A xs.length c, .slice B ys.length d], .int .i64 a, .int .i64 b] w fun e w' => e = .returned (.bool (kidAt xs a b)) ∧ Below w.heap.size w w' := by
  have hx := h.le
  unfold BIG at hx
  obtain ⟨g, off, ⟨y0, y1, y2, y3, y4, y5⟩, rfl, g1, g2, _, hyk, hd0, hd1, hd2, hd3, hd4, hd5⟩ := APerson.at_ h hb
  rw [kidAt_of hyk]
  clear hyk
  simp only at hd0 hd1 hd2 hd3 hd4 hd5
  generalize hR : kidOf ⟨y0, y1, y2, y3, y4, y5⟩ a = R
  have HR := Lib.hid hR; clear hR
  have lb : g < w.heap.size := by omega
  have i2 : (0 : Int) ≤ (b : Int) ∧ (b : Int) < (xs.length : Int) := by omega
  by_cases c1 : y2 = (a : Int)
  · have HN := Lib.hid (HR.out.symm.trans (show _ = true by simp [kidOf, c1]))
    have n1 : (y2 == (a : Int)) = true := by simp [c1]
    clear c1
    go_enter Try.func56, Try.ntmps56
    go_wp2
    go_ret
    exact ⟨ret_bool (by rw [HN.out]), by (with_reducible repeat' first | exact Below.refl _ _ | assumption | (refine Below.setCell ?_ (by first | omega | (simp; omega) | (simp; done) | (dsimp only; omega)) _) | (refine Below.alloc ?_ (by first | omega | (simp; omega) | (simp; done) | (dsimp only; omega)) _) | (refine below_drewN ?_ _) | (refine Below.drew ?_))⟩
  · have n1 : (y2 == (a : Int)) = false := by simp [c1]
    by_cases c2 : y3 = (a : Int)
    · have HN := Lib.hid (HR.out.symm.trans (show _ = true by simp [kidOf, c2]))
      have n2 : (y3 == (a : Int)) = true := by simp [c2]
      clear c1 c2
      go_enter Try.func56, Try.ntmps56
      go_wp2
      go_ret
      exact ⟨ret_bool (by rw [HN.out]), by (with_reducible repeat' first | exact Below.refl _ _ | assumption | (refine Below.setCell ?_ (by first | omega | (simp; omega) | (simp; done) | (dsimp only; omega)) _) | (refine Below.alloc ?_ (by first | omega | (simp; omega) | (simp; done) | (dsimp only; omega)) _) | (refine below_drewN ?_ _) | (refine Below.drew ?_))⟩
    · have HN := Lib.hid (HR.out.symm.trans (show _ = false by simp [kidOf, c1, c2]))
      have n2 : (y3 == (a : Int)) = false := by simp [c2]
      clear c1 c2
      go_enter Try.func56, Try.ntmps56
      go_wp2
      go_ret
      exact ⟨ret_bool (by rw [HN.out]), by (with_reducible repeat' first | exact Below.refl _ _ | assumption | (refine Below.setCell ?_ (by first | omega | (simp; omega) | (simp; done) | (dsimp only; omega)) _) | (refine Below.alloc ?_ (by first | omega | (simp; omega) | (simp; done) | (dsimp only; omega)) _) | (refine below_drewN ?_ _) | (refine Below.drew ?_))⟩

theorem quiet_sameI {P : Program} {f : FuncId} {args : Array Value} {w : World} {n : Nat} {v : Value} (h : Calls P f args (w.drewN n) fun e w' => e = .returned v ∧ w.drewN n = w') :
    Calls P f args (w.drewN n) fun e w'' => e = .returned v ∧ ∃ m, w'' = w.drewN m := h.mono fun _ _ ⟨he, hm⟩ => ⟨he, n, hm.symm⟩
theorem lead_sex {k : Int} (h : 1 ≤ k ∧ k ≤ 8) : sexTo k = 1 ∧ (k = 1 ∨ k = 3 ∨ k = 5 ∨ k = 7) ∨ sexTo k = 2 ∧ (k = 2 ∨ k = 4 ∨ k = 6 ∨ k = 8) := by
  rcases (by omega : k = 1 ∨ k = 2 ∨ k = 3 ∨ k = 4 ∨ k = 5 ∨ k = 6 ∨ k = 7 ∨ k = 8) with rfl | rfl | rfl | rfl | rfl | rfl | rfl | rfl <;> simp [sexTo]

end Go.Proofs.Ythpcippgifmabaa
