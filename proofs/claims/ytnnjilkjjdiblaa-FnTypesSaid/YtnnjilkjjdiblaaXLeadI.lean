/-
  Where a step leads, in the program.
-/
import Derived.Test.YtnnjilkjjdiblaaXGLead
import Derived.Test.YtnnjilkjjdiblaaXGFamI
import Derived.Test.YtnnjilkjjdiblaaXGRule
namespace Go.Proofs.Ytnnjilkjjdiblaa
set_option maxRecDepth 100000
open Go.RowKit

set_option maxHeartbeats 4000000 in
theorem areFull_any (A B : Option Addr) (c d lo hi : Nat) (xs : List Person) (ys : List Union) (a b : Nat) (w : World) (h : EPerson.AS w lo hi A xs) (_h' : EUnion.AS w lo hi B ys) (hh : hi ≤ w.heap.size) (ha : a < xs.length) (hb : b < xs.length) :
    Calls Try.prog 159 #[.agg #[.slice A xs.length c, .slice B ys.length d], .int .i64 a, .int .i64 b] w fun e w' => e = .returned (.bool (fullAt xs a b)) ∧ Below w.heap.size w w' := by
  have hx := h.le
  unfold BIG at hx
  obtain ⟨g, off, ⟨x0, x1, x2, x3, x4, x5⟩, rfl, g1, g2, _, hxk, hc0, hc1, hc2, hc3, hc4, hc5⟩ := APerson.at_ h ha
  obtain ⟨g', off', ⟨y0, y1, y2, y3, y4, y5⟩, he, _, _, _, hyk, hd0, hd1, hd2, hd3, hd4, hd5⟩ := APerson.at_ h hb
  injection he with he; injection he with he1 he2 _; subst he1; subst he2
  rw [fullAt_of hxk hyk]
  clear hxk hyk
  simp only at hc0 hc1 hc2 hc3 hc4 hc5 hd0 hd1 hd2 hd3 hd4 hd5
  generalize hR : fullOf ⟨x0, x1, x2, x3, x4, x5⟩ ⟨y0, y1, y2, y3, y4, y5⟩ a b = R
  have HR := Lib.hid hR; clear hR
  have lb : g < w.heap.size := by omega
  have i1 : (0 : Int) ≤ (a : Int) ∧ (a : Int) < (xs.length : Int) := by omega
  have i2 : (0 : Int) ≤ (b : Int) ∧ (b : Int) < (xs.length : Int) := by omega
  go_enter Try.func159, Try.ntmps159
  go_upto_region 1 with fail
  generalize hW : w.alloc (.cells #[.slice (some ⟨g, off, none⟩) xs.length c, .slice B ys.length d] 26) = W
  have e0 : W.cell? ⟨w.heap.size, 0, none⟩ = some (.slice (some ⟨g, off, none⟩) xs.length c) := by subst hW; simp [go_sem]
  have e1 : W.cell? ⟨w.heap.size, 1, none⟩ = some (.slice B ys.length d) := by subst hW; simp [go_sem]
  have hbW : Below w.heap.size w W := by subst hW; (with_reducible repeat' first | exact Below.refl _ _ | assumption | (refine Below.setCell ?_ (by first | omega | (simp; omega) | (simp; done) | (dsimp only; omega)) _) | (refine Below.alloc ?_ (by first | omega | (simp; omega) | (simp; done) | (dsimp only; omega)) _) | (refine below_drewN ?_ _) | (refine Below.drew ?_))
  have zW : w.heap.size < W.heap.size := by subst hW; simp
  clear hW
  replace hc0 := (hbW.cell (p := ⟨g, off + a * 6, none⟩) lb).trans hc0
  replace hc1 := (hbW.cell (p := ⟨g, off + a * 6 + 1, none⟩) lb).trans hc1
  replace hc2 := (hbW.cell (p := ⟨g, off + a * 6 + 2, none⟩) lb).trans hc2
  replace hc3 := (hbW.cell (p := ⟨g, off + a * 6 + 3, none⟩) lb).trans hc3
  replace hc4 := (hbW.cell (p := ⟨g, off + a * 6 + 4, none⟩) lb).trans hc4
  replace hc5 := (hbW.cell (p := ⟨g, off + a * 6 + 5, none⟩) lb).trans hc5
  replace hd0 := (hbW.cell (p := ⟨g, off + b * 6, none⟩) lb).trans hd0
  replace hd1 := (hbW.cell (p := ⟨g, off + b * 6 + 1, none⟩) lb).trans hd1
  replace hd2 := (hbW.cell (p := ⟨g, off + b * 6 + 2, none⟩) lb).trans hd2
  replace hd3 := (hbW.cell (p := ⟨g, off + b * 6 + 3, none⟩) lb).trans hd3
  replace hd4 := (hbW.cell (p := ⟨g, off + b * 6 + 4, none⟩) lb).trans hd4
  replace hd5 := (hbW.cell (p := ⟨g, off + b * 6 + 5, none⟩) lb).trans hd5
  have lbW : g < W.heap.size := by omega
  go_cut [7, 8] (fun v e wx => ∃ g6 g7 : Nat, v = .pointer (some ⟨g6, 0, none⟩) ∧ e = .pointer (some ⟨g7, 0, none⟩) ∧ Below W.heap.size W wx ∧ W.heap.size ≤ g6 ∧ W.heap.size ≤ g7 ∧ Blk wx g6 99 #[.string x0, .int .i64 x1, .int .i64 x2, .int .i64 x3, .int .i64 x4, .int .i64 x5] ∧ Blk wx g7 99 #[.string y0, .int .i64 y1, .int .i64 y2, .int .i64 y3, .int .i64 y4, .int .i64 y5])
  case first =>
    have vc0 := fun o : Obj => (past1 (p := ⟨g, off + a * 6, none⟩) lbW o).trans hc0
    have xc0 := fun o o' : Obj => (past2 (p := ⟨g, off + a * 6, none⟩) lbW o o').trans hc0
    have vd0 := fun o : Obj => (past1 (p := ⟨g, off + b * 6, none⟩) lbW o).trans hd0
    have xd0 := fun o o' : Obj => (past2 (p := ⟨g, off + b * 6, none⟩) lbW o o').trans hd0
    have vc1 := fun o : Obj => (past1 (p := ⟨g, off + a * 6 + 1, none⟩) lbW o).trans hc1
    have xc1 := fun o o' : Obj => (past2 (p := ⟨g, off + a * 6 + 1, none⟩) lbW o o').trans hc1
    have vd1 := fun o : Obj => (past1 (p := ⟨g, off + b * 6 + 1, none⟩) lbW o).trans hd1
    have xd1 := fun o o' : Obj => (past2 (p := ⟨g, off + b * 6 + 1, none⟩) lbW o o').trans hd1
    have vc2 := fun o : Obj => (past1 (p := ⟨g, off + a * 6 + 2, none⟩) lbW o).trans hc2
    have xc2 := fun o o' : Obj => (past2 (p := ⟨g, off + a * 6 + 2, none⟩) lbW o o').trans hc2
    have vd2 := fun o : Obj => (past1 (p := ⟨g, off + b * 6 + 2, none⟩) lbW o).trans hd2
    have xd2 := fun o o' : Obj => (past2 (p := ⟨g, off + b * 6 + 2, none⟩) lbW o o').trans hd2
    have vc3 := fun o : Obj => (past1 (p := ⟨g, off + a * 6 + 3, none⟩) lbW o).trans hc3
    have xc3 := fun o o' : Obj => (past2 (p := ⟨g, off + a * 6 + 3, none⟩) lbW o o').trans hc3
    have vd3 := fun o : Obj => (past1 (p := ⟨g, off + b * 6 + 3, none⟩) lbW o).trans hd3
    have xd3 := fun o o' : Obj => (past2 (p := ⟨g, off + b * 6 + 3, none⟩) lbW o o').trans hd3
    have vc4 := fun o : Obj => (past1 (p := ⟨g, off + a * 6 + 4, none⟩) lbW o).trans hc4
    have xc4 := fun o o' : Obj => (past2 (p := ⟨g, off + a * 6 + 4, none⟩) lbW o o').trans hc4
    have vd4 := fun o : Obj => (past1 (p := ⟨g, off + b * 6 + 4, none⟩) lbW o).trans hd4
    have xd4 := fun o o' : Obj => (past2 (p := ⟨g, off + b * 6 + 4, none⟩) lbW o o').trans hd4
    have vc5 := fun o : Obj => (past1 (p := ⟨g, off + a * 6 + 5, none⟩) lbW o).trans hc5
    have xc5 := fun o o' : Obj => (past2 (p := ⟨g, off + a * 6 + 5, none⟩) lbW o o').trans hc5
    have vd5 := fun o : Obj => (past1 (p := ⟨g, off + b * 6 + 5, none⟩) lbW o).trans hd5
    have xd5 := fun o o' : Obj => (past2 (p := ⟨g, off + b * 6 + 5, none⟩) lbW o o').trans hd5
    go_region
    all_goals
      go_wp2_with fail
      go_meet
      refine ⟨_, _, rfl, rfl, by (with_reducible repeat' first | exact Below.refl _ _ | assumption | (refine Below.setCell ?_ (by first | omega | (simp; omega) | (simp; done) | (dsimp only; omega)) _) | (refine Below.alloc ?_ (by first | omega | (simp; omega) | (simp; done) | (dsimp only; omega)) _) | (refine below_drewN ?_ _) | (refine Below.drew ?_)), by omega, by omega, ?_, ?_⟩
      all_goals first
        | exact ((Blk.new (t := 99) W (by omega)).alloc _).drew
        | exact (Blk.new (t := 99) (W.alloc _) (by simp)).drew
  case rest =>
    obtain ⟨g6, g7, rfl, rfl, hb1, l6, l7, R6, R7⟩ := hcut
    obtain ⟨w1, rfl⟩ : ∃ w1 : World, w1 = wc := ⟨_, rfl⟩
    have hb2 := hbW.trans (hb1.mono (by omega))
    have p2 := R6.cell (i := 2) rfl
    have p3 := R6.cell (i := 3) rfl
    have q2 := R7.cell (i := 2) rfl
    have q3 := R7.cell (i := 3) rfl
    clear hc0 hc1 hc2 hc3 hc4 hc5 hd0 hd1 hd2 hd3 hd4 hd5
    by_cases c0 : a = b
    · have HN := Lib.hid (HR.out.symm.trans (show _ = false by simp [fullOf, c0]))
      subst c0
      have n1 : ((a : Int) != (a : Int)) = false := by simp
      have n2 : ((a : Int) == (a : Int)) = true := by simp
      go_wp2
      go_ret
      exact ⟨ret_bool (by rw [HN.out]; try simp), by (with_reducible repeat' first | exact Below.refl _ _ | assumption | (refine Below.setCell ?_ (by first | omega | (simp; omega) | (simp; done) | (dsimp only; omega)) _) | (refine Below.alloc ?_ (by first | omega | (simp; omega) | (simp; done) | (dsimp only; omega)) _) | (refine below_drewN ?_ _) | (refine Below.drew ?_) | (refine Below.trans ?_ (hb2.mono (by first | omega | (simp; omega) | (simp; done) | (dsimp only; omega)))))⟩
    · have n1 : ((a : Int) != (b : Int)) = true := by simp; omega
      have n2 : ((a : Int) == (b : Int)) = false := by simp; omega
      by_cases c1 : 0 ≤ x2
      · by_cases c2 : 0 ≤ x3
        · by_cases c3 : x2 = y2
          · have n3 : (x2 == y2) = true := by simp [c3]
            by_cases c4 : x3 = y3
            · have HN := Lib.hid (HR.out.symm.trans (show _ = true by simp [fullOf, c0, c1, c2, ← c3, ← c4]))
              have n4 : (x3 == y3) = true := by simp [c4]
              clear c3 c4
              go_wp2
              go_ret
              exact ⟨ret_bool (by rw [HN.out]; try simp), by (with_reducible repeat' first | exact Below.refl _ _ | assumption | (refine Below.setCell ?_ (by first | omega | (simp; omega) | (simp; done) | (dsimp only; omega)) _) | (refine Below.alloc ?_ (by first | omega | (simp; omega) | (simp; done) | (dsimp only; omega)) _) | (refine below_drewN ?_ _) | (refine Below.drew ?_) | (refine Below.trans ?_ (hb2.mono (by first | omega | (simp; omega) | (simp; done) | (dsimp only; omega)))))⟩
            · have HN := Lib.hid (HR.out.symm.trans (show _ = false by simp [fullOf, c4]))
              have n4 : (x3 == y3) = false := by simp [c4]
              clear c3 c4
              go_wp2
              go_ret
              exact ⟨ret_bool (by rw [HN.out]; try simp), by (with_reducible repeat' first | exact Below.refl _ _ | assumption | (refine Below.setCell ?_ (by first | omega | (simp; omega) | (simp; done) | (dsimp only; omega)) _) | (refine Below.alloc ?_ (by first | omega | (simp; omega) | (simp; done) | (dsimp only; omega)) _) | (refine below_drewN ?_ _) | (refine Below.drew ?_) | (refine Below.trans ?_ (hb2.mono (by first | omega | (simp; omega) | (simp; done) | (dsimp only; omega)))))⟩
          · have HN := Lib.hid (HR.out.symm.trans (show _ = false by simp [fullOf, c3]))
            have n3 : (x2 == y2) = false := by simp [c3]
            clear c3
            go_wp2
            go_ret
            exact ⟨ret_bool (by rw [HN.out]; try simp), by (with_reducible repeat' first | exact Below.refl _ _ | assumption | (refine Below.setCell ?_ (by first | omega | (simp; omega) | (simp; done) | (dsimp only; omega)) _) | (refine Below.alloc ?_ (by first | omega | (simp; omega) | (simp; done) | (dsimp only; omega)) _) | (refine below_drewN ?_ _) | (refine Below.drew ?_) | (refine Below.trans ?_ (hb2.mono (by first | omega | (simp; omega) | (simp; done) | (dsimp only; omega)))))⟩
        · have HN := Lib.hid (HR.out.symm.trans (show _ = false by simp [fullOf, c2]))
          go_wp2
          go_ret
          exact ⟨ret_bool (by rw [HN.out]; try simp), by (with_reducible repeat' first | exact Below.refl _ _ | assumption | (refine Below.setCell ?_ (by first | omega | (simp; omega) | (simp; done) | (dsimp only; omega)) _) | (refine Below.alloc ?_ (by first | omega | (simp; omega) | (simp; done) | (dsimp only; omega)) _) | (refine below_drewN ?_ _) | (refine Below.drew ?_) | (refine Below.trans ?_ (hb2.mono (by first | omega | (simp; omega) | (simp; done) | (dsimp only; omega)))))⟩
      · have HN := Lib.hid (HR.out.symm.trans (show _ = false by simp [fullOf, c1]))
        go_wp2
        go_ret
        exact ⟨ret_bool (by rw [HN.out]; try simp), by (with_reducible repeat' first | exact Below.refl _ _ | assumption | (refine Below.setCell ?_ (by first | omega | (simp; omega) | (simp; done) | (dsimp only; omega)) _) | (refine Below.alloc ?_ (by first | omega | (simp; omega) | (simp; done) | (dsimp only; omega)) _) | (refine below_drewN ?_ _) | (refine Below.drew ?_) | (refine Below.trans ?_ (hb2.mono (by first | omega | (simp; omega) | (simp; done) | (dsimp only; omega)))))⟩

set_option maxHeartbeats 4000000 in
theorem isParent_any (A B : Option Addr) (c d lo hi : Nat) (xs : List Person) (ys : List Union) (a b : Nat) (w : World) (h : EPerson.AS w lo hi A xs) (_h' : EUnion.AS w lo hi B ys) (hh : hi ≤ w.heap.size) (hb : b < xs.length) :
    Calls Try.prog 180 #[.agg #[.slice A xs.length c, .slice B ys.length d], .int .i64 a, .int .i64 b] w fun e w' => e = .returned (.bool (kidAt xs a b)) ∧ Below w.heap.size w w' := by
  have hx := h.le
  unfold BIG at hx
  obtain ⟨g, off, ⟨y0, y1, y2, y3, y4, y5⟩, rfl, g1, g2, _, hyk, hd0, hd1, hd2, hd3, hd4, hd5⟩ := APerson.at_ h hb
  rw [kidAt_of hyk]
  clear hyk
  simp only at hd0 hd1 hd2 hd3 hd4 hd5
  generalize hR : kidOf ⟨y0, y1, y2, y3, y4, y5⟩ a = R
  have HR := Lib.hid hR; clear hR
  have lb : g < w.heap.size := by omega
  have i2 : (0 : Int) ≤ (b : Int) ∧ (b : Int) < (xs.length : Int) := by omega
  by_cases c1 : y2 = (a : Int)
  · have HN := Lib.hid (HR.out.symm.trans (show _ = true by simp [kidOf, c1]))
    have n1 : (y2 == (a : Int)) = true := by simp [c1]
    clear c1
    go_enter Try.func180, Try.ntmps180
    go_wp2
    go_ret
    exact ⟨ret_bool (by rw [HN.out]), by (with_reducible repeat' first | exact Below.refl _ _ | assumption | (refine Below.setCell ?_ (by first | omega | (simp; omega) | (simp; done) | (dsimp only; omega)) _) | (refine Below.alloc ?_ (by first | omega | (simp; omega) | (simp; done) | (dsimp only; omega)) _) | (refine below_drewN ?_ _) | (refine Below.drew ?_))⟩
  · have n1 : (y2 == (a : Int)) = false := by simp [c1]
    by_cases c2 : y3 = (a : Int)
    · have HN := Lib.hid (HR.out.symm.trans (show _ = true by simp [kidOf, c2]))
      have n2 : (y3 == (a : Int)) = true := by simp [c2]
      clear c1 c2
      go_enter Try.func180, Try.ntmps180
      go_wp2
      go_ret
      exact ⟨ret_bool (by rw [HN.out]), by (with_reducible repeat' first | exact Below.refl _ _ | assumption | (refine Below.setCell ?_ (by first | omega | (simp; omega) | (simp; done) | (dsimp only; omega)) _) | (refine Below.alloc ?_ (by first | omega | (simp; omega) | (simp; done) | (dsimp only; omega)) _) | (refine below_drewN ?_ _) | (refine Below.drew ?_))⟩
    · have HN := Lib.hid (HR.out.symm.trans (show _ = false by simp [kidOf, c1, c2]))
      have n2 : (y3 == (a : Int)) = false := by simp [c2]
      clear c1 c2
      go_enter Try.func180, Try.ntmps180
      go_wp2
      go_ret
      exact ⟨ret_bool (by rw [HN.out]), by (with_reducible repeat' first | exact Below.refl _ _ | assumption | (refine Below.setCell ?_ (by first | omega | (simp; omega) | (simp; done) | (dsimp only; omega)) _) | (refine Below.alloc ?_ (by first | omega | (simp; omega) | (simp; done) | (dsimp only; omega)) _) | (refine below_drewN ?_ _) | (refine Below.drew ?_))⟩

theorem quiet_sameI {P : Program} {f : FuncId} {args : Array Value} {w : World} {n : Nat} {v : Value} (h : Calls P f args (w.drewN n) fun e w' => e = .returned v ∧ w.drewN n = w') :
    Calls P f args (w.drewN n) fun e w'' => e = .returned v ∧ ∃ m, w'' = w.drewN m := h.mono fun _ _ ⟨he, hm⟩ => ⟨he, n, hm.symm⟩
theorem stepSex_quiet (k x : Int) (w : World) (n : Nat) (h : 1 ≤ k ∧ k ≤ 8) (hx : sexTo k = x) : Calls Try.prog 173 #[.int .i64 k] (w.drewN n) fun e w'' => e = .returned (.int .i64 x) ∧ ∃ m, w'' = w.drewN m := by
  subst hx; exact quiet_sameI (stepSex_any k _ h.1 h.2)

set_option maxHeartbeats 8000000 in
theorem ruleStep (W : World) (bf bs bp bm m : Nat) (A B : Option Addr) (c d lo hi : Nat) (xs : List Person) (ys : List Union) (kd ag : Int) (S : Lit → Bool) (hfam : famOk xs ys = true) (hk : 1 ≤ kd ∧ kd ≤ 8) (hX : EPerson.AS W lo hi A xs) (hY : EUnion.AS W lo hi B ys) (hh : hi ≤ W.heap.size)
    (f0 : W.cell? ⟨bf, 0, none⟩ = some (.slice A xs.length c)) (f1 : W.cell? ⟨bf, 1, none⟩ = some (.slice B ys.length d)) (s0 : W.cell? ⟨bs, 0, none⟩ = some (.int .i64 kd)) (s1 : W.cell? ⟨bs, 1, none⟩ = some (.int .i64 ag))
    (c1 : W.cell? ⟨bp, 0, none⟩ = some (.map (some bm))) (hs : BSet W 181 bm m S) (hS : ∀ (a b : Nat) kl, a < xs.length → b < xs.length → keyOf Try.prog 181 (.agg #[.int .i64 a, .int .i64 b]) = some kl → S kl = hasP (wedL kd ys) a b) (l1 : bf < W.heap.size) (l2 : bs < W.heap.size) (l3 : bp < W.heap.size) :
    Rule2 W xs.length 0 W.heap.size 179 #[] #[.pointer (some ⟨bf, 0, none⟩), .pointer (some ⟨bs, 0, none⟩), .pointer (some ⟨bp, 0, none⟩)] (leadM xs ys ⟨kd, ag⟩) where
  enter := fun args w' => by kernel_rfl
  ans := fun a b w' ha hb hw => by
    have zw := hw.size
    have f0' := (hw.cell (p := ⟨bf, 0, none⟩) (Nat.zero_le _) l1).trans f0
    have f1' := (hw.cell (p := ⟨bf, 1, none⟩) (Nat.zero_le _) l1).trans f1
    have s0' := (hw.cell (p := ⟨bs, 0, none⟩) (Nat.zero_le _) l2).trans s0
    have s1' := (hw.cell (p := ⟨bs, 1, none⟩) (Nat.zero_le _) l2).trans s1
    have c1' := (hw.cell (p := ⟨bp, 0, none⟩) (Nat.zero_le _) l3).trans c1
    have lf : bf < w'.heap.size := by omega
    have ls : bs < w'.heap.size := by omega
    have lp : bp < w'.heap.size := by omega
    have h := hX.same (hw.mono (Nat.zero_le _) hh)
    have h' := hY.same (hw.mono (Nat.zero_le _) hh)
    have hh' : hi ≤ w'.heap.size := by omega
    obtain ⟨kl, hkl⟩ := pair_key (a := a) (b := b) (by have := (famOk_parts hfam).1; omega) (by have := (famOk_parts hfam).1; omega)
    have hSk := hS a b kl ha hb hkl
    have hset := hs.same hw (Nat.zero_le _) hs.lt
    have HLOOK := Lib.hid (fun (n : Nat) => (hset.same (Same.drewN (Same.refl 0 w'.heap.size w') n) (Nat.zero_le _) hset.lt).look pair_keyed pair_map hkl)
    have HSK := Lib.hid hSk
    clear f0 f1 s0 s1 c1 hs hS hX hY hw hSk hset l1 l2 l3
    have hx := h.le
    unfold BIG at hx
    obtain ⟨g, off, ⟨x0, x1, x2, x3, x4, x5⟩, rfl, g1, g2, _, hxk, hc0, hc1, hc2, hc3, hc4, hc5⟩ := APerson.at_ h ha
    obtain ⟨g', off', ⟨y0, y1, y2, y3, y4, y5⟩, he, _, _, _, hyk, hd0, hd1, hd2, hd3, hd4, hd5⟩ := APerson.at_ h hb
    injection he with he; injection he with he1 he2 _; subst he1; subst he2
    rw [← leadI_eq hfam hk hxk hyk]
    have HKY := Lib.hid hyk; clear hxk hyk hfam
    simp only at hc0 hc1 hc2 hc3 hc4 hc5 hd0 hd1 hd2 hd3 hd4 hd5
    generalize hR : leadI xs ys ⟨kd, ag⟩ a b ⟨x0, x1, x2, x3, x4, x5⟩ ⟨y0, y1, y2, y3, y4, y5⟩ = R
    have HR := Lib.hid hR; clear hR
    have lb : g < w'.heap.size := by omega
    have i1 : (0 : Int) ≤ (a : Int) ∧ (a : Int) < (xs.length : Int) := by omega
    have i2 : (0 : Int) ≤ (b : Int) ∧ (b : Int) < (xs.length : Int) := by omega
    rcases (by omega : kd = 1 ∨ kd = 2 ∨ kd = 3 ∨ kd = 4 ∨ kd = 5 ∨ kd = 6 ∨ kd = 7 ∨ kd = 8) with rfl | rfl | rfl | rfl | rfl | rfl | rfl | rfl
    · have HX := Lib.hid (show sexTo 1 = 1 from rfl)
      by_cases c1 : x2 = (b : Int)
      · have HN := Lib.hid (HR.out.symm.trans (show _ = true by simp [leadI, c1]))
        have n1 : (x2 == (b : Int)) = true := by simp [c1]
        clear c1
        go_enter Try.func179, Try.ntmps179
        go_wp2_with fail
        go_quiet ((go_at_call 173; exact stepSex_quiet 1 _ _ _ hk HX.out))
        go_wp2
        go_ret
        exact ⟨ret_bool (by rw [HN.out]; try simp), by (with_reducible repeat' first | exact Below.refl _ _ | assumption | (refine Below.setCell ?_ (by first | omega | (simp; omega) | (simp; done) | (dsimp only; omega)) _) | (refine Below.alloc ?_ (by first | omega | (simp; omega) | (simp; done) | (dsimp only; omega)) _) | (refine below_drewN ?_ _) | (refine Below.drew ?_))⟩
      · have HN := Lib.hid (HR.out.symm.trans (show _ = false by simp [leadI, c1]))
        have n1 : (x2 == (b : Int)) = false := by simp [c1]
        clear c1
        go_enter Try.func179, Try.ntmps179
        go_wp2_with fail
        go_quiet ((go_at_call 173; exact stepSex_quiet 1 _ _ _ hk HX.out))
        go_wp2
        go_ret
        exact ⟨ret_bool (by rw [HN.out]; try simp), by (with_reducible repeat' first | exact Below.refl _ _ | assumption | (refine Below.setCell ?_ (by first | omega | (simp; omega) | (simp; done) | (dsimp only; omega)) _) | (refine Below.alloc ?_ (by first | omega | (simp; omega) | (simp; done) | (dsimp only; omega)) _) | (refine below_drewN ?_ _) | (refine Below.drew ?_))⟩
    · have HX := Lib.hid (show sexTo 2 = 2 from rfl)
      by_cases c1 : x3 = (b : Int)
      · have HN := Lib.hid (HR.out.symm.trans (show _ = true by simp [leadI, c1]))
        have n1 : (x3 == (b : Int)) = true := by simp [c1]
        clear c1
        go_enter Try.func179, Try.ntmps179
        go_wp2_with fail
        go_quiet ((go_at_call 173; exact stepSex_quiet 2 _ _ _ hk HX.out))
        go_wp2
        go_ret
        exact ⟨ret_bool (by rw [HN.out]; try simp), by (with_reducible repeat' first | exact Below.refl _ _ | assumption | (refine Below.setCell ?_ (by first | omega | (simp; omega) | (simp; done) | (dsimp only; omega)) _) | (refine Below.alloc ?_ (by first | omega | (simp; omega) | (simp; done) | (dsimp only; omega)) _) | (refine below_drewN ?_ _) | (refine Below.drew ?_))⟩
      · have HN := Lib.hid (HR.out.symm.trans (show _ = false by simp [leadI, c1]))
        have n1 : (x3 == (b : Int)) = false := by simp [c1]
        clear c1
        go_enter Try.func179, Try.ntmps179
        go_wp2_with fail
        go_quiet ((go_at_call 173; exact stepSex_quiet 2 _ _ _ hk HX.out))
        go_wp2
        go_ret
        exact ⟨ret_bool (by rw [HN.out]; try simp), by (with_reducible repeat' first | exact Below.refl _ _ | assumption | (refine Below.setCell ?_ (by first | omega | (simp; omega) | (simp; done) | (dsimp only; omega)) _) | (refine Below.alloc ?_ (by first | omega | (simp; omega) | (simp; done) | (dsimp only; omega)) _) | (refine below_drewN ?_ _) | (refine Below.drew ?_))⟩
    · have HX := Lib.hid (show sexTo 3 = 1 from rfl)
      by_cases c1 : y1 = 1
      · subst c1
        have HD := Lib.hid (show R = (fullAt xs a b && bornOk ⟨3, ag⟩ xs a b) from HR.out.symm.trans (by simp [leadI, sexTo]))
        cases hF : fullAt xs a b with
        | false =>
          have HF := Lib.hid hF
          have HN := Lib.hid (HD.out.trans (show _ = false by simp [hF]))
          clear hF
          go_enter Try.func179, Try.ntmps179
          go_wp2_with fail
          go_quiet ((go_at_call 173; exact stepSex_quiet 3 _ _ _ hk HX.out))
          go_wp2_with (go_at_call 159; (with_reducible refine (areFull_any _ _ _ _ lo hi xs ys a b _ (h.same (by (with_reducible repeat' first | exact Same.refl _ _ _ | assumption | (refine Same.setCell ?_ (by first | omega | (simp; omega) | (simp; done) | (dsimp only; omega)) _) | (refine Same.alloc ?_ (by first | omega | (simp; omega) | (simp; done) | (dsimp only; omega)) _) | (refine Same.drewN ?_ _) | (refine Same.drew ?_)))) (h'.same (by (with_reducible repeat' first | exact Same.refl _ _ _ | assumption | (refine Same.setCell ?_ (by first | omega | (simp; omega) | (simp; done) | (dsimp only; omega)) _) | (refine Same.alloc ?_ (by first | omega | (simp; omega) | (simp; done) | (dsimp only; omega)) _) | (refine Same.drewN ?_ _) | (refine Same.drew ?_)))) (by first | omega | (simp; omega) | (simp; done) | (dsimp only; omega)) (by omega) (by omega)).mono ?_); rintro e w5 ⟨rfl, hb5⟩; simp only [HF.out]; (obtain ⟨hb5c, hb5f⟩ := bcell hb5); (have hb5z := hb5.size); (try simp only [szs] at hb5c hb5f hb5z); (have lf5 : bf < w5.heap.size := by omega); (have ls5 : bs < w5.heap.size := by omega))
          go_ret
          exact ⟨ret_bool (by rw [HN.out]; try simp), by (with_reducible repeat' first | exact Below.refl _ _ | assumption | (refine Below.setCell ?_ (by first | omega | (simp; omega) | (simp; done) | (dsimp only; omega)) _) | (refine Below.alloc ?_ (by first | omega | (simp; omega) | (simp; done) | (dsimp only; omega)) _) | (refine below_drewN ?_ _) | (refine Below.drew ?_) | (refine Below.trans ?_ (hb5.mono (by first | omega | (simp; omega) | (simp; done) | (dsimp only; omega)))))⟩
        | true =>
          have HF := Lib.hid hF
          replace HD := Lib.hid (HD.out.trans (show _ = bornOk ⟨3, ag⟩ xs a b by simp [hF]))
          clear hF
          by_cases a1 : ag = 1
          · subst a1
            cases hE : elderAt xs b a with
            | false =>
              have HE := Lib.hid hE
              have HN := Lib.hid (HD.out.trans (show _ = false by simp [bornOk, hE]))
              clear hE
              go_enter Try.func179, Try.ntmps179
              go_wp2_with fail
              go_quiet ((go_at_call 173; exact stepSex_quiet 3 _ _ _ hk HX.out))
              go_wp2_with (first | (go_at_call 159; (with_reducible refine (areFull_any _ _ _ _ lo hi xs ys a b _ (h.same (by (with_reducible repeat' first | exact Same.refl _ _ _ | assumption | (refine Same.setCell ?_ (by first | omega | (simp; omega) | (simp; done) | (dsimp only; omega)) _) | (refine Same.alloc ?_ (by first | omega | (simp; omega) | (simp; done) | (dsimp only; omega)) _) | (refine Same.drewN ?_ _) | (refine Same.drew ?_)))) (h'.same (by (with_reducible repeat' first | exact Same.refl _ _ _ | assumption | (refine Same.setCell ?_ (by first | omega | (simp; omega) | (simp; done) | (dsimp only; omega)) _) | (refine Same.alloc ?_ (by first | omega | (simp; omega) | (simp; done) | (dsimp only; omega)) _) | (refine Same.drewN ?_ _) | (refine Same.drew ?_)))) (by first | omega | (simp; omega) | (simp; done) | (dsimp only; omega)) (by omega) (by omega)).mono ?_); rintro e w5 ⟨rfl, hb5⟩; simp only [HF.out]; (obtain ⟨hb5c, hb5f⟩ := bcell hb5); (have hb5z := hb5.size); (try simp only [szs] at hb5c hb5f hb5z); (have lf5 : bf < w5.heap.size := by omega); (have ls5 : bs < w5.heap.size := by omega)) | (go_at_call 163; (with_reducible refine (isElder_any _ _ _ _ lo hi xs ys b a _ (h.same (by (with_reducible repeat' first | exact Same.refl _ _ _ | assumption | (refine Same.setCell ?_ (by first | omega | (simp; omega) | (simp; done) | (dsimp only; omega)) _) | (refine Same.alloc ?_ (by first | omega | (simp; omega) | (simp; done) | (dsimp only; omega)) _) | (refine Same.drewN ?_ _) | (refine Same.drew ?_) | (refine Same.trans ?_ (Same.of_below hb5 (by first | omega | (simp; omega) | (simp; done) | (dsimp only; omega))))))) (h'.same (by (with_reducible repeat' first | exact Same.refl _ _ _ | assumption | (refine Same.setCell ?_ (by first | omega | (simp; omega) | (simp; done) | (dsimp only; omega)) _) | (refine Same.alloc ?_ (by first | omega | (simp; omega) | (simp; done) | (dsimp only; omega)) _) | (refine Same.drewN ?_ _) | (refine Same.drew ?_) | (refine Same.trans ?_ (Same.of_below hb5 (by first | omega | (simp; omega) | (simp; done) | (dsimp only; omega))))))) (by first | omega | (simp; omega) | (simp; done) | (dsimp only; omega)) (by omega) (by omega)).mono ?_); rintro e w6 ⟨rfl, hb6⟩; simp only [HE.out]; (obtain ⟨hb6c, hb6f⟩ := bcell hb6); (have hb6z := hb6.size); (try simp only [szs] at hb6c hb6f hb6z)))
              go_ret
              exact ⟨ret_bool (by rw [HN.out]; try simp), by (with_reducible repeat' first | exact Below.refl _ _ | assumption | (refine Below.setCell ?_ (by first | omega | (simp; omega) | (simp; done) | (dsimp only; omega)) _) | (refine Below.alloc ?_ (by first | omega | (simp; omega) | (simp; done) | (dsimp only; omega)) _) | (refine below_drewN ?_ _) | (refine Below.drew ?_) | (refine Below.trans ?_ (hb6.mono (by first | omega | (simp; omega) | (simp; done) | (dsimp only; omega)))) | (refine Below.trans ?_ (hb5.mono (by first | omega | (simp; omega) | (simp; done) | (dsimp only; omega)))))⟩
            | true =>
              have HE := Lib.hid hE
              have HN := Lib.hid (HD.out.trans (show _ = true by simp [bornOk, hE]))
              clear hE
              go_enter Try.func179, Try.ntmps179
              go_wp2_with fail
              go_quiet ((go_at_call 173; exact stepSex_quiet 3 _ _ _ hk HX.out))
              go_wp2_with (first | (go_at_call 159; (with_reducible refine (areFull_any _ _ _ _ lo hi xs ys a b _ (h.same (by (with_reducible repeat' first | exact Same.refl _ _ _ | assumption | (refine Same.setCell ?_ (by first | omega | (simp; omega) | (simp; done) | (dsimp only; omega)) _) | (refine Same.alloc ?_ (by first | omega | (simp; omega) | (simp; done) | (dsimp only; omega)) _) | (refine Same.drewN ?_ _) | (refine Same.drew ?_)))) (h'.same (by (with_reducible repeat' first | exact Same.refl _ _ _ | assumption | (refine Same.setCell ?_ (by first | omega | (simp; omega) | (simp; done) | (dsimp only; omega)) _) | (refine Same.alloc ?_ (by first | omega | (simp; omega) | (simp; done) | (dsimp only; omega)) _) | (refine Same.drewN ?_ _) | (refine Same.drew ?_)))) (by first | omega | (simp; omega) | (simp; done) | (dsimp only; omega)) (by omega) (by omega)).mono ?_); rintro e w5 ⟨rfl, hb5⟩; simp only [HF.out]; (obtain ⟨hb5c, hb5f⟩ := bcell hb5); (have hb5z := hb5.size); (try simp only [szs] at hb5c hb5f hb5z); (have lf5 : bf < w5.heap.size := by omega); (have ls5 : bs < w5.heap.size := by omega)) | (go_at_call 163; (with_reducible refine (isElder_any _ _ _ _ lo hi xs ys b a _ (h.same (by (with_reducible repeat' first | exact Same.refl _ _ _ | assumption | (refine Same.setCell ?_ (by first | omega | (simp; omega) | (simp; done) | (dsimp only; omega)) _) | (refine Same.alloc ?_ (by first | omega | (simp; omega) | (simp; done) | (dsimp only; omega)) _) | (refine Same.drewN ?_ _) | (refine Same.drew ?_) | (refine Same.trans ?_ (Same.of_below hb5 (by first | omega | (simp; omega) | (simp; done) | (dsimp only; omega))))))) (h'.same (by (with_reducible repeat' first | exact Same.refl _ _ _ | assumption | (refine Same.setCell ?_ (by first | omega | (simp; omega) | (simp; done) | (dsimp only; omega)) _) | (refine Same.alloc ?_ (by first | omega | (simp; omega) | (simp; done) | (dsimp only; omega)) _) | (refine Same.drewN ?_ _) | (refine Same.drew ?_) | (refine Same.trans ?_ (Same.of_below hb5 (by first | omega | (simp; omega) | (simp; done) | (dsimp only; omega))))))) (by first | omega | (simp; omega) | (simp; done) | (dsimp only; omega)) (by omega) (by omega)).mono ?_); rintro e w6 ⟨rfl, hb6⟩; simp only [HE.out]; (obtain ⟨hb6c, hb6f⟩ := bcell hb6); (have hb6z := hb6.size); (try simp only [szs] at hb6c hb6f hb6z)))
              go_ret
              exact ⟨ret_bool (by rw [HN.out]; try simp), by (with_reducible repeat' first | exact Below.refl _ _ | assumption | (refine Below.setCell ?_ (by first | omega | (simp; omega) | (simp; done) | (dsimp only; omega)) _) | (refine Below.alloc ?_ (by first | omega | (simp; omega) | (simp; done) | (dsimp only; omega)) _) | (refine below_drewN ?_ _) | (refine Below.drew ?_) | (refine Below.trans ?_ (hb6.mono (by first | omega | (simp; omega) | (simp; done) | (dsimp only; omega)))) | (refine Below.trans ?_ (hb5.mono (by first | omega | (simp; omega) | (simp; done) | (dsimp only; omega)))))⟩
          · have n1 : (ag == 1) = false := by simp [a1]
            have n1' : (ag != 1) = true := by simp [a1]
            by_cases a2 : ag = 2
            · subst a2
              cases hE : elderAt xs a b with
              | false =>
                have HE := Lib.hid hE
                have HN := Lib.hid (HD.out.trans (show _ = false by simp [bornOk, hE]))
                clear hE
                go_enter Try.func179, Try.ntmps179
                go_wp2_with fail
                go_quiet ((go_at_call 173; exact stepSex_quiet 3 _ _ _ hk HX.out))
                go_wp2_with (first | (go_at_call 159; (with_reducible refine (areFull_any _ _ _ _ lo hi xs ys a b _ (h.same (by (with_reducible repeat' first | exact Same.refl _ _ _ | assumption | (refine Same.setCell ?_ (by first | omega | (simp; omega) | (simp; done) | (dsimp only; omega)) _) | (refine Same.alloc ?_ (by first | omega | (simp; omega) | (simp; done) | (dsimp only; omega)) _) | (refine Same.drewN ?_ _) | (refine Same.drew ?_)))) (h'.same (by (with_reducible repeat' first | exact Same.refl _ _ _ | assumption | (refine Same.setCell ?_ (by first | omega | (simp; omega) | (simp; done) | (dsimp only; omega)) _) | (refine Same.alloc ?_ (by first | omega | (simp; omega) | (simp; done) | (dsimp only; omega)) _) | (refine Same.drewN ?_ _) | (refine Same.drew ?_)))) (by first | omega | (simp; omega) | (simp; done) | (dsimp only; omega)) (by omega) (by omega)).mono ?_); rintro e w5 ⟨rfl, hb5⟩; simp only [HF.out]; (obtain ⟨hb5c, hb5f⟩ := bcell hb5); (have hb5z := hb5.size); (try simp only [szs] at hb5c hb5f hb5z); (have lf5 : bf < w5.heap.size := by omega); (have ls5 : bs < w5.heap.size := by omega)) | (go_at_call 163; (with_reducible refine (isElder_any _ _ _ _ lo hi xs ys a b _ (h.same (by (with_reducible repeat' first | exact Same.refl _ _ _ | assumption | (refine Same.setCell ?_ (by first | omega | (simp; omega) | (simp; done) | (dsimp only; omega)) _) | (refine Same.alloc ?_ (by first | omega | (simp; omega) | (simp; done) | (dsimp only; omega)) _) | (refine Same.drewN ?_ _) | (refine Same.drew ?_) | (refine Same.trans ?_ (Same.of_below hb5 (by first | omega | (simp; omega) | (simp; done) | (dsimp only; omega))))))) (h'.same (by (with_reducible repeat' first | exact Same.refl _ _ _ | assumption | (refine Same.setCell ?_ (by first | omega | (simp; omega) | (simp; done) | (dsimp only; omega)) _) | (refine Same.alloc ?_ (by first | omega | (simp; omega) | (simp; done) | (dsimp only; omega)) _) | (refine Same.drewN ?_ _) | (refine Same.drew ?_) | (refine Same.trans ?_ (Same.of_below hb5 (by first | omega | (simp; omega) | (simp; done) | (dsimp only; omega))))))) (by first | omega | (simp; omega) | (simp; done) | (dsimp only; omega)) (by omega) (by omega)).mono ?_); rintro e w6 ⟨rfl, hb6⟩; simp only [HE.out]; (obtain ⟨hb6c, hb6f⟩ := bcell hb6); (have hb6z := hb6.size); (try simp only [szs] at hb6c hb6f hb6z)))
                go_ret
                exact ⟨ret_bool (by rw [HN.out]; try simp), by (with_reducible repeat' first | exact Below.refl _ _ | assumption | (refine Below.setCell ?_ (by first | omega | (simp; omega) | (simp; done) | (dsimp only; omega)) _) | (refine Below.alloc ?_ (by first | omega | (simp; omega) | (simp; done) | (dsimp only; omega)) _) | (refine below_drewN ?_ _) | (refine Below.drew ?_) | (refine Below.trans ?_ (hb6.mono (by first | omega | (simp; omega) | (simp; done) | (dsimp only; omega)))) | (refine Below.trans ?_ (hb5.mono (by first | omega | (simp; omega) | (simp; done) | (dsimp only; omega)))))⟩
              | true =>
                have HE := Lib.hid hE
                have HN := Lib.hid (HD.out.trans (show _ = true by simp [bornOk, hE]))
                clear hE
                go_enter Try.func179, Try.ntmps179
                go_wp2_with fail
                go_quiet ((go_at_call 173; exact stepSex_quiet 3 _ _ _ hk HX.out))
                go_wp2_with (first | (go_at_call 159; (with_reducible refine (areFull_any _ _ _ _ lo hi xs ys a b _ (h.same (by (with_reducible repeat' first | exact Same.refl _ _ _ | assumption | (refine Same.setCell ?_ (by first | omega | (simp; omega) | (simp; done) | (dsimp only; omega)) _) | (refine Same.alloc ?_ (by first | omega | (simp; omega) | (simp; done) | (dsimp only; omega)) _) | (refine Same.drewN ?_ _) | (refine Same.drew ?_)))) (h'.same (by (with_reducible repeat' first | exact Same.refl _ _ _ | assumption | (refine Same.setCell ?_ (by first | omega | (simp; omega) | (simp; done) | (dsimp only; omega)) _) | (refine Same.alloc ?_ (by first | omega | (simp; omega) | (simp; done) | (dsimp only; omega)) _) | (refine Same.drewN ?_ _) | (refine Same.drew ?_)))) (by first | omega | (simp; omega) | (simp; done) | (dsimp only; omega)) (by omega) (by omega)).mono ?_); rintro e w5 ⟨rfl, hb5⟩; simp only [HF.out]; (obtain ⟨hb5c, hb5f⟩ := bcell hb5); (have hb5z := hb5.size); (try simp only [szs] at hb5c hb5f hb5z); (have lf5 : bf < w5.heap.size := by omega); (have ls5 : bs < w5.heap.size := by omega)) | (go_at_call 163; (with_reducible refine (isElder_any _ _ _ _ lo hi xs ys a b _ (h.same (by (with_reducible repeat' first | exact Same.refl _ _ _ | assumption | (refine Same.setCell ?_ (by first | omega | (simp; omega) | (simp; done) | (dsimp only; omega)) _) | (refine Same.alloc ?_ (by first | omega | (simp; omega) | (simp; done) | (dsimp only; omega)) _) | (refine Same.drewN ?_ _) | (refine Same.drew ?_) | (refine Same.trans ?_ (Same.of_below hb5 (by first | omega | (simp; omega) | (simp; done) | (dsimp only; omega))))))) (h'.same (by (with_reducible repeat' first | exact Same.refl _ _ _ | assumption | (refine Same.setCell ?_ (by first | omega | (simp; omega) | (simp; done) | (dsimp only; omega)) _) | (refine Same.alloc ?_ (by first | omega | (simp; omega) | (simp; done) | (dsimp only; omega)) _) | (refine Same.drewN ?_ _) | (refine Same.drew ?_) | (refine Same.trans ?_ (Same.of_below hb5 (by first | omega | (simp; omega) | (simp; done) | (dsimp only; omega))))))) (by first | omega | (simp; omega) | (simp; done) | (dsimp only; omega)) (by omega) (by omega)).mono ?_); rintro e w6 ⟨rfl, hb6⟩; simp only [HE.out]; (obtain ⟨hb6c, hb6f⟩ := bcell hb6); (have hb6z := hb6.size); (try simp only [szs] at hb6c hb6f hb6z)))
                go_ret
                exact ⟨ret_bool (by rw [HN.out]; try simp), by (with_reducible repeat' first | exact Below.refl _ _ | assumption | (refine Below.setCell ?_ (by first | omega | (simp; omega) | (simp; done) | (dsimp only; omega)) _) | (refine Below.alloc ?_ (by first | omega | (simp; omega) | (simp; done) | (dsimp only; omega)) _) | (refine below_drewN ?_ _) | (refine Below.drew ?_) | (refine Below.trans ?_ (hb6.mono (by first | omega | (simp; omega) | (simp; done) | (dsimp only; omega)))) | (refine Below.trans ?_ (hb5.mono (by first | omega | (simp; omega) | (simp; done) | (dsimp only; omega)))))⟩
            · have n2 : (ag == 2) = false := by simp [a2]
              have n2' : (ag != 2) = true := by simp [a2]
              have HN := Lib.hid (HD.out.trans (show _ = true by simp [bornOk, a1, a2]))
              clear a1 a2
              go_enter Try.func179, Try.ntmps179
              go_wp2_with fail
              go_quiet ((go_at_call 173; exact stepSex_quiet 3 _ _ _ hk HX.out))
              go_wp2_with (go_at_call 159; (with_reducible refine (areFull_any _ _ _ _ lo hi xs ys a b _ (h.same (by (with_reducible repeat' first | exact Same.refl _ _ _ | assumption | (refine Same.setCell ?_ (by first | omega | (simp; omega) | (simp; done) | (dsimp only; omega)) _) | (refine Same.alloc ?_ (by first | omega | (simp; omega) | (simp; done) | (dsimp only; omega)) _) | (refine Same.drewN ?_ _) | (refine Same.drew ?_)))) (h'.same (by (with_reducible repeat' first | exact Same.refl _ _ _ | assumption | (refine Same.setCell ?_ (by first | omega | (simp; omega) | (simp; done) | (dsimp only; omega)) _) | (refine Same.alloc ?_ (by first | omega | (simp; omega) | (simp; done) | (dsimp only; omega)) _) | (refine Same.drewN ?_ _) | (refine Same.drew ?_)))) (by first | omega | (simp; omega) | (simp; done) | (dsimp only; omega)) (by omega) (by omega)).mono ?_); rintro e w5 ⟨rfl, hb5⟩; simp only [HF.out]; (obtain ⟨hb5c, hb5f⟩ := bcell hb5); (have hb5z := hb5.size); (try simp only [szs] at hb5c hb5f hb5z); (have lf5 : bf < w5.heap.size := by omega); (have ls5 : bs < w5.heap.size := by omega))
              go_ret
              exact ⟨ret_bool (by rw [HN.out]; try simp), by (with_reducible repeat' first | exact Below.refl _ _ | assumption | (refine Below.setCell ?_ (by first | omega | (simp; omega) | (simp; done) | (dsimp only; omega)) _) | (refine Below.alloc ?_ (by first | omega | (simp; omega) | (simp; done) | (dsimp only; omega)) _) | (refine below_drewN ?_ _) | (refine Below.drew ?_) | (refine Below.trans ?_ (hb5.mono (by first | omega | (simp; omega) | (simp; done) | (dsimp only; omega)))))⟩
      · have HN := Lib.hid (HR.out.symm.trans (show _ = false by simp [leadI, sexTo, c1]))
        have n1 : (y1 == 1) = false := by simp [c1]
        clear c1
        go_enter Try.func179, Try.ntmps179
        go_wp2_with fail
        go_quiet ((go_at_call 173; exact stepSex_quiet 3 _ _ _ hk HX.out))
        go_wp2
        go_ret
        exact ⟨ret_bool (by rw [HN.out]; try simp), by (with_reducible repeat' first | exact Below.refl _ _ | assumption | (refine Below.setCell ?_ (by first | omega | (simp; omega) | (simp; done) | (dsimp only; omega)) _) | (refine Below.alloc ?_ (by first | omega | (simp; omega) | (simp; done) | (dsimp only; omega)) _) | (refine below_drewN ?_ _) | (refine Below.drew ?_))⟩
    · have HX := Lib.hid (show sexTo 4 = 2 from rfl)
      by_cases c1 : y1 = 2
      · subst c1
        have HD := Lib.hid (show R = (fullAt xs a b && bornOk ⟨4, ag⟩ xs a b) from HR.out.symm.trans (by simp [leadI, sexTo]))
        cases hF : fullAt xs a b with
        | false =>
          have HF := Lib.hid hF
          have HN := Lib.hid (HD.out.trans (show _ = false by simp [hF]))
          clear hF
          go_enter Try.func179, Try.ntmps179
          go_wp2_with fail
          go_quiet ((go_at_call 173; exact stepSex_quiet 4 _ _ _ hk HX.out))
          go_wp2_with (go_at_call 159; (with_reducible refine (areFull_any _ _ _ _ lo hi xs ys a b _ (h.same (by (with_reducible repeat' first | exact Same.refl _ _ _ | assumption | (refine Same.setCell ?_ (by first | omega | (simp; omega) | (simp; done) | (dsimp only; omega)) _) | (refine Same.alloc ?_ (by first | omega | (simp; omega) | (simp; done) | (dsimp only; omega)) _) | (refine Same.drewN ?_ _) | (refine Same.drew ?_)))) (h'.same (by (with_reducible repeat' first | exact Same.refl _ _ _ | assumption | (refine Same.setCell ?_ (by first | omega | (simp; omega) | (simp; done) | (dsimp only; omega)) _) | (refine Same.alloc ?_ (by first | omega | (simp; omega) | (simp; done) | (dsimp only; omega)) _) | (refine Same.drewN ?_ _) | (refine Same.drew ?_)))) (by first | omega | (simp; omega) | (simp; done) | (dsimp only; omega)) (by omega) (by omega)).mono ?_); rintro e w5 ⟨rfl, hb5⟩; simp only [HF.out]; (obtain ⟨hb5c, hb5f⟩ := bcell hb5); (have hb5z := hb5.size); (try simp only [szs] at hb5c hb5f hb5z); (have lf5 : bf < w5.heap.size := by omega); (have ls5 : bs < w5.heap.size := by omega))
          go_ret
          exact ⟨ret_bool (by rw [HN.out]; try simp), by (with_reducible repeat' first | exact Below.refl _ _ | assumption | (refine Below.setCell ?_ (by first | omega | (simp; omega) | (simp; done) | (dsimp only; omega)) _) | (refine Below.alloc ?_ (by first | omega | (simp; omega) | (simp; done) | (dsimp only; omega)) _) | (refine below_drewN ?_ _) | (refine Below.drew ?_) | (refine Below.trans ?_ (hb5.mono (by first | omega | (simp; omega) | (simp; done) | (dsimp only; omega)))))⟩
        | true =>
          have HF := Lib.hid hF
          replace HD := Lib.hid (HD.out.trans (show _ = bornOk ⟨4, ag⟩ xs a b by simp [hF]))
          clear hF
          by_cases a1 : ag = 1
          · subst a1
            cases hE : elderAt xs b a with
            | false =>
              have HE := Lib.hid hE
              have HN := Lib.hid (HD.out.trans (show _ = false by simp [bornOk, hE]))
              clear hE
              go_enter Try.func179, Try.ntmps179
              go_wp2_with fail
              go_quiet ((go_at_call 173; exact stepSex_quiet 4 _ _ _ hk HX.out))
              go_wp2_with (first | (go_at_call 159; (with_reducible refine (areFull_any _ _ _ _ lo hi xs ys a b _ (h.same (by (with_reducible repeat' first | exact Same.refl _ _ _ | assumption | (refine Same.setCell ?_ (by first | omega | (simp; omega) | (simp; done) | (dsimp only; omega)) _) | (refine Same.alloc ?_ (by first | omega | (simp; omega) | (simp; done) | (dsimp only; omega)) _) | (refine Same.drewN ?_ _) | (refine Same.drew ?_)))) (h'.same (by (with_reducible repeat' first | exact Same.refl _ _ _ | assumption | (refine Same.setCell ?_ (by first | omega | (simp; omega) | (simp; done) | (dsimp only; omega)) _) | (refine Same.alloc ?_ (by first | omega | (simp; omega) | (simp; done) | (dsimp only; omega)) _) | (refine Same.drewN ?_ _) | (refine Same.drew ?_)))) (by first | omega | (simp; omega) | (simp; done) | (dsimp only; omega)) (by omega) (by omega)).mono ?_); rintro e w5 ⟨rfl, hb5⟩; simp only [HF.out]; (obtain ⟨hb5c, hb5f⟩ := bcell hb5); (have hb5z := hb5.size); (try simp only [szs] at hb5c hb5f hb5z); (have lf5 : bf < w5.heap.size := by omega); (have ls5 : bs < w5.heap.size := by omega)) | (go_at_call 163; (with_reducible refine (isElder_any _ _ _ _ lo hi xs ys b a _ (h.same (by (with_reducible repeat' first | exact Same.refl _ _ _ | assumption | (refine Same.setCell ?_ (by first | omega | (simp; omega) | (simp; done) | (dsimp only; omega)) _) | (refine Same.alloc ?_ (by first | omega | (simp; omega) | (simp; done) | (dsimp only; omega)) _) | (refine Same.drewN ?_ _) | (refine Same.drew ?_) | (refine Same.trans ?_ (Same.of_below hb5 (by first | omega | (simp; omega) | (simp; done) | (dsimp only; omega))))))) (h'.same (by (with_reducible repeat' first | exact Same.refl _ _ _ | assumption | (refine Same.setCell ?_ (by first | omega | (simp; omega) | (simp; done) | (dsimp only; omega)) _) | (refine Same.alloc ?_ (by first | omega | (simp; omega) | (simp; done) | (dsimp only; omega)) _) | (refine Same.drewN ?_ _) | (refine Same.drew ?_) | (refine Same.trans ?_ (Same.of_below hb5 (by first | omega | (simp; omega) | (simp; done) | (dsimp only; omega))))))) (by first | omega | (simp; omega) | (simp; done) | (dsimp only; omega)) (by omega) (by omega)).mono ?_); rintro e w6 ⟨rfl, hb6⟩; simp only [HE.out]; (obtain ⟨hb6c, hb6f⟩ := bcell hb6); (have hb6z := hb6.size); (try simp only [szs] at hb6c hb6f hb6z)))
              go_ret
              exact ⟨ret_bool (by rw [HN.out]; try simp), by (with_reducible repeat' first | exact Below.refl _ _ | assumption | (refine Below.setCell ?_ (by first | omega | (simp; omega) | (simp; done) | (dsimp only; omega)) _) | (refine Below.alloc ?_ (by first | omega | (simp; omega) | (simp; done) | (dsimp only; omega)) _) | (refine below_drewN ?_ _) | (refine Below.drew ?_) | (refine Below.trans ?_ (hb6.mono (by first | omega | (simp; omega) | (simp; done) | (dsimp only; omega)))) | (refine Below.trans ?_ (hb5.mono (by first | omega | (simp; omega) | (simp; done) | (dsimp only; omega)))))⟩
            | true =>
              have HE := Lib.hid hE
              have HN := Lib.hid (HD.out.trans (show _ = true by simp [bornOk, hE]))
              clear hE
              go_enter Try.func179, Try.ntmps179
              go_wp2_with fail
              go_quiet ((go_at_call 173; exact stepSex_quiet 4 _ _ _ hk HX.out))
              go_wp2_with (first | (go_at_call 159; (with_reducible refine (areFull_any _ _ _ _ lo hi xs ys a b _ (h.same (by (with_reducible repeat' first | exact Same.refl _ _ _ | assumption | (refine Same.setCell ?_ (by first | omega | (simp; omega) | (simp; done) | (dsimp only; omega)) _) | (refine Same.alloc ?_ (by first | omega | (simp; omega) | (simp; done) | (dsimp only; omega)) _) | (refine Same.drewN ?_ _) | (refine Same.drew ?_)))) (h'.same (by (with_reducible repeat' first | exact Same.refl _ _ _ | assumption | (refine Same.setCell ?_ (by first | omega | (simp; omega) | (simp; done) | (dsimp only; omega)) _) | (refine Same.alloc ?_ (by first | omega | (simp; omega) | (simp; done) | (dsimp only; omega)) _) | (refine Same.drewN ?_ _) | (refine Same.drew ?_)))) (by first | omega | (simp; omega) | (simp; done) | (dsimp only; omega)) (by omega) (by omega)).mono ?_); rintro e w5 ⟨rfl, hb5⟩; simp only [HF.out]; (obtain ⟨hb5c, hb5f⟩ := bcell hb5); (have hb5z := hb5.size); (try simp only [szs] at hb5c hb5f hb5z); (have lf5 : bf < w5.heap.size := by omega); (have ls5 : bs < w5.heap.size := by omega)) | (go_at_call 163; (with_reducible refine (isElder_any _ _ _ _ lo hi xs ys b a _ (h.same (by (with_reducible repeat' first | exact Same.refl _ _ _ | assumption | (refine Same.setCell ?_ (by first | omega | (simp; omega) | (simp; done) | (dsimp only; omega)) _) | (refine Same.alloc ?_ (by first | omega | (simp; omega) | (simp; done) | (dsimp only; omega)) _) | (refine Same.drewN ?_ _) | (refine Same.drew ?_) | (refine Same.trans ?_ (Same.of_below hb5 (by first | omega | (simp; omega) | (simp; done) | (dsimp only; omega))))))) (h'.same (by (with_reducible repeat' first | exact Same.refl _ _ _ | assumption | (refine Same.setCell ?_ (by first | omega | (simp; omega) | (simp; done) | (dsimp only; omega)) _) | (refine Same.alloc ?_ (by first | omega | (simp; omega) | (simp; done) | (dsimp only; omega)) _) | (refine Same.drewN ?_ _) | (refine Same.drew ?_) | (refine Same.trans ?_ (Same.of_below hb5 (by first | omega | (simp; omega) | (simp; done) | (dsimp only; omega))))))) (by first | omega | (simp; omega) | (simp; done) | (dsimp only; omega)) (by omega) (by omega)).mono ?_); rintro e w6 ⟨rfl, hb6⟩; simp only [HE.out]; (obtain ⟨hb6c, hb6f⟩ := bcell hb6); (have hb6z := hb6.size); (try simp only [szs] at hb6c hb6f hb6z)))
              go_ret
              exact ⟨ret_bool (by rw [HN.out]; try simp), by (with_reducible repeat' first | exact Below.refl _ _ | assumption | (refine Below.setCell ?_ (by first | omega | (simp; omega) | (simp; done) | (dsimp only; omega)) _) | (refine Below.alloc ?_ (by first | omega | (simp; omega) | (simp; done) | (dsimp only; omega)) _) | (refine below_drewN ?_ _) | (refine Below.drew ?_) | (refine Below.trans ?_ (hb6.mono (by first | omega | (simp; omega) | (simp; done) | (dsimp only; omega)))) | (refine Below.trans ?_ (hb5.mono (by first | omega | (simp; omega) | (simp; done) | (dsimp only; omega)))))⟩
          · have n1 : (ag == 1) = false := by simp [a1]
            have n1' : (ag != 1) = true := by simp [a1]
            by_cases a2 : ag = 2
            · subst a2
              cases hE : elderAt xs a b with
              | false =>
                have HE := Lib.hid hE
                have HN := Lib.hid (HD.out.trans (show _ = false by simp [bornOk, hE]))
                clear hE
                go_enter Try.func179, Try.ntmps179
                go_wp2_with fail
                go_quiet ((go_at_call 173; exact stepSex_quiet 4 _ _ _ hk HX.out))
                go_wp2_with (first | (go_at_call 159; (with_reducible refine (areFull_any _ _ _ _ lo hi xs ys a b _ (h.same (by (with_reducible repeat' first | exact Same.refl _ _ _ | assumption | (refine Same.setCell ?_ (by first | omega | (simp; omega) | (simp; done) | (dsimp only; omega)) _) | (refine Same.alloc ?_ (by first | omega | (simp; omega) | (simp; done) | (dsimp only; omega)) _) | (refine Same.drewN ?_ _) | (refine Same.drew ?_)))) (h'.same (by (with_reducible repeat' first | exact Same.refl _ _ _ | assumption | (refine Same.setCell ?_ (by first | omega | (simp; omega) | (simp; done) | (dsimp only; omega)) _) | (refine Same.alloc ?_ (by first | omega | (simp; omega) | (simp; done) | (dsimp only; omega)) _) | (refine Same.drewN ?_ _) | (refine Same.drew ?_)))) (by first | omega | (simp; omega) | (simp; done) | (dsimp only; omega)) (by omega) (by omega)).mono ?_); rintro e w5 ⟨rfl, hb5⟩; simp only [HF.out]; (obtain ⟨hb5c, hb5f⟩ := bcell hb5); (have hb5z := hb5.size); (try simp only [szs] at hb5c hb5f hb5z); (have lf5 : bf < w5.heap.size := by omega); (have ls5 : bs < w5.heap.size := by omega)) | (go_at_call 163; (with_reducible refine (isElder_any _ _ _ _ lo hi xs ys a b _ (h.same (by (with_reducible repeat' first | exact Same.refl _ _ _ | assumption | (refine Same.setCell ?_ (by first | omega | (simp; omega) | (simp; done) | (dsimp only; omega)) _) | (refine Same.alloc ?_ (by first | omega | (simp; omega) | (simp; done) | (dsimp only; omega)) _) | (refine Same.drewN ?_ _) | (refine Same.drew ?_) | (refine Same.trans ?_ (Same.of_below hb5 (by first | omega | (simp; omega) | (simp; done) | (dsimp only; omega))))))) (h'.same (by (with_reducible repeat' first | exact Same.refl _ _ _ | assumption | (refine Same.setCell ?_ (by first | omega | (simp; omega) | (simp; done) | (dsimp only; omega)) _) | (refine Same.alloc ?_ (by first | omega | (simp; omega) | (simp; done) | (dsimp only; omega)) _) | (refine Same.drewN ?_ _) | (refine Same.drew ?_) | (refine Same.trans ?_ (Same.of_below hb5 (by first | omega | (simp; omega) | (simp; done) | (dsimp only; omega))))))) (by first | omega | (simp; omega) | (simp; done) | (dsimp only; omega)) (by omega) (by omega)).mono ?_); rintro e w6 ⟨rfl, hb6⟩; simp only [HE.out]; (obtain ⟨hb6c, hb6f⟩ := bcell hb6); (have hb6z := hb6.size); (try simp only [szs] at hb6c hb6f hb6z)))
                go_ret
                exact ⟨ret_bool (by rw [HN.out]; try simp), by (with_reducible repeat' first | exact Below.refl _ _ | assumption | (refine Below.setCell ?_ (by first | omega | (simp; omega) | (simp; done) | (dsimp only; omega)) _) | (refine Below.alloc ?_ (by first | omega | (simp; omega) | (simp; done) | (dsimp only; omega)) _) | (refine below_drewN ?_ _) | (refine Below.drew ?_) | (refine Below.trans ?_ (hb6.mono (by first | omega | (simp; omega) | (simp; done) | (dsimp only; omega)))) | (refine Below.trans ?_ (hb5.mono (by first | omega | (simp; omega) | (simp; done) | (dsimp only; omega)))))⟩
              | true =>
                have HE := Lib.hid hE
                have HN := Lib.hid (HD.out.trans (show _ = true by simp [bornOk, hE]))
                clear hE
                go_enter Try.func179, Try.ntmps179
                go_wp2_with fail
                go_quiet ((go_at_call 173; exact stepSex_quiet 4 _ _ _ hk HX.out))
                go_wp2_with (first | (go_at_call 159; (with_reducible refine (areFull_any _ _ _ _ lo hi xs ys a b _ (h.same (by (with_reducible repeat' first | exact Same.refl _ _ _ | assumption | (refine Same.setCell ?_ (by first | omega | (simp; omega) | (simp; done) | (dsimp only; omega)) _) | (refine Same.alloc ?_ (by first | omega | (simp; omega) | (simp; done) | (dsimp only; omega)) _) | (refine Same.drewN ?_ _) | (refine Same.drew ?_)))) (h'.same (by (with_reducible repeat' first | exact Same.refl _ _ _ | assumption | (refine Same.setCell ?_ (by first | omega | (simp; omega) | (simp; done) | (dsimp only; omega)) _) | (refine Same.alloc ?_ (by first | omega | (simp; omega) | (simp; done) | (dsimp only; omega)) _) | (refine Same.drewN ?_ _) | (refine Same.drew ?_)))) (by first | omega | (simp; omega) | (simp; done) | (dsimp only; omega)) (by omega) (by omega)).mono ?_); rintro e w5 ⟨rfl, hb5⟩; simp only [HF.out]; (obtain ⟨hb5c, hb5f⟩ := bcell hb5); (have hb5z := hb5.size); (try simp only [szs] at hb5c hb5f hb5z); (have lf5 : bf < w5.heap.size := by omega); (have ls5 : bs < w5.heap.size := by omega)) | (go_at_call 163; (with_reducible refine (isElder_any _ _ _ _ lo hi xs ys a b _ (h.same (by (with_reducible repeat' first | exact Same.refl _ _ _ | assumption | (refine Same.setCell ?_ (by first | omega | (simp; omega) | (simp; done) | (dsimp only; omega)) _) | (refine Same.alloc ?_ (by first | omega | (simp; omega) | (simp; done) | (dsimp only; omega)) _) | (refine Same.drewN ?_ _) | (refine Same.drew ?_) | (refine Same.trans ?_ (Same.of_below hb5 (by first | omega | (simp; omega) | (simp; done) | (dsimp only; omega))))))) (h'.same (by (with_reducible repeat' first | exact Same.refl _ _ _ | assumption | (refine Same.setCell ?_ (by first | omega | (simp; omega) | (simp; done) | (dsimp only; omega)) _) | (refine Same.alloc ?_ (by first | omega | (simp; omega) | (simp; done) | (dsimp only; omega)) _) | (refine Same.drewN ?_ _) | (refine Same.drew ?_) | (refine Same.trans ?_ (Same.of_below hb5 (by first | omega | (simp; omega) | (simp; done) | (dsimp only; omega))))))) (by first | omega | (simp; omega) | (simp; done) | (dsimp only; omega)) (by omega) (by omega)).mono ?_); rintro e w6 ⟨rfl, hb6⟩; simp only [HE.out]; (obtain ⟨hb6c, hb6f⟩ := bcell hb6); (have hb6z := hb6.size); (try simp only [szs] at hb6c hb6f hb6z)))
                go_ret
                exact ⟨ret_bool (by rw [HN.out]; try simp), by (with_reducible repeat' first | exact Below.refl _ _ | assumption | (refine Below.setCell ?_ (by first | omega | (simp; omega) | (simp; done) | (dsimp only; omega)) _) | (refine Below.alloc ?_ (by first | omega | (simp; omega) | (simp; done) | (dsimp only; omega)) _) | (refine below_drewN ?_ _) | (refine Below.drew ?_) | (refine Below.trans ?_ (hb6.mono (by first | omega | (simp; omega) | (simp; done) | (dsimp only; omega)))) | (refine Below.trans ?_ (hb5.mono (by first | omega | (simp; omega) | (simp; done) | (dsimp only; omega)))))⟩
            · have n2 : (ag == 2) = false := by simp [a2]
              have n2' : (ag != 2) = true := by simp [a2]
              have HN := Lib.hid (HD.out.trans (show _ = true by simp [bornOk, a1, a2]))
              clear a1 a2
              go_enter Try.func179, Try.ntmps179
              go_wp2_with fail
              go_quiet ((go_at_call 173; exact stepSex_quiet 4 _ _ _ hk HX.out))
              go_wp2_with (go_at_call 159; (with_reducible refine (areFull_any _ _ _ _ lo hi xs ys a b _ (h.same (by (with_reducible repeat' first | exact Same.refl _ _ _ | assumption | (refine Same.setCell ?_ (by first | omega | (simp; omega) | (simp; done) | (dsimp only; omega)) _) | (refine Same.alloc ?_ (by first | omega | (simp; omega) | (simp; done) | (dsimp only; omega)) _) | (refine Same.drewN ?_ _) | (refine Same.drew ?_)))) (h'.same (by (with_reducible repeat' first | exact Same.refl _ _ _ | assumption | (refine Same.setCell ?_ (by first | omega | (simp; omega) | (simp; done) | (dsimp only; omega)) _) | (refine Same.alloc ?_ (by first | omega | (simp; omega) | (simp; done) | (dsimp only; omega)) _) | (refine Same.drewN ?_ _) | (refine Same.drew ?_)))) (by first | omega | (simp; omega) | (simp; done) | (dsimp only; omega)) (by omega) (by omega)).mono ?_); rintro e w5 ⟨rfl, hb5⟩; simp only [HF.out]; (obtain ⟨hb5c, hb5f⟩ := bcell hb5); (have hb5z := hb5.size); (try simp only [szs] at hb5c hb5f hb5z); (have lf5 : bf < w5.heap.size := by omega); (have ls5 : bs < w5.heap.size := by omega))
              go_ret
              exact ⟨ret_bool (by rw [HN.out]; try simp), by (with_reducible repeat' first | exact Below.refl _ _ | assumption | (refine Below.setCell ?_ (by first | omega | (simp; omega) | (simp; done) | (dsimp only; omega)) _) | (refine Below.alloc ?_ (by first | omega | (simp; omega) | (simp; done) | (dsimp only; omega)) _) | (refine below_drewN ?_ _) | (refine Below.drew ?_) | (refine Below.trans ?_ (hb5.mono (by first | omega | (simp; omega) | (simp; done) | (dsimp only; omega)))))⟩
      · have HN := Lib.hid (HR.out.symm.trans (show _ = false by simp [leadI, sexTo, c1]))
        have n1 : (y1 == 2) = false := by simp [c1]
        clear c1
        go_enter Try.func179, Try.ntmps179
        go_wp2_with fail
        go_quiet ((go_at_call 173; exact stepSex_quiet 4 _ _ _ hk HX.out))
        go_wp2
        go_ret
        exact ⟨ret_bool (by rw [HN.out]; try simp), by (with_reducible repeat' first | exact Below.refl _ _ | assumption | (refine Below.setCell ?_ (by first | omega | (simp; omega) | (simp; done) | (dsimp only; omega)) _) | (refine Below.alloc ?_ (by first | omega | (simp; omega) | (simp; done) | (dsimp only; omega)) _) | (refine below_drewN ?_ _) | (refine Below.drew ?_))⟩
    · have HX := Lib.hid (show sexTo 5 = 1 from rfl)
      by_cases c1 : y1 = 1
      · subst c1
        have HN := Lib.hid (show R = kidAt xs a b from HR.out.symm.trans (by simp [leadI, sexTo, kidAt, HKY.out]))
        go_enter Try.func179, Try.ntmps179
        go_wp2_with fail
        go_quiet ((go_at_call 173; exact stepSex_quiet 5 _ _ _ hk HX.out))
        go_wp2_with (go_at_call 180; (with_reducible refine (isParent_any _ _ _ _ lo hi xs ys a b _ (h.same (by (with_reducible repeat' first | exact Same.refl _ _ _ | assumption | (refine Same.setCell ?_ (by first | omega | (simp; omega) | (simp; done) | (dsimp only; omega)) _) | (refine Same.alloc ?_ (by first | omega | (simp; omega) | (simp; done) | (dsimp only; omega)) _) | (refine Same.drewN ?_ _) | (refine Same.drew ?_)))) (h'.same (by (with_reducible repeat' first | exact Same.refl _ _ _ | assumption | (refine Same.setCell ?_ (by first | omega | (simp; omega) | (simp; done) | (dsimp only; omega)) _) | (refine Same.alloc ?_ (by first | omega | (simp; omega) | (simp; done) | (dsimp only; omega)) _) | (refine Same.drewN ?_ _) | (refine Same.drew ?_)))) (by first | omega | (simp; omega) | (simp; done) | (dsimp only; omega)) (by omega)).mono ?_); rintro e w5 ⟨rfl, hb5⟩; (obtain ⟨hb5c, hb5f⟩ := bcell hb5); (have hb5z := hb5.size); (try simp only [szs] at hb5c hb5f hb5z))
        go_ret
        exact ⟨ret_bool (by rw [HN.out]; try simp), by (with_reducible repeat' first | exact Below.refl _ _ | assumption | (refine Below.setCell ?_ (by first | omega | (simp; omega) | (simp; done) | (dsimp only; omega)) _) | (refine Below.alloc ?_ (by first | omega | (simp; omega) | (simp; done) | (dsimp only; omega)) _) | (refine below_drewN ?_ _) | (refine Below.drew ?_) | (refine Below.trans ?_ (hb5.mono (by first | omega | (simp; omega) | (simp; done) | (dsimp only; omega)))))⟩
      · have HN := Lib.hid (HR.out.symm.trans (show _ = false by simp [leadI, sexTo, c1]))
        have n1 : (y1 == 1) = false := by simp [c1]
        clear c1
        go_enter Try.func179, Try.ntmps179
        go_wp2_with fail
        go_quiet ((go_at_call 173; exact stepSex_quiet 5 _ _ _ hk HX.out))
        go_wp2
        go_ret
        exact ⟨ret_bool (by rw [HN.out]; try simp), by (with_reducible repeat' first | exact Below.refl _ _ | assumption | (refine Below.setCell ?_ (by first | omega | (simp; omega) | (simp; done) | (dsimp only; omega)) _) | (refine Below.alloc ?_ (by first | omega | (simp; omega) | (simp; done) | (dsimp only; omega)) _) | (refine below_drewN ?_ _) | (refine Below.drew ?_))⟩
    · have HX := Lib.hid (show sexTo 6 = 2 from rfl)
      by_cases c1 : y1 = 2
      · subst c1
        have HN := Lib.hid (show R = kidAt xs a b from HR.out.symm.trans (by simp [leadI, sexTo, kidAt, HKY.out]))
        go_enter Try.func179, Try.ntmps179
        go_wp2_with fail
        go_quiet ((go_at_call 173; exact stepSex_quiet 6 _ _ _ hk HX.out))
        go_wp2_with (go_at_call 180; (with_reducible refine (isParent_any _ _ _ _ lo hi xs ys a b _ (h.same (by (with_reducible repeat' first | exact Same.refl _ _ _ | assumption | (refine Same.setCell ?_ (by first | omega | (simp; omega) | (simp; done) | (dsimp only; omega)) _) | (refine Same.alloc ?_ (by first | omega | (simp; omega) | (simp; done) | (dsimp only; omega)) _) | (refine Same.drewN ?_ _) | (refine Same.drew ?_)))) (h'.same (by (with_reducible repeat' first | exact Same.refl _ _ _ | assumption | (refine Same.setCell ?_ (by first | omega | (simp; omega) | (simp; done) | (dsimp only; omega)) _) | (refine Same.alloc ?_ (by first | omega | (simp; omega) | (simp; done) | (dsimp only; omega)) _) | (refine Same.drewN ?_ _) | (refine Same.drew ?_)))) (by first | omega | (simp; omega) | (simp; done) | (dsimp only; omega)) (by omega)).mono ?_); rintro e w5 ⟨rfl, hb5⟩; (obtain ⟨hb5c, hb5f⟩ := bcell hb5); (have hb5z := hb5.size); (try simp only [szs] at hb5c hb5f hb5z))
        go_ret
        exact ⟨ret_bool (by rw [HN.out]; try simp), by (with_reducible repeat' first | exact Below.refl _ _ | assumption | (refine Below.setCell ?_ (by first | omega | (simp; omega) | (simp; done) | (dsimp only; omega)) _) | (refine Below.alloc ?_ (by first | omega | (simp; omega) | (simp; done) | (dsimp only; omega)) _) | (refine below_drewN ?_ _) | (refine Below.drew ?_) | (refine Below.trans ?_ (hb5.mono (by first | omega | (simp; omega) | (simp; done) | (dsimp only; omega)))))⟩
      · have HN := Lib.hid (HR.out.symm.trans (show _ = false by simp [leadI, sexTo, c1]))
        have n1 : (y1 == 2) = false := by simp [c1]
        clear c1
        go_enter Try.func179, Try.ntmps179
        go_wp2_with fail
        go_quiet ((go_at_call 173; exact stepSex_quiet 6 _ _ _ hk HX.out))
        go_wp2
        go_ret
        exact ⟨ret_bool (by rw [HN.out]; try simp), by (with_reducible repeat' first | exact Below.refl _ _ | assumption | (refine Below.setCell ?_ (by first | omega | (simp; omega) | (simp; done) | (dsimp only; omega)) _) | (refine Below.alloc ?_ (by first | omega | (simp; omega) | (simp; done) | (dsimp only; omega)) _) | (refine below_drewN ?_ _) | (refine Below.drew ?_))⟩
    · have HX := Lib.hid (show sexTo 7 = 1 from rfl)
      have HN := Lib.hid (show R = S kl from HR.out.symm.trans ((show _ = hasP (wedL 7 ys) a b by simp [leadI]).trans HSK.out.symm))
      go_enter Try.func179, Try.ntmps179
      go_wp2_with fail
      go_quiet ((go_at_call 173; exact stepSex_quiet 7 _ _ _ hk HX.out))
      have hlook := HLOOK.out nq
      go_wp2
      go_ret
      exact ⟨ret_bool (by rw [HN.out]; try simp), by (with_reducible repeat' first | exact Below.refl _ _ | assumption | (refine Below.setCell ?_ (by first | omega | (simp; omega) | (simp; done) | (dsimp only; omega)) _) | (refine Below.alloc ?_ (by first | omega | (simp; omega) | (simp; done) | (dsimp only; omega)) _) | (refine below_drewN ?_ _) | (refine Below.drew ?_))⟩
    · have HX := Lib.hid (show sexTo 8 = 2 from rfl)
      have HN := Lib.hid (show R = S kl from HR.out.symm.trans ((show _ = hasP (wedL 8 ys) a b by simp [leadI]).trans HSK.out.symm))
      go_enter Try.func179, Try.ntmps179
      go_wp2_with fail
      go_quiet ((go_at_call 173; exact stepSex_quiet 8 _ _ _ hk HX.out))
      have hlook := HLOOK.out nq
      go_wp2
      go_ret
      exact ⟨ret_bool (by rw [HN.out]; try simp), by (with_reducible repeat' first | exact Below.refl _ _ | assumption | (refine Below.setCell ?_ (by first | omega | (simp; omega) | (simp; done) | (dsimp only; omega)) _) | (refine Below.alloc ?_ (by first | omega | (simp; omega) | (simp; done) | (dsimp only; omega)) _) | (refine below_drewN ?_ _) | (refine Below.drew ?_))⟩
end Go.Proofs.Ytnnjilkjjdiblaa
