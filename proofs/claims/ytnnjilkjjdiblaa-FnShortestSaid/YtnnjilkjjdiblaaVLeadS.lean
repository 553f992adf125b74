/-
  Where a step leads, in the reference.
-/
import Derived.Test.YtnnjilkjjdiblaaVGLead
import Derived.Test.YtnnjilkjjdiblaaVGFamS
import Derived.Test.YtnnjilkjjdiblaaVGRule
namespace Go.Proofs.Ytnnjilkjjdiblaa
set_option maxRecDepth 100000
open Go.RowKit

set_option maxHeartbeats 4000000 in
theorem l1Full_any (A B : Option Addr) (c d lo hi : Nat) (xs : List Person) (ys : List Union) (a b : Nat) (w : World) (h : EPerson.AS w lo hi A xs) (_h' : EUnion.AS w lo hi B ys) (hh : hi ≤ w.heap.size) (ha : a < xs.length) (hb : b < xs.length) :
    Calls Try.prog 166 #[.agg #[.slice A xs.length c, .slice B ys.length d], .int .i64 a, .int .i64 b] w fun e w' => e = .returned (.bool (fullAt xs a b)) ∧ Below w.heap.size w w' := by
  have hx := h.le
  unfold BIG at hx
  obtain ⟨g, off, ⟨x0, x1, x2, x3, x4, x5⟩, rfl, g1, g2, _, hxk, hc0, hc1, hc2, hc3, hc4, hc5⟩ := APerson.at_ h ha
  obtain ⟨g', off', ⟨y0, y1, y2, y3, y4, y5⟩, he, _, _, _, hyk, hd0, hd1, hd2, hd3, hd4, hd5⟩ := APerson.at_ h hb
  injection he with he; injection he with he1 he2 _; subst he1; subst he2
  rw [fullAt_of hxk hyk]
  clear hxk hyk
  simp only at hc0 hc1 hc2 hc3 hc4 hc5 hd0 hd1 hd2 hd3 hd4 hd5
  generalize hR : fullOf ⟨x0, x1, x2, x3, x4, x5⟩ ⟨y0, y1, y2, y3, y4, y5⟩ a b = R
  have HR := Lib.hid hR; clear hR
  have lb : g < w.heap.size := by omega
  have i1 : (0 : Int) ≤ (a : Int) ∧ (a : Int) < (xs.length : Int) := by omega
  have i2 : (0 : Int) ≤ (b : Int) ∧ (b : Int) < (xs.length : Int) := by omega
  go_enter Try.func166, Try.ntmps166
  go_upto_region 3 with fail
  generalize hW : ((w.alloc (.cells #[.slice (some ⟨g, off, none⟩) xs.length c, .slice B ys.length d] 26)).alloc (.cells #[.string x0, .int .i64 x1, .int .i64 x2, .int .i64 x3, .int .i64 x4, .int .i64 x5] 99)).alloc (.cells #[.string y0, .int .i64 y1, .int .i64 y2, .int .i64 y3, .int .i64 y4, .int .i64 y5] 99) = W
  have p2 : W.cell? ⟨w.heap.size + 1, 2, none⟩ = some (.int .i64 x2) := by subst hW; simp [go_sem]
  have p3 : W.cell? ⟨w.heap.size + 1, 3, none⟩ = some (.int .i64 x3) := by subst hW; simp [go_sem]
  have q2 : W.cell? ⟨w.heap.size + 1 + 1, 2, none⟩ = some (.int .i64 y2) := by subst hW; simp [go_sem]
  have q3 : W.cell? ⟨w.heap.size + 1 + 1, 3, none⟩ = some (.int .i64 y3) := by subst hW; simp [go_sem]
  have hbW : Below w.heap.size w W := by subst hW; (with_reducible repeat' first | exact Below.refl _ _ | assumption | (refine Below.setCell ?_ (by first | omega | (simp; omega) | (simp; done) | (dsimp only; omega)) _) | (refine Below.alloc ?_ (by first | omega | (simp; omega) | (simp; done) | (dsimp only; omega)) _) | (refine below_drewN ?_ _) | (refine Below.drew ?_))
  clear hW hc0 hc1 hc2 hc3 hc4 hc5 hd0 hd1 hd2 hd3 hd4 hd5
  by_cases c0 : a = b
  · have HN := Lib.hid (HR.out.symm.trans (show _ = false by simp [fullOf, c0]))
    subst c0
    have n1 : ((a : Int) != (a : Int)) = false := by simp
    have n2 : ((a : Int) == (a : Int)) = true := by simp
    go_wp2
    go_ret
    exact ⟨ret_bool (by rw [HN.out]; try simp), by (with_reducible repeat' first | exact Below.refl _ _ | assumption | (refine Below.setCell ?_ (by first | omega | (simp; omega) | (simp; done) | (dsimp only; omega)) _) | (refine Below.alloc ?_ (by first | omega | (simp; omega) | (simp; done) | (dsimp only; omega)) _) | (refine below_drewN ?_ _) | (refine Below.drew ?_) | (refine Below.trans ?_ (hbW.mono (by first | omega | (simp; omega) | (simp; done) | (dsimp only; omega)))))⟩
  · have n1 : ((a : Int) != (b : Int)) = true := by simp; omega
    have n2 : ((a : Int) == (b : Int)) = false := by simp; omega
    by_cases c1 : 0 ≤ x2
    · by_cases c2 : 0 ≤ x3
      · by_cases c3 : x2 = y2
        · have n3 : (x2 == y2) = true := by simp [c3]
          by_cases c4 : x3 = y3
          · have HN := Lib.hid (HR.out.symm.trans (show _ = true by simp [fullOf, c0, c1, c2, ← c3, ← c4]))
            have n4 : (x3 == y3) = true := by simp [c4]
            clear c3 c4
            go_wp2
            go_ret
            exact ⟨ret_bool (by rw [HN.out]; try simp), by (with_reducible repeat' first | exact Below.refl _ _ | assumption | (refine Below.setCell ?_ (by first | omega | (simp; omega) | (simp; done) | (dsimp only; omega)) _) | (refine Below.alloc ?_ (by first | omega | (simp; omega) | (simp; done) | (dsimp only; omega)) _) | (refine below_drewN ?_ _) | (refine Below.drew ?_) | (refine Below.trans ?_ (hbW.mono (by first | omega | (simp; omega) | (simp; done) | (dsimp only; omega)))))⟩
          · have HN := Lib.hid (HR.out.symm.trans (show _ = false by simp [fullOf, c4]))
            have n4 : (x3 == y3) = false := by simp [c4]
            clear c3 c4
            go_wp2
            go_ret
            exact ⟨ret_bool (by rw [HN.out]; try simp), by (with_reducible repeat' first | exact Below.refl _ _ | assumption | (refine Below.setCell ?_ (by first | omega | (simp; omega) | (simp; done) | (dsimp only; omega)) _) | (refine Below.alloc ?_ (by first | omega | (simp; omega) | (simp; done) | (dsimp only; omega)) _) | (refine below_drewN ?_ _) | (refine Below.drew ?_) | (refine Below.trans ?_ (hbW.mono (by first | omega | (simp; omega) | (simp; done) | (dsimp only; omega)))))⟩
        · have HN := Lib.hid (HR.out.symm.trans (show _ = false by simp [fullOf, c3]))
          have n3 : (x2 == y2) = false := by simp [c3]
          clear c3
          go_wp2
          go_ret
          exact ⟨ret_bool (by rw [HN.out]; try simp), by (with_reducible repeat' first | exact Below.refl _ _ | assumption | (refine Below.setCell ?_ (by first | omega | (simp; omega) | (simp; done) | (dsimp only; omega)) _) | (refine Below.alloc ?_ (by first | omega | (simp; omega) | (simp; done) | (dsimp only; omega)) _) | (refine below_drewN ?_ _) | (refine Below.drew ?_) | (refine Below.trans ?_ (hbW.mono (by first | omega | (simp; omega) | (simp; done) | (dsimp only; omega)))))⟩
      · have HN := Lib.hid (HR.out.symm.trans (show _ = false by simp [fullOf, c2]))
        go_wp2
        go_ret
        exact ⟨ret_bool (by rw [HN.out]; try simp), by (with_reducible repeat' first | exact Below.refl _ _ | assumption | (refine Below.setCell ?_ (by first | omega | (simp; omega) | (simp; done) | (dsimp only; omega)) _) | (refine Below.alloc ?_ (by first | omega | (simp; omega) | (simp; done) | (dsimp only; omega)) _) | (refine below_drewN ?_ _) | (refine Below.drew ?_) | (refine Below.trans ?_ (hbW.mono (by first | omega | (simp; omega) | (simp; done) | (dsimp only; omega)))))⟩
    · have HN := Lib.hid (HR.out.symm.trans (show _ = false by simp [fullOf, c1]))
      go_wp2
      go_ret
      exact ⟨ret_bool (by rw [HN.out]; try simp), by (with_reducible repeat' first | exact Below.refl _ _ | assumption | (refine Below.setCell ?_ (by first | omega | (simp; omega) | (simp; done) | (dsimp only; omega)) _) | (refine Below.alloc ?_ (by first | omega | (simp; omega) | (simp; done) | (dsimp only; omega)) _) | (refine below_drewN ?_ _) | (refine Below.drew ?_) | (refine Below.trans ?_ (hbW.mono (by first | omega | (simp; omega) | (simp; done) | (dsimp only; omega)))))⟩

def WedRel (ys : List Union) (a b : Nat) (W : World) (i : Value) (wr : World) : Prop :=
  ∃ k : Nat, k ≤ ys.length ∧ i = .int .i64 k ∧ Below W.heap.size W wr ∧ wedTo ys k a b = false
theorem other_both (u : Union) (p q : Int) : otherM u p = some q ↔ otherS u p = (q, true) := by
  unfold otherM otherS
  by_cases h1 : u.man = p
  · simp [h1]
  · by_cases h2 : u.woman = p
    · simp [h1, h2]
    · simp [h1, h2]
theorem quiet_same {P : Program} {f : FuncId} {args : Array Value} {w : World} {n : Nat} {v : Value} (h : Calls P f args (w.drewN n) fun e w' => e = .returned v ∧ w.drewN n = w') :
    Calls P f args (w.drewN n) fun e w'' => e = .returned v ∧ ∃ m, w'' = w.drewN m := h.mono fun _ _ ⟨he, hm⟩ => ⟨he, n, hm.symm⟩
theorem l3Sex_quiet (k x : Int) (w : World) (n : Nat) (h : 1 ≤ k ∧ k ≤ 8) (hx : sexTo k = x) : Calls Try.prog 172 #[.int .i64 k] (w.drewN n) fun e w'' => e = .returned (.int .i64 x) ∧ ∃ m, w'' = w.drewN m := by
  subst hx; exact quiet_same (l3Sex_any k _ h.1 h.2)
theorem sexTo_odd {k : Int} (h : k = 1 ∨ k = 3 ∨ k = 5 ∨ k = 7) : sexTo k = 1 := by rcases h with rfl | rfl | rfl | rfl <;> rfl
theorem sexTo_even {k : Int} (h : k = 2 ∨ k = 4 ∨ k = 6 ∨ k = 8) : sexTo k = 2 := by rcases h with rfl | rfl | rfl | rfl <;> rfl

set_option maxHeartbeats 8000000 in
theorem l3Leads_any (A B : Option Addr) (c d lo hi : Nat) (xs : List Person) (ys : List Union) (kd ag : Int) (a b : Nat) (w : World) (h : EPerson.AS w lo hi A xs) (h' : EUnion.AS w lo hi B ys) (hh : hi ≤ w.heap.size) (ha : a < xs.length) (hb : b < xs.length) (hk : 1 ≤ kd ∧ kd ≤ 8) :
    Calls Try.prog 182 #[.agg #[.slice A xs.length c, .slice B ys.length d], .agg #[.int .i64 kd, .int .i64 ag], .int .i64 a, .int .i64 b] w fun e w' => e = .returned (.bool (leadM xs ys ⟨kd, ag⟩ a b)) ∧ Below w.heap.size w w' := by
  have hy := h'.le
  unfold BIG at hy
  have hx := h.le
  unfold BIG at hx
  obtain ⟨g, off, ⟨x0, x1, x2, x3, x4, x5⟩, rfl, g1, g2, _, hxk, hc0, hc1, hc2, hc3, hc4, hc5⟩ := APerson.at_ h ha
  obtain ⟨g', off', ⟨y0, y1, y2, y3, y4, y5⟩, he, _, _, _, hyk, hd0, hd1, hd2, hd3, hd4, hd5⟩ := APerson.at_ h hb
  injection he with he; injection he with he1 he2 _; subst he1; subst he2
  rw [leadM_of hxk hyk]
  clear hxk hyk
  simp only at hc0 hc1 hc2 hc3 hc4 hc5 hd0 hd1 hd2 hd3 hd4 hd5
  generalize hR : leadOf xs ys ⟨kd, ag⟩ a b ⟨x0, x1, x2, x3, x4, x5⟩ ⟨y0, y1, y2, y3, y4, y5⟩ = R
  have HR := Lib.hid hR; clear hR
  have lb : g < w.heap.size := by omega
  have i1 : (0 : Int) ≤ (a : Int) ∧ (a : Int) < (xs.length : Int) := by omega
  have i2 : (0 : Int) ≤ (b : Int) ∧ (b : Int) < (xs.length : Int) := by omega
  go_enter Try.func182, Try.ntmps182
  go_upto_region 1 with fail
  generalize hV : (w.alloc (.cells #[.slice (some ⟨g, off, none⟩) xs.length c, .slice B ys.length d] 26)).alloc (.cells #[.int .i64 kd, .int .i64 ag] 72) = V
  have e0 : V.cell? ⟨w.heap.size, 0, none⟩ = some (.slice (some ⟨g, off, none⟩) xs.length c) := by subst hV; simp [go_sem]
  have e1 : V.cell? ⟨w.heap.size, 1, none⟩ = some (.slice B ys.length d) := by subst hV; simp [go_sem]
  have s0 : V.cell? ⟨w.heap.size + 1, 0, none⟩ = some (.int .i64 kd) := by subst hV; simp [go_sem]
  have s1 : V.cell? ⟨w.heap.size + 1, 1, none⟩ = some (.int .i64 ag) := by subst hV; simp [go_sem]
  have hbV : Below w.heap.size w V := by subst hV; (with_reducible repeat' first | exact Below.refl _ _ | assumption | (refine Below.setCell ?_ (by first | omega | (simp; omega) | (simp; done) | (dsimp only; omega)) _) | (refine Below.alloc ?_ (by first | omega | (simp; omega) | (simp; done) | (dsimp only; omega)) _) | (refine below_drewN ?_ _) | (refine Below.drew ?_))
  have zV : w.heap.size + 1 < V.heap.size := by subst hV; simp
  clear hV
  replace hc0 := (hbV.cell (p := ⟨g, off + a * 6, none⟩) lb).trans hc0
  replace hc1 := (hbV.cell (p := ⟨g, off + a * 6 + 1, none⟩) lb).trans hc1
  replace hc2 := (hbV.cell (p := ⟨g, off + a * 6 + 2, none⟩) lb).trans hc2
  replace hc3 := (hbV.cell (p := ⟨g, off + a * 6 + 3, none⟩) lb).trans hc3
  replace hc4 := (hbV.cell (p := ⟨g, off + a * 6 + 4, none⟩) lb).trans hc4
  replace hc5 := (hbV.cell (p := ⟨g, off + a * 6 + 5, none⟩) lb).trans hc5
  replace hd0 := (hbV.cell (p := ⟨g, off + b * 6, none⟩) lb).trans hd0
  replace hd1 := (hbV.cell (p := ⟨g, off + b * 6 + 1, none⟩) lb).trans hd1
  replace hd2 := (hbV.cell (p := ⟨g, off + b * 6 + 2, none⟩) lb).trans hd2
  replace hd3 := (hbV.cell (p := ⟨g, off + b * 6 + 3, none⟩) lb).trans hd3
  replace hd4 := (hbV.cell (p := ⟨g, off + b * 6 + 4, none⟩) lb).trans hd4
  replace hd5 := (hbV.cell (p := ⟨g, off + b * 6 + 5, none⟩) lb).trans hd5
  have lbV : g < V.heap.size := by omega
  have zV0 : w.heap.size < V.heap.size := by omega
  go_upto_region 3 with fail
  generalize hW : (V.alloc (.cells #[.string x0, .int .i64 x1, .int .i64 x2, .int .i64 x3, .int .i64 x4, .int .i64 x5] 99)).alloc (.cells #[.string y0, .int .i64 y1, .int .i64 y2, .int .i64 y3, .int .i64 y4, .int .i64 y5] 99) = W
  have p2 : W.cell? ⟨V.heap.size, 2, none⟩ = some (.int .i64 x2) := by subst hW; simp [go_sem]
  have p3 : W.cell? ⟨V.heap.size, 3, none⟩ = some (.int .i64 x3) := by subst hW; simp [go_sem]
  have q1 : W.cell? ⟨V.heap.size + 1, 1, none⟩ = some (.int .i64 y1) := by subst hW; simp [go_sem]
  have q2 : W.cell? ⟨V.heap.size + 1, 2, none⟩ = some (.int .i64 y2) := by subst hW; simp [go_sem]
  have q3 : W.cell? ⟨V.heap.size + 1, 3, none⟩ = some (.int .i64 y3) := by subst hW; simp [go_sem]
  have hbV2 : Below V.heap.size V W := by subst hW; (with_reducible repeat' first | exact Below.refl _ _ | assumption | (refine Below.setCell ?_ (by first | omega | (simp; omega) | (simp; done) | (dsimp only; omega)) _) | (refine Below.alloc ?_ (by first | omega | (simp; omega) | (simp; done) | (dsimp only; omega)) _) | (refine below_drewN ?_ _) | (refine Below.drew ?_))
  have zW : V.heap.size + 1 < W.heap.size := by subst hW; simp
  have hbW := hbV.trans (hbV2.mono (Nat.le_of_lt (by omega)))
  replace e0 := (hbV2.cell (p := ⟨w.heap.size, 0, none⟩) (by simp; omega)).trans e0
  replace e1 := (hbV2.cell (p := ⟨w.heap.size, 1, none⟩) (by simp; omega)).trans e1
  replace s0 := (hbV2.cell (p := ⟨w.heap.size + 1, 0, none⟩) (by simp; omega)).trans s0
  replace s1 := (hbV2.cell (p := ⟨w.heap.size + 1, 1, none⟩) (by simp; omega)).trans s1
  clear hW hbV hbV2 hc0 hc1 hc2 hc3 hc4 hc5 hd0 hd1 hd2 hd3 hd4 hd5
  have zW0 : w.heap.size < W.heap.size := by omega
  have zW1 : w.heap.size + 1 < W.heap.size := by omega
  have zW2 : V.heap.size < W.heap.size := by omega
  replace h := h.same (Same.of_below hbW hh)
  replace h' := h'.same (Same.of_below hbW hh)
  by_cases hsex : y1 = sexTo kd
  · rcases (by omega : kd = 1 ∨ kd = 2 ∨ kd = 3 ∨ kd = 4 ∨ kd = 5 ∨ kd = 6 ∨ kd = 7 ∨ kd = 8) with rfl | rfl | rfl | rfl | rfl | rfl | rfl | rfl
    · obtain rfl : y1 = 1 := hsex.trans (sexTo_odd (by simp))
      have HX := Lib.hid (show sexTo 1 = 1 from sexTo_odd (by simp))
      clear hsex
      by_cases c1 : x2 = (b : Int)
      · have HN := Lib.hid (HR.out.symm.trans (show _ = true by simp [leadOf, sexTo, c1]))
        have n1 : (x2 == (b : Int)) = true := by simp [c1]
        clear c1
        go_quiet ((go_at_call 172; exact l3Sex_quiet 1 _ _ _ hk HX.out))
        go_wp2
        go_ret
        exact ⟨ret_bool (by rw [HN.out]; try simp), by (with_reducible repeat' first | exact Below.refl _ _ | assumption | (refine Below.setCell ?_ (by first | omega | (simp; omega) | (simp; done) | (dsimp only; omega)) _) | (refine Below.alloc ?_ (by first | omega | (simp; omega) | (simp; done) | (dsimp only; omega)) _) | (refine below_drewN ?_ _) | (refine Below.drew ?_) | (refine Below.trans ?_ (hbW.mono (by first | omega | (simp; omega) | (simp; done) | (dsimp only; omega)))))⟩
      · have HN := Lib.hid (HR.out.symm.trans (show _ = false by simp [leadOf, sexTo, c1]))
        have n1 : (x2 == (b : Int)) = false := by simp [c1]
        clear c1
        go_quiet ((go_at_call 172; exact l3Sex_quiet 1 _ _ _ hk HX.out))
        go_wp2
        go_ret
        exact ⟨ret_bool (by rw [HN.out]; try simp), by (with_reducible repeat' first | exact Below.refl _ _ | assumption | (refine Below.setCell ?_ (by first | omega | (simp; omega) | (simp; done) | (dsimp only; omega)) _) | (refine Below.alloc ?_ (by first | omega | (simp; omega) | (simp; done) | (dsimp only; omega)) _) | (refine below_drewN ?_ _) | (refine Below.drew ?_) | (refine Below.trans ?_ (hbW.mono (by first | omega | (simp; omega) | (simp; done) | (dsimp only; omega)))))⟩
    · obtain rfl : y1 = 2 := hsex.trans (sexTo_even (by simp))
      have HX := Lib.hid (show sexTo 2 = 2 from sexTo_even (by simp))
      clear hsex
      by_cases c1 : x3 = (b : Int)
      · have HN := Lib.hid (HR.out.symm.trans (show _ = true by simp [leadOf, sexTo, c1]))
        have n1 : (x3 == (b : Int)) = true := by simp [c1]
        clear c1
        go_quiet ((go_at_call 172; exact l3Sex_quiet 2 _ _ _ hk HX.out))
        go_wp2
        go_ret
        exact ⟨ret_bool (by rw [HN.out]; try simp), by (with_reducible repeat' first | exact Below.refl _ _ | assumption | (refine Below.setCell ?_ (by first | omega | (simp; omega) | (simp; done) | (dsimp only; omega)) _) | (refine Below.alloc ?_ (by first | omega | (simp; omega) | (simp; done) | (dsimp only; omega)) _) | (refine below_drewN ?_ _) | (refine Below.drew ?_) | (refine Below.trans ?_ (hbW.mono (by first | omega | (simp; omega) | (simp; done) | (dsimp only; omega)))))⟩
      · have HN := Lib.hid (HR.out.symm.trans (show _ = false by simp [leadOf, sexTo, c1]))
        have n1 : (x3 == (b : Int)) = false := by simp [c1]
        clear c1
        go_quiet ((go_at_call 172; exact l3Sex_quiet 2 _ _ _ hk HX.out))
        go_wp2
        go_ret
        exact ⟨ret_bool (by rw [HN.out]; try simp), by (with_reducible repeat' first | exact Below.refl _ _ | assumption | (refine Below.setCell ?_ (by first | omega | (simp; omega) | (simp; done) | (dsimp only; omega)) _) | (refine Below.alloc ?_ (by first | omega | (simp; omega) | (simp; done) | (dsimp only; omega)) _) | (refine below_drewN ?_ _) | (refine Below.drew ?_) | (refine Below.trans ?_ (hbW.mono (by first | omega | (simp; omega) | (simp; done) | (dsimp only; omega)))))⟩
    · obtain rfl : y1 = 1 := hsex.trans (sexTo_odd (by simp))
      have HX := Lib.hid (show sexTo 3 = 1 from sexTo_odd (by simp))
      clear hsex
      by_cases a1 : ag = 1
      · subst a1
        cases hE : elderAt xs b a with
        | false =>
          have HE := Lib.hid hE
          have HN := Lib.hid (HR.out.symm.trans (show _ = false by simp [leadOf, sexTo, bornOk, hE]))
          clear hE
          go_quiet ((go_at_call 172; exact l3Sex_quiet 3 _ _ _ hk HX.out))
          go_wp2_with (go_at_call 207; (with_reducible refine (l1Elder_any _ _ _ _ lo hi xs ys b a _ (h.same (by (with_reducible repeat' first | exact Same.refl _ _ _ | assumption | (refine Same.setCell ?_ (by first | omega | (simp; omega) | (simp; done) | (dsimp only; omega)) _) | (refine Same.alloc ?_ (by first | omega | (simp; omega) | (simp; done) | (dsimp only; omega)) _) | (refine Same.drewN ?_ _) | (refine Same.drew ?_)))) (h'.same (by (with_reducible repeat' first | exact Same.refl _ _ _ | assumption | (refine Same.setCell ?_ (by first | omega | (simp; omega) | (simp; done) | (dsimp only; omega)) _) | (refine Same.alloc ?_ (by first | omega | (simp; omega) | (simp; done) | (dsimp only; omega)) _) | (refine Same.drewN ?_ _) | (refine Same.drew ?_)))) (by first | omega | (simp; omega) | (simp; done) | (dsimp only; omega)) (by omega) (by omega)).mono ?_); rintro e w5 ⟨rfl, hb5⟩; simp only [HE.out]; (obtain ⟨hb5c, hb5f⟩ := bcell hb5); (have hb5z := hb5.size); (try simp only [szs] at hb5c hb5f hb5z))
          go_ret
          exact ⟨ret_bool (by rw [HN.out]; try simp), by (with_reducible repeat' first | exact Below.refl _ _ | assumption | (refine Below.setCell ?_ (by first | omega | (simp; omega) | (simp; done) | (dsimp only; omega)) _) | (refine Below.alloc ?_ (by first | omega | (simp; omega) | (simp; done) | (dsimp only; omega)) _) | (refine below_drewN ?_ _) | (refine Below.drew ?_) | (refine Below.trans ?_ (hb5.mono (by first | omega | (simp; omega) | (simp; done) | (dsimp only; omega)))) | (refine Below.trans ?_ (hbW.mono (by first | omega | (simp; omega) | (simp; done) | (dsimp only; omega)))))⟩
        | true =>
          have HE := Lib.hid hE
          have HN := Lib.hid (HR.out.symm.trans (show _ = fullAt xs a b by simp [leadOf, sexTo, bornOk, hE]))
          clear hE
          go_quiet ((go_at_call 172; exact l3Sex_quiet 3 _ _ _ hk HX.out))
          go_wp2_with (first | (go_at_call 207; (with_reducible refine (l1Elder_any _ _ _ _ lo hi xs ys b a _ (h.same (by (with_reducible repeat' first | exact Same.refl _ _ _ | assumption | (refine Same.setCell ?_ (by first | omega | (simp; omega) | (simp; done) | (dsimp only; omega)) _) | (refine Same.alloc ?_ (by first | omega | (simp; omega) | (simp; done) | (dsimp only; omega)) _) | (refine Same.drewN ?_ _) | (refine Same.drew ?_)))) (h'.same (by (with_reducible repeat' first | exact Same.refl _ _ _ | assumption | (refine Same.setCell ?_ (by first | omega | (simp; omega) | (simp; done) | (dsimp only; omega)) _) | (refine Same.alloc ?_ (by first | omega | (simp; omega) | (simp; done) | (dsimp only; omega)) _) | (refine Same.drewN ?_ _) | (refine Same.drew ?_)))) (by first | omega | (simp; omega) | (simp; done) | (dsimp only; omega)) (by omega) (by omega)).mono ?_); rintro e w5 ⟨rfl, hb5⟩; simp only [HE.out]; (obtain ⟨hb5c, hb5f⟩ := bcell hb5); (have hb5z := hb5.size); (try simp only [szs] at hb5c hb5f hb5z)) | (go_at_call 166; (with_reducible refine (l1Full_any _ _ _ _ lo hi xs ys a b _ (h.same (by (with_reducible repeat' first | exact Same.refl _ _ _ | assumption | (refine Same.setCell ?_ (by first | omega | (simp; omega) | (simp; done) | (dsimp only; omega)) _) | (refine Same.alloc ?_ (by first | omega | (simp; omega) | (simp; done) | (dsimp only; omega)) _) | (refine Same.drewN ?_ _) | (refine Same.drew ?_) | (refine Same.trans ?_ (Same.of_below hb5 (by first | omega | (simp; omega) | (simp; done) | (dsimp only; omega))))))) (h'.same (by (with_reducible repeat' first | exact Same.refl _ _ _ | assumption | (refine Same.setCell ?_ (by first | omega | (simp; omega) | (simp; done) | (dsimp only; omega)) _) | (refine Same.alloc ?_ (by first | omega | (simp; omega) | (simp; done) | (dsimp only; omega)) _) | (refine Same.drewN ?_ _) | (refine Same.drew ?_) | (refine Same.trans ?_ (Same.of_below hb5 (by first | omega | (simp; omega) | (simp; done) | (dsimp only; omega))))))) (by first | omega | (simp; omega) | (simp; done) | (dsimp only; omega)) (by omega) (by omega)).mono ?_); rintro e w9 ⟨rfl, hb9⟩))
          go_ret
          exact ⟨ret_bool (by rw [HN.out]; try simp), by (with_reducible repeat' first | exact Below.refl _ _ | assumption | (refine Below.setCell ?_ (by first | omega | (simp; omega) | (simp; done) | (dsimp only; omega)) _) | (refine Below.alloc ?_ (by first | omega | (simp; omega) | (simp; done) | (dsimp only; omega)) _) | (refine below_drewN ?_ _) | (refine Below.drew ?_) | (refine Below.trans ?_ (hb9.mono (by first | omega | (simp; omega) | (simp; done) | (dsimp only; omega)))) | (refine Below.trans ?_ (hb5.mono (by first | omega | (simp; omega) | (simp; done) | (dsimp only; omega)))) | (refine Below.trans ?_ (hbW.mono (by first | omega | (simp; omega) | (simp; done) | (dsimp only; omega)))))⟩
      · have n1 : (ag == 1) = false := by simp [a1]
        by_cases a2 : ag = 2
        · subst a2
          cases hE : elderAt xs a b with
          | false =>
            have HE := Lib.hid hE
            have HN := Lib.hid (HR.out.symm.trans (show _ = false by simp [leadOf, sexTo, bornOk, hE]))
            clear hE
            go_quiet ((go_at_call 172; exact l3Sex_quiet 3 _ _ _ hk HX.out))
            go_wp2_with (go_at_call 207; (with_reducible refine (l1Elder_any _ _ _ _ lo hi xs ys a b _ (h.same (by (with_reducible repeat' first | exact Same.refl _ _ _ | assumption | (refine Same.setCell ?_ (by first | omega | (simp; omega) | (simp; done) | (dsimp only; omega)) _) | (refine Same.alloc ?_ (by first | omega | (simp; omega) | (simp; done) | (dsimp only; omega)) _) | (refine Same.drewN ?_ _) | (refine Same.drew ?_)))) (h'.same (by (with_reducible repeat' first | exact Same.refl _ _ _ | assumption | (refine Same.setCell ?_ (by first | omega | (simp; omega) | (simp; done) | (dsimp only; omega)) _) | (refine Same.alloc ?_ (by first | omega | (simp; omega) | (simp; done) | (dsimp only; omega)) _) | (refine Same.drewN ?_ _) | (refine Same.drew ?_)))) (by first | omega | (simp; omega) | (simp; done) | (dsimp only; omega)) (by omega) (by omega)).mono ?_); rintro e w5 ⟨rfl, hb5⟩; simp only [HE.out]; (obtain ⟨hb5c, hb5f⟩ := bcell hb5); (have hb5z := hb5.size); (try simp only [szs] at hb5c hb5f hb5z))
            go_ret
            exact ⟨ret_bool (by rw [HN.out]; try simp), by (with_reducible repeat' first | exact Below.refl _ _ | assumption | (refine Below.setCell ?_ (by first | omega | (simp; omega) | (simp; done) | (dsimp only; omega)) _) | (refine Below.alloc ?_ (by first | omega | (simp; omega) | (simp; done) | (dsimp only; omega)) _) | (refine below_drewN ?_ _) | (refine Below.drew ?_) | (refine Below.trans ?_ (hb5.mono (by first | omega | (simp; omega) | (simp; done) | (dsimp only; omega)))) | (refine Below.trans ?_ (hbW.mono (by first | omega | (simp; omega) | (simp; done) | (dsimp only; omega)))))⟩
          | true =>
            have HE := Lib.hid hE
            have HN := Lib.hid (HR.out.symm.trans (show _ = fullAt xs a b by simp [leadOf, sexTo, bornOk, hE]))
            clear hE
            go_quiet ((go_at_call 172; exact l3Sex_quiet 3 _ _ _ hk HX.out))
            go_wp2_with (first | (go_at_call 207; (with_reducible refine (l1Elder_any _ _ _ _ lo hi xs ys a b _ (h.same (by (with_reducible repeat' first | exact Same.refl _ _ _ | assumption | (refine Same.setCell ?_ (by first | omega | (simp; omega) | (simp; done) | (dsimp only; omega)) _) | (refine Same.alloc ?_ (by first | omega | (simp; omega) | (simp; done) | (dsimp only; omega)) _) | (refine Same.drewN ?_ _) | (refine Same.drew ?_)))) (h'.same (by (with_reducible repeat' first | exact Same.refl _ _ _ | assumption | (refine Same.setCell ?_ (by first | omega | (simp; omega) | (simp; done) | (dsimp only; omega)) _) | (refine Same.alloc ?_ (by first | omega | (simp; omega) | (simp; done) | (dsimp only; omega)) _) | (refine Same.drewN ?_ _) | (refine Same.drew ?_)))) (by first | omega | (simp; omega) | (simp; done) | (dsimp only; omega)) (by omega) (by omega)).mono ?_); rintro e w5 ⟨rfl, hb5⟩; simp only [HE.out]; (obtain ⟨hb5c, hb5f⟩ := bcell hb5); (have hb5z := hb5.size); (try simp only [szs] at hb5c hb5f hb5z)) | (go_at_call 166; (with_reducible refine (l1Full_any _ _ _ _ lo hi xs ys a b _ (h.same (by (with_reducible repeat' first | exact Same.refl _ _ _ | assumption | (refine Same.setCell ?_ (by first | omega | (simp; omega) | (simp; done) | (dsimp only; omega)) _) | (refine Same.alloc ?_ (by first | omega | (simp; omega) | (simp; done) | (dsimp only; omega)) _) | (refine Same.drewN ?_ _) | (refine Same.drew ?_) | (refine Same.trans ?_ (Same.of_below hb5 (by first | omega | (simp; omega) | (simp; done) | (dsimp only; omega))))))) (h'.same (by (with_reducible repeat' first | exact Same.refl _ _ _ | assumption | (refine Same.setCell ?_ (by first | omega | (simp; omega) | (simp; done) | (dsimp only; omega)) _) | (refine Same.alloc ?_ (by first | omega | (simp; omega) | (simp; done) | (dsimp only; omega)) _) | (refine Same.drewN ?_ _) | (refine Same.drew ?_) | (refine Same.trans ?_ (Same.of_below hb5 (by first | omega | (simp; omega) | (simp; done) | (dsimp only; omega))))))) (by first | omega | (simp; omega) | (simp; done) | (dsimp only; omega)) (by omega) (by omega)).mono ?_); rintro e w9 ⟨rfl, hb9⟩))
            go_ret
            exact ⟨ret_bool (by rw [HN.out]; try simp), by (with_reducible repeat' first | exact Below.refl _ _ | assumption | (refine Below.setCell ?_ (by first | omega | (simp; omega) | (simp; done) | (dsimp only; omega)) _) | (refine Below.alloc ?_ (by first | omega | (simp; omega) | (simp; done) | (dsimp only; omega)) _) | (refine below_drewN ?_ _) | (refine Below.drew ?_) | (refine Below.trans ?_ (hb9.mono (by first | omega | (simp; omega) | (simp; done) | (dsimp only; omega)))) | (refine Below.trans ?_ (hb5.mono (by first | omega | (simp; omega) | (simp; done) | (dsimp only; omega)))) | (refine Below.trans ?_ (hbW.mono (by first | omega | (simp; omega) | (simp; done) | (dsimp only; omega)))))⟩
        · have n2 : (ag == 2) = false := by simp [a2]
          have HN := Lib.hid (HR.out.symm.trans (show _ = fullAt xs a b by simp [leadOf, sexTo, bornOk, a1, a2]))
          clear a1 a2
          go_quiet ((go_at_call 172; exact l3Sex_quiet 3 _ _ _ hk HX.out))
          go_wp2_with (go_at_call 166; (with_reducible refine (l1Full_any _ _ _ _ lo hi xs ys a b _ (h.same (by (with_reducible repeat' first | exact Same.refl _ _ _ | assumption | (refine Same.setCell ?_ (by first | omega | (simp; omega) | (simp; done) | (dsimp only; omega)) _) | (refine Same.alloc ?_ (by first | omega | (simp; omega) | (simp; done) | (dsimp only; omega)) _) | (refine Same.drewN ?_ _) | (refine Same.drew ?_)))) (h'.same (by (with_reducible repeat' first | exact Same.refl _ _ _ | assumption | (refine Same.setCell ?_ (by first | omega | (simp; omega) | (simp; done) | (dsimp only; omega)) _) | (refine Same.alloc ?_ (by first | omega | (simp; omega) | (simp; done) | (dsimp only; omega)) _) | (refine Same.drewN ?_ _) | (refine Same.drew ?_)))) (by first | omega | (simp; omega) | (simp; done) | (dsimp only; omega)) (by omega) (by omega)).mono ?_); rintro e w9 ⟨rfl, hb9⟩)
          go_ret
          exact ⟨ret_bool (by rw [HN.out]; try simp), by (with_reducible repeat' first | exact Below.refl _ _ | assumption | (refine Below.setCell ?_ (by first | omega | (simp; omega) | (simp; done) | (dsimp only; omega)) _) | (refine Below.alloc ?_ (by first | omega | (simp; omega) | (simp; done) | (dsimp only; omega)) _) | (refine below_drewN ?_ _) | (refine Below.drew ?_) | (refine Below.trans ?_ (hb9.mono (by first | omega | (simp; omega) | (simp; done) | (dsimp only; omega)))) | (refine Below.trans ?_ (hbW.mono (by first | omega | (simp; omega) | (simp; done) | (dsimp only; omega)))))⟩
    · obtain rfl : y1 = 2 := hsex.trans (sexTo_even (by simp))
      have HX := Lib.hid (show sexTo 4 = 2 from sexTo_even (by simp))
      clear hsex
      by_cases a1 : ag = 1
      · subst a1
        cases hE : elderAt xs b a with
        | false =>
          have HE := Lib.hid hE
          have HN := Lib.hid (HR.out.symm.trans (show _ = false by simp [leadOf, sexTo, bornOk, hE]))
          clear hE
          go_quiet ((go_at_call 172; exact l3Sex_quiet 4 _ _ _ hk HX.out))
          go_wp2_with (go_at_call 207; (with_reducible refine (l1Elder_any _ _ _ _ lo hi xs ys b a _ (h.same (by (with_reducible repeat' first | exact Same.refl _ _ _ | assumption | (refine Same.setCell ?_ (by first | omega | (simp; omega) | (simp; done) | (dsimp only; omega)) _) | (refine Same.alloc ?_ (by first | omega | (simp; omega) | (simp; done) | (dsimp only; omega)) _) | (refine Same.drewN ?_ _) | (refine Same.drew ?_)))) (h'.same (by (with_reducible repeat' first | exact Same.refl _ _ _ | assumption | (refine Same.setCell ?_ (by first | omega | (simp; omega) | (simp; done) | (dsimp only; omega)) _) | (refine Same.alloc ?_ (by first | omega | (simp; omega) | (simp; done) | (dsimp only; omega)) _) | (refine Same.drewN ?_ _) | (refine Same.drew ?_)))) (by first | omega | (simp; omega) | (simp; done) | (dsimp only; omega)) (by omega) (by omega)).mono ?_); rintro e w5 ⟨rfl, hb5⟩; simp only [HE.out]; (obtain ⟨hb5c, hb5f⟩ := bcell hb5); (have hb5z := hb5.size); (try simp only [szs] at hb5c hb5f hb5z))
          go_ret
          exact ⟨ret_bool (by rw [HN.out]; try simp), by (with_reducible repeat' first | exact Below.refl _ _ | assumption | (refine Below.setCell ?_ (by first | omega | (simp; omega) | (simp; done) | (dsimp only; omega)) _) | (refine Below.alloc ?_ (by first | omega | (simp; omega) | (simp; done) | (dsimp only; omega)) _) | (refine below_drewN ?_ _) | (refine Below.drew ?_) | (refine Below.trans ?_ (hb5.mono (by first | omega | (simp; omega) | (simp; done) | (dsimp only; omega)))) | (refine Below.trans ?_ (hbW.mono (by first | omega | (simp; omega) | (simp; done) | (dsimp only; omega)))))⟩
        | true =>
          have HE := Lib.hid hE
          have HN := Lib.hid (HR.out.symm.trans (show _ = fullAt xs a b by simp [leadOf, sexTo, bornOk, hE]))
          clear hE
          go_quiet ((go_at_call 172; exact l3Sex_quiet 4 _ _ _ hk HX.out))
          go_wp2_with (first | (go_at_call 207; (with_reducible refine (l1Elder_any _ _ _ _ lo hi xs ys b a _ (h.same (by (with_reducible repeat' first | exact Same.refl _ _ _ | assumption | (refine Same.setCell ?_ (by first | omega | (simp; omega) | (simp; done) | (dsimp only; omega)) _) | (refine Same.alloc ?_ (by first | omega | (simp; omega) | (simp; done) | (dsimp only; omega)) _) | (refine Same.drewN ?_ _) | (refine Same.drew ?_)))) (h'.same (by (with_reducible repeat' first | exact Same.refl _ _ _ | assumption | (refine Same.setCell ?_ (by first | omega | (simp; omega) | (simp; done) | (dsimp only; omega)) _) | (refine Same.alloc ?_ (by first | omega | (simp; omega) | (simp; done) | (dsimp only; omega)) _) | (refine Same.drewN ?_ _) | (refine Same.drew ?_)))) (by first | omega | (simp; omega) | (simp; done) | (dsimp only; omega)) (by omega) (by omega)).mono ?_); rintro e w5 ⟨rfl, hb5⟩; simp only [HE.out]; (obtain ⟨hb5c, hb5f⟩ := bcell hb5); (have hb5z := hb5.size); (try simp only [szs] at hb5c hb5f hb5z)) | (go_at_call 166; (with_reducible refine (l1Full_any _ _ _ _ lo hi xs ys a b _ (h.same (by (with_reducible repeat' first | exact Same.refl _ _ _ | assumption | (refine Same.setCell ?_ (by first | omega | (simp; omega) | (simp; done) | (dsimp only; omega)) _) | (refine Same.alloc ?_ (by first | omega | (simp; omega) | (simp; done) | (dsimp only; omega)) _) | (refine Same.drewN ?_ _) | (refine Same.drew ?_) | (refine Same.trans ?_ (Same.of_below hb5 (by first | omega | (simp; omega) | (simp; done) | (dsimp only; omega))))))) (h'.same (by (with_reducible repeat' first | exact Same.refl _ _ _ | assumption | (refine Same.setCell ?_ (by first | omega | (simp; omega) | (simp; done) | (dsimp only; omega)) _) | (refine Same.alloc ?_ (by first | omega | (simp; omega) | (simp; done) | (dsimp only; omega)) _) | (refine Same.drewN ?_ _) | (refine Same.drew ?_) | (refine Same.trans ?_ (Same.of_below hb5 (by first | omega | (simp; omega) | (simp; done) | (dsimp only; omega))))))) (by first | omega | (simp; omega) | (simp; done) | (dsimp only; omega)) (by omega) (by omega)).mono ?_); rintro e w9 ⟨rfl, hb9⟩))
          go_ret
          exact ⟨ret_bool (by rw [HN.out]; try simp), by (with_reducible repeat' first | exact Below.refl _ _ | assumption | (refine Below.setCell ?_ (by first | omega | (simp; omega) | (simp; done) | (dsimp only; omega)) _) | (refine Below.alloc ?_ (by first | omega | (simp; omega) | (simp; done) | (dsimp only; omega)) _) | (refine below_drewN ?_ _) | (refine Below.drew ?_) | (refine Below.trans ?_ (hb9.mono (by first | omega | (simp; omega) | (simp; done) | (dsimp only; omega)))) | (refine Below.trans ?_ (hb5.mono (by first | omega | (simp; omega) | (simp; done) | (dsimp only; omega)))) | (refine Below.trans ?_ (hbW.mono (by first | omega | (simp; omega) | (simp; done) | (dsimp only; omega)))))⟩
      · have n1 : (ag == 1) = false := by simp [a1]
        by_cases a2 : ag = 2
        · subst a2
          cases hE : elderAt xs a b with
          | false =>
            have HE := Lib.hid hE
            have HN := Lib.hid (HR.out.symm.trans (show _ = false by simp [leadOf, sexTo, bornOk, hE]))
            clear hE
            go_quiet ((go_at_call 172; exact l3Sex_quiet 4 _ _ _ hk HX.out))
            go_wp2_with (go_at_call 207; (with_reducible refine (l1Elder_any _ _ _ _ lo hi xs ys a b _ (h.same (by (with_reducible repeat' first | exact Same.refl _ _ _ | assumption | (refine Same.setCell ?_ (by first | omega | (simp; omega) | (simp; done) | (dsimp only; omega)) _) | (refine Same.alloc ?_ (by first | omega | (simp; omega) | (simp; done) | (dsimp only; omega)) _) | (refine Same.drewN ?_ _) | (refine Same.drew ?_)))) (h'.same (by (with_reducible repeat' first | exact Same.refl _ _ _ | assumption | (refine Same.setCell ?_ (by first | omega | (simp; omega) | (simp; done) | (dsimp only; omega)) _) | (refine Same.alloc ?_ (by first | omega | (simp; omega) | (simp; done) | (dsimp only; omega)) _) | (refine Same.drewN ?_ _) | (refine Same.drew ?_)))) (by first | omega | (simp; omega) | (simp; done) | (dsimp only; omega)) (by omega) (by omega)).mono ?_); rintro e w5 ⟨rfl, hb5⟩; simp only [HE.out]; (obtain ⟨hb5c, hb5f⟩ := bcell hb5); (have hb5z := hb5.size); (try simp only [szs] at hb5c hb5f hb5z))
            go_ret
            exact ⟨ret_bool (by rw [HN.out]; try simp), by (with_reducible repeat' first | exact Below.refl _ _ | assumption | (refine Below.setCell ?_ (by first | omega | (simp; omega) | (simp; done) | (dsimp only; omega)) _) | (refine Below.alloc ?_ (by first | omega | (simp; omega) | (simp; done) | (dsimp only; omega)) _) | (refine below_drewN ?_ _) | (refine Below.drew ?_) | (refine Below.trans ?_ (hb5.mono (by first | omega | (simp; omega) | (simp; done) | (dsimp only; omega)))) | (refine Below.trans ?_ (hbW.mono (by first | omega | (simp; omega) | (simp; done) | (dsimp only; omega)))))⟩
          | true =>
            have HE := Lib.hid hE
            have HN := Lib.hid (HR.out.symm.trans (show _ = fullAt xs a b by simp [leadOf, sexTo, bornOk, hE]))
            clear hE
            go_quiet ((go_at_call 172; exact l3Sex_quiet 4 _ _ _ hk HX.out))
            go_wp2_with (first | (go_at_call 207; (with_reducible refine (l1Elder_any _ _ _ _ lo hi xs ys a b _ (h.same (by (with_reducible repeat' first | exact Same.refl _ _ _ | assumption | (refine Same.setCell ?_ (by first | omega | (simp; omega) | (simp; done) | (dsimp only; omega)) _) | (refine Same.alloc ?_ (by first | omega | (simp; omega) | (simp; done) | (dsimp only; omega)) _) | (refine Same.drewN ?_ _) | (refine Same.drew ?_)))) (h'.same (by (with_reducible repeat' first | exact Same.refl _ _ _ | assumption | (refine Same.setCell ?_ (by first | omega | (simp; omega) | (simp; done) | (dsimp only; omega)) _) | (refine Same.alloc ?_ (by first | omega | (simp; omega) | (simp; done) | (dsimp only; omega)) _) | (refine Same.drewN ?_ _) | (refine Same.drew ?_)))) (by first | omega | (simp; omega) | (simp; done) | (dsimp only; omega)) (by omega) (by omega)).mono ?_); rintro e w5 ⟨rfl, hb5⟩; simp only [HE.out]; (obtain ⟨hb5c, hb5f⟩ := bcell hb5); (have hb5z := hb5.size); (try simp only [szs] at hb5c hb5f hb5z)) | (go_at_call 166; (with_reducible refine (l1Full_any _ _ _ _ lo hi xs ys a b _ (h.same (by (with_reducible repeat' first | exact Same.refl _ _ _ | assumption | (refine Same.setCell ?_ (by first | omega | (simp; omega) | (simp; done) | (dsimp only; omega)) _) | (refine Same.alloc ?_ (by first | omega | (simp; omega) | (simp; done) | (dsimp only; omega)) _) | (refine Same.drewN ?_ _) | (refine Same.drew ?_) | (refine Same.trans ?_ (Same.of_below hb5 (by first | omega | (simp; omega) | (simp; done) | (dsimp only; omega))))))) (h'.same (by (with_reducible repeat' first | exact Same.refl _ _ _ | assumption | (refine Same.setCell ?_ (by first | omega | (simp; omega) | (simp; done) | (dsimp only; omega)) _) | (refine Same.alloc ?_ (by first | omega | (simp; omega) | (simp; done) | (dsimp only; omega)) _) | (refine Same.drewN ?_ _) | (refine Same.drew ?_) | (refine Same.trans ?_ (Same.of_below hb5 (by first | omega | (simp; omega) | (simp; done) | (dsimp only; omega))))))) (by first | omega | (simp; omega) | (simp; done) | (dsimp only; omega)) (by omega) (by omega)).mono ?_); rintro e w9 ⟨rfl, hb9⟩))
            go_ret
            exact ⟨ret_bool (by rw [HN.out]; try simp), by (with_reducible repeat' first | exact Below.refl _ _ | assumption | (refine Below.setCell ?_ (by first | omega | (simp; omega) | (simp; done) | (dsimp only; omega)) _) | (refine Below.alloc ?_ (by first | omega | (simp; omega) | (simp; done) | (dsimp only; omega)) _) | (refine below_drewN ?_ _) | (refine Below.drew ?_) | (refine Below.trans ?_ (hb9.mono (by first | omega | (simp; omega) | (simp; done) | (dsimp only; omega)))) | (refine Below.trans ?_ (hb5.mono (by first | omega | (simp; omega) | (simp; done) | (dsimp only; omega)))) | (refine Below.trans ?_ (hbW.mono (by first | omega | (simp; omega) | (simp; done) | (dsimp only; omega)))))⟩
        · have n2 : (ag == 2) = false := by simp [a2]
          have HN := Lib.hid (HR.out.symm.trans (show _ = fullAt xs a b by simp [leadOf, sexTo, bornOk, a1, a2]))
          clear a1 a2
          go_quiet ((go_at_call 172; exact l3Sex_quiet 4 _ _ _ hk HX.out))
          go_wp2_with (go_at_call 166; (with_reducible refine (l1Full_any _ _ _ _ lo hi xs ys a b _ (h.same (by (with_reducible repeat' first | exact Same.refl _ _ _ | assumption | (refine Same.setCell ?_ (by first | omega | (simp; omega) | (simp; done) | (dsimp only; omega)) _) | (refine Same.alloc ?_ (by first | omega | (simp; omega) | (simp; done) | (dsimp only; omega)) _) | (refine Same.drewN ?_ _) | (refine Same.drew ?_)))) (h'.same (by (with_reducible repeat' first | exact Same.refl _ _ _ | assumption | (refine Same.setCell ?_ (by first | omega | (simp; omega) | (simp; done) | (dsimp only; omega)) _) | (refine Same.alloc ?_ (by first | omega | (simp; omega) | (simp; done) | (dsimp only; omega)) _) | (refine Same.drewN ?_ _) | (refine Same.drew ?_)))) (by first | omega | (simp; omega) | (simp; done) | (dsimp only; omega)) (by omega) (by omega)).mono ?_); rintro e w9 ⟨rfl, hb9⟩)
          go_ret
          exact ⟨ret_bool (by rw [HN.out]; try simp), by (with_reducible repeat' first | exact Below.refl _ _ | assumption | (refine Below.setCell ?_ (by first | omega | (simp; omega) | (simp; done) | (dsimp only; omega)) _) | (refine Below.alloc ?_ (by first | omega | (simp; omega) | (simp; done) | (dsimp only; omega)) _) | (refine below_drewN ?_ _) | (refine Below.drew ?_) | (refine Below.trans ?_ (hb9.mono (by first | omega | (simp; omega) | (simp; done) | (dsimp only; omega)))) | (refine Below.trans ?_ (hbW.mono (by first | omega | (simp; omega) | (simp; done) | (dsimp only; omega)))))⟩
    · obtain rfl : y1 = 1 := hsex.trans (sexTo_odd (by simp))
      have HX := Lib.hid (show sexTo 5 = 1 from sexTo_odd (by simp))
      clear hsex
      by_cases c1 : y2 = (a : Int)
      · have HN := Lib.hid (HR.out.symm.trans (show _ = true by simp [leadOf, sexTo, kidOf, c1]))
        have n1 : (y2 == (a : Int)) = true := by simp [c1]
        clear c1
        go_quiet ((go_at_call 172; exact l3Sex_quiet 5 _ _ _ hk HX.out))
        go_wp2
        go_ret
        exact ⟨ret_bool (by rw [HN.out]; try simp), by (with_reducible repeat' first | exact Below.refl _ _ | assumption | (refine Below.setCell ?_ (by first | omega | (simp; omega) | (simp; done) | (dsimp only; omega)) _) | (refine Below.alloc ?_ (by first | omega | (simp; omega) | (simp; done) | (dsimp only; omega)) _) | (refine below_drewN ?_ _) | (refine Below.drew ?_) | (refine Below.trans ?_ (hbW.mono (by first | omega | (simp; omega) | (simp; done) | (dsimp only; omega)))))⟩
      · have n1 : (y2 == (a : Int)) = false := by simp [c1]
        by_cases c2 : y3 = (a : Int)
        · have HN := Lib.hid (HR.out.symm.trans (show _ = true by simp [leadOf, sexTo, kidOf, c1, c2]))
          have n2 : (y3 == (a : Int)) = true := by simp [c2]
          clear c1 c2
          go_quiet ((go_at_call 172; exact l3Sex_quiet 5 _ _ _ hk HX.out))
          go_wp2
          go_ret
          exact ⟨ret_bool (by rw [HN.out]; try simp), by (with_reducible repeat' first | exact Below.refl _ _ | assumption | (refine Below.setCell ?_ (by first | omega | (simp; omega) | (simp; done) | (dsimp only; omega)) _) | (refine Below.alloc ?_ (by first | omega | (simp; omega) | (simp; done) | (dsimp only; omega)) _) | (refine below_drewN ?_ _) | (refine Below.drew ?_) | (refine Below.trans ?_ (hbW.mono (by first | omega | (simp; omega) | (simp; done) | (dsimp only; omega)))))⟩
        · have HN := Lib.hid (HR.out.symm.trans (show _ = false by simp [leadOf, sexTo, kidOf, c1, c2]))
          have n2 : (y3 == (a : Int)) = false := by simp [c2]
          clear c1 c2
          go_quiet ((go_at_call 172; exact l3Sex_quiet 5 _ _ _ hk HX.out))
          go_wp2
          go_ret
          exact ⟨ret_bool (by rw [HN.out]; try simp), by (with_reducible repeat' first | exact Below.refl _ _ | assumption | (refine Below.setCell ?_ (by first | omega | (simp; omega) | (simp; done) | (dsimp only; omega)) _) | (refine Below.alloc ?_ (by first | omega | (simp; omega) | (simp; done) | (dsimp only; omega)) _) | (refine below_drewN ?_ _) | (refine Below.drew ?_) | (refine Below.trans ?_ (hbW.mono (by first | omega | (simp; omega) | (simp; done) | (dsimp only; omega)))))⟩
    · obtain rfl : y1 = 2 := hsex.trans (sexTo_even (by simp))
      have HX := Lib.hid (show sexTo 6 = 2 from sexTo_even (by simp))
      clear hsex
      by_cases c1 : y2 = (a : Int)
      · have HN := Lib.hid (HR.out.symm.trans (show _ = true by simp [leadOf, sexTo, kidOf, c1]))
        have n1 : (y2 == (a : Int)) = true := by simp [c1]
        clear c1
        go_quiet ((go_at_call 172; exact l3Sex_quiet 6 _ _ _ hk HX.out))
        go_wp2
        go_ret
        exact ⟨ret_bool (by rw [HN.out]; try simp), by (with_reducible repeat' first | exact Below.refl _ _ | assumption | (refine Below.setCell ?_ (by first | omega | (simp; omega) | (simp; done) | (dsimp only; omega)) _) | (refine Below.alloc ?_ (by first | omega | (simp; omega) | (simp; done) | (dsimp only; omega)) _) | (refine below_drewN ?_ _) | (refine Below.drew ?_) | (refine Below.trans ?_ (hbW.mono (by first | omega | (simp; omega) | (simp; done) | (dsimp only; omega)))))⟩
      · have n1 : (y2 == (a : Int)) = false := by simp [c1]
        by_cases c2 : y3 = (a : Int)
        · have HN := Lib.hid (HR.out.symm.trans (show _ = true by simp [leadOf, sexTo, kidOf, c1, c2]))
          have n2 : (y3 == (a : Int)) = true := by simp [c2]
          clear c1 c2
          go_quiet ((go_at_call 172; exact l3Sex_quiet 6 _ _ _ hk HX.out))
          go_wp2
          go_ret
          exact ⟨ret_bool (by rw [HN.out]; try simp), by (with_reducible repeat' first | exact Below.refl _ _ | assumption | (refine Below.setCell ?_ (by first | omega | (simp; omega) | (simp; done) | (dsimp only; omega)) _) | (refine Below.alloc ?_ (by first | omega | (simp; omega) | (simp; done) | (dsimp only; omega)) _) | (refine below_drewN ?_ _) | (refine Below.drew ?_) | (refine Below.trans ?_ (hbW.mono (by first | omega | (simp; omega) | (simp; done) | (dsimp only; omega)))))⟩
        · have HN := Lib.hid (HR.out.symm.trans (show _ = false by simp [leadOf, sexTo, kidOf, c1, c2]))
          have n2 : (y3 == (a : Int)) = false := by simp [c2]
          clear c1 c2
          go_quiet ((go_at_call 172; exact l3Sex_quiet 6 _ _ _ hk HX.out))
          go_wp2
          go_ret
          exact ⟨ret_bool (by rw [HN.out]; try simp), by (with_reducible repeat' first | exact Below.refl _ _ | assumption | (refine Below.setCell ?_ (by first | omega | (simp; omega) | (simp; done) | (dsimp only; omega)) _) | (refine Below.alloc ?_ (by first | omega | (simp; omega) | (simp; done) | (dsimp only; omega)) _) | (refine below_drewN ?_ _) | (refine Below.drew ?_) | (refine Below.trans ?_ (hbW.mono (by first | omega | (simp; omega) | (simp; done) | (dsimp only; omega)))))⟩
    · obtain rfl : y1 = 1 := hsex.trans (sexTo_odd (by simp))
      have HX := Lib.hid (show sexTo 7 = 1 from sexTo_odd (by simp))
      clear hsex
      have HN := Lib.hid (HR.out.symm.trans (show _ = wedTo ys ys.length a b by simp [leadOf, sexTo]))
      go_quiet ((go_at_call 172; exact l3Sex_quiet 7 _ _ _ hk HX.out))
      go_wp2_with fail
      go_loopw [64] (fun i wr => WedRel ys a b W i wr) (fun i _ => ys.length - (intOf i).toNat)
      case atStart => exact ⟨0, Nat.zero_le _, rfl, by (with_reducible repeat' first | exact Below.refl _ _ | assumption | (refine Below.setCell ?_ (by first | omega | (simp; omega) | (simp; done) | (dsimp only; omega)) _) | (refine Below.alloc ?_ (by first | omega | (simp; omega) | (simp; done) | (dsimp only; omega)) _) | (refine below_drewN ?_ _) | (refine Below.drew ?_)), rfl⟩
      case round =>
        obtain ⟨k, hkl, rfl, hbk, hwed⟩ := hrel
        have HWD := Lib.hid hwed; clear hwed
        have hz := hbk.size
        by_cases hlt : k < ys.length
        · obtain ⟨b', off', ⟨m, f, s', t'⟩, rfl, f1, f2, _, hyk, u0, u1, u2, u3⟩ := AUnion.at_ (h'.same (Same.of_below hbk (by omega))) hlt
          simp only at u0 u1 u2 u3
          have HK := Lib.hid hyk; clear hyk
          have lb2 : b' < wr.heap.size := by omega
          obtain ⟨ov, ob, hov⟩ : ∃ (ov : Int) (ob : Bool), otherS ⟨m, f, s', t'⟩ a = (ov, ob) := ⟨_, _, rfl⟩
          have HO := Lib.hid hov; clear hov
          cases ob with
          | false =>
            have HM := Lib.hid (show decide (otherM ⟨m, f, s', t'⟩ a = some (b : Int)) = false by rw [decide_eq_false]; rw [other_both, HO.out]; simp)
            go_wp2_with (go_at_call 214; (with_reducible refine (l1Other_any _ _ _ _ _ _).mono ?_); rintro e w3 ⟨rfl, hb3⟩; simp only [HO.out]; (obtain ⟨hb3c, hb3f⟩ := bcell hb3); (have hb3z := hb3.size); (try simp only [szs] at hb3c hb3f hb3z))
            refine ⟨⟨k + 1, by omega, by go_num, by (with_reducible repeat' first | exact Below.refl _ _ | assumption | (refine Below.setCell ?_ (by first | omega | (simp; omega) | (simp; done) | (dsimp only; omega)) _) | (refine Below.alloc ?_ (by first | omega | (simp; omega) | (simp; done) | (dsimp only; omega)) _) | (refine below_drewN ?_ _) | (refine Below.drew ?_) | (refine Below.trans ?_ (hb3.mono (by first | omega | (simp; omega) | (simp; done) | (dsimp only; omega)))) | (refine Below.trans ?_ (hbk.mono (by first | omega | (simp; omega) | (simp; done) | (dsimp only; omega))))), ?_⟩, by simp [intOf]; omega⟩
            rw [wedTo_succ HK.out, HWD.out, HM.out]; rfl
          | true =>
            by_cases c1 : ov = (b : Int)
            · have HT := Lib.hid (show wedTo ys ys.length a b = true from wedTo_hit HK.out hlt (by rw [other_both, HO.out, c1]))
              have n1 : (ov == (b : Int)) = true := by simp [c1]
              clear c1
              go_wp2_with (go_at_call 214; (with_reducible refine (l1Other_any _ _ _ _ _ _).mono ?_); rintro e w3 ⟨rfl, hb3⟩; simp only [HO.out]; (obtain ⟨hb3c, hb3f⟩ := bcell hb3); (have hb3z := hb3.size); (try simp only [szs] at hb3c hb3f hb3z))
              go_ret
              exact ⟨ret_bool (by rw [HN.out, HT.out]), by (with_reducible repeat' first | exact Below.refl _ _ | assumption | (refine Below.setCell ?_ (by first | omega | (simp; omega) | (simp; done) | (dsimp only; omega)) _) | (refine Below.alloc ?_ (by first | omega | (simp; omega) | (simp; done) | (dsimp only; omega)) _) | (refine below_drewN ?_ _) | (refine Below.drew ?_) | (refine Below.trans ?_ (hb3.mono (by first | omega | (simp; omega) | (simp; done) | (dsimp only; omega)))) | (refine Below.trans ?_ (hbk.mono (by first | omega | (simp; omega) | (simp; done) | (dsimp only; omega)))) | (refine Below.trans ?_ (hbW.mono (by first | omega | (simp; omega) | (simp; done) | (dsimp only; omega)))))⟩
            · have HM := Lib.hid (show decide (otherM ⟨m, f, s', t'⟩ a = some (b : Int)) = false by rw [decide_eq_false]; rw [other_both, HO.out]; simp [c1])
              have n1 : (ov == (b : Int)) = false := by simp [c1]
              clear c1
              go_wp2_with (go_at_call 214; (with_reducible refine (l1Other_any _ _ _ _ _ _).mono ?_); rintro e w3 ⟨rfl, hb3⟩; simp only [HO.out]; (obtain ⟨hb3c, hb3f⟩ := bcell hb3); (have hb3z := hb3.size); (try simp only [szs] at hb3c hb3f hb3z))
              refine ⟨⟨k + 1, by omega, by go_num, by (with_reducible repeat' first | exact Below.refl _ _ | assumption | (refine Below.setCell ?_ (by first | omega | (simp; omega) | (simp; done) | (dsimp only; omega)) _) | (refine Below.alloc ?_ (by first | omega | (simp; omega) | (simp; done) | (dsimp only; omega)) _) | (refine below_drewN ?_ _) | (refine Below.drew ?_) | (refine Below.trans ?_ (hb3.mono (by first | omega | (simp; omega) | (simp; done) | (dsimp only; omega)))) | (refine Below.trans ?_ (hbk.mono (by first | omega | (simp; omega) | (simp; done) | (dsimp only; omega))))), ?_⟩, by simp [intOf]; omega⟩
              rw [wedTo_succ HK.out, HWD.out, HM.out]; rfl
        · obtain rfl : k = ys.length := by omega
          go_wp2
          go_ret
          exact ⟨ret_bool (by rw [HN.out, HWD.out]), by (with_reducible repeat' first | exact Below.refl _ _ | assumption | (refine Below.setCell ?_ (by first | omega | (simp; omega) | (simp; done) | (dsimp only; omega)) _) | (refine Below.alloc ?_ (by first | omega | (simp; omega) | (simp; done) | (dsimp only; omega)) _) | (refine below_drewN ?_ _) | (refine Below.drew ?_) | (refine Below.trans ?_ (hbk.mono (by first | omega | (simp; omega) | (simp; done) | (dsimp only; omega)))) | (refine Below.trans ?_ (hbW.mono (by first | omega | (simp; omega) | (simp; done) | (dsimp only; omega)))))⟩
    · obtain rfl : y1 = 2 := hsex.trans (sexTo_even (by simp))
      have HX := Lib.hid (show sexTo 8 = 2 from sexTo_even (by simp))
      clear hsex
      have HN := Lib.hid (HR.out.symm.trans (show _ = wedTo ys ys.length a b by simp [leadOf, sexTo]))
      go_quiet ((go_at_call 172; exact l3Sex_quiet 8 _ _ _ hk HX.out))
      go_wp2_with fail
      go_loopw [64] (fun i wr => WedRel ys a b W i wr) (fun i _ => ys.length - (intOf i).toNat)
      case atStart => exact ⟨0, Nat.zero_le _, rfl, by (with_reducible repeat' first | exact Below.refl _ _ | assumption | (refine Below.setCell ?_ (by first | omega | (simp; omega) | (simp; done) | (dsimp only; omega)) _) | (refine Below.alloc ?_ (by first | omega | (simp; omega) | (simp; done) | (dsimp only; omega)) _) | (refine below_drewN ?_ _) | (refine Below.drew ?_)), rfl⟩
      case round =>
        obtain ⟨k, hkl, rfl, hbk, hwed⟩ := hrel
        have HWD := Lib.hid hwed; clear hwed
        have hz := hbk.size
        by_cases hlt : k < ys.length
        · obtain ⟨b', off', ⟨m, f, s', t'⟩, rfl, f1, f2, _, hyk, u0, u1, u2, u3⟩ := AUnion.at_ (h'.same (Same.of_below hbk (by omega))) hlt
          simp only at u0 u1 u2 u3
          have HK := Lib.hid hyk; clear hyk
          have lb2 : b' < wr.heap.size := by omega
          obtain ⟨ov, ob, hov⟩ : ∃ (ov : Int) (ob : Bool), otherS ⟨m, f, s', t'⟩ a = (ov, ob) := ⟨_, _, rfl⟩
          have HO := Lib.hid hov; clear hov
          cases ob with
          | false =>
            have HM := Lib.hid (show decide (otherM ⟨m, f, s', t'⟩ a = some (b : Int)) = false by rw [decide_eq_false]; rw [other_both, HO.out]; simp)
            go_wp2_with (go_at_call 214; (with_reducible refine (l1Other_any _ _ _ _ _ _).mono ?_); rintro e w3 ⟨rfl, hb3⟩; simp only [HO.out]; (obtain ⟨hb3c, hb3f⟩ := bcell hb3); (have hb3z := hb3.size); (try simp only [szs] at hb3c hb3f hb3z))
            refine ⟨⟨k + 1, by omega, by go_num, by (with_reducible repeat' first | exact Below.refl _ _ | assumption | (refine Below.setCell ?_ (by first | omega | (simp; omega) | (simp; done) | (dsimp only; omega)) _) | (refine Below.alloc ?_ (by first | omega | (simp; omega) | (simp; done) | (dsimp only; omega)) _) | (refine below_drewN ?_ _) | (refine Below.drew ?_) | (refine Below.trans ?_ (hb3.mono (by first | omega | (simp; omega) | (simp; done) | (dsimp only; omega)))) | (refine Below.trans ?_ (hbk.mono (by first | omega | (simp; omega) | (simp; done) | (dsimp only; omega))))), ?_⟩, by simp [intOf]; omega⟩
            rw [wedTo_succ HK.out, HWD.out, HM.out]; rfl
          | true =>
            by_cases c1 : ov = (b : Int)
            · have HT := Lib.hid (show wedTo ys ys.length a b = true from wedTo_hit HK.out hlt (by rw [other_both, HO.out, c1]))
              have n1 : (ov == (b : Int)) = true := by simp [c1]
              clear c1
              go_wp2_with (go_at_call 214; (with_reducible refine (l1Other_any _ _ _ _ _ _).mono ?_); rintro e w3 ⟨rfl, hb3⟩; simp only [HO.out]; (obtain ⟨hb3c, hb3f⟩ := bcell hb3); (have hb3z := hb3.size); (try simp only [szs] at hb3c hb3f hb3z))
              go_ret
              exact ⟨ret_bool (by rw [HN.out, HT.out]), by (with_reducible repeat' first | exact Below.refl _ _ | assumption | (refine Below.setCell ?_ (by first | omega | (simp; omega) | (simp; done) | (dsimp only; omega)) _) | (refine Below.alloc ?_ (by first | omega | (simp; omega) | (simp; done) | (dsimp only; omega)) _) | (refine below_drewN ?_ _) | (refine Below.drew ?_) | (refine Below.trans ?_ (hb3.mono (by first | omega | (simp; omega) | (simp; done) | (dsimp only; omega)))) | (refine Below.trans ?_ (hbk.mono (by first | omega | (simp; omega) | (simp; done) | (dsimp only; omega)))) | (refine Below.trans ?_ (hbW.mono (by first | omega | (simp; omega) | (simp; done) | (dsimp only; omega)))))⟩
            · have HM := Lib.hid (show decide (otherM ⟨m, f, s', t'⟩ a = some (b : Int)) = false by rw [decide_eq_false]; rw [other_both, HO.out]; simp [c1])
              have n1 : (ov == (b : Int)) = false := by simp [c1]
              clear c1
              go_wp2_with (go_at_call 214; (with_reducible refine (l1Other_any _ _ _ _ _ _).mono ?_); rintro e w3 ⟨rfl, hb3⟩; simp only [HO.out]; (obtain ⟨hb3c, hb3f⟩ := bcell hb3); (have hb3z := hb3.size); (try simp only [szs] at hb3c hb3f hb3z))
              refine ⟨⟨k + 1, by omega, by go_num, by (with_reducible repeat' first | exact Below.refl _ _ | assumption | (refine Below.setCell ?_ (by first | omega | (simp; omega) | (simp; done) | (dsimp only; omega)) _) | (refine Below.alloc ?_ (by first | omega | (simp; omega) | (simp; done) | (dsimp only; omega)) _) | (refine below_drewN ?_ _) | (refine Below.drew ?_) | (refine Below.trans ?_ (hb3.mono (by first | omega | (simp; omega) | (simp; done) | (dsimp only; omega)))) | (refine Below.trans ?_ (hbk.mono (by first | omega | (simp; omega) | (simp; done) | (dsimp only; omega))))), ?_⟩, by simp [intOf]; omega⟩
              rw [wedTo_succ HK.out, HWD.out, HM.out]; rfl
        · obtain rfl : k = ys.length := by omega
          go_wp2
          go_ret
          exact ⟨ret_bool (by rw [HN.out, HWD.out]), by (with_reducible repeat' first | exact Below.refl _ _ | assumption | (refine Below.setCell ?_ (by first | omega | (simp; omega) | (simp; done) | (dsimp only; omega)) _) | (refine Below.alloc ?_ (by first | omega | (simp; omega) | (simp; done) | (dsimp only; omega)) _) | (refine below_drewN ?_ _) | (refine Below.drew ?_) | (refine Below.trans ?_ (hbk.mono (by first | omega | (simp; omega) | (simp; done) | (dsimp only; omega)))) | (refine Below.trans ?_ (hbW.mono (by first | omega | (simp; omega) | (simp; done) | (dsimp only; omega)))))⟩
  · have HN := Lib.hid (HR.out.symm.trans (show _ = false by simp [leadOf, hsex]))
    generalize hS : sexTo kd = sx at hsex
    have HX := Lib.hid hS; clear hS
    have n1 : (y1 == sx) = false := by simp [hsex]
    have n2 : (y1 != sx) = true := by simp [hsex]
    clear hsex
    go_quiet ((go_at_call 172; exact l3Sex_quiet kd _ _ _ hk HX.out))
    go_wp2
    go_ret
    exact ⟨ret_bool (by rw [HN.out]; try simp), by (with_reducible repeat' first | exact Below.refl _ _ | assumption | (refine Below.setCell ?_ (by first | omega | (simp; omega) | (simp; done) | (dsimp only; omega)) _) | (refine Below.alloc ?_ (by first | omega | (simp; omega) | (simp; done) | (dsimp only; omega)) _) | (refine below_drewN ?_ _) | (refine Below.drew ?_) | (refine Below.trans ?_ (hbW.mono (by first | omega | (simp; omega) | (simp; done) | (dsimp only; omega)))))⟩
end Go.Proofs.Ytnnjilkjjdiblaa
