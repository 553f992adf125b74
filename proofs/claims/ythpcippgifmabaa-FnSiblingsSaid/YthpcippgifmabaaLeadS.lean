/-
  Where a step leads, in the reference.
-/
import Derived.Test.YthpcippgifmabaaGLead
import Derived.Test.YthpcippgifmabaaGFamS
import Derived.Test.YthpcippgifmabaaGRule
namespace Go.Proofs.Ythpcippgifmabaa
set_option maxRecDepth 100000
open Go.RowKit

set_option maxHeartbeats 4000000 in
theorem l1Full_any (A B : Option Addr) (c d lo hi : Nat) (xs : List Person) (ys : List Union) (a b : Nat) (w : World) (h : EPerson.AS w lo hi A xs) (_h' : EUnion.AS w lo hi B ys) (hh : hi ≤ w.heap.size) (ha : a < xs.length) (hb : b < xs.length) :
    Calls Try.prog 47 #[.agg #[.slice A xs.length c, .slice B ys.length d], .int .i64 a, .int .i64 b] w fun e w' => e = .returned (.bool (fullAt xs a b)) ∧ Below w.heap.size w w' := by
  have hx := h.le
  unfold BIG at hx
  obtain ⟨g, off, ⟨x0, x1, x2, x3, x4, x5⟩, rfl, g1, g2, _, hxk, hc0, hc1, hc2, hc3, hc4, hc5⟩ := APerson.at_ h ha
  obtain ⟨g', off', ⟨y0, y1, y2, y3, y4, y5⟩, he, _, _, _, hyk, hd0, hd1, hd2, hd3, hd4, hd5⟩ := APerson.at_ h hb
  injection he with he; injection he with he1 he2 _; subst he1; subst he2
  rw [fullAt_of hxk hyk]
  clear hxk hyk
  simp only at hc0 hc1 hc2 hc3 hc4 hc5 hd0 hd1 hd2 hd3 hd4 hd5
  generalize hR : fullOf ⟨x0, x1, x2, x3, x4, x5⟩ ⟨y0, y1, y2, y3, y4, y5⟩ a b = R
  have HR := Lib.hid hR; clear hR
  have lb : g < w.heap.size := by omega
  have i1 : (0 : Int) ≤ (a : Int) ∧ (a : Int) < (xs.length : Int) := by omega
  have i2 : (0 : Int) ≤ (b : Int) ∧ (b : Int) < (xs.length : Int) := by omega
  go_enter Try.func47, Try.ntmps47
  go_upto_region 3 with fail
  generalize hW : ((w.alloc (.cells #[.slice (some ⟨g, off, none⟩) xs.length c, .slice B ys.length d] 26)).alloc (.cells #[.string x0, .int .i64 x1, .int .i64 x2, .int .i64 x3, .int .i64 x4, .int .i64 x5] 48)).alloc (.cells #[.string y0, .int .i64 y1, .int .i64 y2, .int .i64 y3, .int .i64 y4, .int .i64 y5] 48) = W
  have p2 : W.cell? ⟨w.heap.size + 1, 2, none⟩ = some (.int .i64 x2) := by subst hW; simp [go_sem]
  have p3 : W.cell? ⟨w.heap.size + 1, 3, none⟩ = some (.int .i64 x3) := by subst hW; simp [go_sem]
  have q2 : W.cell? ⟨w.heap.size + 1 + 1, 2, none⟩ = some (.int .i64 y2) := by subst hW; simp [go_sem]
  have q3 : W.cell? ⟨w.heap.size + 1 + 1, 3, none⟩ = some (.int .i64 y3) := by subst hW; simp [go_sem]
  have hbW : Below w.heap.size w W := by subst hW; (with_reducible repeat' first | exact Below.refl _ _ | assumption | (refine Below.setCell ?_ (by first | omega | (simp; omega) | (simp; done) | (dsimp only; omega)) _) | (refine Below.alloc ?_ (by first | omega | (simp; omega) | (simp; done) | (dsimp only; omega)) _) | (refine below_drewN ?_ _) | (refine Below.drew ?_))
  clear hW hc0 hc1 hc2 hc3 hc4 hc5 hd0 hd1 hd2 hd3 hd4 hd5
  by_cases c0 : a = b
  · have HN := Lib.hid (HR.out.symm.trans (show _ = false by simp [fullOf, c0]))
    subst c0
    have n1 : ((a : Int) != (a : Int)) = false := by simp
    have n2 : ((a : Int) == (a : Int)) = true := by simp
    go_wp2
    go_ret
    exact ⟨ret_bool (by rw [HN.out]; try simp), by (with_reducible repeat' first | exact Below.refl _ _ | assumption | (refine Below.setCell ?_ (by first | omega | (simp; omega) | (simp; done) | (dsimp only; omega)) _) | (refine Below.alloc ?_ (by first | omega | (simp; omega) | (simp; done) | (dsimp only; omega)) _) | (refine below_drewN ?_ _) | (refine Below.drew ?_) | (refine Below.trans ?_ (hbW.mono (by first | omega | (simp; omega) | (simp; done) | (dsimp only; omega)))))⟩
  · have n1 : ((a : Int) != (b : Int)) = true := by simp; omega
    have n2 : ((a : Int) == (b : Int)) = false := by simp; omega
    by_cases c1 : 0 ≤ x2
    · by_cases c2 : 0 ≤ x3
      · by_cases c3 : x2 = y2
        · have n3 : (x2 == y2) = true := by simp [c3]
          by_cases c4 : x3 = y3
          · have HN := Lib.hid (HR.out.symm.trans (show _ = true by simp [fullOf, c0, c1, c2, ← c3, ← c4]))
            have n4 : (x3 == y3) = true := by simp [c4]
            clear c3 c4
            go_wp2
            go_ret
            exact ⟨ret_bool (by rw [HN.out]; try simp), by (with_reducible repeat' first | exact Below.refl _ _ | assumption | (refine Below.setCell ?_ (by first | omega | (simp; omega) | (simp; done) | (dsimp only; omega)) _) | (refine Below.alloc ?_ (by first | omega | (simp; omega) | (simp; done) | (dsimp only; omega)) _) | (refine below_drewN ?_ _) | (refine Below.drew ?_) | (refine Below.trans ?_ (hbW.mono (by first | omega | (simp; omega) | (simp; done) | (dsimp only; omega)))))⟩
          · have HN := Lib.hid (HR.out.symm.trans (show _ = false by simp [fullOf, c4]))
            have n4 : (x3 == y3) = false := by simp [c4]
            clear c3 c4
            go_wp2
            go_ret
            exact ⟨ret_bool (by rw [HN.out]; try simp), by (with_reducible repeat' first | exact Below.refl _ _ | assumption | (refine Below.setCell ?_ (by first | omega | (simp; omega) | (simp; done) | (dsimp only; omega)) _) | (refine Below.alloc ?_ (by first | omega | (simp; omega) | (simp; done) | (dsimp only; omega)) _) | (refine below_drewN ?_ _) | (refine Below.drew ?_) | (refine Below.trans ?_ (hbW.mono (by first | omega | (simp; omega) | (simp; done) | (dsimp only; omega)))))⟩
        · have HN := Lib.hid (HR.out.symm.trans (show _ = false by simp [fullOf, c3]))
          have n3 : (x2 == y2) = false := by simp [c3]
          clear c3
          go_wp2
          go_ret
          exact ⟨ret_bool (by rw [HN.out]; try simp), by (with_reducible repeat' first | exact Below.refl _ _ | assumption | (refine Below.setCell ?_ (by first | omega | (simp; omega) | (simp; done) | (dsimp only; omega)) _) | (refine Below.alloc ?_ (by first | omega | (simp; omega) | (simp; done) | (dsimp only; omega)) _) | (refine below_drewN ?_ _) | (refine Below.drew ?_) | (refine Below.trans ?_ (hbW.mono (by first | omega | (simp; omega) | (simp; done) | (dsimp only; omega)))))⟩
      · have HN := Lib.hid (HR.out.symm.trans (show _ = false by simp [fullOf, c2]))
        go_wp2
        go_ret
        exact ⟨ret_bool (by rw [HN.out]; try simp), by (with_reducible repeat' first | exact Below.refl _ _ | assumption | (refine Below.setCell ?_ (by first | omega | (simp; omega) | (simp; done) | (dsimp only; omega)) _) | (refine Below.alloc ?_ (by first | omega | (simp; omega) | (simp; done) | (dsimp only; omega)) _) | (refine below_drewN ?_ _) | (refine Below.drew ?_) | (refine Below.trans ?_ (hbW.mono (by first | omega | (simp; omega) | (simp; done) | (dsimp only; omega)))))⟩
    · have HN := Lib.hid (HR.out.symm.trans (show _ = false by simp [fullOf, c1]))
      go_wp2
      go_ret
      exact ⟨ret_bool (by rw [HN.out]; try simp), by (with_reducible repeat' first | exact Below.refl _ _ | assumption | (refine Below.setCell ?_ (by first | omega | (simp; omega) | (simp; done) | (dsimp only; omega)) _) | (refine Below.alloc ?_ (by first | omega | (simp; omega) | (simp; done) | (dsimp only; omega)) _) | (refine below_drewN ?_ _) | (refine Below.drew ?_) | (refine Below.trans ?_ (hbW.mono (by first | omega | (simp; omega) | (simp; done) | (dsimp only; omega)))))⟩

def WedRel (ys : List Union) (a b : Nat) (W : World) (i : Value) (wr : World) : Prop :=
  ∃ k : Nat, k ≤ ys.length ∧ i = .int .i64 k ∧ Below W.heap.size W wr ∧ wedTo ys k a b = false
theorem other_both (u : Union) (p q : Int) : otherM u p = some q ↔ otherS u p = (q, true) := by
  unfold otherM otherS
  by_cases h1 : u.man = p
  · simp [h1]
  · by_cases h2 : u.woman = p
    · simp [h1, h2]
    · simp [h1, h2]
theorem quiet_same {P : Program} {f : FuncId} {args : Array Value} {w : World} {n : Nat} {v : Value} (h : Calls P f args (w.drewN n) fun e w' => e = .returned v ∧ w.drewN n = w') :
    Calls P f args (w.drewN n) fun e w'' => e = .returned v ∧ ∃ m, w'' = w.drewN m := h.mono fun _ _ ⟨he, hm⟩ => ⟨he, n, hm.symm⟩
theorem sexTo_odd {k : Int} (h : k = 1 ∨ k = 3 ∨ k = 5 ∨ k = 7) : sexTo k = 1 := by rcases h with rfl | rfl | rfl | rfl <;> rfl
theorem sexTo_even {k : Int} (h : k = 2 ∨ k = 4 ∨ k = 6 ∨ k = 8) : sexTo k = 2 := by rcases h with rfl | rfl | rfl | rfl <;> rfl

end Go.Proofs.Ythpcippgifmabaa
