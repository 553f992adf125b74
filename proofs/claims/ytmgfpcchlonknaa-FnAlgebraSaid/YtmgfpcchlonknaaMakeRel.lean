/-
  A relation that is made out of bytes is valid; the made ones stay within the call.
-/
import Derived.Test.YtmgfpcchlonknaaCur3
namespace Go.Proofs.Ytmgfpcchlonknaa
set_option maxRecDepth 100000
open Go.RowKit

/-- Some valid relation of n numbers is returned, which the call has made. -/
def RetMade (n : Nat) (w : World) (e : Ending) (w' : World) : Prop := ∃ p, RetP w n p e w'
theorem makeRel_any (A : Option Addr) (c lo hi n : Nat) (bs : List Int) (w : World) (h : EByte.AS w lo hi A bs) (hh : hi ≤ w.heap.size) (hbs : bs.length ≤ 1048576) (hn : n ≤ 40) :
    Calls Try.prog 63 #[.slice A bs.length c, .int .i64 n] w (RetMade n w) := by
  go_enter Try.func63, Try.ntmps63
  go_wp2_with fail
  generalize hW : w.alloc (.cells #[.int .i64 0, .slice none 0 0] 27) = W
  have R : Blk W w.heap.size 27 #[.int .i64 0, .slice none 0 0] := by subst hW; exact Blk.new _ rfl
  have hb : Below w.heap.size w W := by subst hW; (with_reducible repeat' first | exact Below.refl _ _ | assumption | (refine Below.setCell ?_ (by first | omega | (simp; omega) | (simp; done) | (dsimp only; omega)) _) | (refine Below.alloc ?_ (by first | omega | (simp; omega) | (simp; done) | (dsimp only; omega)) _) | (refine below_drewN ?_ _) | (refine Below.drew ?_))
  have z0 : w.heap.size + 1 ≤ W.heap.size := by subst hW; simp
  clear hW
  replace h := h.same (Same.of_below hb hh)
  refine (l01New_any A c lo hi bs _ h (by omega) hbs).mono ?_
  rintro e w1 ⟨g, rfl, hg, hc, hb1⟩
  have z1 := hb1.size
  have hlt := hc.lt
  have hrl := R.lt
  replace R := R.below hb1 hrl
  replace hb := hb.trans (hb1.mono (by omega))
  have HC := Lib.hid hc; clear hc
  have m1 : min (n : Int) 40 = n := by omega
  have m2 : max 0 (n : Int) = n := by omega
  rcases Nat.eq_zero_or_pos n with hz | hp
  · subst hz
    go_wp2_with fail
    refine (l2Draw_any g 0 _ HC.out hn).mono ?_
    rintro e w2 ⟨A2, c2, p, rfl, o2, _, hch⟩
    have z2 := hch.size
    replace R := R.chg hch (by omega)
    replace hb := hb.trans (hch.below (B := w.heap.size) (by omega) (by omega))
    have f0 := R.free 0; have f1 := R.free 1; have q0 := R.cell (i := 0) rfl; have q1 := R.cell (i := 1) rfl
    go_wp2_with fail
    have RR := (R.set 0 (.int .i64 0)).set 1 (.slice A2 0 c2)
    exact bodyPost_ret (v := .agg #[.int .i64 0, .slice A2 0 c2]) (by simp [results, Try.results63, go_sem, RR.cell (i := 0) rfl, RR.cell (i := 1) rfl]) rfl ⟨p, A2, c2, rfl, (o2.same (by (with_reducible repeat' first | exact Same.refl _ _ _ | assumption | (refine Same.setCell ?_ (by first | omega | (simp; omega) | (simp; done) | (dsimp only; omega)) _) | (refine Same.alloc ?_ (by first | omega | (simp; omega) | (simp; done) | (dsimp only; omega)) _) | (refine Same.drewN ?_ _) | (refine Same.drew ?_)))).mono (by first | omega | (simp; omega) | (simp; done) | (dsimp only; omega)) (by first | omega | (simp; omega) | (simp; done) | (dsimp only; omega)), by (with_reducible repeat' first | exact Below.refl _ _ | assumption | (refine Below.setCell ?_ (by first | omega | (simp; omega) | (simp; done) | (dsimp only; omega)) _) | (refine Below.alloc ?_ (by first | omega | (simp; omega) | (simp; done) | (dsimp only; omega)) _) | (refine below_drewN ?_ _) | (refine Below.drew ?_) | (refine Below.trans ?_ (hb.mono (by first | omega | (simp; omega) | (simp; done) | (dsimp only; omega)))))⟩
  · have hp1 : (0 : Int) < (n : Int) := by omega
    go_wp2_with fail
    refine (l2Draw_any g n _ HC.out hn).mono ?_
    rintro e w2 ⟨A2, c2, p, rfl, o2, _, hch⟩
    have z2 := hch.size
    replace R := R.chg hch (by omega)
    replace hb := hb.trans (hch.below (B := w.heap.size) (by omega) (by omega))
    have f0 := R.free 0; have f1 := R.free 1; have q0 := R.cell (i := 0) rfl; have q1 := R.cell (i := 1) rfl
    go_wp2_with fail
    have RR := (R.set 0 (.int .i64 n)).set 1 (.slice A2 n c2)
    exact bodyPost_ret (v := .agg #[.int .i64 n, .slice A2 n c2]) (by simp [results, Try.results63, go_sem, RR.cell (i := 0) rfl, RR.cell (i := 1) rfl]) rfl ⟨p, A2, c2, rfl, (o2.same (by (with_reducible repeat' first | exact Same.refl _ _ _ | assumption | (refine Same.setCell ?_ (by first | omega | (simp; omega) | (simp; done) | (dsimp only; omega)) _) | (refine Same.alloc ?_ (by first | omega | (simp; omega) | (simp; done) | (dsimp only; omega)) _) | (refine Same.drewN ?_ _) | (refine Same.drew ?_)))).mono (by first | omega | (simp; omega) | (simp; done) | (dsimp only; omega)) (by first | omega | (simp; omega) | (simp; done) | (dsimp only; omega)), by (with_reducible repeat' first | exact Below.refl _ _ | assumption | (refine Below.setCell ?_ (by first | omega | (simp; omega) | (simp; done) | (dsimp only; omega)) _) | (refine Below.alloc ?_ (by first | omega | (simp; omega) | (simp; done) | (dsimp only; omega)) _) | (refine below_drewN ?_ _) | (refine Below.drew ?_) | (refine Below.trans ?_ (hb.mono (by first | omega | (simp; omega) | (simp; done) | (dsimp only; omega)))))⟩
end Go.Proofs.Ytmgfpcchlonknaa
