/-
  Numbers drawn by a cursor.
-/
import Derived.Test.YtmgfpcchlonknaaCur
import Derived.Deep.DeepCutAuto
namespace Go.Proofs.Ytmgfpcchlonknaa
set_option maxRecDepth 100000
open Go.RowKit

theorem Chg.drewN {w w' : World} {lo hi : Nat} (h : Chg lo hi w w') (n : Nat) : Chg lo hi w (w'.drewN n) := ⟨h.os, h.tape, h.output, h.size, h.block⟩
theorem Cur.of {w w' : World} {g lo hi c : Nat} {A : Option Addr} {bs : List Int} {i j : Nat} {x y : Int} (h1 : EByte.AS w lo hi A bs) (h2 : hi ≤ g) (hj : j ≤ bs.length) (h4 : Blk w g 132 #[.slice A bs.length c, .int .i64 i, .int .i64 x])
    (hc : Chg g (g + 1) w w') (hb : Blk w' g 132 #[.slice A bs.length c, .int .i64 j, .int .i64 y]) : Cur w' g :=
  ⟨A, c, lo, hi, bs, j, y, h1.same (Same.of_chg hc (by have := h4.lt; omega) (by omega)), h2, hj, hb⟩

set_option maxHeartbeats 2000000 in
theorem l01Byte_any (g : Nat) (w : World) (h : Cur w g) : Calls Try.prog 144 #[.pointer (some ⟨g, 0, none⟩)] w (RetCur g 256 w) := by
  obtain ⟨A, c, lo, hi, bs, i, x, h1, h2, h3, h4⟩ := h
  have hle := h1.le
  unfold BIG at hle
  have e0 := h4.cell (i := 0) rfl; have e1 := h4.cell (i := 1) rfl; have e2 := h4.cell (i := 2) rfl
  have f1 := h4.free 1; have f2 := h4.free 2
  by_cases hlt : i < bs.length
  · obtain ⟨b, off, y, rfl, _, hb, _, hx, hc⟩ := AByte.at_ h1 hlt
    clear hx
    have hbg : b ≠ g := by omega
    go_enter Try.func144, Try.ntmps144
    go_wp2
    go_quiet (fail)
    go_wp2
    go_quiet (fail)
    go_wp2
    go_quiet (fail)
    go_wp2
    go_ret
    have hch : ∀ (u v : Value) (n : Nat), Chg g (g + 1) w (((w.setCell ⟨g, 2, none⟩ u).drewN n).setCell ⟨g, 1, none⟩ v) := fun u v n => (((Chg.refl _ _ _).setCell (p := ⟨g, 2, none⟩) (by simp) _).drewN n).setCell (p := ⟨g, 1, none⟩) (by simp) _
    have hB : ∀ (u v : Value) (n : Nat), Blk (((w.setCell ⟨g, 2, none⟩ u).drewN n).setCell ⟨g, 1, none⟩ v) g 132 #[.slice (some ⟨b, off, none⟩) bs.length c, v, u] := fun u v n => by
      have k : Blk ((w.setCell ⟨g, 2, none⟩ u).drewN n) g 132 _ := h4.set 2 u
      simpa using k.set 1 v
    exact ⟨_, (and255 _).1, by have := (and255 (wrap64 (bits .and .i64 (bits .xor .i64 (wrap64 (wrap64 (x * 6364136223846793005) + 1442695040888963407) / 8589934592) (wrap64 (wrap64 (x * 6364136223846793005) + 1442695040888963407) / 35184372088832)) 255 + wrap64 y))).2; omega, rfl, Cur.of (j := i + 1) h1 h2 (by omega) h4 (hch _ _ _) (hB _ _ _), hch _ _ _, by simp [World.setCell, World.drewN]⟩
  · have hlt' : ¬ (i : Int) < (bs.length : Int) := by omega
    go_enter Try.func144, Try.ntmps144
    go_wp2
    go_quiet (fail)
    go_wp2
    go_quiet (fail)
    go_wp2
    go_ret
    have hch : ∀ (u : Value) (n m : Nat), Chg g (g + 1) w (((w.setCell ⟨g, 2, none⟩ u).drewN n).drewN m) := fun u n m => (((Chg.refl _ _ _).setCell (p := ⟨g, 2, none⟩) (by simp) _).drewN n).drewN m
    have hB : ∀ (u : Value) (n m : Nat), Blk (((w.setCell ⟨g, 2, none⟩ u).drewN n).drewN m) g 132 #[.slice A bs.length c, .int .i64 i, u] := fun u n m => by
      have k : Blk (((w.setCell ⟨g, 2, none⟩ u).drewN n).drewN m) g 132 _ := h4.set 2 u
      simpa using k
    exact ⟨_, (and255 _).1, by have := (and255 (bits .xor .i64 (wrap64 (wrap64 (x * 6364136223846793005) + 1442695040888963407) / 8589934592) (wrap64 (wrap64 (x * 6364136223846793005) + 1442695040888963407) / 35184372088832))).2; omega, rfl, Cur.of (j := i) h1 h2 h3 h4 (hch _ _ _) (hB _ _ _), hch _ _ _, by simp [World.setCell, World.drewN]⟩

theorem l01Below_any (g : Nat) (n : Int) (w : World) (h : Cur w g) (h1 : 1 ≤ n) (h2 : n ≤ 256) : Calls Try.prog 141 #[.pointer (some ⟨g, 0, none⟩), .int .i64 n] w (RetCur g n w) := by
  go_enter Try.func141, Try.ntmps141
  go_wp2_with (go_at_call 144; refine (l01Byte_any g _ h).mono ?_; rintro e w1 ⟨x, hx0, hx1, rfl, hc, hch, hsz⟩)
  go_ret
  exact ⟨_, Int.emod_nonneg _ (by omega), Int.emod_lt_of_pos _ (by omega), rfl, hc, hch, hsz⟩
theorem l01Once_any (g : Nat) (n : Int) (w : World) (h : Cur w g) (h1 : 1 ≤ n) (h2 : n ≤ 256) : Calls Try.prog 138 #[.pointer (some ⟨g, 0, none⟩), .int .i64 n] w (RetCurB g w) := by
  go_enter Try.func138, Try.ntmps138
  go_wp2_with (go_at_call 141; refine (l01Below_any g n _ h h1 h2).mono ?_; rintro e w1 ⟨x, hx0, hx1, rfl, hc, hch, hsz⟩)
  go_ret
  exact ⟨_, rfl, hc, hch, hsz⟩
/-- One of some numbers is drawn. -/
def RetOne (g : Nat) (ys : List Int) (w : World) (e : Ending) (w' : World) : Prop := ∃ x : Int, x ∈ ys ∧ e = .returned (.int .i64 x) ∧ Cur w' g ∧ Chg g (g + 1) w w' ∧ w'.heap.size = w.heap.size
theorem l01Int_any (g : Nat) (A : Option Addr) (c lo hi : Nat) (ys : List Int) (w : World) (h : Cur w g) (h' : EInt.AS w lo hi A ys) (hh : hi ≤ w.heap.size) (hd : hi ≤ g ∨ g + 1 ≤ lo) (h1 : 1 ≤ ys.length) (h2 : ys.length ≤ 256) :
    Calls Try.prog 137 #[.pointer (some ⟨g, 0, none⟩), .slice A ys.length c] w (RetOne g ys w) := by
  go_enter Try.func137, Try.ntmps137
  go_wp2_with fail
  refine (l01Below_any g ys.length _ h (by omega) (by omega)).mono ?_
  rintro e w1 ⟨x, hx0, hx1, rfl, hc, hch, hsz⟩
  have k := h'.same (Same.of_chg hch hh hd)
  have hx2 : x.toNat < ys.length := by omega
  obtain ⟨b, off, y, rfl, _, _, _, hy, hcell⟩ := AInt.at_ k hx2
  have HY := Lib.hid (List.mem_of_getElem? hy); clear hy
  have HC := Lib.hid hc; clear hc
  go_wp2
  go_ret
  exact ⟨y, HY.out, rfl, HC.out, hch, hsz⟩
end Go.Proofs.Ytmgfpcchlonknaa
