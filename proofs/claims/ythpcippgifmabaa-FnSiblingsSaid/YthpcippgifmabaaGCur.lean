/-
  The cursor over the bytes of a draw, and the bytes that are drawn from: what they leave, not which numbers they give.
  Numbers drawn by a cursor.
  A relation that is drawn is valid.
-/
import Derived.Test.YthpcippgifmabaaBase
import Derived.Laws.Bits128
import Derived.Deep.RegionLaw
import Derived.Deep.DeepCutAuto
import Derived.Test.YthpcippgifmabaaGAlg

/-! ## Cur -/
namespace Go.Proofs.Ythpcippgifmabaa
set_option maxRecDepth 100000
open Go.RowKit

def EByte : Elem Int := .flat 5 1 (fun n => [.int .u8 n]) (fun _ => rfl) (fun _ => rfl)
section
variable {w : World} {lo hi : Nat} {A : Option Addr} {k : Nat}
theorem AByte.at_ {xs : List Int} (h : EByte.AS w lo hi A xs) (hk : k < xs.length) : ∃ b off x, A = some ⟨b, off, none⟩ ∧ lo ≤ b ∧ b < hi ∧ xs.drop k = x :: xs.drop (k + 1) ∧ xs[k]? = some x ∧
    w.cell? ⟨b, off + k, none⟩ = some (.int .u8 x) := by
  obtain ⟨b, off, x, cs, rfl, h1, h2, h3, h4, rfl, hc⟩ := h.at_ hk
  exact ⟨b, off, x, rfl, h1, h2, h3, h4, by simpa [EByte, Elem.flat] using hc 0 _ rfl⟩
end
theorem byte_info : (Try.prog.info? 5).map (fun i => (i.zero, i.size, i.bytes)) = some (some (.int .u8 0), 1, 1) := by kernel_rfl
theorem tyByteS : SlTy EByte 22 1 := SlTy.mk' Try.underlying22 byte_info rfl (by decide)

theorem and255 (a : Int) : 0 ≤ bits .and .i64 a 255 ∧ bits .and .i64 a 255 ≤ 255 := by
  have e : (BitVec.ofInt 64 a &&& BitVec.ofInt 64 255).toNat ≤ 255 := by
    rw [BitVec.toNat_and]
    exact Nat.le_trans Nat.and_le_right (by decide)
  have : bits .and .i64 a 255 = ((BitVec.ofInt 64 a &&& BitVec.ofInt 64 255).toNat : Int) := by
    show IntKind.i64.wrap (((BitVec.ofInt 64 a &&& BitVec.ofInt 64 255).toNat : Nat) : Int) = _
    exact IntWalk.i64_in _ (by omega)
  rw [this]
  omega

/-- A number from a to b is returned, and nothing has changed. -/
def RetIn (a b : Int) (w : World) (e : Ending) (w' : World) : Prop := ∃ x : Int, a ≤ x ∧ x ≤ b ∧ e = .returned (.int .i64 x) ∧ w = w'
theorem at_any (A : Option Addr) (c lo hi : Nat) (bs : List Int) (i : Int) (w : World) (h : EByte.AS w lo hi A bs) (hbs : bs.length ≤ 1048576) (hb : ∀ x ∈ bs, 0 ≤ x ∧ x ≤ 255) (h0 : 0 ≤ i) (h1 : i ≤ 1000) :
    Calls Try.prog 26 #[.slice A bs.length c, .int .i64 i] w (RetIn 0 255 w) := by
  by_cases hlt : i.toNat < bs.length
  · obtain ⟨b, off, x, rfl, _, _, _, hx, hc⟩ := AByte.at_ h hlt
    have hxb := hb x (List.mem_of_getElem? hx)
    clear hx hb
    have i1 : i < (bs.length : Int) := by omega
    go_enter Try.func26, Try.ntmps26
    go_wp2
    go_ret
    exact ⟨_, hxb.1, hxb.2, rfl, rfl⟩
  · have i1 : ¬ i < (bs.length : Int) := by omega
    go_enter Try.func26, Try.ntmps26
    go_wp2
    go_ret
    exact ⟨_, by omega, by omega, rfl, rfl⟩

theorem one_byte (w : World) (x : Int) : EByte.OS (w.alloc (.cells #[.int .u8 x] 5)) w.heap.size (w.alloc (.cells #[.int .u8 x] 5)).heap.size (.slice (some ⟨w.heap.size, 0, none⟩) 1 1) [x] := by
  have hf : Fill (w.alloc (.cells #[.int .u8 x] 5)) w.heap.size 5 1 [.int .u8 x] 1 := ⟨#[.int .u8 x], heap_alloc_new w _, rfl, fun i hi => by
    obtain rfl : i = 0 := by omega
    rfl⟩
  exact flat_os.2 (hf.own (n := 1) (sz := 1) rfl rfl (Nat.le_refl _) (by simp [BIG]))
/-- Bytes of the call's own are returned. -/
def RetBytes (w : World) (e : Ending) (w' : World) : Prop :=
  ∃ (A : Option Addr) (c : Nat) (bs : List Int), e = .returned (.slice A bs.length c) ∧ EByte.OS w' w.heap.size w'.heap.size (.slice A bs.length c) bs ∧ bs.length ≤ 601 ∧ Below w.heap.size w w'
def FreshRel (n : Nat) (w : World) (v i : Value) (wr : World) : Prop :=
  ∃ (k : Nat) (A : Option Addr) (c : Nat) (ys : List Int), k ≤ n ∧ k ≤ 600 ∧ i = .int .i64 k ∧ v = .slice A (k + 1) c ∧ ys.length = k + 1 ∧ EByte.OS wr w.heap.size wr.heap.size (.slice A (k + 1) c) ys ∧ Below w.heap.size w wr
/-- A cursor lies in block g; its bytes lie in older blocks. -/
def Cur (w : World) (g : Nat) : Prop :=
  ∃ (A : Option Addr) (c lo hi : Nat) (bs : List Int) (i : Nat) (h : Int), EByte.AS w lo hi A bs ∧ hi ≤ g ∧ i ≤ bs.length ∧ Blk w g 86 #[.slice A bs.length c, .int .i64 i, .int .i64 h]
theorem Cur.lt {w : World} {g : Nat} (h : Cur w g) : g < w.heap.size := by obtain ⟨_, _, _, _, _, _, _, _, _, _, h⟩ := h; exact h.lt
theorem Cur.keep {w w' : World} {g : Nat} (h : Cur w g) (hb : ∀ k, k ≤ g → w'.heap[k]? = w.heap[k]?) (hs : w.heap.size ≤ w'.heap.size) : Cur w' g := by
  obtain ⟨A, c, lo, hi, bs, i, x, h1, h2, h3, h4⟩ := h
  exact ⟨A, c, lo, hi, bs, i, x, h1.same ⟨hs, fun k _ k2 => hb k (by omega)⟩, h2, h3, (hb g (Nat.le_refl _)).trans h4⟩
theorem Cur.below {w w' : World} {g B : Nat} (h : Cur w g) (hb : Below B w w') (hg : g < B) : Cur w' g := h.keep (fun k hk => hb.block k (by omega)) hb.size
theorem Cur.setCell {w : World} {g : Nat} (h : Cur w g) {p : Addr} (hp : g < p.block) (u : Value) : Cur (w.setCell p u) g :=
  h.keep (fun k hk => Below.heap_setCell _ _ _ _ (by omega)) (by simp [World.setCell])
theorem Cur.drew {w : World} {g : Nat} (h : Cur w g) : Cur w.drew g := h.keep (fun _ _ => rfl) (Nat.le_refl _)

/-- A new cursor is returned. -/
def RetNew (w : World) (e : Ending) (w' : World) : Prop := ∃ g, e = .returned (.pointer (some ⟨g, 0, none⟩)) ∧ w.heap.size ≤ g ∧ Cur w' g ∧ Below w.heap.size w w'
def NewRel (n : Nat) (h i : Value) : Prop := ∃ (k : Nat) (x : Int), k ≤ n ∧ i = .int .i64 k ∧ h = .int .i64 x
theorem l01New_any (A : Option Addr) (c lo hi : Nat) (bs : List Int) (w : World) (h : EByte.AS w lo hi A bs) (hh : hi ≤ w.heap.size) (hbs : bs.length ≤ 1048576) :
    Calls Try.prog 50 #[.slice A bs.length c] w (RetNew w) := by
  go_enter Try.func50, Try.ntmps50
  go_wp2
  go_loop [3, 4] (fun h i => NewRel bs.length h i) (fun _ i => bs.length - (intOf i).toNat)
  case atStart => exact ⟨0, _, Nat.zero_le _, rfl, rfl⟩
  case round =>
    obtain ⟨k, x, hk, rfl, rfl⟩ := hrel
    by_cases hlt : k < bs.length
    · by_cases h6 : k < 4000
      · obtain ⟨b, off, y, rfl, _, _, _, hx, hc⟩ := AByte.at_ h hlt
        clear hx
        go_wp2
        exact ⟨⟨k + 1, _, by omega, by go_num, rfl⟩, by simp [intOf]; omega⟩
      · go_wp2
        go_ret
        exact ⟨w.heap.size, rfl, Nat.le_refl _, ⟨A, c, lo, hi, bs, 0, x, h.same (by (with_reducible repeat' first | exact Same.refl _ _ _ | assumption | (refine Same.setCell ?_ (by first | omega | (simp; omega) | (simp; done) | (dsimp only; omega)) _) | (refine Same.alloc ?_ (by first | omega | (simp; omega) | (simp; done) | (dsimp only; omega)) _) | (refine Same.drewN ?_ _) | (refine Same.drew ?_))), hh, Nat.zero_le _, Blk.new _ rfl⟩, by (with_reducible repeat' first | exact Below.refl _ _ | assumption | (refine Below.setCell ?_ (by first | omega | (simp; omega) | (simp; done) | (dsimp only; omega)) _) | (refine Below.alloc ?_ (by first | omega | (simp; omega) | (simp; done) | (dsimp only; omega)) _) | (refine below_drewN ?_ _) | (refine Below.drew ?_))⟩
    · go_wp2
      go_ret
      exact ⟨w.heap.size, rfl, Nat.le_refl _, ⟨A, c, lo, hi, bs, 0, x, h.same (by (with_reducible repeat' first | exact Same.refl _ _ _ | assumption | (refine Same.setCell ?_ (by first | omega | (simp; omega) | (simp; done) | (dsimp only; omega)) _) | (refine Same.alloc ?_ (by first | omega | (simp; omega) | (simp; done) | (dsimp only; omega)) _) | (refine Same.drewN ?_ _) | (refine Same.drew ?_))), hh, Nat.zero_le _, Blk.new _ rfl⟩, by (with_reducible repeat' first | exact Below.refl _ _ | assumption | (refine Below.setCell ?_ (by first | omega | (simp; omega) | (simp; done) | (dsimp only; omega)) _) | (refine Below.alloc ?_ (by first | omega | (simp; omega) | (simp; done) | (dsimp only; omega)) _) | (refine below_drewN ?_ _) | (refine Below.drew ?_))⟩

/-- A number from 0 below n is drawn. -/
def RetCur (g : Nat) (n : Int) (w : World) (e : Ending) (w' : World) : Prop := ∃ x : Int, 0 ≤ x ∧ x < n ∧ e = .returned (.int .i64 x) ∧ Cur w' g ∧ Chg g (g + 1) w w' ∧ w'.heap.size = w.heap.size
def RetCurB (g : Nat) (w : World) (e : Ending) (w' : World) : Prop := ∃ x : Bool, e = .returned (.bool x) ∧ Cur w' g ∧ Chg g (g + 1) w w' ∧ w'.heap.size = w.heap.size
end Go.Proofs.Ythpcippgifmabaa

/-! ## Cur2 -/
namespace Go.Proofs.Ythpcippgifmabaa
set_option maxRecDepth 100000
open Go.RowKit

theorem Chg.drewN {w w' : World} {lo hi : Nat} (h : Chg lo hi w w') (n : Nat) : Chg lo hi w (w'.drewN n) := ⟨h.os, h.tape, h.output, h.size, h.block⟩
theorem Cur.of {w w' : World} {g lo hi c : Nat} {A : Option Addr} {bs : List Int} {i j : Nat} {x y : Int} (h1 : EByte.AS w lo hi A bs) (h2 : hi ≤ g) (hj : j ≤ bs.length) (h4 : Blk w g 86 #[.slice A bs.length c, .int .i64 i, .int .i64 x])
    (hc : Chg g (g + 1) w w') (hb : Blk w' g 86 #[.slice A bs.length c, .int .i64 j, .int .i64 y]) : Cur w' g :=
  ⟨A, c, lo, hi, bs, j, y, h1.same (Same.of_chg hc (by have := h4.lt; omega) (by omega)), h2, hj, hb⟩

set_option maxHeartbeats 2000000 in
theorem l01Byte_any (g : Nat) (w : World) (h : Cur w g) : Calls Try.prog 84 #[.pointer (some ⟨g, 0, none⟩)] w (RetCur g 256 w) := by
  obtain ⟨A, c, lo, hi, bs, i, x, h1, h2, h3, h4⟩ := h
  have hle := h1.le
  unfold BIG at hle
  have e0 := h4.cell (i := 0) rfl; have e1 := h4.cell (i := 1) rfl; have e2 := h4.cell (i := 2) rfl
  have f1 := h4.free 1; have f2 := h4.free 2
  by_cases hlt : i < bs.length
  · obtain ⟨b, off, y, rfl, _, hb, _, hx, hc⟩ := AByte.at_ h1 hlt
    clear hx
    have hbg : b ≠ g := by omega
    go_enter Try.func84, Try.ntmps84
    go_wp2
    go_quiet (fail)
    go_wp2
    go_quiet (fail)
    go_wp2
    go_quiet (fail)
    go_wp2
    go_ret
    have hch : ∀ (u v : Value) (n : Nat), Chg g (g + 1) w (((w.setCell ⟨g, 2, none⟩ u).drewN n).setCell ⟨g, 1, none⟩ v) := fun u v n => (((Chg.refl _ _ _).setCell (p := ⟨g, 2, none⟩) (by simp) _).drewN n).setCell (p := ⟨g, 1, none⟩) (by simp) _
    have hB : ∀ (u v : Value) (n : Nat), Blk (((w.setCell ⟨g, 2, none⟩ u).drewN n).setCell ⟨g, 1, none⟩ v) g 86 #[.slice (some ⟨b, off, none⟩) bs.length c, v, u] := fun u v n => by
      have k : Blk ((w.setCell ⟨g, 2, none⟩ u).drewN n) g 86 _ := h4.set 2 u
      simpa using k.set 1 v
    exact ⟨_, (and255 _).1, by have := (and255 (wrap64 (bits .and .i64 (bits .xor .i64 (wrap64 (wrap64 (x * 6364136223846793005) + 1442695040888963407) / 8589934592) (wrap64 (wrap64 (x * 6364136223846793005) + 1442695040888963407) / 35184372088832)) 255 + wrap64 y))).2; omega, rfl, Cur.of (j := i + 1) h1 h2 (by omega) h4 (hch _ _ _) (hB _ _ _), hch _ _ _, by simp [World.setCell, World.drewN]⟩
  · have hlt' : ¬ (i : Int) < (bs.length : Int) := by omega
    go_enter Try.func84, Try.ntmps84
    go_wp2
    go_quiet (fail)
    go_wp2
    go_quiet (fail)
    go_wp2
    go_ret
    have hch : ∀ (u : Value) (n m : Nat), Chg g (g + 1) w (((w.setCell ⟨g, 2, none⟩ u).drewN n).drewN m) := fun u n m => (((Chg.refl _ _ _).setCell (p := ⟨g, 2, none⟩) (by simp) _).drewN n).drewN m
    have hB : ∀ (u : Value) (n m : Nat), Blk (((w.setCell ⟨g, 2, none⟩ u).drewN n).drewN m) g 86 #[.slice A bs.length c, .int .i64 i, u] := fun u n m => by
      have k : Blk (((w.setCell ⟨g, 2, none⟩ u).drewN n).drewN m) g 86 _ := h4.set 2 u
      simpa using k
    exact ⟨_, (and255 _).1, by have := (and255 (bits .xor .i64 (wrap64 (wrap64 (x * 6364136223846793005) + 1442695040888963407) / 8589934592) (wrap64 (wrap64 (x * 6364136223846793005) + 1442695040888963407) / 35184372088832))).2; omega, rfl, Cur.of (j := i) h1 h2 h3 h4 (hch _ _ _) (hB _ _ _), hch _ _ _, by simp [World.setCell, World.drewN]⟩

theorem l01Below_any (g : Nat) (n : Int) (w : World) (h : Cur w g) (h1 : 1 ≤ n) (h2 : n ≤ 256) : Calls Try.prog 66 #[.pointer (some ⟨g, 0, none⟩), .int .i64 n] w (RetCur g n w) := by
  go_enter Try.func66, Try.ntmps66
  go_wp2_with (go_at_call 84; refine (l01Byte_any g _ h).mono ?_; rintro e w1 ⟨x, hx0, hx1, rfl, hc, hch, hsz⟩)
  go_ret
  exact ⟨_, Int.emod_nonneg _ (by omega), Int.emod_lt_of_pos _ (by omega), rfl, hc, hch, hsz⟩
theorem l01Once_any (g : Nat) (n : Int) (w : World) (h : Cur w g) (h1 : 1 ≤ n) (h2 : n ≤ 256) : Calls Try.prog 69 #[.pointer (some ⟨g, 0, none⟩), .int .i64 n] w (RetCurB g w) := by
  go_enter Try.func69, Try.ntmps69
  go_wp2_with (go_at_call 66; refine (l01Below_any g n _ h h1 h2).mono ?_; rintro e w1 ⟨x, hx0, hx1, rfl, hc, hch, hsz⟩)
  go_ret
  exact ⟨_, rfl, hc, hch, hsz⟩
/-- One of some numbers is drawn. -/
def RetOne (g : Nat) (ys : List Int) (w : World) (e : Ending) (w' : World) : Prop := ∃ x : Int, x ∈ ys ∧ e = .returned (.int .i64 x) ∧ Cur w' g ∧ Chg g (g + 1) w w' ∧ w'.heap.size = w.heap.size
theorem l01Int_any (g : Nat) (A : Option Addr) (c lo hi : Nat) (ys : List Int) (w : World) (h : Cur w g) (h' : EInt.AS w lo hi A ys) (hh : hi ≤ w.heap.size) (hd : hi ≤ g ∨ g + 1 ≤ lo) (h1 : 1 ≤ ys.length) (h2 : ys.length ≤ 256) :
    Calls Try.prog 65 #[.pointer (some ⟨g, 0, none⟩), .slice A ys.length c] w (RetOne g ys w) := by
  go_enter Try.func65, Try.ntmps65
  go_wp2_with fail
  refine (l01Below_any g ys.length _ h (by omega) (by omega)).mono ?_
  rintro e w1 ⟨x, hx0, hx1, rfl, hc, hch, hsz⟩
  have k := h'.same (Same.of_chg hch hh hd)
  have hx2 : x.toNat < ys.length := by omega
  obtain ⟨b, off, y, rfl, _, _, _, hy, hcell⟩ := AInt.at_ k hx2
  have HY := Lib.hid (List.mem_of_getElem? hy); clear hy
  have HC := Lib.hid hc; clear hc
  go_wp2
  go_ret
  exact ⟨y, HY.out, rfl, HC.out, hch, hsz⟩
end Go.Proofs.Ythpcippgifmabaa

/-! ## Cur3 -/
namespace Go.Proofs.Ythpcippgifmabaa
set_option maxRecDepth 100000
open Go.RowKit

theorem Chg.setNew {w w' : World} {lo hi : Nat} (h : Chg lo hi w w') {p : Addr} (hp : w.heap.size ≤ p.block) (u : Value) : Chg lo hi w (w'.setCell p u) :=
  ⟨h.os, h.tape, h.output, by simpa [World.setCell] using h.size, fun k hk hd => (Below.heap_setCell _ _ _ _ (by omega)).trans (h.block k hk hd)⟩
theorem Chg.then {w w' w'' : World} {lo hi B : Nat} (h : Chg lo hi w w') (k : Below B w' w'') (hB : w.heap.size ≤ B) : Chg lo hi w w'' :=
  ⟨k.os.trans h.os, k.tape.trans h.tape, k.output.trans h.output, Nat.le_trans h.size k.size, fun i hi hd => (k.block i (by omega)).trans (h.block i hi hd)⟩
theorem made_intsC (w : World) (xs : List Int) (hx : xs.length ≤ BIG) : EInt.OS (w.alloc (.cells (xs.map (Value.int .i64)).toArray 3)) w.heap.size (w.alloc (.cells (xs.map (Value.int .i64)).toArray 3)).heap.size (.slice (some ⟨w.heap.size, 0, none⟩) xs.length xs.length) xs := by
  have he : xs.flatMap (fun n => [Value.int .i64 n]) = xs.map (Value.int .i64) := by clear hx; induction xs <;> simp_all
  refine flat_os.2 (Fill.own (N := xs.length) (vs := xs.flatMap fun n => [Value.int .i64 n]) ⟨_, heap_alloc_new w _, by simp, fun i _ => by rw [he]; simp⟩ (by simp) (by rw [he]; simp) (Nat.le_refl _) hx)

theorem undrewC {w w' : World} {lo hi : Nat} (h : Chg lo hi w.drew w') : Chg lo hi w w' := ⟨h.os, h.tape, h.output, h.size, h.block⟩
/-- A valid relation of n numbers is drawn. -/
def RetDraw (g n : Nat) (w : World) (e : Ending) (w' : World) : Prop :=
  ∃ (A : Option Addr) (c : Nat) (p : Nat → Nat → Bool), e = .returned (.agg #[.int .i64 n, .slice A n c]) ∧ EIntS.OS w' w.heap.size w'.heap.size (.slice A n c) (relM n p) ∧ Cur w' g ∧ Chg g (g + 1) w w'
end Go.Proofs.Ythpcippgifmabaa
