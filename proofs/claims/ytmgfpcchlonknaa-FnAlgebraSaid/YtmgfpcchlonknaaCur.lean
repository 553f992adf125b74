/-
  The cursor over the bytes of a draw, and the bytes that are drawn from: what they leave, not which numbers they give.
-/
import Derived.Test.YtmgfpcchlonknaaBase
import Derived.Laws.Bits128
import Derived.Deep.RegionLaw
namespace Go.Proofs.Ytmgfpcchlonknaa
set_option maxRecDepth 100000
open Go.RowKit

def EByte : Elem Int := .flat 5 1 (fun n => [.int .u8 n]) (fun _ => rfl) (fun _ => rfl)
section
variable {w : World} {lo hi : Nat} {A : Option Addr} {k : Nat}
theorem AByte.at_ {xs : List Int} (h : EByte.AS w lo hi A xs) (hk : k < xs.length) : ∃ b off x, A = some ⟨b, off, none⟩ ∧ lo ≤ b ∧ b < hi ∧ xs.drop k = x :: xs.drop (k + 1) ∧ xs[k]? = some x ∧
    w.cell? ⟨b, off + k, none⟩ = some (.int .u8 x) := by
  obtain ⟨b, off, x, cs, rfl, h1, h2, h3, h4, rfl, hc⟩ := h.at_ hk
  exact ⟨b, off, x, rfl, h1, h2, h3, h4, by simpa [EByte, Elem.flat] using hc 0 _ rfl⟩
end
theorem byte_info : (Try.prog.info? 5).map (fun i => (i.zero, i.size, i.bytes)) = some (some (.int .u8 0), 1, 1) := by kernel_rfl
theorem tyByteS : SlTy EByte 66 1 := SlTy.mk' Try.underlying66 byte_info rfl (by decide)

theorem and255 (a : Int) : 0 ≤ bits .and .i64 a 255 ∧ bits .and .i64 a 255 ≤ 255 := by
  have e : (BitVec.ofInt 64 a &&& BitVec.ofInt 64 255).toNat ≤ 255 := by
    rw [BitVec.toNat_and]
    exact Nat.le_trans Nat.and_le_right (by decide)
  have : bits .and .i64 a 255 = ((BitVec.ofInt 64 a &&& BitVec.ofInt 64 255).toNat : Int) := by
    show IntKind.i64.wrap (((BitVec.ofInt 64 a &&& BitVec.ofInt 64 255).toNat : Nat) : Int) = _
    exact IntWalk.i64_in _ (by omega)
  rw [this]
  omega

/-- A number from a to b is returned, and nothing has changed. -/
def RetIn (a b : Int) (w : World) (e : Ending) (w' : World) : Prop := ∃ x : Int, a ≤ x ∧ x ≤ b ∧ e = .returned (.int .i64 x) ∧ w = w'
theorem at_any (A : Option Addr) (c lo hi : Nat) (bs : List Int) (i : Int) (w : World) (h : EByte.AS w lo hi A bs) (hbs : bs.length ≤ 1048576) (hb : ∀ x ∈ bs, 0 ≤ x ∧ x ≤ 255) (h0 : 0 ≤ i) (h1 : i ≤ 1000) :
    Calls Try.prog 62 #[.slice A bs.length c, .int .i64 i] w (RetIn 0 255 w) := by
  by_cases hlt : i.toNat < bs.length
  · obtain ⟨b, off, x, rfl, _, _, _, hx, hc⟩ := AByte.at_ h hlt
    have hxb := hb x (List.mem_of_getElem? hx)
    clear hx hb
    have i1 : i < (bs.length : Int) := by omega
    go_enter Try.func62, Try.ntmps62
    go_wp2
    go_ret
    exact ⟨_, hxb.1, hxb.2, rfl, rfl⟩
  · have i1 : ¬ i < (bs.length : Int) := by omega
    go_enter Try.func62, Try.ntmps62
    go_wp2
    go_ret
    exact ⟨_, by omega, by omega, rfl, rfl⟩

theorem one_byte (w : World) (x : Int) : EByte.OS (w.alloc (.cells #[.int .u8 x] 5)) w.heap.size (w.alloc (.cells #[.int .u8 x] 5)).heap.size (.slice (some ⟨w.heap.size, 0, none⟩) 1 1) [x] := by
  have hf : Fill (w.alloc (.cells #[.int .u8 x] 5)) w.heap.size 5 1 [.int .u8 x] 1 := ⟨#[.int .u8 x], heap_alloc_new w _, rfl, fun i hi => by
    obtain rfl : i = 0 := by omega
    rfl⟩
  exact flat_os.2 (hf.own (n := 1) (sz := 1) rfl rfl (Nat.le_refl _) (by simp [BIG]))
/-- Bytes of the call's own are returned. -/
def RetBytes (w : World) (e : Ending) (w' : World) : Prop :=
  ∃ (A : Option Addr) (c : Nat) (bs : List Int), e = .returned (.slice A bs.length c) ∧ EByte.OS w' w.heap.size w'.heap.size (.slice A bs.length c) bs ∧ bs.length ≤ 601 ∧ Below w.heap.size w w'
def FreshRel (n : Nat) (w : World) (v i : Value) (wr : World) : Prop :=
  ∃ (k : Nat) (A : Option Addr) (c : Nat) (ys : List Int), k ≤ n ∧ k ≤ 600 ∧ i = .int .i64 k ∧ v = .slice A (k + 1) c ∧ ys.length = k + 1 ∧ EByte.OS wr w.heap.size wr.heap.size (.slice A (k + 1) c) ys ∧ Below w.heap.size w wr
set_option maxHeartbeats 1000000 in
theorem fresh_any (A : Option Addr) (c lo hi : Nat) (bs : List Int) (salt : Int) (w : World) (h : EByte.AS w lo hi A bs) (hh : hi ≤ w.heap.size) (hbs : bs.length ≤ 1048576) (h0 : 0 ≤ salt) (h1 : salt ≤ 255) :
    Calls Try.prog 64 #[.slice A bs.length c, .int .i64 salt] w (RetBytes w) := by
  go_enter Try.func64, Try.ntmps64
  go_wp2
  go_loopw [5, 6] (fun v i wr => FreshRel bs.length w v i wr) (fun _ i _ => bs.length - (intOf i).toNat)
  case atStart =>
    refine ⟨0, _, _, [salt], Nat.zero_le _, Nat.zero_le _, rfl, rfl, rfl, one_byte w salt, by (with_reducible repeat' first | exact Below.refl _ _ | assumption | (refine Below.setCell ?_ (by first | omega | (simp; omega) | (simp; done) | (dsimp only; omega)) _) | (refine Below.alloc ?_ (by first | omega | (simp; omega) | (simp; done) | (dsimp only; omega)) _) | (refine below_drewN ?_ _) | (refine Below.drew ?_))⟩
  case round =>
    obtain ⟨k, A1, c1, ys, hk, hk6, rfl, rfl, hl, ho, hb⟩ := hrel
    have hz := hb.size
    by_cases hlt : k < bs.length
    · by_cases h6 : k < 600
      · obtain ⟨b, off, x, rfl, _, _, _, hx, hc⟩ := AByte.at_ (h.same (Same.of_below hb hh)) hlt
        clear hx
        have HL := Lib.hid hl; clear hl
        go_wp2_with (at_builtin; refine wpList_app1 tyByteS A1 ys ?v [.int .u8 ?v] ⟨wr.heap.size, 0, none⟩ 1 (lo := w.heap.size) (hi := wr.heap.size) (ho.same ?q1) HL.out ?q2 hz rfl _ _ rfl rfl rfl rfl ?q4 ?q5 ?q6 (by decide) (fun A' c' w3 ho1 hg1 hc1 hm1 => ?_))
        case q4 => exact cell_one_at _ _ _ _ rfl
        case q1 => (with_reducible repeat' first | exact Same.refl _ _ _ | assumption | (refine Same.setCell ?_ (by first | omega | (simp; omega) | (simp; done) | (dsimp only; omega)) _) | (refine Same.alloc ?_ (by first | omega | (simp; omega) | (simp; done) | (dsimp only; omega)) _) | (refine Same.drewN ?_ _) | (refine Same.drew ?_))
        case q2 => (first | omega | (simp; omega) | (simp; done) | (dsimp only; omega))
        case q5 => first | rfl | (simp; done) | (simp; rfl)
        case q6 => omega
        refine ⟨⟨k + 1, A', c', _, by omega, by omega, by go_num, rfl, by simp [HL.out], ho1, ?_⟩, by simp [intOf]; omega⟩
        exact Below.grown (w := wr.alloc _) (by (with_reducible repeat' first | exact Below.refl _ _ | assumption | (refine Below.setCell ?_ (by first | omega | (simp; omega) | (simp; done) | (dsimp only; omega)) _) | (refine Below.alloc ?_ (by first | omega | (simp; omega) | (simp; done) | (dsimp only; omega)) _) | (refine below_drewN ?_ _) | (refine Below.drew ?_))) hg1 (by simp; omega) (fun k hk => (ho.blkv k hk).1)
      · go_wp2
        go_ret
        exact ⟨A1, c1, ys, by rw [hl]; rfl, by rw [hl]; exact ho, by omega, hb⟩
    · go_wp2
      go_ret
      exact ⟨A1, c1, ys, by rw [hl]; rfl, by rw [hl]; exact ho, by omega, hb⟩

/-- A cursor lies in block g; its bytes lie in older blocks. -/
def Cur (w : World) (g : Nat) : Prop :=
  ∃ (A : Option Addr) (c lo hi : Nat) (bs : List Int) (i : Nat) (h : Int), EByte.AS w lo hi A bs ∧ hi ≤ g ∧ i ≤ bs.length ∧ Blk w g 132 #[.slice A bs.length c, .int .i64 i, .int .i64 h]
theorem Cur.lt {w : World} {g : Nat} (h : Cur w g) : g < w.heap.size := by obtain ⟨_, _, _, _, _, _, _, _, _, _, h⟩ := h; exact h.lt
theorem Cur.keep {w w' : World} {g : Nat} (h : Cur w g) (hb : ∀ k, k ≤ g → w'.heap[k]? = w.heap[k]?) (hs : w.heap.size ≤ w'.heap.size) : Cur w' g := by
  obtain ⟨A, c, lo, hi, bs, i, x, h1, h2, h3, h4⟩ := h
  exact ⟨A, c, lo, hi, bs, i, x, h1.same ⟨hs, fun k _ k2 => hb k (by omega)⟩, h2, h3, (hb g (Nat.le_refl _)).trans h4⟩
theorem Cur.below {w w' : World} {g B : Nat} (h : Cur w g) (hb : Below B w w') (hg : g < B) : Cur w' g := h.keep (fun k hk => hb.block k (by omega)) hb.size
theorem Cur.setCell {w : World} {g : Nat} (h : Cur w g) {p : Addr} (hp : g < p.block) (u : Value) : Cur (w.setCell p u) g :=
  h.keep (fun k hk => Below.heap_setCell _ _ _ _ (by omega)) (by simp [World.setCell])
theorem Cur.drew {w : World} {g : Nat} (h : Cur w g) : Cur w.drew g := h.keep (fun _ _ => rfl) (Nat.le_refl _)

/-- A new cursor is returned. -/
def RetNew (w : World) (e : Ending) (w' : World) : Prop := ∃ g, e = .returned (.pointer (some ⟨g, 0, none⟩)) ∧ w.heap.size ≤ g ∧ Cur w' g ∧ Below w.heap.size w w'
def NewRel (n : Nat) (h i : Value) : Prop := ∃ (k : Nat) (x : Int), k ≤ n ∧ i = .int .i64 k ∧ h = .int .i64 x
theorem l01New_any (A : Option Addr) (c lo hi : Nat) (bs : List Int) (w : World) (h : EByte.AS w lo hi A bs) (hh : hi ≤ w.heap.size) (hbs : bs.length ≤ 1048576) :
    Calls Try.prog 117 #[.slice A bs.length c] w (RetNew w) := by
  go_enter Try.func117, Try.ntmps117
  go_wp2
  go_loop [3, 4] (fun h i => NewRel bs.length h i) (fun _ i => bs.length - (intOf i).toNat)
  case atStart => exact ⟨0, _, Nat.zero_le _, rfl, rfl⟩
  case round =>
    obtain ⟨k, x, hk, rfl, rfl⟩ := hrel
    by_cases hlt : k < bs.length
    · by_cases h6 : k < 4000
      · obtain ⟨b, off, y, rfl, _, _, _, hx, hc⟩ := AByte.at_ h hlt
        clear hx
        go_wp2
        exact ⟨⟨k + 1, _, by omega, by go_num, rfl⟩, by simp [intOf]; omega⟩
      · go_wp2
        go_ret
        exact ⟨w.heap.size, rfl, Nat.le_refl _, ⟨A, c, lo, hi, bs, 0, x, h.same (by (with_reducible repeat' first | exact Same.refl _ _ _ | assumption | (refine Same.setCell ?_ (by first | omega | (simp; omega) | (simp; done) | (dsimp only; omega)) _) | (refine Same.alloc ?_ (by first | omega | (simp; omega) | (simp; done) | (dsimp only; omega)) _) | (refine Same.drewN ?_ _) | (refine Same.drew ?_))), hh, Nat.zero_le _, Blk.new _ rfl⟩, by (with_reducible repeat' first | exact Below.refl _ _ | assumption | (refine Below.setCell ?_ (by first | omega | (simp; omega) | (simp; done) | (dsimp only; omega)) _) | (refine Below.alloc ?_ (by first | omega | (simp; omega) | (simp; done) | (dsimp only; omega)) _) | (refine below_drewN ?_ _) | (refine Below.drew ?_))⟩
    · go_wp2
      go_ret
      exact ⟨w.heap.size, rfl, Nat.le_refl _, ⟨A, c, lo, hi, bs, 0, x, h.same (by (with_reducible repeat' first | exact Same.refl _ _ _ | assumption | (refine Same.setCell ?_ (by first | omega | (simp; omega) | (simp; done) | (dsimp only; omega)) _) | (refine Same.alloc ?_ (by first | omega | (simp; omega) | (simp; done) | (dsimp only; omega)) _) | (refine Same.drewN ?_ _) | (refine Same.drew ?_))), hh, Nat.zero_le _, Blk.new _ rfl⟩, by (with_reducible repeat' first | exact Below.refl _ _ | assumption | (refine Below.setCell ?_ (by first | omega | (simp; omega) | (simp; done) | (dsimp only; omega)) _) | (refine Below.alloc ?_ (by first | omega | (simp; omega) | (simp; done) | (dsimp only; omega)) _) | (refine below_drewN ?_ _) | (refine Below.drew ?_))⟩

/-- A number from 0 below n is drawn. -/
def RetCur (g : Nat) (n : Int) (w : World) (e : Ending) (w' : World) : Prop := ∃ x : Int, 0 ≤ x ∧ x < n ∧ e = .returned (.int .i64 x) ∧ Cur w' g ∧ Chg g (g + 1) w w' ∧ w'.heap.size = w.heap.size
def RetCurB (g : Nat) (w : World) (e : Ending) (w' : World) : Prop := ∃ x : Bool, e = .returned (.bool x) ∧ Cur w' g ∧ Chg g (g + 1) w w' ∧ w'.heap.size = w.heap.size
end Go.Proofs.Ytmgfpcchlonknaa
