/-
  Marks of a list of texts.
-/
import Derived.Test.YtnanlbglgflecaaConvStr
import Derived.Test.YtnanlbglgflecaaFlat
import Derived.Test.YtnanlbglgflecaaMarkText
namespace Go.Proofs.Ytnanlbglgflecaa
set_option maxRecDepth 100000
open Go.RowKit

theorem EString_O (w : World) (lo hi : Nat) (cs : List Value) (x : ByteArray) : EString.O w lo hi cs x ↔ cs = [.string x] := Iff.rfl
def markStr (k : Int) (i : Nat) : ByteArray := markT (k + i)
def MarkStrRel (w : World) (lo hi : Nat) (v : Value) (xs : List ByteArray) (k : Int) (kk i : Value) (wr : World) : Prop :=
  ∃ j : Nat, j ≤ xs.length ∧ i = .int .i64 j ∧ kk = .int .i64 (k + j) ∧ EString.OS wr lo hi v (mkTo (markStr k) j ++ xs.drop j) ∧ Chg lo hi w wr ∧ hi ≤ wr.heap.size
set_option maxHeartbeats 4000000 in
theorem markStringS_any (A : Option Addr) (c lo hi : Nat) (xs : List ByteArray) (k : Int) (w : World) (h : EString.OS w lo hi (.slice A xs.length c) xs) (hh : hi ≤ w.heap.size) (h0 : 0 < k) (h1 : k + xs.length ≤ 4611686018427387904) :
    Calls Try.prog 51 #[.slice A xs.length c, .int .i64 k] w fun e w' => e = .returned (.int .i64 (k + xs.length)) ∧ EString.OS w' lo hi (.slice A xs.length c) (mkTo (markStr k) xs.length) ∧ Chg lo hi w w' := by
  have hx := h.read.as.le
  unfold BIG at hx
  go_enter Try.func51, Try.ntmps51
  go_wp2
  go_loopw [1, 5] (fun kk i wr => MarkStrRel w lo hi (.slice A xs.length c) xs k kk i wr) (fun _ i _ => xs.length - (intOf i).toNat)
  case atStart => exact ⟨0, Nat.zero_le _, rfl, by simp, by simpa [mkTo] using h, Chg.refl _ _ _, hh⟩
  case round =>
    obtain ⟨j, hj, rfl, rfl, ho, hch, hhr⟩ := hrel
    by_cases hlt : j < xs.length
    · obtain ⟨y, hxj⟩ : ∃ x, xs[j]? = some x := ⟨_, List.getElem?_eq_getElem hlt⟩
      have hl0 := mkTo_mlen (m := markStr k) hj
      have hxm := mkTo_at (m := markStr k) hxj
      obtain ⟨g, c1, hv, g1, g2, g3, hc, _⟩ := flat_put EString_O ho hhr hxm
      rw [hl0] at hv
      injection hv with hv _ hcc
      subst hv; subst hcc
      have HX := Lib.hid hxm; clear hxm hxj hl0 hc
      have j0 : (0 : Int) ≤ (j : Int) := by omega
      go_wp2_with fail
      refine (markText_any _ _ (by omega) (by omega)).mono ?_
      rintro e w1 ⟨rfl, hb1⟩
      have z1 := hb1.size
      have ho1 := ho.same (Same.of_below hb1 hhr)
      obtain ⟨g0', c0', hv0, _, _, g3', hc, hs0⟩ := flat_put EString_O ho1 (by omega) HX.out
      injection hv0 with hv0 hv1 hv2
      clear hv1 hv2
      injection hv0 with hv0
      injection hv0 with hv0 _ _
      subst hv0
      obtain ⟨e0, f0⟩ := hc 0 _ rfl
      simp only [EString, Elem.flat, Nat.mul_one, Nat.add_zero] at e0 f0
      have p1 := hs0 0 (.string (markT (k + j))) _ (markStr k j) rfl rfl rfl
      rw [mkTo_mid hlt] at p1
      simp only [EString, Elem.flat, Nat.mul_one, Nat.add_zero] at p1
      have hhr1 : hi ≤ w1.heap.size := by omega
      have hch1 := hch.trans (Chg.of_below (lo := lo) (hi := hi) hb1)
      clear hc hs0 ho1
      go_wp2_with fail
      exact ⟨⟨j + 1, by omega, by go_num, by first | go_num | (simp; omega), by first | exact p1 | simpa using p1, hch1.setCell (p := ⟨g, j, none⟩) ⟨g1, g2⟩ _, by simpa [World.setCell] using hhr1⟩, by simp [intOf]; omega⟩
    · obtain rfl : j = xs.length := by omega
      go_wp2
      go_ret
      exact ⟨rfl, by simpa using ho, hch⟩
end Go.Proofs.Ytnanlbglgflecaa
