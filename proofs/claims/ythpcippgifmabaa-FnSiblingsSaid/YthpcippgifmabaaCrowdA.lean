/-
  Families drawn from bytes: names, and somebody who can have children: what they leave, not who is drawn.
-/
import Derived.Test.YthpcippgifmabaaGCur
import Derived.Test.YthpcippgifmabaaGFam
import Derived.Test.YthpcippgifmabaaGLead
import Derived.Laws.IdiomStrings
import Derived.Deep.Cut
import Derived.Deep.DeepCutAuto
namespace Go.Proofs.Ythpcippgifmabaa
set_option maxRecDepth 100000
open Go.RowKit

set_option maxHeartbeats 2000000 in
theorem l1Called_any (i : Nat) (w : World) (hi : i ≤ 1000) : Calls Try.prog 68 #[.int .i64 i] w fun e w' => ∃ s, e = .returned (.string s) ∧ s.size = 2 ∧ Below w.heap.size w w' := by
  have h26 : i % 26 < (⟨#[97, 98, 99, 100, 101, 102, 103, 104, 105, 106, 107, 108, 109, 110, 111, 112, 113, 114, 115, 116, 117, 118, 119, 120, 121, 122]⟩ : ByteArray).size := by show i % 26 < 26; omega
  have h5 : i / 26 % 5 < (⟨#[97, 101, 105, 111, 117]⟩ : ByteArray).size := by show i / 26 % 5 < 5; omega
  obtain ⟨b1, hb1⟩ : ∃ b, (⟨#[97, 98, 99, 100, 101, 102, 103, 104, 105, 106, 107, 108, 109, 110, 111, 112, 113, 114, 115, 116, 117, 118, 119, 120, 121, 122]⟩ : ByteArray)[i % 26]'h26 = b := ⟨_, rfl⟩
  obtain ⟨b2, hb2⟩ : ∃ b, (⟨#[97, 101, 105, 111, 117]⟩ : ByteArray)[i / 26 % 5]'h5 = b := ⟨_, rfl⟩
  have hconv := run_convert_bytes_back (P := Try.prog) (w.alloc (.cells #[.int .u8 b1.toNat, .int .u8 b2.toNat] 5)).drew 22 9 5 ⟨w.heap.size, 0, none⟩ 2 [b1, b2] Try.underlying22 Try.underlying5 Try.underlying9 (fun j hj => by
    rcases (by simp at hj; omega : j = 0 ∨ j = 1) with rfl | rfl
    · simp [Addr.add]
    · simp [Addr.add])
  rw [show [b1, b2].length = 2 from rfl] at hconv
  have m1 : (0 : Int) ≤ (i : Int) % 26 ∧ (i : Int) % 26 < 26 := by omega
  have m2 : (0 : Int) ≤ (i : Int) / 26 % 5 ∧ (i : Int) / 26 % 5 < 5 := by omega
  have q1 : ((i : Int) % 26).toNat = i % 26 := by omega
  have q2 : ((i : Int) / 26 % 5).toNat = i / 26 % 5 := by omega
  go_enter Try.func68, Try.ntmps68
  go_wp2
  go_region
  go_wp2
  go_ret
  exact ⟨_, rfl, rfl, by (with_reducible repeat' first | exact Below.refl _ _ | assumption | (refine Below.setCell ?_ (by first | omega | (simp; omega) | (simp; done) | (dsimp only; omega)) _) | (refine Below.alloc ?_ (by first | omega | (simp; omega) | (simp; done) | (dsimp only; omega)) _) | (refine below_drewN ?_ _) | (refine Below.drew ?_))⟩
/-- The index of somebody is returned, or -1. -/
def RetSome (g : Nat) (n : Int) (w : World) (e : Ending) (w' : World) : Prop := ∃ x : Int, -1 ≤ x ∧ x < n ∧ e = .returned (.int .i64 x) ∧ Cur w' g ∧ Chg g (g + 1) w w'
set_option maxHeartbeats 4000000 in
theorem l1Some_any (g : Nat) (A B D : Option Addr) (c d e lo hi lo2 hi2 : Nat) (xs : List Person) (ys : List Union) (ds : List Int) (sex : Int) (w : World) (hc : Cur w g) (h : EPerson.AS w lo hi A xs) (hh : hi ≤ w.heap.size) (h2 : EInt.AS w lo2 hi2 D ds) (hh2 : hi2 ≤ w.heap.size)
    (hg1 : hi ≤ g ∨ g + 1 ≤ lo) (hg2 : hi2 ≤ g ∨ g + 1 ≤ lo2) (hd : ds.length = xs.length) (hn : xs.length ≤ 40) :
    Calls Try.prog 70 #[.pointer (some ⟨g, 0, none⟩), .agg #[.slice A xs.length c, .slice B ys.length d], .slice D xs.length e, .int .i64 sex] w (RetSome g xs.length w) := by
  have hgl := hc.lt
  go_enter Try.func70, Try.ntmps70
  go_wp2
  generalize hW : w.alloc (.cells #[.slice A xs.length c, .slice B ys.length d] 26) = W
  have F : Blk W w.heap.size 26 #[.slice A xs.length c, .slice B ys.length d] := by subst hW; exact Blk.new _ rfl
  have hcW : Cur W g := by subst hW; exact hc.below (by (with_reducible repeat' first | exact Below.refl _ _ | assumption | (refine Below.setCell ?_ (by first | omega | (simp; omega) | (simp; done) | (dsimp only; omega)) _) | (refine Below.alloc ?_ (by first | omega | (simp; omega) | (simp; done) | (dsimp only; omega)) _) | (refine below_drewN ?_ _) | (refine Below.drew ?_)) : Below w.heap.size w _) hgl
  have hch : Chg g (g + 1) w W := by subst hW; exact (Chg.refl _ _ _).alloc _
  have z0 : w.heap.size + 1 ≤ W.heap.size := by subst hW; simp
  replace h : EPerson.AS W lo hi A xs := by subst hW; exact h.same (by (with_reducible repeat' first | exact Same.refl _ _ _ | assumption | (refine Same.setCell ?_ (by first | omega | (simp; omega) | (simp; done) | (dsimp only; omega)) _) | (refine Same.alloc ?_ (by first | omega | (simp; omega) | (simp; done) | (dsimp only; omega)) _) | (refine Same.drewN ?_ _) | (refine Same.drew ?_)))
  replace h2 : EInt.AS W lo2 hi2 D ds := by subst hW; exact h2.same (by (with_reducible repeat' first | exact Same.refl _ _ _ | assumption | (refine Same.setCell ?_ (by first | omega | (simp; omega) | (simp; done) | (dsimp only; omega)) _) | (refine Same.alloc ?_ (by first | omega | (simp; omega) | (simp; done) | (dsimp only; omega)) _) | (refine Same.drewN ?_ _) | (refine Same.drew ?_)))
  clear hW hc
  go_loopw [10] (fun i wr => ∃ k : Nat, k ≤ 6 ∧ i = .int .i64 k ∧ Cur wr g ∧ Chg g (g + 1) W wr) (fun i _ => 6 - (intOf i).toNat)
  case atStart => exact ⟨0, by omega, rfl, hcW, Chg.refl _ _ _⟩
  case round =>
    obtain ⟨k, hk, rfl, hcr, hchr⟩ := hrel
    clear hcW
    by_cases hk6 : k < 6 ∧ 0 < xs.length
    · obtain ⟨hk6, hn0⟩ := hk6
      have i1 : (k : Int) < 6 := by omega
      have i2 : (0 : Int) < (xs.length : Int) := by omega
      obtain ⟨m, hm⟩ : ∃ m : Int, (if (5 : Int) < (xs.length : Int) then (5 : Int) else (xs.length : Int)) = m := ⟨_, rfl⟩
      have hm1 : 1 ≤ m ∧ m ≤ 5 ∧ m ≤ xs.length := by subst hm; split <;> omega
      have n1 : IntKind.i64.wrap ((xs.length : Int) - 1) = (xs.length : Int) - 1 := by rw [IntKind.wrap_i64]; omega
      have HN := Lib.hid hn0; clear hn0
      go_upto_region 6 with (go_at_call 66; refine (l01Below_any g xs.length _ hcr (by omega) (by omega)).mono ?_; rintro e w1 ⟨y, hy0, hy1, rfl, hc1, hch1, hs1⟩)
      obtain ⟨j, rfl⟩ := Int.eq_ofNat_of_zero_le hy0
      go_upto_if 27 with (go_at_call 69; refine (l01Once_any g 2 _ hc1 (by omega) (by omega)).mono ?_; rintro e w2 ⟨x, rfl, hc2, hch2, hs2⟩)
      have hch' := (hchr.trans hch1).trans hch2
      clear hchr hch1 hch2 hc1 hcr hs1 hs2
      go_cut [11] from 15 to 50 (fun v wc => ∃ i : Nat, v = .int .i64 i ∧ i < xs.length ∧ Cur wc g ∧ Chg g (g + 1) W wc)
      case first =>
        cases x with
        | false =>
          go_wp2
          go_meet
          exact ⟨j, rfl, by omega, hc2, hch'⟩
        | true =>
          have n2 : ∀ y : Int, 0 ≤ y → y < m → IntKind.i64.wrap ((xs.length : Int) - 1 - y) = (xs.length : Int) - 1 - y := fun y _ _ => by rw [IntKind.wrap_i64]; omega
          go_wp2_with (go_at_call 66; refine (l01Below_any g m _ hc2 (by omega) (by omega)).mono ?_; rintro e w3 ⟨y, hy0', hy1', rfl, hc3, hch3, hs3⟩)
          go_meet
          obtain ⟨y, rfl⟩ := Int.eq_ofNat_of_zero_le hy0'
          exact ⟨xs.length - 1 - y, by congr 1; omega, by omega, hc3, hch'.trans hch3⟩
      case rest =>
        obtain ⟨i0, rfl, hi0, hcc, hchc⟩ := hcut
        clear hc2 hch'
        have Fc := F.chg hchc (.inr (by omega))
        have e0 := Fc.cell (i := 0) rfl
        have zc := hchc.size
        obtain ⟨b, off, ⟨x0, x1, x2, x3, x4, x5⟩, rfl, g1, g2, _, _, _, k1, _, _, _, _⟩ := APerson.at_ (h.same (Same.of_chg hchc (by omega) (by omega))) hi0
        obtain ⟨b', off', dd, rfl, _, g2', _, _, k2⟩ := AInt.at_ (k := i0) (h2.same (Same.of_chg hchc (by omega) (by omega))) (by omega)
        simp only at k1
        have j1 : (i0 : Int) < (xs.length : Int) := by omega
        by_cases hs : x1 = sex
        · have s1 : (x1 == sex) = true := by simpa using hs
          by_cases hd10 : dd < 10
          · go_wp2
            go_ret
            exact ⟨i0, by omega, by omega, rfl, hcc, hch.trans hchc⟩
          · go_wp2
            exact ⟨⟨k + 1, by omega, by go_num, hcc, hchc⟩, by simp [intOf]; omega⟩
        · have s1 : (x1 == sex) = false := by simpa using hs
          go_wp2
          exact ⟨⟨k + 1, by omega, by go_num, hcc, hchc⟩, by simp [intOf]; omega⟩
    · by_cases hk6' : k < 6
      · have i1 : (k : Int) < 6 := by omega
        have i2 : ¬ (0 : Int) < (xs.length : Int) := by omega
        go_wp2
        go_ret
        exact ⟨-1, by omega, by omega, rfl, hcr, hch.trans hchr⟩
      · have i1 : ¬ (k : Int) < 6 := by omega
        go_wp2
        go_ret
        exact ⟨-1, by omega, by omega, rfl, hcr, hch.trans hchr⟩
end Go.Proofs.Ythpcippgifmabaa
