/-
  Numbers and persons read from text, in the reference.
-/
import Derived.Test.YthpcippgifmabaaGreatDoorCutS
import Derived.Test.YthpcippgifmabaaGreatDoorGFamS
namespace Go.Proofs.YthpcippgifmabaaGreatDoor
set_option maxRecDepth 100000
open Go.RowKit

def ReadRel (s : ByteArray) (w : World) (n i : Value) (wr : World) : Prop :=
  ∃ (k v : Nat), k ≤ s.size ∧ n = .int .i64 v ∧ i = .int .i64 k ∧ v < 10 ^ k ∧ digitsV (v : Int) (s.data.toList.drop k) = digitsV 0 s.data.toList ∧ w = wr
theorem readS_out {s : ByteArray} (h : s.size < 1 ∨ 4 < s.size) : readS s = -1 := by
  rw [readS, if_pos]
  have := len_bytes s
  rcases h with h | h
  · exact .inl (by omega)
  · exact .inr (.inl (by omega))
theorem readS_zero {s : ByteArray} {r : List UInt8} (h : s.data.toList = 48 :: r) (h2 : 1 < s.size) : readS s = -1 := by
  rw [readS, if_pos]
  have := len_bytes s
  exact .inr (.inr ⟨by rw [h]; rfl, by omega⟩)
theorem readS_in {s : ByteArray} {x : UInt8} {r : List UInt8} (h0 : 1 ≤ s.size) (h4 : s.size ≤ 4) (h : s.data.toList = x :: r) (h1 : x ≠ 48 ∨ s.size ≤ 1) : readS s = digitsV 0 s.data.toList := by
  have := len_bytes s
  rw [readS, if_neg]
  rintro (h2 | h2 | ⟨h2, h3⟩)
  · omega
  · omega
  · rw [h] at h2
    simp only [List.head?_cons, Option.some.injEq] at h2
    rcases h1 with h1 | h1
    · exact h1 h2
    · omega
set_option maxHeartbeats 4000000 in
theorem l1Read_any (s : ByteArray) (w : World) : Calls Tryz.prog 24 #[.string s] w fun e w' => e = .returned (.int .i64 (readS s)) ∧ w = w' := by
  by_cases h1 : s.size < 1
  · have i1 : (s.size : Int) < 1 := by omega
    rw [readS_out (.inl h1)]
    go_enter Tryz.func24, Tryz.ntmps24
    go_wp2
    go_ret
    exact ⟨rfl, rfl⟩
  have i1 : ¬ (s.size : Int) < 1 := by omega
  by_cases h4 : 4 < s.size
  · have i2 : (4 : Int) < (s.size : Int) := by omega
    rw [readS_out (.inr h4)]
    go_enter Tryz.func24, Tryz.ntmps24
    go_wp2
    go_ret
    exact ⟨rfl, rfl⟩
  have i2 : ¬ (4 : Int) < (s.size : Int) := by omega
  have h0 : 0 < s.size := by omega
  have hd0 := bytes_drop h0
  rw [List.drop_zero] at hd0
  obtain ⟨ch, hch⟩ : ∃ ch, s[0] = ch := ⟨_, rfl⟩
  rw [hch] at hd0
  have HC := Lib.hid hd0
  obtain ⟨R, hR⟩ : ∃ R, readS s = R := ⟨_, rfl⟩
  have HR := Lib.hid hR
  rw [hR]
  by_cases hz : ch = 48 ∧ 1 < s.size
  · obtain ⟨rfl, h1s⟩ := hz
    have i3 : (1 : Int) < (s.size : Int) := by omega
    obtain rfl : R = -1 := hR.symm.trans (readS_zero hd0 h1s)
    clear hd0 hR
    go_enter Tryz.func24, Tryz.ntmps24
    go_wp2
    go_ret
    exact ⟨rfl, rfl⟩
  have hz2 : (ch ≠ 48) ∨ (ch = 48 ∧ ¬ 1 < s.size) := by
    by_cases e : ch = 48
    · exact .inr ⟨e, fun h => hz ⟨e, h⟩⟩
    · exact .inl e
  have HV := Lib.hid (readS_in (by omega) (by omega) hd0 (by rcases hz2 with h | ⟨_, h⟩; exact .inl h; exact .inr (by omega)))
  clear hd0 hR hz
  rcases hz2 with hne | ⟨rfl, hsz⟩
  · have n1 : ((ch.toNat : Int) == 48) = false := byteNe (d := 48) hne
    clear hne
    go_enter Tryz.func24, Tryz.ntmps24
    go_wp2
    go_loopw [3, 4] (fun n i wr => ReadRel s w n i wr) (fun _ i _ => s.size - (intOf i).toNat)
    case atStart => exact ⟨0, 0, Nat.zero_le _, rfl, rfl, by simp, rfl, rfl⟩
    case round =>
      obtain ⟨k, v, hk, rfl, rfl, hv, hD, rfl⟩ := hrel
      have HD := Lib.hid hD; clear hD
      by_cases hlt : k < s.size
      · have hd := bytes_drop hlt
        obtain ⟨c, hc⟩ : ∃ c, s[k] = c := ⟨_, rfl⟩
        rw [hc] at hd
        have hv4 : v ≤ 999 := by
          have : 10 ^ k ≤ 10 ^ 3 := Nat.pow_le_pow_right (by omega) (by omega)
          omega
        have i3 : (k : Int) < (s.size : Int) := by omega
        by_cases hlo : c.toNat < 48
        · have j1 : (c.toNat : Int) < 48 := by omega
          have hR := HD.out
          rw [hd, digitsV, if_pos (.inl hlo)] at hR
          have HR2 := Lib.hid (HR.out.symm.trans (HV.out.trans hR.symm))
          clear hR hd
          go_wp2
          go_ret
          exact ⟨by rw [HR2.out]; rfl, rfl⟩
        · have j1 : ¬ (c.toNat : Int) < 48 := by omega
          by_cases hhi : 57 < c.toNat
          · have j2 : (57 : Int) < (c.toNat : Int) := by omega
            have hR := HD.out
            rw [hd, digitsV, if_pos (.inr hhi)] at hR
            have HR2 := Lib.hid (HR.out.symm.trans (HV.out.trans hR.symm))
            clear hR hd
            go_wp2
            go_ret
            exact ⟨by rw [HR2.out]; rfl, rfl⟩
          · have j2 : ¬ (57 : Int) < (c.toNat : Int) := by omega
            have hR := HD.out
            rw [hd, digitsV, if_neg (by omega)] at hR
            have HR2 := Lib.hid hR
            clear hR hd
            go_wp2
            refine ⟨⟨k + 1, 10 * v + (c.toNat - 48), by omega, by congr 1; omega, by go_num, by rw [Nat.pow_succ]; omega, ?_, rfl⟩, by simp [intOf]; omega⟩
            rw [show ((10 * v + (c.toNat - 48) : Nat) : Int) = 10 * (v : Int) + ((c.toNat : Int) - 48) by omega]
            exact HR2.out
      · obtain rfl : k = s.size := by omega
        have hR := HD.out
        rw [List.drop_eq_nil_of_le (by rw [Array.length_toList]; exact Nat.le_refl _), digitsV] at hR
        have HR2 := Lib.hid (HR.out.symm.trans (HV.out.trans hR.symm))
        clear hR
        go_wp2
        go_ret
        exact ⟨by rw [HR2.out]; rfl, rfl⟩
  · have i3 : ¬ (1 : Int) < (s.size : Int) := by omega
    go_enter Tryz.func24, Tryz.ntmps24
    go_wp2
    go_loopw [3, 4] (fun n i wr => ReadRel s w n i wr) (fun _ i _ => s.size - (intOf i).toNat)
    case atStart => exact ⟨0, 0, Nat.zero_le _, rfl, rfl, by simp, rfl, rfl⟩
    case round =>
      obtain ⟨k, v, hk, rfl, rfl, hv, hD, rfl⟩ := hrel
      have HD := Lib.hid hD; clear hD
      by_cases hlt : k < s.size
      · have hd := bytes_drop hlt
        obtain ⟨c, hc⟩ : ∃ c, s[k] = c := ⟨_, rfl⟩
        rw [hc] at hd
        have hv4 : v ≤ 999 := by
          have : 10 ^ k ≤ 10 ^ 3 := Nat.pow_le_pow_right (by omega) (by omega)
          omega
        have i3 : (k : Int) < (s.size : Int) := by omega
        by_cases hlo : c.toNat < 48
        · have j1 : (c.toNat : Int) < 48 := by omega
          have hR := HD.out
          rw [hd, digitsV, if_pos (.inl hlo)] at hR
          have HR2 := Lib.hid (HR.out.symm.trans (HV.out.trans hR.symm))
          clear hR hd
          go_wp2
          go_ret
          exact ⟨by rw [HR2.out]; rfl, rfl⟩
        · have j1 : ¬ (c.toNat : Int) < 48 := by omega
          by_cases hhi : 57 < c.toNat
          · have j2 : (57 : Int) < (c.toNat : Int) := by omega
            have hR := HD.out
            rw [hd, digitsV, if_pos (.inr hhi)] at hR
            have HR2 := Lib.hid (HR.out.symm.trans (HV.out.trans hR.symm))
            clear hR hd
            go_wp2
            go_ret
            exact ⟨by rw [HR2.out]; rfl, rfl⟩
          · have j2 : ¬ (57 : Int) < (c.toNat : Int) := by omega
            have hR := HD.out
            rw [hd, digitsV, if_neg (by omega)] at hR
            have HR2 := Lib.hid hR
            clear hR hd
            go_wp2
            refine ⟨⟨k + 1, 10 * v + (c.toNat - 48), by omega, by congr 1; omega, by go_num, by rw [Nat.pow_succ]; omega, ?_, rfl⟩, by simp [intOf]; omega⟩
            rw [show ((10 * v + (c.toNat - 48) : Nat) : Int) = 10 * (v : Int) + ((c.toNat : Int) - 48) by omega]
            exact HR2.out
      · obtain rfl : k = s.size := by omega
        have hR := HD.out
        rw [List.drop_eq_nil_of_le (by rw [Array.length_toList]; exact Nat.le_refl _), digitsV] at hR
        have HR2 := Lib.hid (HR.out.symm.trans (HV.out.trans hR.symm))
        clear hR
        go_wp2
        go_ret
        exact ⟨by rw [HR2.out]; rfl, rfl⟩
theorem l1Index_any (A B : Option Addr) (c d lo hi : Nat) (xs : List Person) (ys : List Union) (s : ByteArray) (w : World) (h : EPerson.AS w lo hi A xs) (h' : EUnion.AS w lo hi B ys) (hh : hi ≤ w.heap.size) :
    Calls Tryz.prog 25 #[.agg #[.slice A xs.length c, .slice B ys.length d], .string s] w (RetIntB w (idxM s xs)) := by
  by_cases hs : s = ⟨#[45]⟩
  · subst hs
    rw [idxM, if_pos rfl]
    go_enter Tryz.func25, Tryz.ntmps25
    go_wp2
    exact bodyPost_ret (v := .tuple #[.int .i64 (-1), .bool true]) (by simp [results, Tryz.results25, go_sem]) rfl ⟨rfl, by (with_reducible repeat' first | exact Below.refl _ _ | assumption | (refine Below.setCell ?_ (by first | omega | (simp; omega) | (simp; done) | (dsimp only; omega)) _) | (refine Below.alloc ?_ (by first | omega | (simp; omega) | (simp; done) | (dsimp only; omega)) _) | (refine below_drewN ?_ _) | (refine Below.drew ?_))⟩
  · rw [idxM, if_neg hs]
    have n1 : (s.toList == [45]) = false := by
      rw [beq_eq_false_iff_ne]
      intro e
      apply hs
      rw [ByteArray.toList_eq] at e
      apply ByteArray.ext
      exact Array.toList_inj.1 e
    obtain ⟨⟨q, qb⟩, hq⟩ : ∃ q, findFrom s xs 0 = q := ⟨_, rfl⟩
    have hf := fun W h1 h2 h3 => l1Find_any A B c d lo hi xs ys s W h1 h2 h3
    rw [hq] at hf ⊢
    clear hs hq
    go_enter Tryz.func25, Tryz.ntmps25
    go_wp2_with (go_at_call 23; (with_reducible refine (hf _ (h.same (by (with_reducible repeat' first | exact Same.refl _ _ _ | assumption | (refine Same.setCell ?_ (by first | omega | (simp; omega) | (simp; done) | (dsimp only; omega)) _) | (refine Same.alloc ?_ (by first | omega | (simp; omega) | (simp; done) | (dsimp only; omega)) _) | (refine Same.drewN ?_ _) | (refine Same.drew ?_)))) (h'.same (by (with_reducible repeat' first | exact Same.refl _ _ _ | assumption | (refine Same.setCell ?_ (by first | omega | (simp; omega) | (simp; done) | (dsimp only; omega)) _) | (refine Same.alloc ?_ (by first | omega | (simp; omega) | (simp; done) | (dsimp only; omega)) _) | (refine Same.drewN ?_ _) | (refine Same.drew ?_)))) (by simp; omega)).mono ?_); rintro e w1 ⟨rfl, hb1⟩)
    exact bodyPost_ret (v := .tuple #[.int .i64 q, .bool qb]) (by simp [results, Tryz.results25, go_sem]) rfl ⟨rfl, by (with_reducible repeat' first | exact Below.refl _ _ | assumption | (refine Below.setCell ?_ (by first | omega | (simp; omega) | (simp; done) | (dsimp only; omega)) _) | (refine Below.alloc ?_ (by first | omega | (simp; omega) | (simp; done) | (dsimp only; omega)) _) | (refine below_drewN ?_ _) | (refine Below.drew ?_) | (refine Below.trans ?_ (hb1.mono (by first | omega | (simp; omega) | (simp; done) | (dsimp only; omega)))))⟩
end Go.Proofs.YthpcippgifmabaaGreatDoor
