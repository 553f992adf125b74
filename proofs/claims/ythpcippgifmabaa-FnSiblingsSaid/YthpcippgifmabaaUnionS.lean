/-
  Whether a union is right, in the reference.
-/
import Derived.Test.YthpcippgifmabaaUnions
import Derived.Deep.Cut
import Derived.Deep.DeepCutAuto
namespace Go.Proofs.Ythpcippgifmabaa
set_option maxRecDepth 100000
open Go.RowKit

theorem us_cases (s t : Int) : 9999 < s ∨ s ≤ 9999 ∧ t = -1 ∨ s ≤ 9999 ∧ t ≠ -1 ∧ ¬ (s ≤ t ∧ t ≤ 9999) ∨ s ≤ 9999 ∧ t ≠ -1 ∧ s ≤ t ∧ t ≤ 9999 := by
  by_cases h3 : 9999 < s
  · exact .inl h3
  · refine .inr ?_
    by_cases h6 : t = -1
    · exact .inl ⟨by omega, h6⟩
    · refine .inr ?_
      by_cases h7 : s ≤ t ∧ t ≤ 9999
      · exact .inr ⟨by omega, h6, h7.1, h7.2⟩
      · exact .inl ⟨by omega, h6, h7⟩
def pickP (a b : Person) (j : Nat) : Person := if j = 0 then a else b
def USLive (u : Union) (a b : Person) (w : World) (g : Nat) (m f : Int) (i : Value) (wr : World) : Prop :=
  ∃ j : Nat, j ≤ 2 ∧ i = .int .i64 j ∧ Below w.heap.size w wr ∧ Blk wr g 3 #[.int .i64 m, .int .i64 f] ∧ (1 ≤ j → liveOk u a = true) ∧ (2 ≤ j → liveOk u b = true)

set_option maxHeartbeats 8000000 in
theorem l1Union_any (A B : Option Addr) (c d lo hi : Nat) (xs : List Person) (ys : List Union) (k : Nat) (w : World) (h : EPerson.AS w lo hi A xs) (h' : EUnion.AS w lo hi B ys) (hh : hi ≤ w.heap.size) (hk : k < ys.length) (hv : ∀ (i : Nat) (x : Person), xs[i]? = some x → -1 ≤ x.died) :
    Calls Try.prog 83 #[.agg #[.slice A xs.length c, .slice B ys.length d], .int .i64 k] w fun e w' => e = .returned (.bool (unionOk xs ys k)) ∧ Below w.heap.size w w' := by
  have hx := h.le
  have hy := h'.le
  unfold BIG at hx hy
  obtain ⟨b, off, ⟨m, f, s, t⟩, rfl, g1, g2, _, hyk, hc0, hc1, hc2, hc3⟩ := AUnion.at_ h' hk
  rw [unionOk_of hyk]
  clear hyk
  generalize hR : unionOf xs ys k ⟨m, f, s, t⟩ = R
  replace hR := Lib.hid hR
  simp only at hc0 hc1 hc2 hc3
  have lb : b < w.heap.size := by omega
  by_cases hm : 0 ≤ m ∧ m ≤ (xs.length : Int) - 1
  · have I1 := Lib.hid (inB_true hm)
    by_cases hf : 0 ≤ f ∧ f ≤ (xs.length : Int) - 1
    · have I2 := Lib.hid (inB_true hf)
      obtain ⟨r1, r2⟩ := hm
      obtain ⟨r3, r4⟩ := hf
      obtain ⟨m, rfl⟩ := Int.eq_ofNat_of_zero_le r1
      obtain ⟨f, rfl⟩ := Int.eq_ofNat_of_zero_le r3
      obtain ⟨b1, o1, ⟨a0, a1, a2, a3, a4, a5⟩, rfl, l1, l2, _, hxm, hm0, hm1, hm2, hm3, hm4, hm5⟩ := APerson.at_ (k := m) h (by omega)
      obtain ⟨b2, o2, ⟨p0, p1, p2, p3, p4, p5⟩, he, _, _, _, hxf, hf0, hf1, hf2, hf3, hf4, hf5⟩ := APerson.at_ (k := f) h (by omega)
      injection he with he; injection he with he1 he2 _; subst he1; subst he2
      simp only at hm0 hm1 hm2 hm3 hm4 hm5 hf0 hf1 hf2 hf3 hf4 hf5
      replace hR := Lib.hid ((unionOf_in (ys := ys) (k := k) (u := ⟨m, f, s, t⟩) rfl rfl hxm hxf).symm.trans hR.out)
      have HXM := Lib.hid hxm; have HXF := Lib.hid hxf; clear hxm hxf
      have lb1 : b1 < w.heap.size := by omega
      have hdm := hv m _ HXM.out
      have hdf := hv f _ HXF.out
      simp only at hdm hdf
      clear hv
      have hmx : (0 : Int) ≤ (m : Int) ∧ (m : Int) < (xs.length : Int) := by omega
      have hfx : (0 : Int) ≤ (f : Int) ∧ (f : Int) < (xs.length : Int) := by omega
      have HF : Hid (∀ q : Prop, ((decide (a1 = 1 ∧ p1 = 2) && yearsOk ⟨m, f, s, t⟩) = true → q) → ¬ q → R = false) := Lib.hid (by
        intro q h1 h2
        rw [← hR.out]
        cases hz : (decide (a1 = 1 ∧ p1 = 2) && yearsOk ⟨m, f, s, t⟩) with
        | false => rfl
        | true => exact absurd (h1 hz) h2)
      have dosex : a1 ≠ 1 ∨ a1 = 1 ∧ p1 ≠ 2 ∨ a1 = 1 ∧ p1 = 2 := by omega
      rcases dosex with q | ⟨q, q'⟩ | ⟨q, q'⟩
      · have HN := Lib.hid (HF.out (a1 = 1) (by intro h; simp at h; exact h.1.1) q)
        have n1 : (a1 == 1) = false := by simp [q]
        clear HF hR
        go_enter Try.func83, Try.ntmps83
        go_wp2_with (go_at_call 106; (with_reducible refine (l1In_any _ _ _ _).mono ?_); rintro e w1 ⟨rfl, rfl⟩; simp only [I1.out, I2.out])
        go_ret
        exact ⟨ret_bool HN.out.symm, by (with_reducible repeat' first | exact Below.refl _ _ | assumption | (refine Below.setCell ?_ (by first | omega | (simp; omega) | (simp; done) | (dsimp only; omega)) _) | (refine Below.alloc ?_ (by first | omega | (simp; omega) | (simp; done) | (dsimp only; omega)) _) | (refine below_drewN ?_ _) | (refine Below.drew ?_))⟩
      · have HN := Lib.hid (HF.out (p1 = 2) (by intro h; simp at h; exact h.1.2) q')
        have n1 : (p1 == 2) = false := by simp [q']
        subst q
        clear HF hR
        go_enter Try.func83, Try.ntmps83
        go_wp2_with (go_at_call 106; (with_reducible refine (l1In_any _ _ _ _).mono ?_); rintro e w1 ⟨rfl, rfl⟩; simp only [I1.out, I2.out])
        go_ret
        exact ⟨ret_bool HN.out.symm, by (with_reducible repeat' first | exact Below.refl _ _ | assumption | (refine Below.setCell ?_ (by first | omega | (simp; omega) | (simp; done) | (dsimp only; omega)) _) | (refine Below.alloc ?_ (by first | omega | (simp; omega) | (simp; done) | (dsimp only; omega)) _) | (refine below_drewN ?_ _) | (refine Below.drew ?_))⟩
      · subst q; subst q'
        have HT : Hid (yearsOk ⟨m, f, s, t⟩ = true → R = (liveOk ⟨m, f, s, t⟩ ⟨a0, 1, a2, a3, a4, a5⟩ && liveOk ⟨m, f, s, t⟩ ⟨p0, 2, p2, p3, p4, p5⟩ && noDup ys k ⟨m, f, s, t⟩)) := Lib.hid (by
          intro hz; rw [← hR.out, hz]; rfl)
        have HF2 : Hid (yearsOk ⟨m, f, s, t⟩ = false → R = false) := Lib.hid (by intro hz; rw [← hR.out, hz]; rfl)
        clear HF hR
        have nt : t ≠ -1 → (t == -1) = false ∧ (t != -1) = true := fun h => by simp [h]
        have n1 : ((1 : Int) == 1) = true := rfl
        go_enter Try.func83, Try.ntmps83
        go_upto_region 3 with fail
        generalize hW : ((w.alloc (.cells #[.slice (some ⟨b1, o1, none⟩) xs.length c, .slice (some ⟨b, off, none⟩) ys.length d] 26)).alloc (.cells #[.int .i64 m, .int .i64 f, .int .i64 s, .int .i64 t] 73)) = W
        have e0 : W.cell? ⟨w.heap.size, 0, none⟩ = some (.slice (some ⟨b1, o1, none⟩) xs.length c) := by subst hW; simp [go_sem]
        have e5 : W.cell? ⟨w.heap.size, 1, none⟩ = some (.slice (some ⟨b, off, none⟩) ys.length d) := by subst hW; simp [go_sem]
        have e1 : W.cell? ⟨w.heap.size + 1, 0, none⟩ = some (.int .i64 m) := by subst hW; simp [go_sem]
        have e2 : W.cell? ⟨w.heap.size + 1, 1, none⟩ = some (.int .i64 f) := by subst hW; simp [go_sem]
        have e3 : W.cell? ⟨w.heap.size + 1, 2, none⟩ = some (.int .i64 s) := by subst hW; simp [go_sem]
        have e4 : W.cell? ⟨w.heap.size + 1, 3, none⟩ = some (.int .i64 t) := by subst hW; simp [go_sem]
        have hbW : Below w.heap.size w W := by subst hW; (with_reducible repeat' first | exact Below.refl _ _ | assumption | (refine Below.setCell ?_ (by first | omega | (simp; omega) | (simp; done) | (dsimp only; omega)) _) | (refine Below.alloc ?_ (by first | omega | (simp; omega) | (simp; done) | (dsimp only; omega)) _) | (refine below_drewN ?_ _) | (refine Below.drew ?_))
        have zW : W.heap.size = w.heap.size + 2 := by subst hW; simp
        clear hW hc0 hc1 hc2 hc3
        replace hm1 := (hbW.cell (p := ⟨b1, o1 + m * 6 + 1, none⟩) lb1).trans hm1
        replace hf1 := (hbW.cell (p := ⟨b1, o1 + f * 6 + 1, none⟩) lb1).trans hf1
        have hys := Lib.hid (h'.same (Same.of_below hbW hh))
        have lbW : b1 < W.heap.size := by omega
        rcases us_cases s t with q | ⟨q, q1⟩ | ⟨q, q1, q2⟩ | ⟨q, q1, q2, q3⟩
        · have HN := Lib.hid (HF2.out (by rw [Bool.eq_false_iff]; intro hz; simp only [yearsOk, Bool.and_eq_true, Bool.or_eq_true, decide_eq_true_eq] at hz; omega))
          clear HF2 HT
          go_wp2_with (go_at_call 106; (with_reducible refine (l1In_any _ _ _ _).mono ?_); rintro e w1 ⟨rfl, rfl⟩; simp only [I1.out, I2.out])
          go_ret
          exact ⟨ret_bool HN.out.symm, hbW⟩
        rotate_left
        · have HN := Lib.hid (HF2.out (by rw [Bool.eq_false_iff]; intro hz; simp only [yearsOk, Bool.and_eq_true, Bool.or_eq_true, decide_eq_true_eq] at hz; omega))
          clear HF2 HT
          obtain ⟨n2, n3⟩ := nt q1
          have I3 := Lib.hid (inB_false q2)
          clear nt q2
          go_wp2_with (go_at_call 106; (with_reducible refine (l1In_any _ _ _ _).mono ?_); rintro e w1 ⟨rfl, rfl⟩; simp only [I1.out, I2.out, I3.out])
          go_ret
          exact ⟨ret_bool HN.out.symm, hbW⟩
        all_goals
          have HR := Lib.hid (HT.out (by simp only [yearsOk, Bool.and_eq_true, Bool.or_eq_true, decide_eq_true_eq]; omega))
          clear HF2 HT
          first
            | have I3 := Lib.hid (inB_true (by omega : s ≤ t ∧ t ≤ 9999))
            | have I3 := I1
          have dn : ((t == -1) = true ∧ (t != -1) = false) ∨ ((t == -1) = false ∧ (t != -1) = true) := by by_cases ht : t = -1 <;> simp [ht]
          have hp : Hid (∀ j : Nat, j < 2 → ∃ (q : Nat) (z0 : ByteArray) (z1 z2 z3 z4 z5 : Int), (q : Int) = (if j = 0 then (m : Int) else (f : Int)) ∧ q < xs.length ∧
              W.cell? ⟨b1, o1 + q * 6, none⟩ = some (.string z0) ∧ W.cell? ⟨b1, o1 + q * 6 + 1, none⟩ = some (.int .i64 z1) ∧ W.cell? ⟨b1, o1 + q * 6 + 2, none⟩ = some (.int .i64 z2) ∧ W.cell? ⟨b1, o1 + q * 6 + 3, none⟩ = some (.int .i64 z3) ∧ W.cell? ⟨b1, o1 + q * 6 + 4, none⟩ = some (.int .i64 z4) ∧ W.cell? ⟨b1, o1 + q * 6 + 5, none⟩ = some (.int .i64 z5) ∧ -1 ≤ z5 ∧
              (z4 ≤ s ∧ (z5 = -1 ∨ s ≤ z5 ∧ t ≤ z5) → (if j = 0 then liveOk ⟨m, f, s, t⟩ ⟨a0, 1, a2, a3, a4, a5⟩ else liveOk ⟨m, f, s, t⟩ ⟨p0, 2, p2, p3, p4, p5⟩) = true) ∧ (¬ (z4 ≤ s ∧ (z5 = -1 ∨ s ≤ z5 ∧ t ≤ z5)) → R = false)) := Lib.hid (by
            intro j hj
            rcases (by omega : j = 0 ∨ j = 1) with rfl | rfl
            · refine ⟨m, a0, 1, a2, a3, a4, a5, rfl, by omega, (hbW.cell (p := ⟨b1, o1 + m * 6, none⟩) lb1).trans hm0, hm1, (hbW.cell (p := ⟨b1, o1 + m * 6 + 2, none⟩) lb1).trans hm2, (hbW.cell (p := ⟨b1, o1 + m * 6 + 3, none⟩) lb1).trans hm3, (hbW.cell (p := ⟨b1, o1 + m * 6 + 4, none⟩) lb1).trans hm4, (hbW.cell (p := ⟨b1, o1 + m * 6 + 5, none⟩) lb1).trans hm5, hdm, ?_, ?_⟩
              · intro hz; simp [liveOk]; omega
              · intro hz
                have : liveOk ⟨m, f, s, t⟩ ⟨a0, 1, a2, a3, a4, a5⟩ = false := by rw [Bool.eq_false_iff]; intro hh; simp only [liveOk, Bool.and_eq_true, Bool.or_eq_true, decide_eq_true_eq] at hh; omega
                rw [HR.out, this]; simp
            · refine ⟨f, p0, 2, p2, p3, p4, p5, rfl, by omega, (hbW.cell (p := ⟨b1, o1 + f * 6, none⟩) lb1).trans hf0, hf1, (hbW.cell (p := ⟨b1, o1 + f * 6 + 2, none⟩) lb1).trans hf2, (hbW.cell (p := ⟨b1, o1 + f * 6 + 3, none⟩) lb1).trans hf3, (hbW.cell (p := ⟨b1, o1 + f * 6 + 4, none⟩) lb1).trans hf4, (hbW.cell (p := ⟨b1, o1 + f * 6 + 5, none⟩) lb1).trans hf5, hdf, ?_, ?_⟩
              · intro hz; simp [liveOk]; omega
              · intro hz
                have : liveOk ⟨m, f, s, t⟩ ⟨p0, 2, p2, p3, p4, p5⟩ = false := by rw [Bool.eq_false_iff]; intro hh; simp only [liveOk, Bool.and_eq_true, Bool.or_eq_true, decide_eq_true_eq] at hh; omega
                rw [HR.out, this]; simp)
          clear hm0 hm2 hm3 hm4 hm5 hf0 hf2 hf3 hf4 hf5 hdm hdf h h' HXM HXF
          have HHF : Hid (hi ≤ W.heap.size) := Lib.hid (by omega)
          have HDN := Lib.hid dn
          rcases dn with ⟨n2, n3⟩ | ⟨n2, n3⟩
          all_goals first
            | (exfalso; simp [q1] at n2; done)
            | skip
          all_goals
            go_wp2_with (go_at_call 106; (with_reducible refine (l1In_any _ _ _ _).mono ?_); rintro e w1 ⟨rfl, rfl⟩; simp only [I1.out, I2.out, I3.out])
            go_loopw [75] (fun i wr => USLive ⟨m, f, s, t⟩ ⟨a0, 1, a2, a3, a4, a5⟩ ⟨p0, 2, p2, p3, p4, p5⟩ W W.heap.size m f i wr) (fun i _ => 2 - (intOf i).toNat)
            case atStart => exact ⟨0, by omega, rfl, by (with_reducible repeat' first | exact Below.refl _ _ | assumption | (refine Below.setCell ?_ (by first | omega | (simp; omega) | (simp; done) | (dsimp only; omega)) _) | (refine Below.alloc ?_ (by first | omega | (simp; omega) | (simp; done) | (dsimp only; omega)) _) | (refine below_drewN ?_ _) | (refine Below.drew ?_)), Blk.new _ rfl, by omega, by omega⟩
            case round =>
              obtain ⟨j, hj, rfl, hbj, hBj, hl1, hl2⟩ := hrel
              have HL1 := Lib.hid hl1; have HL2 := Lib.hid hl2; clear hl1 hl2
              have zj := hbj.size
              have l9 : w.heap.size + 1 < wr.heap.size := by omega
              have d0 := (hbj.cell (p := ⟨w.heap.size, 0, none⟩) (by first | omega | (simp; omega) | (simp; done) | (dsimp only; omega))).trans e0
              have d1 := (hbj.cell (p := ⟨w.heap.size + 1, 0, none⟩) (by first | omega | (simp; omega) | (simp; done) | (dsimp only; omega))).trans e1
              have d2 := (hbj.cell (p := ⟨w.heap.size + 1, 1, none⟩) (by first | omega | (simp; omega) | (simp; done) | (dsimp only; omega))).trans e2
              have d3 := (hbj.cell (p := ⟨w.heap.size + 1, 2, none⟩) (by first | omega | (simp; omega) | (simp; done) | (dsimp only; omega))).trans e3
              have d4 := (hbj.cell (p := ⟨w.heap.size + 1, 3, none⟩) (by first | omega | (simp; omega) | (simp; done) | (dsimp only; omega))).trans e4
              have d5 := (hbj.cell (p := ⟨w.heap.size, 1, none⟩) (by first | omega | (simp; omega) | (simp; done) | (dsimp only; omega))).trans e5
              have HBJ := Lib.hid (show Below w.heap.size w wr from hbW.trans (hbj.mono (by first | omega | (simp; omega) | (simp; done) | (dsimp only; omega))))
              by_cases hjl : j < 2
              · obtain ⟨qi, z0, z1, z2, z3, z4, z5, hq0, hq1, c0, c1, c2, c3, c4, c5, hz5, hv2, hv3⟩ := hp.out j hjl
                have HV2 := Lib.hid hv2; have HV3 := Lib.hid hv3; clear hv2 hv3
                have lBj := hBj.lt
                have hc : wr.cell? ⟨w.heap.size + 2, j, none⟩ = some (.int .i64 (qi : Int)) := by
                  rw [hq0, ← zW]
                  rcases (by omega : j = 0 ∨ j = 1) with rfl | rfl
                  · exact hBj.cell (i := 0) rfl
                  · exact hBj.cell (i := 1) rfl
                clear hq0
                replace c0 := (hbj.cell (p := ⟨b1, o1 + qi * 6, none⟩) lbW).trans c0
                replace c1 := (hbj.cell (p := ⟨b1, o1 + qi * 6 + 1, none⟩) lbW).trans c1
                replace c2 := (hbj.cell (p := ⟨b1, o1 + qi * 6 + 2, none⟩) lbW).trans c2
                replace c3 := (hbj.cell (p := ⟨b1, o1 + qi * 6 + 3, none⟩) lbW).trans c3
                replace c4 := (hbj.cell (p := ⟨b1, o1 + qi * 6 + 4, none⟩) lbW).trans c4
                replace c5 := (hbj.cell (p := ⟨b1, o1 + qi * 6 + 5, none⟩) lbW).trans c5
                have i1 : (0 : Int) ≤ (j : Int) ∧ (j : Int) < 2 := by omega
                have i2 : (0 : Int) ≤ (qi : Int) ∧ (qi : Int) < (xs.length : Int) := by omega
                have lbr : b1 < wr.heap.size := by omega
                have hnext : Hid ((z4 ≤ s ∧ (z5 = -1 ∨ s ≤ z5 ∧ t ≤ z5)) → ∀ wr', Below W.heap.size W wr' → Blk wr' W.heap.size 3 #[.int .i64 m, .int .i64 f] → USLive ⟨m, f, s, t⟩ ⟨a0, 1, a2, a3, a4, a5⟩ ⟨p0, 2, p2, p3, p4, p5⟩ W W.heap.size m f (.int .i64 ((j : Int) + 1)) wr') := Lib.hid fun hc wr' hb hB => by
                  have h2 := HV2.out hc
                  refine ⟨j + 1, by omega, by go_num, hb, hB, fun _ => ?_, fun h => ?_⟩
                  · by_cases h0 : j = 0
                    · rw [if_pos h0] at h2; exact h2
                    · exact HL1.out (by omega)
                  · rw [if_neg (by omega)] at h2; exact h2
                have mj : 2 - (intOf (.int .i64 ((j : Int) + 1))).toNat < 2 - (intOf (.int .i64 (j : Int))).toNat := by simp [intOf]; omega
                clear d1 d2 d5 hbW
                by_cases hv : s < z4
                · have HN := Lib.hid (HV3.out (by omega))
                  go_wp2
                  go_ret
                  exact ⟨ret_bool HN.out.symm, by (with_reducible repeat' first | exact Below.refl _ _ | assumption | (refine Below.setCell ?_ (by first | omega | (simp; omega) | (simp; done) | (dsimp only; omega)) _) | (refine Below.alloc ?_ (by first | omega | (simp; omega) | (simp; done) | (dsimp only; omega)) _) | (refine below_drewN ?_ _) | (refine Below.drew ?_) | (refine Below.trans ?_ (HBJ.out.mono (by first | omega | (simp; omega) | (simp; done) | (dsimp only; omega)))))⟩
                · have dz : ((z5 == -1) = true ∧ (z5 != -1) = false) ∨ (z5 ≠ -1 ∧ (z5 == -1) = false ∧ (z5 != -1) = true) := by by_cases ht : z5 = -1 <;> simp [ht]
                  rcases dz with ⟨y1, y2⟩ | ⟨y0, y1, y2⟩
                  · have hz : z5 = -1 := by simpa using y1
                    have hv' : z4 ≤ s := by omega
                    go_wp2
                    exact ⟨hnext.out ⟨hv', .inl hz⟩ _ (by (with_reducible repeat' first | exact Below.refl _ _ | assumption | (refine Below.setCell ?_ (by first | omega | (simp; omega) | (simp; done) | (dsimp only; omega)) _) | (refine Below.alloc ?_ (by first | omega | (simp; omega) | (simp; done) | (dsimp only; omega)) _) | (refine below_drewN ?_ _) | (refine Below.drew ?_) | (refine Below.trans ?_ (hbj.mono (by first | omega | (simp; omega) | (simp; done) | (dsimp only; omega)))))) (hBj.alloc _), mj⟩
                  · by_cases hv1 : z5 < s
                    · have HN := Lib.hid (HV3.out (by omega))
                      go_wp2
                      go_ret
                      exact ⟨ret_bool HN.out.symm, by (with_reducible repeat' first | exact Below.refl _ _ | assumption | (refine Below.setCell ?_ (by first | omega | (simp; omega) | (simp; done) | (dsimp only; omega)) _) | (refine Below.alloc ?_ (by first | omega | (simp; omega) | (simp; done) | (dsimp only; omega)) _) | (refine below_drewN ?_ _) | (refine Below.drew ?_) | (refine Below.trans ?_ (HBJ.out.mono (by first | omega | (simp; omega) | (simp; done) | (dsimp only; omega)))))⟩
                    · by_cases hv2 : z5 < t
                      · first
                          | (exfalso; omega)
                          | (have HN := Lib.hid (HV3.out (by omega))
                             go_wp2
                             go_ret
                             exact ⟨ret_bool HN.out.symm, by (with_reducible repeat' first | exact Below.refl _ _ | assumption | (refine Below.setCell ?_ (by first | omega | (simp; omega) | (simp; done) | (dsimp only; omega)) _) | (refine Below.alloc ?_ (by first | omega | (simp; omega) | (simp; done) | (dsimp only; omega)) _) | (refine below_drewN ?_ _) | (refine Below.drew ?_) | (refine Below.trans ?_ (HBJ.out.mono (by first | omega | (simp; omega) | (simp; done) | (dsimp only; omega)))))⟩)
                      · have hv' : z4 ≤ s ∧ (z5 = -1 ∨ s ≤ z5 ∧ t ≤ z5) := by omega
                        go_wp2
                        exact ⟨hnext.out hv' _ (by (with_reducible repeat' first | exact Below.refl _ _ | assumption | (refine Below.setCell ?_ (by first | omega | (simp; omega) | (simp; done) | (dsimp only; omega)) _) | (refine Below.alloc ?_ (by first | omega | (simp; omega) | (simp; done) | (dsimp only; omega)) _) | (refine below_drewN ?_ _) | (refine Below.drew ?_) | (refine Below.trans ?_ (hbj.mono (by first | omega | (simp; omega) | (simp; done) | (dsimp only; omega)))))) (hBj.alloc _), mj⟩
              · have hA := HL1.out (by omega)
                have hP := HL2.out (by omega)
                have HP1 := Lib.hid (HR.out.trans (by rw [hA, hP]; rfl : _ = noDup ys k ⟨m, f, s, t⟩))
                clear HR HL1 HL2 hA hP hp
                obtain rfl : j = 2 := by omega
                go_wp2
                obtain ⟨w2, rfl⟩ : ∃ w2 : World, w2 = wr := ⟨_, rfl⟩
                go_loopw [10] (fun i wr => UFDup ys ⟨m, f, s, t⟩ k w2 i wr) (fun i _ => k - (intOf i).toNat)
                case atStart => exact ⟨0, by omega, rfl, by (with_reducible repeat' first | exact Below.refl _ _ | assumption | (refine Below.setCell ?_ (by first | omega | (simp; omega) | (simp; done) | (dsimp only; omega)) _) | (refine Below.alloc ?_ (by first | omega | (simp; omega) | (simp; done) | (dsimp only; omega)) _) | (refine below_drewN ?_ _) | (refine Below.drew ?_)), rfl⟩
                case round =>
                  obtain ⟨i, hi, rfl, hb2, hnd⟩ := hrel
                  have z2 := hb2.size
                  have HND := Lib.hid hnd; clear hnd
                  have l10 : w.heap.size + 1 < wr.heap.size := by omega
                  have HB := Lib.hid (HBJ.out.trans (hb2.mono (by first | omega | (simp; omega) | (simp; done) | (dsimp only; omega))))
                  by_cases hik : i < k
                  · obtain ⟨b', off', ⟨m', f', s', t'⟩, he, _, _, _, hyi, h0, h1, h2, h3⟩ := AUnion.at_ (k := i) (hys.out.same ((Same.of_below hbj HHF.out).trans (Same.of_below hb2 (by have := HHF.out; omega)))) (by omega)
                    injection he with he; injection he with he1 he2 _; subst he1; subst he2
                    simp only at h0 h1 h2 h3
                    have HYI := Lib.hid hyi; clear hyi
                    replace d1 := (hb2.cell (p := ⟨w.heap.size + 1, 0, none⟩) (by first | omega | (simp; omega) | (simp; done) | (dsimp only; omega))).trans d1
                    replace d2 := (hb2.cell (p := ⟨w.heap.size + 1, 1, none⟩) (by first | omega | (simp; omega) | (simp; done) | (dsimp only; omega))).trans d2
                    replace d5 := (hb2.cell (p := ⟨w.heap.size, 1, none⟩) (by first | omega | (simp; omega) | (simp; done) | (dsimp only; omega))).trans d5
                    have lbr : b < wr.heap.size := by omega
                    have i4 : (0 : Int) ≤ (i : Int) ∧ (i : Int) < (ys.length : Int) := by omega
                    go_upto_region 17 with fail
                    go_cut [133] (fun v wx => ∃ (g : Bool) (n : Nat), v = .bool g ∧ g = sameUnion ⟨m, f, s, t⟩ ⟨m', f', s', t'⟩ ∧ wx = wr.drewN n)
                    case first =>
                      by_cases hm : m' = m
                      · have n1 : (m' == (m : Int)) = true := by simpa using hm
                        by_cases hf : f' = f
                        · have n4 : (f' == (f : Int)) = true := by simpa using hf
                          have HS := Lib.hid (show true = sameUnion ⟨m, f, s, t⟩ ⟨m', f', s', t'⟩ by simp [sameUnion, hm, hf])
                          clear hm hf
                          go_quiet (fail)
                          go_wp2_with fail
                          go_meet
                          exact ⟨_, _, rfl, HS.out, rfl⟩
                        · have n4 : (f' == (f : Int)) = false := by simpa using hf
                          have HS := Lib.hid (show false = sameUnion ⟨m, f, s, t⟩ ⟨m', f', s', t'⟩ by simp [sameUnion, hm, hf])
                          clear hm hf
                          go_quiet (fail)
                          go_wp2_with fail
                          go_meet
                          exact ⟨_, _, rfl, HS.out, rfl⟩
                      · have n1 : (m' == (m : Int)) = false := by simpa using hm
                        have HS := Lib.hid (show false = sameUnion ⟨m, f, s, t⟩ ⟨m', f', s', t'⟩ by simp [sameUnion, hm])
                        clear hm
                        go_quiet (fail)
                        go_wp2_with fail
                        go_meet
                        exact ⟨_, _, rfl, HS.out, rfl⟩
                    case rest =>
                      obtain ⟨g, n, rfl, hg, rfl⟩ := hcut
                      cases g with
                      | true =>
                        have HN := Lib.hid (HP1.out.trans (noDup_found (u := ⟨m, f, s, t⟩) HYI.out hg.symm hik))
                        clear hg
                        go_wp2
                        go_ret
                        exact ⟨ret_bool HN.out.symm, below_drewN (by (with_reducible repeat' first | exact Below.refl _ _ | assumption | (refine Below.setCell ?_ (by first | omega | (simp; omega) | (simp; done) | (dsimp only; omega)) _) | (refine Below.alloc ?_ (by first | omega | (simp; omega) | (simp; done) | (dsimp only; omega)) _) | (refine below_drewN ?_ _) | (refine Below.drew ?_) | (refine Below.trans ?_ (HB.out.mono (by first | omega | (simp; omega) | (simp; done) | (dsimp only; omega)))))) _⟩
                      | false =>
                        have HS := Lib.hid (noDup_step HYI.out (u := ⟨m, f, s, t⟩) hg.symm HND.out)
                        clear hg
                        go_wp2
                        exact ⟨⟨i + 1, by omega, by go_num, by (with_reducible repeat' first | exact Below.refl _ _ | assumption | (refine Below.setCell ?_ (by first | omega | (simp; omega) | (simp; done) | (dsimp only; omega)) _) | (refine Below.alloc ?_ (by first | omega | (simp; omega) | (simp; done) | (dsimp only; omega)) _) | (refine below_drewN ?_ _) | (refine Below.drew ?_) | (refine Below.trans ?_ (hb2.mono (by first | omega | (simp; omega) | (simp; done) | (dsimp only; omega))))), HS.out⟩, by simp [intOf]; omega⟩
                  · obtain rfl : i = k := by omega
                    have HN := Lib.hid (HP1.out.trans HND.out)
                    go_wp2
                    go_ret
                    exact ⟨ret_bool HN.out.symm, by (with_reducible repeat' first | exact Below.refl _ _ | assumption | (refine Below.setCell ?_ (by first | omega | (simp; omega) | (simp; done) | (dsimp only; omega)) _) | (refine Below.alloc ?_ (by first | omega | (simp; omega) | (simp; done) | (dsimp only; omega)) _) | (refine below_drewN ?_ _) | (refine Below.drew ?_) | (refine Below.trans ?_ (HB.out.mono (by first | omega | (simp; omega) | (simp; done) | (dsimp only; omega)))))⟩
    · have I2 := Lib.hid (inB_false hf)
      have HP := Lib.hid (hR.out.symm.trans (unionOf_out (xs := xs) (ys := ys) (k := k) (u := ⟨m, f, s, t⟩) (fun h => by simp only at h; omega)))
      go_enter Try.func83, Try.ntmps83
      go_wp2_with (go_at_call 106; (with_reducible refine (l1In_any _ _ _ _).mono ?_); rintro e w1 ⟨rfl, rfl⟩; simp only [I1.out, I2.out])
      go_ret
      exact ⟨ret_bool HP.out.symm, by (with_reducible repeat' first | exact Below.refl _ _ | assumption | (refine Below.setCell ?_ (by first | omega | (simp; omega) | (simp; done) | (dsimp only; omega)) _) | (refine Below.alloc ?_ (by first | omega | (simp; omega) | (simp; done) | (dsimp only; omega)) _) | (refine below_drewN ?_ _) | (refine Below.drew ?_))⟩
  · have I1 := Lib.hid (inB_false hm)
    have HP := Lib.hid (hR.out.symm.trans (unionOf_out (xs := xs) (ys := ys) (k := k) (u := ⟨m, f, s, t⟩) (fun h => by simp only at h; omega)))
    go_enter Try.func83, Try.ntmps83
    go_wp2_with (go_at_call 106; (with_reducible refine (l1In_any _ _ _ _).mono ?_); rintro e w1 ⟨rfl, rfl⟩; simp only [I1.out])
    go_ret
    exact ⟨ret_bool HP.out.symm, by (with_reducible repeat' first | exact Below.refl _ _ | assumption | (refine Below.setCell ?_ (by first | omega | (simp; omega) | (simp; done) | (dsimp only; omega)) _) | (refine Below.alloc ?_ (by first | omega | (simp; omega) | (simp; done) | (dsimp only; omega)) _) | (refine below_drewN ?_ _) | (refine Below.drew ?_))⟩
end Go.Proofs.Ythpcippgifmabaa
