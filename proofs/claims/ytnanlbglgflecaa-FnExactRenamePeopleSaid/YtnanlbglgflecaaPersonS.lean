/-
  Whether a person is right, in the reference.
-/
import Derived.Test.YtnanlbglgflecaaPeople
import Derived.Deep.Cut
import Derived.Deep.DeepCutAuto
namespace Go.Proofs.Ytnanlbglgflecaa
set_option maxRecDepth 100000
open Go.RowKit

def PSRel (xs : List Person) (s : ByteArray) (k : Nat) (w : World) (i : Value) (wr : World) : Prop :=
  ∃ j : Nat, j ≤ k ∧ i = .int .i64 j ∧ Below w.heap.size w wr ∧ newName xs j s = true

set_option maxHeartbeats 8000000 in
theorem l1Person_any (A B : Option Addr) (c d lo hi : Nat) (xs : List Person) (ys : List Union) (k : Nat) (w : World) (h : EPerson.AS w lo hi A xs) (hh : hi ≤ w.heap.size) (hk : k < xs.length) (hd : ∀ (i : Nat) (x : Person), i < k → xs[i]? = some x → -1 ≤ x.died ∧ x.died ≤ 9999) (hs : ∀ x ∈ xs, x.name.size ≤ 1048576) :
    Calls Try.prog 196 #[.agg #[.slice A xs.length c, .slice B ys.length d], .int .i64 k] w fun e w' => e = .returned (.bool (personOk xs k)) ∧ Below w.heap.size w w' := by
  have hx := h.le
  unfold BIG at hx
  obtain ⟨b, off, ⟨x0, x1, x2, x3, x4, x5⟩, rfl, g1, g2, _, hxk, hc0, hc1, hc2, hc3, hc4, hc5⟩ := APerson.at_ h hk
  rw [personOk_of hxk]
  have hsz := hs _ (List.mem_of_getElem? hxk)
  generalize hR : personOf xs k ⟨x0, x1, x2, x3, x4, x5⟩ = R
  replace hR := Lib.hid hR
  clear hxk
  simp only at hc0 hc1 hc2 hc3 hc4 hc5 hsz
  have lb : b < w.heap.size := by omega
  have hsz' : x0.size ≤ 140737488355328 := by omega
  have i2 : (0 : Int) ≤ (k : Int) ∧ (k : Int) < (xs.length : Int) := by omega
  have HF : Hid (∀ v : Bool, (nameOk x0 && aliveOk ⟨x0, x1, x2, x3, x4, x5⟩) = v → v = false → R = false) := Lib.hid fun v hv h0 => by
    rw [← hR.out, personOf, hv, h0]; rfl
  have HT : Hid ((nameOk x0 && aliveOk ⟨x0, x1, x2, x3, x4, x5⟩) = true → R = (newName xs k x0 && parentOk xs k x2 1 1 && parentOk xs k x3 2 0)) := Lib.hid fun hv => by
    rw [← hR.out, personOf, hv]; simp
  clear hR
  have HD := Lib.hid hd; clear hd
  go_enter Try.func196, Try.ntmps196
  go_upto_region 2 with fail
  generalize hW : ((w.alloc (.cells #[.slice (some ⟨b, off, none⟩) xs.length c, .slice B ys.length d] 66)).alloc (.cells #[.string x0, .int .i64 x1, .int .i64 x2, .int .i64 x3, .int .i64 x4, .int .i64 x5] 142)) = W
  have e0 : W.cell? ⟨w.heap.size, 0, none⟩ = some (.slice (some ⟨b, off, none⟩) xs.length c) := by subst hW; simp [go_sem]
  have e1 : W.cell? ⟨w.heap.size, 1, none⟩ = some (.slice B ys.length d) := by subst hW; simp [go_sem]
  have p0 : W.cell? ⟨w.heap.size + 1, 0, none⟩ = some (.string x0) := by subst hW; simp [go_sem]
  have p1 : W.cell? ⟨w.heap.size + 1, 1, none⟩ = some (.int .i64 x1) := by subst hW; simp [go_sem]
  have p2 : W.cell? ⟨w.heap.size + 1, 2, none⟩ = some (.int .i64 x2) := by subst hW; simp [go_sem]
  have p3 : W.cell? ⟨w.heap.size + 1, 3, none⟩ = some (.int .i64 x3) := by subst hW; simp [go_sem]
  have p4 : W.cell? ⟨w.heap.size + 1, 4, none⟩ = some (.int .i64 x4) := by subst hW; simp [go_sem]
  have p5 : W.cell? ⟨w.heap.size + 1, 5, none⟩ = some (.int .i64 x5) := by subst hW; simp [go_sem]
  have hbW : Below w.heap.size w W := by subst hW; (with_reducible repeat' first | exact Below.refl _ _ | assumption | (refine Below.setCell ?_ (by first | omega | (simp; omega) | (simp; done) | (dsimp only; omega)) _) | (refine Below.alloc ?_ (by first | omega | (simp; omega) | (simp; done) | (dsimp only; omega)) _) | (refine below_drewN ?_ _) | (refine Below.drew ?_))
  have zW : W.heap.size = w.heap.size + 2 := by subst hW; simp
  clear hW hc0 hc1 hc2 hc3 hc4 hc5
  replace h := h.same (Same.of_below hbW hh)
  have HH := Lib.hid h; clear h
  go_cut [40] (fun v wx => ∃ bad : Bool, v = .bool bad ∧ bad = !(nameOk x0 && aliveOk ⟨x0, x1, x2, x3, x4, x5⟩) ∧ W = wx)
  case first =>
    cases hn : nameOk x0 with
    | false =>
      have HN := Lib.hid hn; clear hn
      go_wp2_with (go_at_call 188; (with_reducible refine (specIsName_any _ _ hsz').mono ?_); rintro e w1 ⟨rfl, rfl⟩; simp only [HN.out])
      go_meet
      exact ⟨_, rfl, by rw [HN.out]; rfl, rfl⟩
    | true =>
      have HN := Lib.hid hn; clear hn
      by_cases c1 : 1 ≤ x1 ∧ x1 ≤ 2
      · have I1 := Lib.hid (inB_true c1)
        by_cases c2 : 0 ≤ x4 ∧ x4 ≤ 9999
        · have I2 := Lib.hid (inB_true c2)
          by_cases c3 : x5 = -1
          · have HV : Hid (aliveOk ⟨x0, x1, x2, x3, x4, x5⟩ = true) := Lib.hid (by simp [aliveOk]; omega)
            have n1 : (x5 == -1) = true := by simp [c3]
            have n2 : (x5 != -1) = false := by simp [c3]
            go_wp2_with (first
              | (go_at_call 188; (with_reducible refine (specIsName_any _ _ hsz').mono ?_); rintro e w1 ⟨rfl, rfl⟩; simp only [HN.out])
              | (go_at_call 86; (with_reducible refine (l1In_any _ _ _ _).mono ?_); rintro e w1 ⟨rfl, rfl⟩; simp only [I1.out, I2.out]))
            go_meet
            exact ⟨_, rfl, by rw [HN.out, HV.out]; rfl, rfl⟩
          · have n1 : (x5 == -1) = false := by simp [c3]
            have n2 : (x5 != -1) = true := by simp [c3]
            by_cases c4 : x4 ≤ x5 ∧ x5 ≤ 9999
            · have I3 := Lib.hid (inB_true c4)
              have HV : Hid (aliveOk ⟨x0, x1, x2, x3, x4, x5⟩ = true) := Lib.hid (by simp [aliveOk]; omega)
              go_wp2_with (first
                | (go_at_call 188; (with_reducible refine (specIsName_any _ _ hsz').mono ?_); rintro e w1 ⟨rfl, rfl⟩; simp only [HN.out])
                | (go_at_call 86; (with_reducible refine (l1In_any _ _ _ _).mono ?_); rintro e w1 ⟨rfl, rfl⟩; simp only [I1.out, I2.out, I3.out]))
              go_meet
              exact ⟨_, rfl, by rw [HN.out, HV.out]; rfl, rfl⟩
            · have I3 := Lib.hid (inB_false c4)
              have HV : Hid (aliveOk ⟨x0, x1, x2, x3, x4, x5⟩ = false) := Lib.hid (by rw [Bool.eq_false_iff]; intro hq; have := aliveOk_parts hq; simp only at this; omega)
              go_wp2_with (first
                | (go_at_call 188; (with_reducible refine (specIsName_any _ _ hsz').mono ?_); rintro e w1 ⟨rfl, rfl⟩; simp only [HN.out])
                | (go_at_call 86; (with_reducible refine (l1In_any _ _ _ _).mono ?_); rintro e w1 ⟨rfl, rfl⟩; simp only [I1.out, I2.out, I3.out]))
              go_meet
              exact ⟨_, rfl, by rw [HN.out, HV.out]; rfl, rfl⟩
        · have I2 := Lib.hid (inB_false c2)
          have HV : Hid (aliveOk ⟨x0, x1, x2, x3, x4, x5⟩ = false) := Lib.hid (by rw [Bool.eq_false_iff]; intro hq; have := aliveOk_parts hq; simp only at this; omega)
          go_wp2_with (first
            | (go_at_call 188; (with_reducible refine (specIsName_any _ _ hsz').mono ?_); rintro e w1 ⟨rfl, rfl⟩; simp only [HN.out])
            | (go_at_call 86; (with_reducible refine (l1In_any _ _ _ _).mono ?_); rintro e w1 ⟨rfl, rfl⟩; simp only [I1.out, I2.out]))
          go_meet
          exact ⟨_, rfl, by rw [HN.out, HV.out]; rfl, rfl⟩
      · have I1 := Lib.hid (inB_false c1)
        have HV : Hid (aliveOk ⟨x0, x1, x2, x3, x4, x5⟩ = false) := Lib.hid (by rw [Bool.eq_false_iff]; intro hq; have := aliveOk_parts hq; simp only at this; omega)
        go_wp2_with (first
          | (go_at_call 188; (with_reducible refine (specIsName_any _ _ hsz').mono ?_); rintro e w1 ⟨rfl, rfl⟩; simp only [HN.out])
          | (go_at_call 86; (with_reducible refine (l1In_any _ _ _ _).mono ?_); rintro e w1 ⟨rfl, rfl⟩; simp only [I1.out]))
        go_meet
        exact ⟨_, rfl, by rw [HN.out, HV.out]; rfl, rfl⟩
  case rest =>
    obtain ⟨bad, rfl, hbad, rfl⟩ := hcut
    cases hv : (nameOk x0 && aliveOk ⟨x0, x1, x2, x3, x4, x5⟩) with
    | false =>
      obtain rfl : bad = true := by rw [hbad, hv]; rfl
      have HR := Lib.hid (HF.out _ hv rfl); clear hbad; clear hv HF HT
      go_wp2
      go_ret
      exact ⟨ret_bool HR.out.symm, hbW⟩
    | true =>
      obtain rfl : bad = false := by rw [hbad, hv]; rfl
      have HR := Lib.hid (HT.out hv); clear hbad; clear hv HF HT
      go_wp2
      go_loopw [6] (fun i wr => PSRel xs x0 k W i wr) (fun i _ => k - (intOf i).toNat)
      case atStart => exact ⟨0, Nat.zero_le _, rfl, Below.refl _ _, rfl⟩
      case round =>
        obtain ⟨j, hj, rfl, hbj, hnd⟩ := hrel
        have zj := hbj.size
        have HND := Lib.hid hnd; clear hnd
        have l9 : w.heap.size + 1 < wr.heap.size := by omega
        have hbj' := hbj
        (replace e0 := (hbj.cell (by first | omega | (simp; omega) | (simp; done) | (dsimp only; omega))).trans e0; replace e1 := (hbj.cell (by first | omega | (simp; omega) | (simp; done) | (dsimp only; omega))).trans e1; replace p0 := (hbj.cell (by first | omega | (simp; omega) | (simp; done) | (dsimp only; omega))).trans p0; replace p2 := (hbj.cell (by first | omega | (simp; omega) | (simp; done) | (dsimp only; omega))).trans p2; replace p3 := (hbj.cell (by first | omega | (simp; omega) | (simp; done) | (dsimp only; omega))).trans p3; replace hbW := hbW.trans (hbj.mono (by first | omega | (simp; omega) | (simp; done) | (dsimp only; omega))); have zhbj := hbj.size; clear hbj)
        have hbw : Below w.heap.size w wr := hbW
        replace HH := Lib.hid (HH.out.same (Same.of_below hbj' (by first | omega | (simp; omega) | (simp; done) | (dsimp only; omega))))
        have LB : b < wr.heap.size := by omega
        by_cases hjl : j < k
        · obtain ⟨b', off', ⟨y0, y1, y2, y3, y4, y5⟩, he, _, _, _, hyj, h0, _⟩ := APerson.at_ (k := j) HH.out (by omega)
          injection he with he; injection he with he1 he2 _; subst he1; subst he2
          simp only at h0
          have HYJ := Lib.hid hyj; clear hyj
          have i1 : (0 : Int) ≤ (j : Int) ∧ (j : Int) < (xs.length : Int) := by omega
          go_wp2
          go_quiet (fail)
          go_wp2
          · have hq : y0 = x0 := str_eq.1 (by simpa using (by assumption : (y0.toList == x0.toList) = true))
            go_ret
            have HN := newName_old HYJ.out hjl hq
            exact ⟨ret_bool (by rw [HR.out, HN]; rfl), by (with_reducible repeat' first | exact Below.refl _ _ | assumption | (refine Below.setCell ?_ (by first | omega | (simp; omega) | (simp; done) | (dsimp only; omega)) _) | (refine Below.alloc ?_ (by first | omega | (simp; omega) | (simp; done) | (dsimp only; omega)) _) | (refine below_drewN ?_ _) | (refine Below.drew ?_) | (refine Below.trans ?_ (hbw.mono (by first | omega | (simp; omega) | (simp; done) | (dsimp only; omega)))))⟩
          · have hq : ¬ y0 = x0 := fun e => by
              have hz : (y0.toList == x0.toList) = false := by assumption
              rw [e] at hz; simp at hz
            have HN := newName_succ HYJ.out x0
            exact ⟨⟨j + 1, by omega, by go_num, by (with_reducible repeat' first | exact Below.refl _ _ | assumption | (refine Below.setCell ?_ (by first | omega | (simp; omega) | (simp; done) | (dsimp only; omega)) _) | (refine Below.alloc ?_ (by first | omega | (simp; omega) | (simp; done) | (dsimp only; omega)) _) | (refine below_drewN ?_ _) | (refine Below.drew ?_) | (refine Below.trans ?_ (hbj'.mono (by first | omega | (simp; omega) | (simp; done) | (dsimp only; omega))))), by rw [HN, HND.out]; simp [eqB, hq]⟩, by simp [intOf]; omega⟩
        · obtain rfl : j = k := by omega
          have HX : EPerson.AS wr lo hi (some ⟨b, off, none⟩) xs := HH.out
          cases hf : parentOk xs j x2 1 1 with
          | false =>
            have HP := Lib.hid hf; clear hf
            go_wp2_with (go_at_call 223; (with_reducible refine (l1Parent_any _ _ _ _ lo hi xs ys _ _ _ _ _ HX (by omega) hk (by omega) HD.out).mono ?_); rintro e w3 ⟨rfl, hb3⟩; simp only [HP.out])
            go_ret
            exact ⟨ret_bool (by rw [HR.out, HND.out, HP.out]; rfl), by (with_reducible repeat' first | exact Below.refl _ _ | assumption | (refine Below.setCell ?_ (by first | omega | (simp; omega) | (simp; done) | (dsimp only; omega)) _) | (refine Below.alloc ?_ (by first | omega | (simp; omega) | (simp; done) | (dsimp only; omega)) _) | (refine below_drewN ?_ _) | (refine Below.drew ?_) | (refine Below.trans ?_ (hb3.mono (by first | omega | (simp; omega) | (simp; done) | (dsimp only; omega)))) | (refine Below.trans ?_ (hbw.mono (by first | omega | (simp; omega) | (simp; done) | (dsimp only; omega)))))⟩
          | true =>
            have HP := Lib.hid hf; clear hf
            go_wp2_with (go_at_call 223; (with_reducible refine (l1Parent_any _ _ _ _ lo hi xs ys _ _ _ _ _ HX (by omega) hk (by omega) HD.out).mono ?_); rintro e w3 ⟨rfl, hb3⟩; simp only [HP.out]; have z3 := hb3.size; have HX3 : EPerson.AS w3 lo hi (some ⟨b, off, none⟩) xs := HX.same (Same.of_below hb3 (by omega)); replace e0 := (hb3.cell (by first | omega | (simp; omega) | (simp; done) | (dsimp only; omega))).trans e0; replace e1 := (hb3.cell (by first | omega | (simp; omega) | (simp; done) | (dsimp only; omega))).trans e1; replace p3 := (hb3.cell (by first | omega | (simp; omega) | (simp; done) | (dsimp only; omega))).trans p3)
            go_wp2_with (go_at_call 223; (with_reducible refine (l1Parent_any _ _ _ _ lo hi xs ys _ _ _ _ _ HX3 (by omega) hk (by omega) HD.out).mono ?_); rintro e w4 ⟨rfl, hb4⟩)
            go_ret
            exact ⟨ret_bool (by rw [HR.out, HND.out, HP.out]; simp), by (with_reducible repeat' first | exact Below.refl _ _ | assumption | (refine Below.setCell ?_ (by first | omega | (simp; omega) | (simp; done) | (dsimp only; omega)) _) | (refine Below.alloc ?_ (by first | omega | (simp; omega) | (simp; done) | (dsimp only; omega)) _) | (refine below_drewN ?_ _) | (refine Below.drew ?_) | (refine Below.trans ?_ (hb4.mono (by first | omega | (simp; omega) | (simp; done) | (dsimp only; omega)))) | (refine Below.trans ?_ (hb3.mono (by first | omega | (simp; omega) | (simp; done) | (dsimp only; omega)))) | (refine Below.trans ?_ (hbw.mono (by first | omega | (simp; omega) | (simp; done) | (dsimp only; omega)))))⟩
end Go.Proofs.Ytnanlbglgflecaa
