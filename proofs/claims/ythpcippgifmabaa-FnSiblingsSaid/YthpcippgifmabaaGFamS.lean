/-
  Whether a person is right, in the reference.
  Whether a family is valid, in the reference.
  What is asked of a family, in the reference.
  Partners, parents, the end of a union, in the reference.
-/
import Derived.Test.YthpcippgifmabaaGFam
import Derived.Deep.Cut
import Derived.Deep.DeepCutAuto
import Derived.Test.YthpcippgifmabaaUnionS

/-! ## PersonS -/
namespace Go.Proofs.Ythpcippgifmabaa
set_option maxRecDepth 100000
open Go.RowKit

def PSRel (xs : List Person) (s : ByteArray) (k : Nat) (w : World) (i : Value) (wr : World) : Prop :=
  ∃ j : Nat, j ≤ k ∧ i = .int .i64 j ∧ Below w.heap.size w wr ∧ newName xs j s = true

set_option maxHeartbeats 8000000 in
theorem l1Person_any (A B : Option Addr) (c d lo hi : Nat) (xs : List Person) (ys : List Union) (k : Nat) (w : World) (h : EPerson.AS w lo hi A xs) (hh : hi ≤ w.heap.size) (hk : k < xs.length) (hd : ∀ (i : Nat) (x : Person), i < k → xs[i]? = some x → -1 ≤ x.died ∧ x.died ≤ 9999) (hs : ∀ x ∈ xs, x.name.size ≤ 1048576) :
    Calls Try.prog 82 #[.agg #[.slice A xs.length c, .slice B ys.length d], .int .i64 k] w fun e w' => e = .returned (.bool (personOk xs k)) ∧ Below w.heap.size w w' := by
  have hx := h.le
  unfold BIG at hx
  obtain ⟨b, off, ⟨x0, x1, x2, x3, x4, x5⟩, rfl, g1, g2, _, hxk, hc0, hc1, hc2, hc3, hc4, hc5⟩ := APerson.at_ h hk
  rw [personOk_of hxk]
  have hsz := hs _ (List.mem_of_getElem? hxk)
  generalize hR : personOf xs k ⟨x0, x1, x2, x3, x4, x5⟩ = R
  replace hR := Lib.hid hR
  clear hxk
  simp only at hc0 hc1 hc2 hc3 hc4 hc5 hsz
  have lb : b < w.heap.size := by omega
  have hsz' : x0.size ≤ 140737488355328 := by omega
  have i2 : (0 : Int) ≤ (k : Int) ∧ (k : Int) < (xs.length : Int) := by omega
  have HF : Hid (∀ v : Bool, (nameOk x0 && aliveOk ⟨x0, x1, x2, x3, x4, x5⟩) = v → v = false → R = false) := Lib.hid fun v hv h0 => by
    rw [← hR.out, personOf, hv, h0]; rfl
  have HT : Hid ((nameOk x0 && aliveOk ⟨x0, x1, x2, x3, x4, x5⟩) = true → R = (newName xs k x0 && parentOk xs k x2 1 1 && parentOk xs k x3 2 0)) := Lib.hid fun hv => by
    rw [← hR.out, personOf, hv]; simp
  clear hR
  have HD := Lib.hid hd; clear hd
  go_enter Try.func82, Try.ntmps82
  go_upto_region 2 with fail
  generalize hW : ((w.alloc (.cells #[.slice (some ⟨b, off, none⟩) xs.length c, .slice B ys.length d] 26)).alloc (.cells #[.string x0, .int .i64 x1, .int .i64 x2, .int .i64 x3, .int .i64 x4, .int .i64 x5] 48)) = W
  have e0 : W.cell? ⟨w.heap.size, 0, none⟩ = some (.slice (some ⟨b, off, none⟩) xs.length c) := by subst hW; simp [go_sem]
  have e1 : W.cell? ⟨w.heap.size, 1, none⟩ = some (.slice B ys.length d) := by subst hW; simp [go_sem]
  have p0 : W.cell? ⟨w.heap.size + 1, 0, none⟩ = some (.string x0) := by subst hW; simp [go_sem]
  have p1 : W.cell? ⟨w.heap.size + 1, 1, none⟩ = some (.int .i64 x1) := by subst hW; simp [go_sem]
  have p2 : W.cell? ⟨w.heap.size + 1, 2, none⟩ = some (.int .i64 x2) := by subst hW; simp [go_sem]
  have p3 : W.cell? ⟨w.heap.size + 1, 3, none⟩ = some (.int .i64 x3) := by subst hW; simp [go_sem]
  have p4 : W.cell? ⟨w.heap.size + 1, 4, none⟩ = some (.int .i64 x4) := by subst hW; simp [go_sem]
  have p5 : W.cell? ⟨w.heap.size + 1, 5, none⟩ = some (.int .i64 x5) := by subst hW; simp [go_sem]
  have hbW : Below w.heap.size w W := by subst hW; (with_reducible repeat' first | exact Below.refl _ _ | assumption | (refine Below.setCell ?_ (by first | omega | (simp; omega) | (simp; done) | (dsimp only; omega)) _) | (refine Below.alloc ?_ (by first | omega | (simp; omega) | (simp; done) | (dsimp only; omega)) _) | (refine below_drewN ?_ _) | (refine Below.drew ?_))
  have zW : W.heap.size = w.heap.size + 2 := by subst hW; simp
  clear hW hc0 hc1 hc2 hc3 hc4 hc5
  replace h := h.same (Same.of_below hbW hh)
  have HH := Lib.hid h; clear h
  go_cut [40] (fun v wx => ∃ bad : Bool, v = .bool bad ∧ bad = !(nameOk x0 && aliveOk ⟨x0, x1, x2, x3, x4, x5⟩) ∧ W = wx)
  case first =>
    cases hn : nameOk x0 with
    | false =>
      have HN := Lib.hid hn; clear hn
      go_wp2_with (go_at_call 105; (with_reducible refine (specIsName_any _ _ hsz').mono ?_); rintro e w1 ⟨rfl, rfl⟩; simp only [HN.out])
      go_meet
      exact ⟨_, rfl, by rw [HN.out]; rfl, rfl⟩
    | true =>
      have HN := Lib.hid hn; clear hn
      by_cases c1 : 1 ≤ x1 ∧ x1 ≤ 2
      · have I1 := Lib.hid (inB_true c1)
        by_cases c2 : 0 ≤ x4 ∧ x4 ≤ 9999
        · have I2 := Lib.hid (inB_true c2)
          by_cases c3 : x5 = -1
          · have HV : Hid (aliveOk ⟨x0, x1, x2, x3, x4, x5⟩ = true) := Lib.hid (by simp [aliveOk]; omega)
            have n1 : (x5 == -1) = true := by simp [c3]
            have n2 : (x5 != -1) = false := by simp [c3]
            go_wp2_with (first
              | (go_at_call 105; (with_reducible refine (specIsName_any _ _ hsz').mono ?_); rintro e w1 ⟨rfl, rfl⟩; simp only [HN.out])
              | (go_at_call 106; (with_reducible refine (l1In_any _ _ _ _).mono ?_); rintro e w1 ⟨rfl, rfl⟩; simp only [I1.out, I2.out]))
            go_meet
            exact ⟨_, rfl, by rw [HN.out, HV.out]; rfl, rfl⟩
          · have n1 : (x5 == -1) = false := by simp [c3]
            have n2 : (x5 != -1) = true := by simp [c3]
            by_cases c4 : x4 ≤ x5 ∧ x5 ≤ 9999
            · have I3 := Lib.hid (inB_true c4)
              have HV : Hid (aliveOk ⟨x0, x1, x2, x3, x4, x5⟩ = true) := Lib.hid (by simp [aliveOk]; omega)
              go_wp2_with (first
                | (go_at_call 105; (with_reducible refine (specIsName_any _ _ hsz').mono ?_); rintro e w1 ⟨rfl, rfl⟩; simp only [HN.out])
                | (go_at_call 106; (with_reducible refine (l1In_any _ _ _ _).mono ?_); rintro e w1 ⟨rfl, rfl⟩; simp only [I1.out, I2.out, I3.out]))
              go_meet
              exact ⟨_, rfl, by rw [HN.out, HV.out]; rfl, rfl⟩
            · have I3 := Lib.hid (inB_false c4)
              have HV : Hid (aliveOk ⟨x0, x1, x2, x3, x4, x5⟩ = false) := Lib.hid (by rw [Bool.eq_false_iff]; intro hq; have := aliveOk_parts hq; simp only at this; omega)
              go_wp2_with (first
                | (go_at_call 105; (with_reducible refine (specIsName_any _ _ hsz').mono ?_); rintro e w1 ⟨rfl, rfl⟩; simp only [HN.out])
                | (go_at_call 106; (with_reducible refine (l1In_any _ _ _ _).mono ?_); rintro e w1 ⟨rfl, rfl⟩; simp only [I1.out, I2.out, I3.out]))
              go_meet
              exact ⟨_, rfl, by rw [HN.out, HV.out]; rfl, rfl⟩
        · have I2 := Lib.hid (inB_false c2)
          have HV : Hid (aliveOk ⟨x0, x1, x2, x3, x4, x5⟩ = false) := Lib.hid (by rw [Bool.eq_false_iff]; intro hq; have := aliveOk_parts hq; simp only at this; omega)
          go_wp2_with (first
            | (go_at_call 105; (with_reducible refine (specIsName_any _ _ hsz').mono ?_); rintro e w1 ⟨rfl, rfl⟩; simp only [HN.out])
            | (go_at_call 106; (with_reducible refine (l1In_any _ _ _ _).mono ?_); rintro e w1 ⟨rfl, rfl⟩; simp only [I1.out, I2.out]))
          go_meet
          exact ⟨_, rfl, by rw [HN.out, HV.out]; rfl, rfl⟩
      · have I1 := Lib.hid (inB_false c1)
        have HV : Hid (aliveOk ⟨x0, x1, x2, x3, x4, x5⟩ = false) := Lib.hid (by rw [Bool.eq_false_iff]; intro hq; have := aliveOk_parts hq; simp only at this; omega)
        go_wp2_with (first
          | (go_at_call 105; (with_reducible refine (specIsName_any _ _ hsz').mono ?_); rintro e w1 ⟨rfl, rfl⟩; simp only [HN.out])
          | (go_at_call 106; (with_reducible refine (l1In_any _ _ _ _).mono ?_); rintro e w1 ⟨rfl, rfl⟩; simp only [I1.out]))
        go_meet
        exact ⟨_, rfl, by rw [HN.out, HV.out]; rfl, rfl⟩
  case rest =>
    obtain ⟨bad, rfl, hbad, rfl⟩ := hcut
    cases hv : (nameOk x0 && aliveOk ⟨x0, x1, x2, x3, x4, x5⟩) with
    | false =>
      obtain rfl : bad = true := by rw [hbad, hv]; rfl
      have HR := Lib.hid (HF.out _ hv rfl); clear hbad; clear hv HF HT
      go_wp2
      go_ret
      exact ⟨ret_bool HR.out.symm, hbW⟩
    | true =>
      obtain rfl : bad = false := by rw [hbad, hv]; rfl
      have HR := Lib.hid (HT.out hv); clear hbad; clear hv HF HT
      go_wp2
      go_loopw [6] (fun i wr => PSRel xs x0 k W i wr) (fun i _ => k - (intOf i).toNat)
      case atStart => exact ⟨0, Nat.zero_le _, rfl, Below.refl _ _, rfl⟩
      case round =>
        obtain ⟨j, hj, rfl, hbj, hnd⟩ := hrel
        have zj := hbj.size
        have HND := Lib.hid hnd; clear hnd
        have l9 : w.heap.size + 1 < wr.heap.size := by omega
        have hbj' := hbj
        (replace e0 := (hbj.cell (by first | omega | (simp; omega) | (simp; done) | (dsimp only; omega))).trans e0; replace e1 := (hbj.cell (by first | omega | (simp; omega) | (simp; done) | (dsimp only; omega))).trans e1; replace p0 := (hbj.cell (by first | omega | (simp; omega) | (simp; done) | (dsimp only; omega))).trans p0; replace p2 := (hbj.cell (by first | omega | (simp; omega) | (simp; done) | (dsimp only; omega))).trans p2; replace p3 := (hbj.cell (by first | omega | (simp; omega) | (simp; done) | (dsimp only; omega))).trans p3; replace hbW := hbW.trans (hbj.mono (by first | omega | (simp; omega) | (simp; done) | (dsimp only; omega))); have zhbj := hbj.size; clear hbj)
        have hbw : Below w.heap.size w wr := hbW
        replace HH := Lib.hid (HH.out.same (Same.of_below hbj' (by first | omega | (simp; omega) | (simp; done) | (dsimp only; omega))))
        have LB : b < wr.heap.size := by omega
        by_cases hjl : j < k
        · obtain ⟨b', off', ⟨y0, y1, y2, y3, y4, y5⟩, he, _, _, _, hyj, h0, _⟩ := APerson.at_ (k := j) HH.out (by omega)
          injection he with he; injection he with he1 he2 _; subst he1; subst he2
          simp only at h0
          have HYJ := Lib.hid hyj; clear hyj
          have i1 : (0 : Int) ≤ (j : Int) ∧ (j : Int) < (xs.length : Int) := by omega
          go_wp2
          go_quiet (fail)
          go_wp2
          · have hq : y0 = x0 := str_eq.1 (by simpa using (by assumption : (y0.toList == x0.toList) = true))
            go_ret
            have HN := newName_old HYJ.out hjl hq
            exact ⟨ret_bool (by rw [HR.out, HN]; rfl), by (with_reducible repeat' first | exact Below.refl _ _ | assumption | (refine Below.setCell ?_ (by first | omega | (simp; omega) | (simp; done) | (dsimp only; omega)) _) | (refine Below.alloc ?_ (by first | omega | (simp; omega) | (simp; done) | (dsimp only; omega)) _) | (refine below_drewN ?_ _) | (refine Below.drew ?_) | (refine Below.trans ?_ (hbw.mono (by first | omega | (simp; omega) | (simp; done) | (dsimp only; omega)))))⟩
          · have hq : ¬ y0 = x0 := fun e => by
              have hz : (y0.toList == x0.toList) = false := by assumption
              rw [e] at hz; simp at hz
            have HN := newName_succ HYJ.out x0
            exact ⟨⟨j + 1, by omega, by go_num, by (with_reducible repeat' first | exact Below.refl _ _ | assumption | (refine Below.setCell ?_ (by first | omega | (simp; omega) | (simp; done) | (dsimp only; omega)) _) | (refine Below.alloc ?_ (by first | omega | (simp; omega) | (simp; done) | (dsimp only; omega)) _) | (refine below_drewN ?_ _) | (refine Below.drew ?_) | (refine Below.trans ?_ (hbj'.mono (by first | omega | (simp; omega) | (simp; done) | (dsimp only; omega))))), by rw [HN, HND.out]; simp [eqB, hq]⟩, by simp [intOf]; omega⟩
        · obtain rfl : j = k := by omega
          have HX : EPerson.AS wr lo hi (some ⟨b, off, none⟩) xs := HH.out
          cases hf : parentOk xs j x2 1 1 with
          | false =>
            have HP := Lib.hid hf; clear hf
            go_wp2_with (go_at_call 107; (with_reducible refine (l1Parent_any _ _ _ _ lo hi xs ys _ _ _ _ _ HX (by omega) hk (by omega) HD.out).mono ?_); rintro e w3 ⟨rfl, hb3⟩; simp only [HP.out])
            go_ret
            exact ⟨ret_bool (by rw [HR.out, HND.out, HP.out]; rfl), by (with_reducible repeat' first | exact Below.refl _ _ | assumption | (refine Below.setCell ?_ (by first | omega | (simp; omega) | (simp; done) | (dsimp only; omega)) _) | (refine Below.alloc ?_ (by first | omega | (simp; omega) | (simp; done) | (dsimp only; omega)) _) | (refine below_drewN ?_ _) | (refine Below.drew ?_) | (refine Below.trans ?_ (hb3.mono (by first | omega | (simp; omega) | (simp; done) | (dsimp only; omega)))) | (refine Below.trans ?_ (hbw.mono (by first | omega | (simp; omega) | (simp; done) | (dsimp only; omega)))))⟩
          | true =>
            have HP := Lib.hid hf; clear hf
            go_wp2_with (go_at_call 107; (with_reducible refine (l1Parent_any _ _ _ _ lo hi xs ys _ _ _ _ _ HX (by omega) hk (by omega) HD.out).mono ?_); rintro e w3 ⟨rfl, hb3⟩; simp only [HP.out]; have z3 := hb3.size; have HX3 : EPerson.AS w3 lo hi (some ⟨b, off, none⟩) xs := HX.same (Same.of_below hb3 (by omega)); replace e0 := (hb3.cell (by first | omega | (simp; omega) | (simp; done) | (dsimp only; omega))).trans e0; replace e1 := (hb3.cell (by first | omega | (simp; omega) | (simp; done) | (dsimp only; omega))).trans e1; replace p3 := (hb3.cell (by first | omega | (simp; omega) | (simp; done) | (dsimp only; omega))).trans p3)
            go_wp2_with (go_at_call 107; (with_reducible refine (l1Parent_any _ _ _ _ lo hi xs ys _ _ _ _ _ HX3 (by omega) hk (by omega) HD.out).mono ?_); rintro e w4 ⟨rfl, hb4⟩)
            go_ret
            exact ⟨ret_bool (by rw [HR.out, HND.out, HP.out]; simp), by (with_reducible repeat' first | exact Below.refl _ _ | assumption | (refine Below.setCell ?_ (by first | omega | (simp; omega) | (simp; done) | (dsimp only; omega)) _) | (refine Below.alloc ?_ (by first | omega | (simp; omega) | (simp; done) | (dsimp only; omega)) _) | (refine below_drewN ?_ _) | (refine Below.drew ?_) | (refine Below.trans ?_ (hb4.mono (by first | omega | (simp; omega) | (simp; done) | (dsimp only; omega)))) | (refine Below.trans ?_ (hb3.mono (by first | omega | (simp; omega) | (simp; done) | (dsimp only; omega)))) | (refine Below.trans ?_ (hbw.mono (by first | omega | (simp; omega) | (simp; done) | (dsimp only; omega)))))⟩
end Go.Proofs.Ythpcippgifmabaa

/-! ## FamilyS -/
namespace Go.Proofs.Ythpcippgifmabaa
set_option maxRecDepth 100000
open Go.RowKit

set_option maxHeartbeats 4000000 in
theorem specIsFamily_any (A B : Option Addr) (c d lo hi : Nat) (xs : List Person) (ys : List Union) (w : World) (h : EPerson.AS w lo hi A xs) (h' : EUnion.AS w lo hi B ys) (hh : hi ≤ w.heap.size) (hs : totP xs ≤ 1048576) :
    Calls Try.prog 57 #[.agg #[.slice A xs.length c, .slice B ys.length d]] w fun e w' => e = .returned (.bool (famOk xs ys)) ∧ Below w.heap.size w w' := by
  replace hs := totP_mem hs
  have hx := h.le
  have hy := h'.le
  unfold BIG at hx hy
  by_cases hl : xs.length ≤ 40 ∧ ys.length ≤ 60
  · rw [famOk_in hl]
    generalize hR : (peopleOk xs xs.length && flatOk (depL xs xs.length) xs.length && unionsOk xs ys ys.length) = R
    have HR := Lib.hid hR; clear hR
    obtain ⟨hl1, hl2⟩ := hl
    have HH := Lib.hid h; have HH' := Lib.hid h'; clear h h'
    go_enter Try.func57, Try.ntmps57
    go_wp2
    generalize hW : w.alloc (.cells #[.slice A xs.length c, .slice B ys.length d] 26) = W
    have e0 : W.cell? ⟨w.heap.size, 0, none⟩ = some (.slice A xs.length c) := by subst hW; simp [go_sem]
    have e1 : W.cell? ⟨w.heap.size, 1, none⟩ = some (.slice B ys.length d) := by subst hW; simp [go_sem]
    have hbW : Below w.heap.size w W := by subst hW; (with_reducible repeat' first | exact Below.refl _ _ | assumption | (refine Below.setCell ?_ (by first | omega | (simp; omega) | (simp; done) | (dsimp only; omega)) _) | (refine Below.alloc ?_ (by first | omega | (simp; omega) | (simp; done) | (dsimp only; omega)) _) | (refine below_drewN ?_ _) | (refine Below.drew ?_))
    have zW : W.heap.size = w.heap.size + 1 := by subst hW; simp
    clear hW
    go_loopw [20] (fun i wr => AskRel (peopleOk xs) xs.length W i wr) (fun i _ => xs.length - (intOf i).toNat)
    case atStart => exact ⟨0, by omega, rfl, Below.refl _ _, rfl⟩
    case round =>
      obtain ⟨k, hk, rfl, hb, hp⟩ := hrel
      have HP := Lib.hid hp; clear hp
      have z1 := hb.size
      have hbw : Below w.heap.size w wr := hbW.trans (hb.mono (by first | omega | (simp; omega) | (simp; done) | (dsimp only; omega)))
      have d0 := (hb.cell (p := ⟨w.heap.size, 0, none⟩) (by first | omega | (simp; omega) | (simp; done) | (dsimp only; omega))).trans e0
      have d1 := (hb.cell (p := ⟨w.heap.size, 1, none⟩) (by first | omega | (simp; omega) | (simp; done) | (dsimp only; omega))).trans e1
      have hX : EPerson.AS wr lo hi A xs := HH.out.same (Same.of_below hbw hh)
      have hY : EUnion.AS wr lo hi B ys := HH'.out.same (Same.of_below hbw hh)
      have l1 : w.heap.size < wr.heap.size := by omega
      have HD := Lib.hid (peopleOk_died HP.out)
      by_cases hlt : k < xs.length
      · cases hq : personOk xs k with
        | false =>
          have HQ := Lib.hid hq; clear hq
          have HN := Lib.hid (HR.out.symm.trans (show _ = false by rw [peopleOk_bad HQ.out hlt]; rfl))
          go_wp2_with (go_at_call 82; (with_reducible refine (l1Person_any _ _ _ _ lo hi xs ys _ _ hX (by omega) hlt HD.out hs).mono ?_); rintro e w1 ⟨rfl, hb1⟩; simp only [HQ.out])
          go_ret
          exact ⟨ret_bool HN.out.symm, by (with_reducible repeat' first | exact Below.refl _ _ | assumption | (refine Below.setCell ?_ (by first | omega | (simp; omega) | (simp; done) | (dsimp only; omega)) _) | (refine Below.alloc ?_ (by first | omega | (simp; omega) | (simp; done) | (dsimp only; omega)) _) | (refine below_drewN ?_ _) | (refine Below.drew ?_) | (refine Below.trans ?_ (hb1.mono (by first | omega | (simp; omega) | (simp; done) | (dsimp only; omega)))) | (refine Below.trans ?_ (hbw.mono (by first | omega | (simp; omega) | (simp; done) | (dsimp only; omega)))))⟩
        | true =>
          have HQ := Lib.hid hq; clear hq
          have HN := Lib.hid (show peopleOk xs (k + 1) = true by rw [peopleOk_succ, HP.out, HQ.out]; rfl)
          go_wp2_with (go_at_call 82; (with_reducible refine (l1Person_any _ _ _ _ lo hi xs ys _ _ hX (by omega) hlt HD.out hs).mono ?_); rintro e w1 ⟨rfl, hb1⟩; simp only [HQ.out])
          exact ⟨⟨k + 1, by omega, by go_num, by (with_reducible repeat' first | exact Below.refl _ _ | assumption | (refine Below.setCell ?_ (by first | omega | (simp; omega) | (simp; done) | (dsimp only; omega)) _) | (refine Below.alloc ?_ (by first | omega | (simp; omega) | (simp; done) | (dsimp only; omega)) _) | (refine below_drewN ?_ _) | (refine Below.drew ?_) | (refine Below.trans ?_ (hb1.mono (by first | omega | (simp; omega) | (simp; done) | (dsimp only; omega)))) | (refine Below.trans ?_ (hb.mono (by first | omega | (simp; omega) | (simp; done) | (dsimp only; omega))))), HN.out⟩, by simp [intOf]; omega⟩
      · obtain rfl : k = xs.length := by omega
        have hB := Lib.hid (peopleOk_before HP.out)
        go_wp2_with (go_at_call 67; (with_reducible refine (l1Depths_any _ _ _ _ lo hi xs ys _ hX (by omega) hl1 hB.out).mono ?_); rintro e w1 ⟨A1, c1, rfl, ho1, hb1⟩; have z2 := hb1.size; replace d0 := (hb1.cell (by first | omega | (simp; omega) | (simp; done) | (dsimp only; omega))).trans d0; replace d1 := (hb1.cell (by first | omega | (simp; omega) | (simp; done) | (dsimp only; omega))).trans d1)
        have hlen := Lib.hid (depL_len xs xs.length)
        have hds := ho1.read.as
        have hbw1 : Below w.heap.size w w1 := hbw.trans (hb1.mono (by first | omega | (simp; omega) | (simp; done) | (dsimp only; omega)))
        have hle1 : (depL xs xs.length).length ≤ 40 := by rw [hlen.out]; exact hl1
        go_loopw [31] (fun i wr => AskRel (flatOk (depL xs xs.length)) (depL xs xs.length).length w1 i wr) (fun i _ => (depL xs xs.length).length - (intOf i).toNat)
        case atStart => exact ⟨0, by omega, rfl, Below.refl _ _, rfl⟩
        case round =>
          obtain ⟨j, hj, rfl, hb2, hp2⟩ := hrel
          have HP2 := Lib.hid hp2; clear hp2
          have z3 := hb2.size
          have hbw2 : Below w.heap.size w wr := hbw1.trans (hb2.mono (by first | omega | (simp; omega) | (simp; done) | (dsimp only; omega)))
          have f0 := (hb2.cell (p := ⟨w.heap.size, 0, none⟩) (by first | omega | (simp; omega) | (simp; done) | (dsimp only; omega))).trans d0
          have f1 := (hb2.cell (p := ⟨w.heap.size, 1, none⟩) (by first | omega | (simp; omega) | (simp; done) | (dsimp only; omega))).trans d1
          by_cases hjl : j < (depL xs xs.length).length
          · obtain ⟨b', off', e, rfl, g1, g2, _, g3, g4⟩ := AInt.at_ (k := j) (hds.same (Same.of_below hb2 (Nat.le_refl _))) hjl
            have HG := Lib.hid g3; clear g3
            have lb' : b' < wr.heap.size := by omega
            by_cases hd : e ≤ 10
            · have HN := Lib.hid (show flatOk (depL xs xs.length) (j + 1) = true by rw [flatOk_succ HG.out, HP2.out]; simp [hd])
              go_wp2
              exact ⟨⟨j + 1, by omega, by go_num, hb2, HN.out⟩, by simp [intOf]; omega⟩
            · have HN := Lib.hid (HR.out.symm.trans (show _ = false by rw [flatOk_bad HG.out (by rw [← hlen.out]; exact hjl) (by omega)]; simp))
              go_wp2
              go_ret
              exact ⟨ret_bool HN.out.symm, hbw2⟩
          · obtain rfl : j = (depL xs xs.length).length := by omega
            have HF := Lib.hid (show flatOk (depL xs xs.length) xs.length = true by have := HP2.out; rwa [hlen.out] at this)
            clear hj hjl
            have hX2 : EPerson.AS wr lo hi A xs := HH.out.same (Same.of_below hbw2 hh)
            have hY2 : EUnion.AS wr lo hi B ys := HH'.out.same (Same.of_below hbw2 hh)
            go_wp2
            obtain ⟨w2, rfl⟩ : ∃ w2 : World, w2 = wr := ⟨_, rfl⟩
            go_loopw [41] (fun i wr => AskRel (unionsOk xs ys) ys.length w2 i wr) (fun i _ => ys.length - (intOf i).toNat)
            case atStart => exact ⟨0, by omega, rfl, Below.refl _ _, rfl⟩
            case round =>
              obtain ⟨i, hi', rfl, hb4, hp4⟩ := hrel
              have HP4 := Lib.hid hp4; clear hp4
              have z5 := hb4.size
              have hbw4 : Below w.heap.size w wr := hbw2.trans (hb4.mono (by first | omega | (simp; omega) | (simp; done) | (dsimp only; omega)))
              replace f0 := (hb4.cell (p := ⟨w.heap.size, 0, none⟩) (by first | omega | (simp; omega) | (simp; done) | (dsimp only; omega))).trans f0
              replace f1 := (hb4.cell (p := ⟨w.heap.size, 1, none⟩) (by first | omega | (simp; omega) | (simp; done) | (dsimp only; omega))).trans f1
              have hX4 : EPerson.AS wr lo hi A xs := HH.out.same (Same.of_below hbw4 hh)
              have hY4 : EUnion.AS wr lo hi B ys := HH'.out.same (Same.of_below hbw4 hh)
              have HV : Hid (∀ (i : Nat) (x : Person), xs[i]? = some x → -1 ≤ x.died) := Lib.hid fun i x hx => (HD.out i x (List.getElem?_eq_some_iff.1 hx).1 hx).1
              by_cases hil : i < ys.length
              · cases hq : unionOk xs ys i with
                | false =>
                  have HQ := Lib.hid hq; clear hq
                  have HN := Lib.hid (HR.out.symm.trans (show _ = false by rw [unionsOk_bad HQ.out hil]; simp))
                  go_wp2_with (go_at_call 83; (with_reducible refine (l1Union_any _ _ _ _ lo hi xs ys _ _ hX4 hY4 (by omega) hil HV.out).mono ?_); rintro e w5 ⟨rfl, hb5⟩; simp only [HQ.out])
                  go_ret
                  exact ⟨ret_bool HN.out.symm, by (with_reducible repeat' first | exact Below.refl _ _ | assumption | (refine Below.setCell ?_ (by first | omega | (simp; omega) | (simp; done) | (dsimp only; omega)) _) | (refine Below.alloc ?_ (by first | omega | (simp; omega) | (simp; done) | (dsimp only; omega)) _) | (refine below_drewN ?_ _) | (refine Below.drew ?_) | (refine Below.trans ?_ (hb5.mono (by first | omega | (simp; omega) | (simp; done) | (dsimp only; omega)))) | (refine Below.trans ?_ (hbw4.mono (by first | omega | (simp; omega) | (simp; done) | (dsimp only; omega)))))⟩
                | true =>
                  have HQ := Lib.hid hq; clear hq
                  have HN := Lib.hid (show unionsOk xs ys (i + 1) = true by rw [unionsOk_succ, HP4.out, HQ.out]; rfl)
                  go_wp2_with (go_at_call 83; (with_reducible refine (l1Union_any _ _ _ _ lo hi xs ys _ _ hX4 hY4 (by omega) hil HV.out).mono ?_); rintro e w5 ⟨rfl, hb5⟩; simp only [HQ.out])
                  exact ⟨⟨i + 1, by omega, by go_num, by (with_reducible repeat' first | exact Below.refl _ _ | assumption | (refine Below.setCell ?_ (by first | omega | (simp; omega) | (simp; done) | (dsimp only; omega)) _) | (refine Below.alloc ?_ (by first | omega | (simp; omega) | (simp; done) | (dsimp only; omega)) _) | (refine below_drewN ?_ _) | (refine Below.drew ?_) | (refine Below.trans ?_ (hb5.mono (by first | omega | (simp; omega) | (simp; done) | (dsimp only; omega)))) | (refine Below.trans ?_ (hb4.mono (by first | omega | (simp; omega) | (simp; done) | (dsimp only; omega))))), HN.out⟩, by simp [intOf]; omega⟩
              · obtain rfl : i = ys.length := by omega
                have HN := Lib.hid (HR.out.symm.trans (show _ = true by rw [HP.out, HF.out, HP4.out]; rfl))
                go_wp2
                go_ret
                exact ⟨ret_bool HN.out.symm, hbw4⟩
  · have HN := Lib.hid (famOk_len hl)
    rcases (by omega : 40 < xs.length ∨ xs.length ≤ 40 ∧ 60 < ys.length) with q | ⟨q, q'⟩
    all_goals
      go_enter Try.func57, Try.ntmps57
      go_wp2
      go_ret
      exact ⟨ret_bool HN.out.symm, by (with_reducible repeat' first | exact Below.refl _ _ | assumption | (refine Below.setCell ?_ (by first | omega | (simp; omega) | (simp; done) | (dsimp only; omega)) _) | (refine Below.alloc ?_ (by first | omega | (simp; omega) | (simp; done) | (dsimp only; omega)) _) | (refine below_drewN ?_ _) | (refine Below.drew ?_))⟩
end Go.Proofs.Ythpcippgifmabaa

/-! ## HasS -/
namespace Go.Proofs.Ythpcippgifmabaa
set_option maxRecDepth 100000
open Go.RowKit

theorem l1Has_any (A B : Option Addr) (c d lo hi : Nat) (xs : List Person) (ys : List Union) (p : Int) (w : World) (h : EPerson.AS w lo hi A xs) (h' : EUnion.AS w lo hi B ys) (hh : hi ≤ w.heap.size) (hs : totP xs ≤ 1048576) :
    Calls Try.prog 37 #[.agg #[.slice A xs.length c, .slice B ys.length d], .int .i64 p] w fun e w' => e = .returned (.bool (hasOk xs ys p)) ∧ Below w.heap.size w w' := by
  have hx := h.le
  unfold BIG at hx
  by_cases h1 : 0 ≤ p
  · by_cases h2 : p < (xs.length : Int)
    · have HN := Lib.hid (show hasOk xs ys p = famOk xs ys by rw [hasOk, inP_iff.2 ⟨h1, h2⟩]; rfl)
      go_enter Try.func37, Try.ntmps37
      go_wp2_with (go_at_call 57; (with_reducible refine (specIsFamily_any _ _ _ _ lo hi xs ys _ (h.same (by (with_reducible repeat' first | exact Same.refl _ _ _ | assumption | (refine Same.setCell ?_ (by first | omega | (simp; omega) | (simp; done) | (dsimp only; omega)) _) | (refine Same.alloc ?_ (by first | omega | (simp; omega) | (simp; done) | (dsimp only; omega)) _) | (refine Same.drewN ?_ _) | (refine Same.drew ?_)))) (h'.same (by (with_reducible repeat' first | exact Same.refl _ _ _ | assumption | (refine Same.setCell ?_ (by first | omega | (simp; omega) | (simp; done) | (dsimp only; omega)) _) | (refine Same.alloc ?_ (by first | omega | (simp; omega) | (simp; done) | (dsimp only; omega)) _) | (refine Same.drewN ?_ _) | (refine Same.drew ?_)))) (by first | omega | (simp; omega) | (simp; done) | (dsimp only; omega)) hs).mono ?_); rintro e w1 ⟨rfl, hb1⟩)
      go_ret
      exact ⟨ret_bool (by rw [HN.out]), by (with_reducible repeat' first | exact Below.refl _ _ | assumption | (refine Below.setCell ?_ (by first | omega | (simp; omega) | (simp; done) | (dsimp only; omega)) _) | (refine Below.alloc ?_ (by first | omega | (simp; omega) | (simp; done) | (dsimp only; omega)) _) | (refine below_drewN ?_ _) | (refine Below.drew ?_) | (refine Below.trans ?_ (hb1.mono (by first | omega | (simp; omega) | (simp; done) | (dsimp only; omega)))))⟩
    · have HN := Lib.hid (show hasOk xs ys p = false by rw [hasOk, inP, decide_eq_false (by omega)]; rfl)
      go_enter Try.func37, Try.ntmps37
      go_wp2
      go_ret
      exact ⟨ret_bool HN.out.symm, by (with_reducible repeat' first | exact Below.refl _ _ | assumption | (refine Below.setCell ?_ (by first | omega | (simp; omega) | (simp; done) | (dsimp only; omega)) _) | (refine Below.alloc ?_ (by first | omega | (simp; omega) | (simp; done) | (dsimp only; omega)) _) | (refine below_drewN ?_ _) | (refine Below.drew ?_))⟩
  · have HN := Lib.hid (show hasOk xs ys p = false by rw [hasOk, inP, decide_eq_false (by omega)]; rfl)
    go_enter Try.func37, Try.ntmps37
    go_wp2
    go_ret
    exact ⟨ret_bool HN.out.symm, by (with_reducible repeat' first | exact Below.refl _ _ | assumption | (refine Below.setCell ?_ (by first | omega | (simp; omega) | (simp; done) | (dsimp only; omega)) _) | (refine Below.alloc ?_ (by first | omega | (simp; omega) | (simp; done) | (dsimp only; omega)) _) | (refine below_drewN ?_ _) | (refine Below.drew ?_))⟩

set_option maxHeartbeats 2000000 in
theorem l1Elder_any (A B : Option Addr) (c d lo hi : Nat) (xs : List Person) (ys : List Union) (a b : Nat) (w : World) (h : EPerson.AS w lo hi A xs) (_h' : EUnion.AS w lo hi B ys) (hh : hi ≤ w.heap.size) (ha : a < xs.length) (hb : b < xs.length) :
    Calls Try.prog 64 #[.agg #[.slice A xs.length c, .slice B ys.length d], .int .i64 a, .int .i64 b] w fun e w' => e = .returned (.bool (elderAt xs a b)) ∧ Below w.heap.size w w' := by
  have hx := h.le
  unfold BIG at hx
  obtain ⟨g, off, ⟨x0, x1, x2, x3, x4, x5⟩, rfl, g1, g2, _, hxk, _, _, _, _, hc4, _⟩ := APerson.at_ h ha
  obtain ⟨g', off', ⟨y0, y1, y2, y3, y4, y5⟩, he, _, _, _, hyk, _, _, _, _, hd4, _⟩ := APerson.at_ h hb
  injection he with he; injection he with he1 he2 _; subst he1; subst he2
  rw [elderAt_of hxk hyk]
  clear hxk hyk
  simp only at hc4 hd4 ⊢
  generalize hR : (decide (x4 < y4) || (decide (x4 = y4) && decide (a < b))) = R
  have HR := Lib.hid hR; clear hR
  have lb : g < w.heap.size := by omega
  have i1 : (0 : Int) ≤ (a : Int) ∧ (a : Int) < (xs.length : Int) := by omega
  have i2 : (0 : Int) ≤ (b : Int) ∧ (b : Int) < (xs.length : Int) := by omega
  rcases (by omega : x4 < y4 ∨ x4 = y4 ∧ a < b ∨ x4 = y4 ∧ b ≤ a ∨ y4 < x4) with q | ⟨q, q'⟩ | ⟨q, q'⟩ | q
  · have HN := Lib.hid (HR.out.symm.trans (show _ = true by simp [q]))
    go_enter Try.func64, Try.ntmps64
    go_wp2
    go_ret
    exact ⟨ret_bool HN.out.symm, by (with_reducible repeat' first | exact Below.refl _ _ | assumption | (refine Below.setCell ?_ (by first | omega | (simp; omega) | (simp; done) | (dsimp only; omega)) _) | (refine Below.alloc ?_ (by first | omega | (simp; omega) | (simp; done) | (dsimp only; omega)) _) | (refine below_drewN ?_ _) | (refine Below.drew ?_))⟩
  · subst q
    have HN := Lib.hid (HR.out.symm.trans (show _ = true by simp [q']))
    have n1 : (x4 == x4) = true := by simp
    go_enter Try.func64, Try.ntmps64
    go_wp2
    go_ret
    exact ⟨ret_bool (by rw [HN.out]; try (simp; omega)), by (with_reducible repeat' first | exact Below.refl _ _ | assumption | (refine Below.setCell ?_ (by first | omega | (simp; omega) | (simp; done) | (dsimp only; omega)) _) | (refine Below.alloc ?_ (by first | omega | (simp; omega) | (simp; done) | (dsimp only; omega)) _) | (refine below_drewN ?_ _) | (refine Below.drew ?_))⟩
  · subst q
    have HN := Lib.hid (HR.out.symm.trans (show _ = false by simp; omega))
    have n1 : (x4 == x4) = true := by simp
    go_enter Try.func64, Try.ntmps64
    go_wp2
    go_ret
    exact ⟨ret_bool (by rw [HN.out]; try (simp; omega)), by (with_reducible repeat' first | exact Below.refl _ _ | assumption | (refine Below.setCell ?_ (by first | omega | (simp; omega) | (simp; done) | (dsimp only; omega)) _) | (refine Below.alloc ?_ (by first | omega | (simp; omega) | (simp; done) | (dsimp only; omega)) _) | (refine below_drewN ?_ _) | (refine Below.drew ?_))⟩
  · have HN := Lib.hid (HR.out.symm.trans (show _ = false by simp; omega))
    have n1 : (x4 == y4) = false := by simp; omega
    go_enter Try.func64, Try.ntmps64
    go_wp2
    go_ret
    exact ⟨ret_bool (by rw [HN.out]; try (simp; omega)), by (with_reducible repeat' first | exact Below.refl _ _ | assumption | (refine Below.setCell ?_ (by first | omega | (simp; omega) | (simp; done) | (dsimp only; omega)) _) | (refine Below.alloc ?_ (by first | omega | (simp; omega) | (simp; done) | (dsimp only; omega)) _) | (refine below_drewN ?_ _) | (refine Below.drew ?_))⟩

end Go.Proofs.Ythpcippgifmabaa

/-! ## KinS -/
namespace Go.Proofs.Ythpcippgifmabaa
set_option maxRecDepth 100000
open Go.RowKit

set_option maxHeartbeats 4000000 in
theorem l1Parents_any (A B : Option Addr) (c d lo hi : Nat) (xs : List Person) (ys : List Union) (p : Nat) (w : World) (h : EPerson.AS w lo hi A xs) (_h' : EUnion.AS w lo hi B ys) (hh : hi ≤ w.heap.size) (hp : p < xs.length) :
    Calls Try.prog 71 #[.agg #[.slice A xs.length c, .slice B ys.length d], .int .i64 p] w (RetIntS w (parentsAt xs p)) := by
  have hx := h.le
  unfold BIG at hx
  obtain ⟨b, off, ⟨x0, x1, x2, x3, x4, x5⟩, rfl, g1, g2, _, hxk, _, _, hc2, hc3, _, _⟩ := APerson.at_ h hp
  rw [parentsAt_of hxk]
  clear hxk
  simp only at hc2 hc3
  have lb : b < w.heap.size := by omega
  have i1 : (0 : Int) ≤ (p : Int) ∧ (p : Int) < (xs.length : Int) := by omega
  generalize hR : parentsL ⟨x0, x1, x2, x3, x4, x5⟩ = R
  have HR := Lib.hid hR; clear hR
  go_enter Try.func71, Try.ntmps71
  go_upto_region 1 with fail
  generalize hW : w.alloc (.cells #[.slice (some ⟨b, off, none⟩) xs.length c, .slice B ys.length d] 26) = W
  have e0 : W.cell? ⟨w.heap.size, 0, none⟩ = some (.slice (some ⟨b, off, none⟩) xs.length c) := by subst hW; simp [go_sem]
  have hbW : Below w.heap.size w W := by subst hW; (with_reducible repeat' first | exact Below.refl _ _ | assumption | (refine Below.setCell ?_ (by first | omega | (simp; omega) | (simp; done) | (dsimp only; omega)) _) | (refine Below.alloc ?_ (by first | omega | (simp; omega) | (simp; done) | (dsimp only; omega)) _) | (refine below_drewN ?_ _) | (refine Below.drew ?_))
  have zW2 : w.heap.size < W.heap.size := by subst hW; simp
  replace hc2 := (hbW.cell (p := ⟨b, off + p * 6 + 2, none⟩) lb).trans hc2
  replace hc3 := (hbW.cell (p := ⟨b, off + p * 6 + 3, none⟩) lb).trans hc3
  have lbW : b < W.heap.size := by omega
  clear hW
  have ho : EInt.OS (W.alloc (.cells #[] 3)) W.heap.size (W.alloc (.cells #[] 3)).heap.size (.slice (some ⟨W.heap.size, 0, none⟩) 0 0) [] := Elem.OS.made0 W
  by_cases f0 : 0 ≤ x2 <;> by_cases m0 : 0 ≤ x3
  · have HN := Lib.hid (HR.out.symm.trans (show _ = [x2, x3] by simp [parentsL, f0, m0]))
    go_wp2_with (first
      | (at_builtin; refine wpList_app1 tyIntS _ ([] : List Int) _ [.int .i64 _] ⟨W.heap.size + 1, 0, none⟩ 1 (lo := W.heap.size) (hi := (W.alloc (.cells #[] 3)).heap.size) (ho.same (by (with_reducible repeat' first | exact Same.refl _ _ _ | assumption | (refine Same.setCell ?_ (by first | omega | (simp; omega) | (simp; done) | (dsimp only; omega)) _) | (refine Same.alloc ?_ (by first | omega | (simp; omega) | (simp; done) | (dsimp only; omega)) _) | (refine Same.drewN ?_ _) | (refine Same.drew ?_)))) rfl (by (first | omega | (simp; omega) | (simp; done) | (dsimp only; omega))) (by simp) rfl _ _ rfl rfl rfl rfl (cell_one_at _ _ _ _ (by simp)) (by first | rfl | (simp; done) | (simp; rfl)) (by simp) (by decide) (fun A' c' w5 ho5 hg5 hc5 hm5 => ?_); have hb5 : Below W.heap.size W w5 := Below.grown (w := (W.alloc (.cells #[] 3)).alloc _) (by (with_reducible repeat' first | exact Below.refl _ _ | assumption | (refine Below.setCell ?_ (by first | omega | (simp; omega) | (simp; done) | (dsimp only; omega)) _) | (refine Below.alloc ?_ (by first | omega | (simp; omega) | (simp; done) | (dsimp only; omega)) _) | (refine below_drewN ?_ _) | (refine Below.drew ?_))) hg5 (by first | (simp; done) | (simp; omega)) (fun k hk => (ho.blkv k hk).1); replace e0 := (hb5.cell (p := ⟨w.heap.size, 0, none⟩) zW2).trans e0; replace hc3 := (hb5.cell (p := ⟨b, off + p * 6 + 3, none⟩) lbW).trans hc3; have z5 := hb5.size; have lb5 : b < w5.heap.size := (by omega); have l5 : w.heap.size < w5.heap.size := (by omega))
      | (at_builtin; refine wpList_app1 tyIntS _ [x2] _ [.int .i64 _] ⟨w5.heap.size, 0, none⟩ 1 (lo := W.heap.size) (hi := w5.heap.size) (ho5.same (by (with_reducible repeat' first | exact Same.refl _ _ _ | assumption | (refine Same.setCell ?_ (by first | omega | (simp; omega) | (simp; done) | (dsimp only; omega)) _) | (refine Same.alloc ?_ (by first | omega | (simp; omega) | (simp; done) | (dsimp only; omega)) _) | (refine Same.drewN ?_ _) | (refine Same.drew ?_)))) rfl (by (first | omega | (simp; omega) | (simp; done) | (dsimp only; omega))) z5 rfl _ _ rfl rfl rfl rfl (cell_one_at _ _ _ _ (by simp)) (by first | rfl | (simp; done) | (simp; rfl)) (by simp) (by decide) (fun A' c' w6 ho6 hg6 hc6 hm6 => ?_); have hb6 : Below W.heap.size W w6 := Below.grown (w := w5.alloc _) (by (with_reducible repeat' first | exact Below.refl _ _ | assumption | (refine Below.setCell ?_ (by first | omega | (simp; omega) | (simp; done) | (dsimp only; omega)) _) | (refine Below.alloc ?_ (by first | omega | (simp; omega) | (simp; done) | (dsimp only; omega)) _) | (refine below_drewN ?_ _) | (refine Below.drew ?_) | (refine Below.trans ?_ (hb5.mono (by first | omega | (simp; omega) | (simp; done) | (dsimp only; omega)))))) hg6 (by simp; omega) (fun k hk => (ho5.blkv k hk).1)))
    all_goals
      go_ret
      rw [HN.out]
      exact ⟨_, _, rfl, ho6.mono (by omega) (Nat.le_refl _), hbW.trans (hb6.mono (by omega))⟩
  · have HN := Lib.hid (HR.out.symm.trans (show _ = [x2] by simp [parentsL, f0, m0]))
    go_wp2_with (at_builtin; refine wpList_app1 tyIntS _ ([] : List Int) _ [.int .i64 _] ⟨W.heap.size + 1, 0, none⟩ 1 (lo := W.heap.size) (hi := (W.alloc (.cells #[] 3)).heap.size) (ho.same (by (with_reducible repeat' first | exact Same.refl _ _ _ | assumption | (refine Same.setCell ?_ (by first | omega | (simp; omega) | (simp; done) | (dsimp only; omega)) _) | (refine Same.alloc ?_ (by first | omega | (simp; omega) | (simp; done) | (dsimp only; omega)) _) | (refine Same.drewN ?_ _) | (refine Same.drew ?_)))) rfl (by (first | omega | (simp; omega) | (simp; done) | (dsimp only; omega))) (by simp) rfl _ _ rfl rfl rfl rfl (cell_one_at _ _ _ _ (by simp)) (by first | rfl | (simp; done) | (simp; rfl)) (by simp) (by decide) (fun A' c' w5 ho5 hg5 hc5 hm5 => ?_); have hb5 : Below W.heap.size W w5 := Below.grown (w := (W.alloc (.cells #[] 3)).alloc _) (by (with_reducible repeat' first | exact Below.refl _ _ | assumption | (refine Below.setCell ?_ (by first | omega | (simp; omega) | (simp; done) | (dsimp only; omega)) _) | (refine Below.alloc ?_ (by first | omega | (simp; omega) | (simp; done) | (dsimp only; omega)) _) | (refine below_drewN ?_ _) | (refine Below.drew ?_))) hg5 (by first | (simp; done) | (simp; omega)) (fun k hk => (ho.blkv k hk).1); replace e0 := (hb5.cell (p := ⟨w.heap.size, 0, none⟩) zW2).trans e0; replace hc3 := (hb5.cell (p := ⟨b, off + p * 6 + 3, none⟩) lbW).trans hc3; have z5 := hb5.size; have lb5 : b < w5.heap.size := (by omega); have l5 : w.heap.size < w5.heap.size := (by omega))
    all_goals
      go_ret
      rw [HN.out]
      exact ⟨_, _, rfl, ho5.mono (by omega) (Nat.le_refl _), hbW.trans (hb5.mono (by omega))⟩
  · have HN := Lib.hid (HR.out.symm.trans (show _ = [x3] by simp [parentsL, f0, m0]))
    go_wp2_with (at_builtin; refine wpList_app1 tyIntS _ ([] : List Int) _ [.int .i64 _] ⟨W.heap.size + 1, 0, none⟩ 1 (lo := W.heap.size) (hi := (W.alloc (.cells #[] 3)).heap.size) (ho.same (by (with_reducible repeat' first | exact Same.refl _ _ _ | assumption | (refine Same.setCell ?_ (by first | omega | (simp; omega) | (simp; done) | (dsimp only; omega)) _) | (refine Same.alloc ?_ (by first | omega | (simp; omega) | (simp; done) | (dsimp only; omega)) _) | (refine Same.drewN ?_ _) | (refine Same.drew ?_)))) rfl (by (first | omega | (simp; omega) | (simp; done) | (dsimp only; omega))) (by simp) rfl _ _ rfl rfl rfl rfl (cell_one_at _ _ _ _ (by simp)) (by first | rfl | (simp; done) | (simp; rfl)) (by simp) (by decide) (fun A' c' w5 ho5 hg5 hc5 hm5 => ?_); have hb5 : Below W.heap.size W w5 := Below.grown (w := (W.alloc (.cells #[] 3)).alloc _) (by (with_reducible repeat' first | exact Below.refl _ _ | assumption | (refine Below.setCell ?_ (by first | omega | (simp; omega) | (simp; done) | (dsimp only; omega)) _) | (refine Below.alloc ?_ (by first | omega | (simp; omega) | (simp; done) | (dsimp only; omega)) _) | (refine below_drewN ?_ _) | (refine Below.drew ?_))) hg5 (by first | (simp; done) | (simp; omega)) (fun k hk => (ho.blkv k hk).1); replace e0 := (hb5.cell (p := ⟨w.heap.size, 0, none⟩) zW2).trans e0; replace hc3 := (hb5.cell (p := ⟨b, off + p * 6 + 3, none⟩) lbW).trans hc3; have z5 := hb5.size; have lb5 : b < w5.heap.size := (by omega); have l5 : w.heap.size < w5.heap.size := (by omega))
    all_goals
      go_ret
      rw [HN.out]
      exact ⟨_, _, rfl, ho5.mono (by omega) (Nat.le_refl _), hbW.trans (hb5.mono (by omega))⟩
  · have HN := Lib.hid (HR.out.symm.trans (show _ = [] by simp [parentsL, f0, m0]))
    go_wp2
    go_ret
    rw [HN.out]
    exact ⟨_, _, rfl, ho.mono (by omega) (by simp), by (with_reducible repeat' first | exact Below.refl _ _ | assumption | (refine Below.setCell ?_ (by first | omega | (simp; omega) | (simp; done) | (dsimp only; omega)) _) | (refine Below.alloc ?_ (by first | omega | (simp; omega) | (simp; done) | (dsimp only; omega)) _) | (refine below_drewN ?_ _) | (refine Below.drew ?_) | (refine Below.trans ?_ (hbW.mono (by first | omega | (simp; omega) | (simp; done) | (dsimp only; omega)))))⟩

end Go.Proofs.Ythpcippgifmabaa
