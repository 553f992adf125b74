/-
  A rewriting step, in the reference and in the program.
-/
import Derived.Test.YtnanlbglgflecaaRewP
import Derived.Test.YtnanlbglgflecaaConvRules
namespace Go.Proofs.Ytnanlbglgflecaa
set_option maxRecDepth 100000
open Go.RowKit

def RetStep4 (w : World) (m : KinType × Int × Int × Bool) (e : Ending) (w' : World) : Prop :=
  ∃ (A : Option Addr) (c : Nat), e = .returned (.tuple #[.agg #[.int .i64 m.1.ego, .slice A m.1.steps.length c], .int .i64 m.2.1, .int .i64 m.2.2.1, .bool m.2.2.2]) ∧ EStep.OS w' w.heap.size w'.heap.size (.slice A m.1.steps.length c) m.1.steps ∧ Below w.heap.size w w'
theorem RetStep4.zero {w w' : World} (h : Below w.heap.size w w') : RetStep4 w (zeroT, 0, 0, false) (.returned (.tuple #[.agg #[.int .i64 0, .slice none 0 0], .int .i64 0, .int .i64 0, .bool false])) w' := ⟨none, 0, rfl, Elem.OS.nil, h⟩
def StepRel (rs : List Rule) (t : KinType) (W : World) (i : Value) (wr : World) : Prop := ∃ k : Nat, k ≤ t.steps.length ∧ i = .int .i64 k ∧ Below W.heap.size W wr ∧ ∀ m, m < k → ∀ r ∈ rs, fitsM r t m = false
def Inn4Rel (rs : List Rule) (t : KinType) (n : Nat) (W : World) (j : Value) (wr : World) : Prop := ∃ k : Nat, k ≤ rs.length ∧ j = .int .i64 k ∧ Below W.heap.size W wr ∧ ∀ m q, m < k → rs[m]? = some q → fitsM q t n = false
theorem noFit_succ {rs : List Rule} {t : KinType} {i : Nat} (h : ∀ m, m < i → ∀ r ∈ rs, fitsM r t m = false) (h' : ∀ m q, m < rs.length → rs[m]? = some q → fitsM q t i = false) : ∀ m, m < i + 1 → ∀ r ∈ rs, fitsM r t m = false := by
  intro m hm r hr
  by_cases hmi : m = i
  · subst hmi
    obtain ⟨k, hk⟩ := List.getElem?_of_mem hr
    exact h' k r (List.getElem?_eq_some_iff.1 hk).1 hk
  · exact h m (by omega) r hr
theorem noFit_next {rs : List Rule} {t : KinType} {k i : Nat} {x : Rule} (h : ∀ m q, m < k → rs[m]? = some q → fitsM q t i = false) (hx : rs[k]? = some x) (hf : fitsM x t i = false) : ∀ m q, m < k + 1 → rs[m]? = some q → fitsM q t i = false := by
  intro m q hm hq
  by_cases hmk : m = k
  · subst hmk
    rw [hx] at hq
    injection hq with hq
    subst hq
    exact hf
  · exact h m q (by omega) hq

set_option maxHeartbeats 4000000 in
theorem l4Step_any (Ar : Option Addr) (cr lo hi : Nat) (rs : List Rule) (s : Int) (C : Option Addr) (ec lo' hi' : Nat) (zs : List Step) (w : World) (h : ERule.AS w lo hi Ar rs) (h2 : EStep.AS w lo' hi' C zs) (hh : hi ≤ w.heap.size) (hh' : hi' ≤ w.heap.size) (hec : zs.length ≤ ec ∧ ec ≤ maxLen) (hr : rulesOk rs = true) (ht : typeOk ⟨s, zs⟩ = true) :
    Calls Try.prog 104 #[.slice Ar rs.length cr, .agg #[.int .i64 s, .slice C zs.length ec]] w (RetStep4 w (stepM rs ⟨s, zs⟩)) := by
  have hx := h.le
  unfold BIG at hx
  have hzl := typeOk_len ht
  simp only at hzl
  have HR := Lib.hid hr; have HT := Lib.hid ht; have HEC := Lib.hid hec; clear hr ht hec
  generalize hM : stepM rs ⟨s, zs⟩ = M
  have HM := Lib.hid hM; clear hM
  go_enter Try.func104, Try.ntmps104
  go_wp2
  generalize hW : (w.alloc (.cells #[.int .i64 s, .slice C zs.length ec] 29)).alloc (.cells #[.int .i64 0, .slice none 0 0] 29) = W
  have b0 : W.cell? ⟨w.heap.size, 0, none⟩ = some (.int .i64 s) := by subst hW; simp [go_sem]
  have b1 : W.cell? ⟨w.heap.size, 1, none⟩ = some (.slice C zs.length ec) := by subst hW; simp [go_sem]
  have R : Blk W (w.heap.size + 1) 29 #[.int .i64 0, .slice none 0 0] := by subst hW; exact Blk.new _ (by simp)
  have hb : Below w.heap.size w W := by subst hW; (with_reducible repeat' first | exact Below.refl _ _ | assumption | (refine Below.setCell ?_ (by first | omega | (simp; omega) | (simp; done) | (dsimp only; omega)) _) | (refine Below.alloc ?_ (by first | omega | (simp; omega) | (simp; done) | (dsimp only; omega)) _) | (refine below_drewN ?_ _) | (refine Below.drew ?_))
  have z0 : w.heap.size + 1 + 1 ≤ W.heap.size := by subst hW; simp
  clear hW
  replace h := h.same (Same.of_below hb hh); replace h2 := h2.same (Same.of_below hb hh')
  go_loopw [14] (fun i wr => StepRel rs ⟨s, zs⟩ W i wr) (fun i _ => zs.length - (intOf i).toNat)
  case atStart => exact ⟨0, Nat.zero_le _, rfl, Below.refl _ _, fun m hm => absurd hm (Nat.not_lt_zero _)⟩
  case round =>
    obtain ⟨i, hi0, rfl, hbw, hno⟩ := hrel
    have HNO := Lib.hid hno; clear hno
    simp only at hi0
    have z1 := hbw.size
    by_cases hlt : i < zs.length
    · go_wp2
      obtain ⟨wo, rfl⟩ : ∃ wo : World, wo = wr := ⟨_, rfl⟩
      go_loopw [19] (fun j w2 => Inn4Rel rs ⟨s, zs⟩ i W j w2) (fun j _ => rs.length - (intOf j).toNat)
      case atStart => exact ⟨0, Nat.zero_le _, rfl, hbw, fun m q hm => absurd hm (Nat.not_lt_zero _)⟩
      case round =>
        obtain ⟨k, hk, rfl, hb2, hnk⟩ := hrel
        have HNK := Lib.hid hnk; clear hnk
        have z2 := hb2.size
        by_cases hlk : k < rs.length
        · obtain ⟨b, off, ⟨x0, x1, x2, x3, x4⟩, A1, c1, A2, c2, rfl, g1, g2, _, hxk, hc0, hc1, hc2, hc3, hc4, s1, s2, hsx⟩ := ARule.at_ (h.same (Same.of_below hb2 (by first | omega | (simp; omega) | (simp; done) | (dsimp only; omega)))) hlk
          simp only at hc0 hc1 hc2 hc3 hc4 s1 s2 hsx
          have hok := rulesOk_at HR.out hxk
          obtain ⟨_, _, _, _, p1, p2, l1, l2, l3⟩ := ruleOk_parts hok
          simp only at p1 p2 l1 l2 l3
          have HXK := Lib.hid hxk; clear hxk hok
          have lb : b < wr.heap.size := by omega
          have h2r := h2.same (Same.of_below hb2 (by first | omega | (simp; omega) | (simp; done) | (dsimp only; omega)))
          have b0r := (hb2.cell (p := ⟨w.heap.size, 0, none⟩) (by first | omega | (simp; omega) | (simp; done) | (dsimp only; omega))).trans b0
          have b1r := (hb2.cell (p := ⟨w.heap.size, 1, none⟩) (by first | omega | (simp; omega) | (simp; done) | (dsimp only; omega))).trans b1
          have Rr := R.below hb2 (by first | omega | (simp; omega) | (simp; done) | (dsimp only; omega))
          have ja : (0 : Int) ≤ (i : Int) := by omega
          have lw0 : w.heap.size < wr.heap.size := by omega
          go_wp2_with fail
          generalize hW6 : wr.alloc (.cells #[.string x0, .int .i64 x1, .int .i64 x2, .slice A1 x3.length c1, .slice A2 x4.length c2] 51) = W6
          have q0 : W6.cell? ⟨wr.heap.size, 0, none⟩ = some (.string x0) := by subst hW6; simp [go_sem]
          have q1 : W6.cell? ⟨wr.heap.size, 1, none⟩ = some (.int .i64 x1) := by subst hW6; simp [go_sem]
          have q2 : W6.cell? ⟨wr.heap.size, 2, none⟩ = some (.int .i64 x2) := by subst hW6; simp [go_sem]
          have q3 : W6.cell? ⟨wr.heap.size, 3, none⟩ = some (.slice A1 x3.length c1) := by subst hW6; simp [go_sem]
          have q4 : W6.cell? ⟨wr.heap.size, 4, none⟩ = some (.slice A2 x4.length c2) := by subst hW6; simp [go_sem]
          have b6 : Below wr.heap.size wr W6 := by subst hW6; (with_reducible repeat' first | exact Below.refl _ _ | assumption | (refine Below.setCell ?_ (by first | omega | (simp; omega) | (simp; done) | (dsimp only; omega)) _) | (refine Below.alloc ?_ (by first | omega | (simp; omega) | (simp; done) | (dsimp only; omega)) _) | (refine below_drewN ?_ _) | (refine Below.drew ?_))
          have z6 : wr.heap.size + 1 ≤ W6.heap.size := by subst hW6; simp
          clear hW6 hc0 hc1 hc2 hc3 hc4
          replace s1 := s1.same (Same.of_below b6 (by first | omega | (simp; omega) | (simp; done) | (dsimp only; omega))); replace s2 := s2.same (Same.of_below b6 (by first | omega | (simp; omega) | (simp; done) | (dsimp only; omega)))
          replace h2r := h2r.same (Same.of_below b6 (by first | omega | (simp; omega) | (simp; done) | (dsimp only; omega)))
          replace b0r := (b6.cell (p := ⟨w.heap.size, 0, none⟩) (by first | omega | (simp; omega) | (simp; done) | (dsimp only; omega))).trans b0r
          replace b1r := (b6.cell (p := ⟨w.heap.size, 1, none⟩) (by first | omega | (simp; omega) | (simp; done) | (dsimp only; omega))).trans b1r
          replace Rr := Rr.below b6 (by first | omega | (simp; omega) | (simp; done) | (dsimp only; omega))
          have hb6 : Below W.heap.size W W6 := hb2.trans (b6.mono (by first | omega | (simp; omega) | (simp; done) | (dsimp only; omega)))
          clear b6 hb2 hbw
          obtain ⟨w6, hw6⟩ : ∃ w6 : Nat, w6 = wr.heap.size := ⟨_, rfl⟩
          rw [← hw6] at q0 q1 q2 q3 q4 ⊢
          have lw6 : w6 < W6.heap.size := by omega
          have lw00 : w.heap.size < W6.heap.size := by omega
          have lww : wr.heap.size < W6.heap.size := by omega
          have HW6 := Lib.hid hw6; clear hw6
          cases hf : fitsM ⟨x0, x1, x2, x3, x4⟩ ⟨s, zs⟩ i with
          | false =>
            have HF := Lib.hid hf; clear hf
            refine (l4Fits_any x0 x1 x2 A1 A2 c1 c2 lo hi x3 x4 s C ec lo' hi' zs i _ s1 h2r (by first | omega | (simp; omega) | (simp; done) | (dsimp only; omega)) (by first | omega | (simp; omega) | (simp; done) | (dsimp only; omega)) (by omega) ⟨p1, p2⟩ l2 HT.out).mono ?_
            rintro e w7 ⟨rfl, hb7⟩
            simp only [HF.out]
            go_wp2_with fail
            exact ⟨⟨k + 1, by omega, by go_num, hb6.trans (hb7.mono (by first | omega | (simp; omega) | (simp; done) | (dsimp only; omega))), noFit_next HNK.out HXK.out HF.out⟩, by simp [intOf]; omega⟩
          | true =>
            have hf0 := hf
            simp only [fitsM, Bool.and_eq_true, decide_eq_true_eq] at hf
            have hj : i + x3.length ≤ zs.length := by have := hf.1.2; (try simp only at this); omega
            have HMM := Lib.hid (stepM_at (t := ⟨s, zs⟩) hlt HXK.out HNK.out hf0 HNO.out)
            have HF := Lib.hid hf0; clear hf hf0
            have hM : M = (replM ⟨x0, x1, x2, x3, x4⟩ ⟨s, zs⟩ i, (k : Int), (i : Int), true) := by rw [← HM.out]; exact HMM.out
            subst hM
            clear HM HMM
            refine (l4Fits_any x0 x1 x2 A1 A2 c1 c2 lo hi x3 x4 s C ec lo' hi' zs i _ s1 h2r (by first | omega | (simp; omega) | (simp; done) | (dsimp only; omega)) (by first | omega | (simp; omega) | (simp; done) | (dsimp only; omega)) (by omega) ⟨p1, p2⟩ l2 HT.out).mono ?_
            rintro e w7 ⟨rfl, hb7⟩
            simp only [HF.out]
            have z7 := hb7.size
            replace Rr := Rr.below hb7 (by first | omega | (simp; omega) | (simp; done) | (dsimp only; omega))
            (replace q0 := (hb7.cell (by first | omega | (simp; omega) | (simp; done) | (dsimp only; omega))).trans q0; replace q1 := (hb7.cell (by first | omega | (simp; omega) | (simp; done) | (dsimp only; omega))).trans q1; replace q2 := (hb7.cell (by first | omega | (simp; omega) | (simp; done) | (dsimp only; omega))).trans q2; replace q3 := (hb7.cell (by first | omega | (simp; omega) | (simp; done) | (dsimp only; omega))).trans q3; replace q4 := (hb7.cell (by first | omega | (simp; omega) | (simp; done) | (dsimp only; omega))).trans q4; replace b0r := (hb7.cell (by first | omega | (simp; omega) | (simp; done) | (dsimp only; omega))).trans b0r; replace b1r := (hb7.cell (by first | omega | (simp; omega) | (simp; done) | (dsimp only; omega))).trans b1r; replace s1 := s1.same (Same.of_below hb7 (by first | omega | (simp; omega) | (simp; done) | (dsimp only; omega))); replace s2 := s2.same (Same.of_below hb7 (by first | omega | (simp; omega) | (simp; done) | (dsimp only; omega))); replace h2r := h2r.same (Same.of_below hb7 (by first | omega | (simp; omega) | (simp; done) | (dsimp only; omega))); replace hb6 := hb6.trans (hb7.mono (by first | omega | (simp; omega) | (simp; done) | (dsimp only; omega))); have zhb7 := hb7.size; clear hb7)
            have lw7 : w6 < w7.heap.size := by omega
            have lw70 : w.heap.size < w7.heap.size := by omega
            go_wp2_with fail
            refine (l4Replace_any x0 x1 x2 A1 A2 c1 c2 lo hi x3 x4 s C ec lo' hi' zs i _ s1 s2 h2r (by first | omega | (simp; omega) | (simp; done) | (dsimp only; omega)) (by first | omega | (simp; omega) | (simp; done) | (dsimp only; omega)) HEC.out hj hzl l3 l1).mono ?_
            rintro e w8 ⟨A8, c8, rfl, ho, hb8⟩
            replace Rr := Rr.below hb8 (by first | omega | (simp; omega) | (simp; done) | (dsimp only; omega))
            have hb9 : Below w.heap.size w w8 := hb.trans ((hb6.trans (hb8.mono (by first | omega | (simp; omega) | (simp; done) | (dsimp only; omega)))).mono (by first | omega | (simp; omega) | (simp; done) | (dsimp only; omega)))
            have z8 := hb8.size
            have z9 : w.heap.size ≤ w7.heap.size := by omega
            have lw8 : w.heap.size + 1 < w8.heap.size := by omega
            generalize hrm : replM ⟨x0, x1, x2, x3, x4⟩ ⟨s, zs⟩ i = rm at *
            obtain ⟨re, rq⟩ := rm
            have HRM := Lib.hid hrm; clear hrm
            dsimp only at ho ⊢
            have f0 := Rr.free 0; have f1 := Rr.free 1; have r0 := Rr.cell (i := 0) rfl; have r1 := Rr.cell (i := 1) rfl
            go_wp2_with fail
            have R8 := Rr.set 0 (.int .i64 re)
            have RR := R8.set 1 (.slice A8 rq.length c8)
            refine bodyPost_ret (v := .tuple #[.agg #[.int .i64 re, .slice A8 rq.length c8], .int .i64 k, .int .i64 i, .bool true]) (by simp [results, Try.results104, go_sem, RR.cell (i := 0) rfl, RR.cell (i := 1) rfl]) rfl ?_
            have hsm : Same w7.heap.size w8.heap.size w8 ((w8.setCell ⟨w.heap.size + 1, 0, none⟩ (.int .i64 re)).setCell ⟨w.heap.size + 1, 1, none⟩ (.slice A8 rq.length c8)) := by (with_reducible repeat' first | exact Same.refl _ _ _ | assumption | (refine Same.setCell ?_ (by first | omega | (simp; omega) | (simp; done) | (dsimp only; omega)) _) | (refine Same.alloc ?_ (by first | omega | (simp; omega) | (simp; done) | (dsimp only; omega)) _) | (refine Same.drewN ?_ _) | (refine Same.drew ?_))
            rw [HRM.out]
            refine ⟨A8, c8, rfl, ?_, by (with_reducible repeat' first | exact Below.refl _ _ | assumption | (refine Below.setCell ?_ (by first | omega | (simp; omega) | (simp; done) | (dsimp only; omega)) _) | (refine Below.alloc ?_ (by first | omega | (simp; omega) | (simp; done) | (dsimp only; omega)) _) | (refine below_drewN ?_ _) | (refine Below.drew ?_) | (refine Below.trans ?_ (hb9.mono (by first | omega | (simp; omega) | (simp; done) | (dsimp only; omega)))))⟩
            exact (ho.same hsm).mono (by omega) (by simp [World.setCell])
        · obtain rfl : k = rs.length := by omega
          go_wp2
          exact ⟨⟨i + 1, by (try simp only); omega, by go_num, hb2, noFit_succ HNO.out HNK.out⟩, by simp [intOf]; omega⟩
    · obtain rfl : i = zs.length := by omega
      have hM : M = (zeroT, 0, 0, false) := by rw [← HM.out]; exact stepM_none HNO.out
      subst hM
      clear HM
      replace R := R.below hbw (by first | omega | (simp; omega) | (simp; done) | (dsimp only; omega))
      have hb1 : Below w.heap.size w wr := hb.trans (hbw.mono (by first | omega | (simp; omega) | (simp; done) | (dsimp only; omega)))
      have f0 := R.free 0; have f1 := R.free 1; have r0 := R.cell (i := 0) rfl; have r1 := R.cell (i := 1) rfl
      have lw8 : w.heap.size + 1 < wr.heap.size := by omega
      clear hbw
      go_wp2_with fail
      have RR := (R.set 0 (.int .i64 0)).set 1 (.slice none 0 0)
      exact bodyPost_ret (v := .tuple #[.agg #[.int .i64 0, .slice none 0 0], .int .i64 0, .int .i64 0, .bool false]) (by simp [results, Try.results104, go_sem, RR.cell (i := 0) rfl, RR.cell (i := 1) rfl]) rfl (RetStep4.zero (by (with_reducible repeat' first | exact Below.refl _ _ | assumption | (refine Below.setCell ?_ (by first | omega | (simp; omega) | (simp; done) | (dsimp only; omega)) _) | (refine Below.alloc ?_ (by first | omega | (simp; omega) | (simp; done) | (dsimp only; omega)) _) | (refine below_drewN ?_ _) | (refine Below.drew ?_) | (refine Below.trans ?_ (hb1.mono (by first | omega | (simp; omega) | (simp; done) | (dsimp only; omega)))))))

set_option maxHeartbeats 4000000 in
theorem rewrite_any (Ar : Option Addr) (cr lo hi : Nat) (rs : List Rule) (s : Int) (C : Option Addr) (ec lo' hi' : Nat) (zs : List Step) (w : World) (h : ERule.AS w lo hi Ar rs) (h2 : EStep.AS w lo' hi' C zs) (hh : hi ≤ w.heap.size) (hh' : hi' ≤ w.heap.size) (hec : zs.length ≤ ec ∧ ec ≤ maxLen) (hr : rulesOk rs = true) (ht : typeOk ⟨s, zs⟩ = true) :
    Calls Try.prog 108 #[.slice Ar rs.length cr, .agg #[.int .i64 s, .slice C zs.length ec]] w (RetStep4 w (stepM rs ⟨s, zs⟩)) := by
  have hx := h.le
  unfold BIG at hx
  have hzl := typeOk_len ht
  simp only at hzl
  have HR := Lib.hid hr; have HT := Lib.hid ht; have HEC := Lib.hid hec; clear hr ht hec
  generalize hM : stepM rs ⟨s, zs⟩ = M
  have HM := Lib.hid hM; clear hM
  go_enter Try.func108, Try.ntmps108
  go_wp2
  generalize hW : (w.alloc (.cells #[.int .i64 s, .slice C zs.length ec] 29)).alloc (.cells #[.int .i64 0, .slice none 0 0] 29) = W
  have b0 : W.cell? ⟨w.heap.size, 0, none⟩ = some (.int .i64 s) := by subst hW; simp [go_sem]
  have b1 : W.cell? ⟨w.heap.size, 1, none⟩ = some (.slice C zs.length ec) := by subst hW; simp [go_sem]
  have R : Blk W (w.heap.size + 1) 29 #[.int .i64 0, .slice none 0 0] := by subst hW; exact Blk.new _ (by simp)
  have hb : Below w.heap.size w W := by subst hW; (with_reducible repeat' first | exact Below.refl _ _ | assumption | (refine Below.setCell ?_ (by first | omega | (simp; omega) | (simp; done) | (dsimp only; omega)) _) | (refine Below.alloc ?_ (by first | omega | (simp; omega) | (simp; done) | (dsimp only; omega)) _) | (refine below_drewN ?_ _) | (refine Below.drew ?_))
  have z0 : w.heap.size + 1 + 1 ≤ W.heap.size := by subst hW; simp
  clear hW
  replace h := h.same (Same.of_below hb hh); replace h2 := h2.same (Same.of_below hb hh')
  go_loopw [14] (fun i wr => StepRel rs ⟨s, zs⟩ W i wr) (fun i _ => zs.length - (intOf i).toNat)
  case atStart => exact ⟨0, Nat.zero_le _, rfl, Below.refl _ _, fun m hm => absurd hm (Nat.not_lt_zero _)⟩
  case round =>
    obtain ⟨i, hi0, rfl, hbw, hno⟩ := hrel
    have HNO := Lib.hid hno; clear hno
    simp only at hi0
    have z1 := hbw.size
    by_cases hlt : i < zs.length
    · go_wp2
      obtain ⟨wo, rfl⟩ : ∃ wo : World, wo = wr := ⟨_, rfl⟩
      go_loopw [19] (fun j w2 => Inn4Rel rs ⟨s, zs⟩ i W j w2) (fun j _ => rs.length - (intOf j).toNat)
      case atStart => exact ⟨0, Nat.zero_le _, rfl, hbw, fun m q hm => absurd hm (Nat.not_lt_zero _)⟩
      case round =>
        obtain ⟨k, hk, rfl, hb2, hnk⟩ := hrel
        have HNK := Lib.hid hnk; clear hnk
        have z2 := hb2.size
        by_cases hlk : k < rs.length
        · obtain ⟨b, off, ⟨x0, x1, x2, x3, x4⟩, A1, c1, A2, c2, rfl, g1, g2, _, hxk, hc0, hc1, hc2, hc3, hc4, s1, s2, hsx⟩ := ARule.at_ (h.same (Same.of_below hb2 (by first | omega | (simp; omega) | (simp; done) | (dsimp only; omega)))) hlk
          simp only at hc0 hc1 hc2 hc3 hc4 s1 s2 hsx
          have hok := rulesOk_at HR.out hxk
          obtain ⟨_, _, _, _, p1, p2, l1, l2, l3⟩ := ruleOk_parts hok
          simp only at p1 p2 l1 l2 l3
          have HXK := Lib.hid hxk; clear hxk hok
          have lb : b < wr.heap.size := by omega
          have h2r := h2.same (Same.of_below hb2 (by first | omega | (simp; omega) | (simp; done) | (dsimp only; omega)))
          have b0r := (hb2.cell (p := ⟨w.heap.size, 0, none⟩) (by first | omega | (simp; omega) | (simp; done) | (dsimp only; omega))).trans b0
          have b1r := (hb2.cell (p := ⟨w.heap.size, 1, none⟩) (by first | omega | (simp; omega) | (simp; done) | (dsimp only; omega))).trans b1
          have Rr := R.below hb2 (by first | omega | (simp; omega) | (simp; done) | (dsimp only; omega))
          have ja : (0 : Int) ≤ (i : Int) := by omega
          have lw0 : w.heap.size < wr.heap.size := by omega
          go_wp2_with fail
          generalize hW6 : wr.alloc (.cells #[.string x0, .int .i64 x1, .int .i64 x2, .slice A1 x3.length c1, .slice A2 x4.length c2] 51) = W6
          have q0 : W6.cell? ⟨wr.heap.size, 0, none⟩ = some (.string x0) := by subst hW6; simp [go_sem]
          have q1 : W6.cell? ⟨wr.heap.size, 1, none⟩ = some (.int .i64 x1) := by subst hW6; simp [go_sem]
          have q2 : W6.cell? ⟨wr.heap.size, 2, none⟩ = some (.int .i64 x2) := by subst hW6; simp [go_sem]
          have q3 : W6.cell? ⟨wr.heap.size, 3, none⟩ = some (.slice A1 x3.length c1) := by subst hW6; simp [go_sem]
          have q4 : W6.cell? ⟨wr.heap.size, 4, none⟩ = some (.slice A2 x4.length c2) := by subst hW6; simp [go_sem]
          have b6 : Below wr.heap.size wr W6 := by subst hW6; (with_reducible repeat' first | exact Below.refl _ _ | assumption | (refine Below.setCell ?_ (by first | omega | (simp; omega) | (simp; done) | (dsimp only; omega)) _) | (refine Below.alloc ?_ (by first | omega | (simp; omega) | (simp; done) | (dsimp only; omega)) _) | (refine below_drewN ?_ _) | (refine Below.drew ?_))
          have z6 : wr.heap.size + 1 ≤ W6.heap.size := by subst hW6; simp
          clear hW6 hc0 hc1 hc2 hc3 hc4
          replace s1 := s1.same (Same.of_below b6 (by first | omega | (simp; omega) | (simp; done) | (dsimp only; omega))); replace s2 := s2.same (Same.of_below b6 (by first | omega | (simp; omega) | (simp; done) | (dsimp only; omega)))
          replace h2r := h2r.same (Same.of_below b6 (by first | omega | (simp; omega) | (simp; done) | (dsimp only; omega)))
          replace b0r := (b6.cell (p := ⟨w.heap.size, 0, none⟩) (by first | omega | (simp; omega) | (simp; done) | (dsimp only; omega))).trans b0r
          replace b1r := (b6.cell (p := ⟨w.heap.size, 1, none⟩) (by first | omega | (simp; omega) | (simp; done) | (dsimp only; omega))).trans b1r
          replace Rr := Rr.below b6 (by first | omega | (simp; omega) | (simp; done) | (dsimp only; omega))
          have hb6 : Below W.heap.size W W6 := hb2.trans (b6.mono (by first | omega | (simp; omega) | (simp; done) | (dsimp only; omega)))
          clear b6 hb2 hbw
          obtain ⟨w6, hw6⟩ : ∃ w6 : Nat, w6 = wr.heap.size := ⟨_, rfl⟩
          rw [← hw6] at q0 q1 q2 q3 q4 ⊢
          have lw6 : w6 < W6.heap.size := by omega
          have lw00 : w.heap.size < W6.heap.size := by omega
          have lww : wr.heap.size < W6.heap.size := by omega
          have HW6 := Lib.hid hw6; clear hw6
          cases hf : fitsM ⟨x0, x1, x2, x3, x4⟩ ⟨s, zs⟩ i with
          | false =>
            have HF := Lib.hid hf; clear hf
            refine (fitsAt_any x0 x1 x2 A1 A2 c1 c2 lo hi x3 x4 s C ec lo' hi' zs i _ s1 h2r (by first | omega | (simp; omega) | (simp; done) | (dsimp only; omega)) (by first | omega | (simp; omega) | (simp; done) | (dsimp only; omega)) (by omega) ⟨p1, p2⟩ l2 HT.out).mono ?_
            rintro e w7 ⟨rfl, hb7⟩
            simp only [HF.out]
            go_wp2_with fail
            exact ⟨⟨k + 1, by omega, by go_num, hb6.trans (hb7.mono (by first | omega | (simp; omega) | (simp; done) | (dsimp only; omega))), noFit_next HNK.out HXK.out HF.out⟩, by simp [intOf]; omega⟩
          | true =>
            have hf0 := hf
            simp only [fitsM, Bool.and_eq_true, decide_eq_true_eq] at hf
            have hj : i + x3.length ≤ zs.length := by have := hf.1.2; (try simp only at this); omega
            have HMM := Lib.hid (stepM_at (t := ⟨s, zs⟩) hlt HXK.out HNK.out hf0 HNO.out)
            have HF := Lib.hid hf0; clear hf hf0
            have hM : M = (replM ⟨x0, x1, x2, x3, x4⟩ ⟨s, zs⟩ i, (k : Int), (i : Int), true) := by rw [← HM.out]; exact HMM.out
            subst hM
            clear HM HMM
            refine (fitsAt_any x0 x1 x2 A1 A2 c1 c2 lo hi x3 x4 s C ec lo' hi' zs i _ s1 h2r (by first | omega | (simp; omega) | (simp; done) | (dsimp only; omega)) (by first | omega | (simp; omega) | (simp; done) | (dsimp only; omega)) (by omega) ⟨p1, p2⟩ l2 HT.out).mono ?_
            rintro e w7 ⟨rfl, hb7⟩
            simp only [HF.out]
            have z7 := hb7.size
            replace Rr := Rr.below hb7 (by first | omega | (simp; omega) | (simp; done) | (dsimp only; omega))
            (replace q0 := (hb7.cell (by first | omega | (simp; omega) | (simp; done) | (dsimp only; omega))).trans q0; replace q1 := (hb7.cell (by first | omega | (simp; omega) | (simp; done) | (dsimp only; omega))).trans q1; replace q2 := (hb7.cell (by first | omega | (simp; omega) | (simp; done) | (dsimp only; omega))).trans q2; replace q3 := (hb7.cell (by first | omega | (simp; omega) | (simp; done) | (dsimp only; omega))).trans q3; replace q4 := (hb7.cell (by first | omega | (simp; omega) | (simp; done) | (dsimp only; omega))).trans q4; replace b0r := (hb7.cell (by first | omega | (simp; omega) | (simp; done) | (dsimp only; omega))).trans b0r; replace b1r := (hb7.cell (by first | omega | (simp; omega) | (simp; done) | (dsimp only; omega))).trans b1r; replace s1 := s1.same (Same.of_below hb7 (by first | omega | (simp; omega) | (simp; done) | (dsimp only; omega))); replace s2 := s2.same (Same.of_below hb7 (by first | omega | (simp; omega) | (simp; done) | (dsimp only; omega))); replace h2r := h2r.same (Same.of_below hb7 (by first | omega | (simp; omega) | (simp; done) | (dsimp only; omega))); replace hb6 := hb6.trans (hb7.mono (by first | omega | (simp; omega) | (simp; done) | (dsimp only; omega))); have zhb7 := hb7.size; clear hb7)
            have lw7 : w6 < w7.heap.size := by omega
            have lw70 : w.heap.size < w7.heap.size := by omega
            go_wp2_with fail
            refine (replacedAt_any x0 x1 x2 A1 A2 c1 c2 lo hi x3 x4 s C ec lo' hi' zs i _ s1 s2 h2r (by first | omega | (simp; omega) | (simp; done) | (dsimp only; omega)) (by first | omega | (simp; omega) | (simp; done) | (dsimp only; omega)) HEC.out hj hzl l3 l1).mono ?_
            rintro e w8 ⟨A8, c8, rfl, ho, hb8⟩
            replace Rr := Rr.below hb8 (by first | omega | (simp; omega) | (simp; done) | (dsimp only; omega))
            have hb9 : Below w.heap.size w w8 := hb.trans ((hb6.trans (hb8.mono (by first | omega | (simp; omega) | (simp; done) | (dsimp only; omega)))).mono (by first | omega | (simp; omega) | (simp; done) | (dsimp only; omega)))
            have z8 := hb8.size
            have z9 : w.heap.size ≤ w7.heap.size := by omega
            have lw8 : w.heap.size + 1 < w8.heap.size := by omega
            generalize hrm : replM ⟨x0, x1, x2, x3, x4⟩ ⟨s, zs⟩ i = rm at *
            obtain ⟨re, rq⟩ := rm
            have HRM := Lib.hid hrm; clear hrm
            dsimp only at ho ⊢
            have f0 := Rr.free 0; have f1 := Rr.free 1; have r0 := Rr.cell (i := 0) rfl; have r1 := Rr.cell (i := 1) rfl
            go_wp2_with fail
            have R8 := Rr.set 0 (.int .i64 re)
            have RR := R8.set 1 (.slice A8 rq.length c8)
            refine bodyPost_ret (v := .tuple #[.agg #[.int .i64 re, .slice A8 rq.length c8], .int .i64 k, .int .i64 i, .bool true]) (by simp [results, Try.results108, go_sem, RR.cell (i := 0) rfl, RR.cell (i := 1) rfl]) rfl ?_
            have hsm : Same w7.heap.size w8.heap.size w8 ((w8.setCell ⟨w.heap.size + 1, 0, none⟩ (.int .i64 re)).setCell ⟨w.heap.size + 1, 1, none⟩ (.slice A8 rq.length c8)) := by (with_reducible repeat' first | exact Same.refl _ _ _ | assumption | (refine Same.setCell ?_ (by first | omega | (simp; omega) | (simp; done) | (dsimp only; omega)) _) | (refine Same.alloc ?_ (by first | omega | (simp; omega) | (simp; done) | (dsimp only; omega)) _) | (refine Same.drewN ?_ _) | (refine Same.drew ?_))
            rw [HRM.out]
            refine ⟨A8, c8, rfl, ?_, by (with_reducible repeat' first | exact Below.refl _ _ | assumption | (refine Below.setCell ?_ (by first | omega | (simp; omega) | (simp; done) | (dsimp only; omega)) _) | (refine Below.alloc ?_ (by first | omega | (simp; omega) | (simp; done) | (dsimp only; omega)) _) | (refine below_drewN ?_ _) | (refine Below.drew ?_) | (refine Below.trans ?_ (hb9.mono (by first | omega | (simp; omega) | (simp; done) | (dsimp only; omega)))))⟩
            exact (ho.same hsm).mono (by omega) (by simp [World.setCell])
        · obtain rfl : k = rs.length := by omega
          go_wp2
          exact ⟨⟨i + 1, by (try simp only); omega, by go_num, hb2, noFit_succ HNO.out HNK.out⟩, by simp [intOf]; omega⟩
    · obtain rfl : i = zs.length := by omega
      have hM : M = (zeroT, 0, 0, false) := by rw [← HM.out]; exact stepM_none HNO.out
      subst hM
      clear HM
      replace R := R.below hbw (by first | omega | (simp; omega) | (simp; done) | (dsimp only; omega))
      have hb1 : Below w.heap.size w wr := hb.trans (hbw.mono (by first | omega | (simp; omega) | (simp; done) | (dsimp only; omega)))
      have f0 := R.free 0; have f1 := R.free 1; have r0 := R.cell (i := 0) rfl; have r1 := R.cell (i := 1) rfl
      have lw8 : w.heap.size + 1 < wr.heap.size := by omega
      clear hbw
      go_wp2_with fail
      have RR := (R.set 0 (.int .i64 0)).set 1 (.slice none 0 0)
      exact bodyPost_ret (v := .tuple #[.agg #[.int .i64 0, .slice none 0 0], .int .i64 0, .int .i64 0, .bool false]) (by simp [results, Try.results108, go_sem, RR.cell (i := 0) rfl, RR.cell (i := 1) rfl]) rfl (RetStep4.zero (by (with_reducible repeat' first | exact Below.refl _ _ | assumption | (refine Below.setCell ?_ (by first | omega | (simp; omega) | (simp; done) | (dsimp only; omega)) _) | (refine Below.alloc ?_ (by first | omega | (simp; omega) | (simp; done) | (dsimp only; omega)) _) | (refine below_drewN ?_ _) | (refine Below.drew ?_) | (refine Below.trans ?_ (hb1.mono (by first | omega | (simp; omega) | (simp; done) | (dsimp only; omega)))))))
end Go.Proofs.Ytnanlbglgflecaa
