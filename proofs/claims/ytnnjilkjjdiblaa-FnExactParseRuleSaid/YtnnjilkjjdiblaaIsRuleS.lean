/-
  Whether a rule is valid, in the reference.
-/
import Derived.Test.YtnnjilkjjdiblaaGRule
import Derived.Test.YtnnjilkjjdiblaaMarkTyp
import Derived.Deep.DeepCutAuto
import Derived.Deep.Cut
namespace Go.Proofs.Ytnnjilkjjdiblaa
set_option maxRecDepth 100000
open Go.RowKit

/-- The rule lies in box g; what is known at the head of the loop over the sexes. -/
def SidesRel (r : Rule) (W : World) (som i : Value) (wr : World) : Prop :=
  ∃ k : Nat, 1 ≤ k ∧ k ≤ 3 ∧ i = .int .i64 k ∧ som = .bool (someTo r k) ∧ goodTo r k = true ∧ Below W.heap.size W wr
theorem skip_no {r : Rule} {k : Nat} (h1 : r.sex ≠ 0) (h2 : r.sex ≠ (k : Int)) : skipR r k = true := by simp [skipR, h1, h2]
theorem skip_ty {r : Rule} {k : Nat} (h : typeOk ⟨(k : Int), r.src⟩ = false) : skipR r k = true := by simp [skipR, h]
theorem skip_not {r : Rule} {k : Nat} (h1 : r.sex = 0 ∨ r.sex = (k : Int)) (h : typeOk ⟨(k : Int), r.src⟩ = true) : skipR r k = false := by
  rcases h1 with h1 | h1 <;> simp [skipR, h, h1]
theorem side_ty {r : Rule} {k : Nat} (h : typeOk ⟨(k : Int), r.dst⟩ = false) : sideR r k = false := by simp [sideR, h]
theorem side_ne {r : Rule} {k : Nat} (h : sexM ⟨(k : Int), r.src⟩ ≠ sexM ⟨(k : Int), r.dst⟩) : sideR r k = false := by simp [sideR, h]
theorem side_yes {r : Rule} {k : Nat} (h : typeOk ⟨(k : Int), r.dst⟩ = true) (h' : sexM ⟨(k : Int), r.src⟩ = sexM ⟨(k : Int), r.dst⟩) : sideR r k = true := by simp [sideR, h, h']

set_option maxHeartbeats 8000000 in
theorem specIsRule_any (x0 : ByteArray) (x1 x2 : Int) (A B : Option Addr) (c d lo hi : Nat) (xs ys : List Step) (w : World) (h : EStep.AS w lo hi A xs) (h' : EStep.AS w lo hi B ys) (hh : hi ≤ w.heap.size) (hs : x0.size ≤ 140737488355328) :
    Calls Try.prog 124 #[.agg #[.string x0, .int .i64 x1, .int .i64 x2, .slice A xs.length c, .slice B ys.length d]] w fun e w' => e = .returned (.bool (ruleOk ⟨x0, x1, x2, xs, ys⟩)) ∧ Below w.heap.size w w' := by
  have hx := h.le; have hy := h'.le
  unfold BIG at hx hy
  generalize hR : ruleOk ⟨x0, x1, x2, xs, ys⟩ = R
  have HR := Lib.hid hR; clear hR
  cases hn : nameOk x0 with
  | false =>
    have HN := Lib.hid hn; clear hn
    go_enter Try.func124, Try.ntmps124
    go_wp2_with (go_at_call 188; (with_reducible refine (specIsName_any x0 _ hs).mono ?_); rintro e w1 ⟨rfl, rfl⟩; simp only [HN.out])
    go_ret
    exact ⟨ret_bool (by rw [← HR.out]; exact (ruleOk_head (by simp only [headOk, HN.out]; simp)).symm), by (with_reducible repeat' first | exact Below.refl _ _ | assumption | (refine Below.setCell ?_ (by first | omega | (simp; omega) | (simp; done) | (dsimp only; omega)) _) | (refine Below.alloc ?_ (by first | omega | (simp; omega) | (simp; done) | (dsimp only; omega)) _) | (refine below_drewN ?_ _) | (refine Below.drew ?_))⟩
  | true =>
    have HN := Lib.hid hn; clear hn
    by_cases cx1 : 0 ≤ x1 ∧ x1 ≤ 2
    rotate_left
    · have DI1 := Lib.hid (show decide (0 ≤ x1 ∧ x1 ≤ 2) = false by simp only [decide_eq_false_iff_not]; exact cx1)
      have I1 := Lib.hid (inB_false (x := x1) (a := 0) (b := 2) (by omega))
      clear cx1
      go_enter Try.func124, Try.ntmps124
      go_wp2_with (first | (go_at_call 188; (with_reducible refine (specIsName_any x0 _ hs).mono ?_); rintro e w1 ⟨rfl, rfl⟩; simp only [HN.out]) | (go_at_call 111; (with_reducible refine (l1In_any x1 0 2 _).mono ?_); rintro e w2 ⟨rfl, rfl⟩; simp only [I1.out]))
      go_ret
      exact ⟨ret_bool (by rw [← HR.out]; exact (ruleOk_head (by simp only [headOk, DI1.out]; simp)).symm), by (with_reducible repeat' first | exact Below.refl _ _ | assumption | (refine Below.setCell ?_ (by first | omega | (simp; omega) | (simp; done) | (dsimp only; omega)) _) | (refine Below.alloc ?_ (by first | omega | (simp; omega) | (simp; done) | (dsimp only; omega)) _) | (refine below_drewN ?_ _) | (refine Below.drew ?_))⟩
    have DI1 := Lib.hid (show decide (0 ≤ x1 ∧ x1 ≤ 2) = true by simp only [decide_eq_true_eq]; exact cx1)
    have I1 := Lib.hid (inB_true (x := x1) (a := 0) (b := 2) (by omega))
    obtain ⟨cx11, cx12⟩ := cx1
    by_cases cx2 : 0 ≤ x2 ∧ x2 ≤ 2
    rotate_left
    · have DI2 := Lib.hid (show decide (0 ≤ x2 ∧ x2 ≤ 2) = false by simp only [decide_eq_false_iff_not]; exact cx2)
      have I2 := Lib.hid (inB_false (x := x2) (a := 0) (b := 2) (by omega))
      clear cx2
      go_enter Try.func124, Try.ntmps124
      go_wp2_with (first | (go_at_call 188; (with_reducible refine (specIsName_any x0 _ hs).mono ?_); rintro e w1 ⟨rfl, rfl⟩; simp only [HN.out]) | (go_at_call 111; (with_reducible refine (l1In_any x1 0 2 _).mono ?_); rintro e w2 ⟨rfl, rfl⟩; simp only [I1.out]) | (go_at_call 111; (with_reducible refine (l1In_any x2 0 2 _).mono ?_); rintro e w3 ⟨rfl, rfl⟩; simp only [I2.out]))
      go_ret
      exact ⟨ret_bool (by rw [← HR.out]; exact (ruleOk_head (by simp only [headOk, DI2.out]; simp)).symm), by (with_reducible repeat' first | exact Below.refl _ _ | assumption | (refine Below.setCell ?_ (by first | omega | (simp; omega) | (simp; done) | (dsimp only; omega)) _) | (refine Below.alloc ?_ (by first | omega | (simp; omega) | (simp; done) | (dsimp only; omega)) _) | (refine below_drewN ?_ _) | (refine Below.drew ?_))⟩
    have DI2 := Lib.hid (show decide (0 ≤ x2 ∧ x2 ≤ 2) = true by simp only [decide_eq_true_eq]; exact cx2)
    have I2 := Lib.hid (inB_true (x := x2) (a := 0) (b := 2) (by omega))
    obtain ⟨cx21, cx22⟩ := cx2
    by_cases cxs : 1 ≤ xs.length ∧ xs.length ≤ 4
    rotate_left
    · have DI3 := Lib.hid (show decide (1 ≤ xs.length ∧ xs.length ≤ 4) = false by simp only [decide_eq_false_iff_not]; exact cxs)
      have I3 := Lib.hid (inB_false (x := (xs.length : Int)) (a := 1) (b := 4) (by omega))
      clear cxs
      go_enter Try.func124, Try.ntmps124
      go_wp2_with (first | (go_at_call 188; (with_reducible refine (specIsName_any x0 _ hs).mono ?_); rintro e w1 ⟨rfl, rfl⟩; simp only [HN.out]) | (go_at_call 111; (with_reducible refine (l1In_any x1 0 2 _).mono ?_); rintro e w2 ⟨rfl, rfl⟩; simp only [I1.out]) | (go_at_call 111; (with_reducible refine (l1In_any x2 0 2 _).mono ?_); rintro e w3 ⟨rfl, rfl⟩; simp only [I2.out]) | (go_at_call 111; (with_reducible refine (l1In_any _ 1 4 _).mono ?_); rintro e w4 ⟨rfl, rfl⟩; simp only [I3.out]))
      go_ret
      exact ⟨ret_bool (by rw [← HR.out]; exact (ruleOk_head (by simp only [headOk, DI3.out]; simp)).symm), by (with_reducible repeat' first | exact Below.refl _ _ | assumption | (refine Below.setCell ?_ (by first | omega | (simp; omega) | (simp; done) | (dsimp only; omega)) _) | (refine Below.alloc ?_ (by first | omega | (simp; omega) | (simp; done) | (dsimp only; omega)) _) | (refine below_drewN ?_ _) | (refine Below.drew ?_))⟩
    have DI3 := Lib.hid (show decide (1 ≤ xs.length ∧ xs.length ≤ 4) = true by simp only [decide_eq_true_eq]; exact cxs)
    have I3 := Lib.hid (inB_true (x := (xs.length : Int)) (a := 1) (b := 4) (by omega))
    obtain ⟨cxs1, cxs2⟩ := cxs
    cases hb : beforeM ys xs with
    | false =>
      have HB := Lib.hid hb; clear hb
      go_enter Try.func124, Try.ntmps124
      go_wp2_with (first | (go_at_call 188; (with_reducible refine (specIsName_any x0 _ hs).mono ?_); rintro e w1 ⟨rfl, rfl⟩; simp only [HN.out]) | (go_at_call 111; (with_reducible refine (l1In_any x1 0 2 _).mono ?_); rintro e w2 ⟨rfl, rfl⟩; simp only [I1.out]) | (go_at_call 111; (with_reducible refine (l1In_any x2 0 2 _).mono ?_); rintro e w3 ⟨rfl, rfl⟩; simp only [I2.out]) | (go_at_call 111; (with_reducible refine (l1In_any _ 1 4 _).mono ?_); rintro e w4 ⟨rfl, rfl⟩; simp only [I3.out]) | (go_at_call 189; (with_reducible refine (l4Before_any B A d c lo hi lo hi ys xs _ (h'.same (by (with_reducible repeat' first | exact Same.refl _ _ _ | assumption | (refine Same.setCell ?_ (by first | omega | (simp; omega) | (simp; done) | (dsimp only; omega)) _) | (refine Same.alloc ?_ (by first | omega | (simp; omega) | (simp; done) | (dsimp only; omega)) _) | (refine Same.drewN ?_ _) | (refine Same.drew ?_)))) (h.same (by (with_reducible repeat' first | exact Same.refl _ _ _ | assumption | (refine Same.setCell ?_ (by first | omega | (simp; omega) | (simp; done) | (dsimp only; omega)) _) | (refine Same.alloc ?_ (by first | omega | (simp; omega) | (simp; done) | (dsimp only; omega)) _) | (refine Same.drewN ?_ _) | (refine Same.drew ?_))))).mono ?_); rintro e w5 ⟨n5, rfl, rfl⟩; simp only [HB.out]))
      go_ret
      exact ⟨ret_bool (by rw [← HR.out]; exact (ruleOk_head (by simp only [headOk, HB.out]; simp)).symm), by (with_reducible repeat' first | exact Below.refl _ _ | assumption | (refine Below.setCell ?_ (by first | omega | (simp; omega) | (simp; done) | (dsimp only; omega)) _) | (refine Below.alloc ?_ (by first | omega | (simp; omega) | (simp; done) | (dsimp only; omega)) _) | (refine below_drewN ?_ _) | (refine Below.drew ?_))⟩
    | true =>
      have HB := Lib.hid hb; clear hb
      have HH := Lib.hid (show headOk ⟨x0, x1, x2, xs, ys⟩ = true by simp only [headOk, HN.out, DI1.out, DI2.out, DI3.out, HB.out]; rfl)
      have HT := Lib.hid h; have HT' := Lib.hid h'; clear h h'
      go_enter Try.func124, Try.ntmps124
      go_wp2_with (first | (go_at_call 188; (with_reducible refine (specIsName_any x0 _ hs).mono ?_); rintro e w1 ⟨rfl, rfl⟩; simp only [HN.out]) | (go_at_call 111; (with_reducible refine (l1In_any x1 0 2 _).mono ?_); rintro e w2 ⟨rfl, rfl⟩; simp only [I1.out]) | (go_at_call 111; (with_reducible refine (l1In_any x2 0 2 _).mono ?_); rintro e w3 ⟨rfl, rfl⟩; simp only [I2.out]) | (go_at_call 111; (with_reducible refine (l1In_any _ 1 4 _).mono ?_); rintro e w4 ⟨rfl, rfl⟩; simp only [I3.out]) | (go_at_call 189; (with_reducible refine (l4Before_any B A d c lo hi lo hi ys xs _ (HT'.out.same (by (with_reducible repeat' first | exact Same.refl _ _ _ | assumption | (refine Same.setCell ?_ (by first | omega | (simp; omega) | (simp; done) | (dsimp only; omega)) _) | (refine Same.alloc ?_ (by first | omega | (simp; omega) | (simp; done) | (dsimp only; omega)) _) | (refine Same.drewN ?_ _) | (refine Same.drew ?_)))) (HT.out.same (by (with_reducible repeat' first | exact Same.refl _ _ _ | assumption | (refine Same.setCell ?_ (by first | omega | (simp; omega) | (simp; done) | (dsimp only; omega)) _) | (refine Same.alloc ?_ (by first | omega | (simp; omega) | (simp; done) | (dsimp only; omega)) _) | (refine Same.drewN ?_ _) | (refine Same.drew ?_))))).mono ?_); rintro e w5 ⟨n5, rfl, rfl⟩; simp only [HB.out]))
      have h := HT.out; have h' := HT'.out
      clear HT HT'
      obtain ⟨W, hW⟩ : ∃ W, W = ((w.alloc (.cells #[.string x0, .int .i64 x1, .int .i64 x2, .slice A xs.length c, .slice B ys.length d] 58)).drewN n5) := ⟨_, rfl⟩
      have a1 : W.cell? ⟨w.heap.size, 1, none⟩ = some (.int .i64 x1) := by subst hW; simp [go_sem]
      have a3 : W.cell? ⟨w.heap.size, 3, none⟩ = some (.slice A xs.length c) := by subst hW; simp [go_sem]
      have a4 : W.cell? ⟨w.heap.size, 4, none⟩ = some (.slice B ys.length d) := by subst hW; simp [go_sem]
      have hb : Below w.heap.size w W := by subst hW; (with_reducible repeat' first | exact Below.refl _ _ | assumption | (refine Below.setCell ?_ (by first | omega | (simp; omega) | (simp; done) | (dsimp only; omega)) _) | (refine Below.alloc ?_ (by first | omega | (simp; omega) | (simp; done) | (dsimp only; omega)) _) | (refine below_drewN ?_ _) | (refine Below.drew ?_))
      have z0 : w.heap.size + 1 ≤ W.heap.size := by subst hW; simp
      rw [← hW]
      clear hW
      replace h := h.same (Same.of_below hb hh); replace h' := h'.same (Same.of_below hb hh)
      go_loopw [3, 4] (fun som i wr => SidesRel ⟨x0, x1, x2, xs, ys⟩ W som i wr) (fun _ i _ => 3 - (intOf i).toNat)
      case atStart => exact ⟨1, by omega, by omega, rfl, by rw [someTo_one], goodTo_one _, Below.refl _ _⟩
      case round =>
        obtain ⟨k, hk1, hk3, rfl, rfl, hg, hbr⟩ := hrel
        have HG := Lib.hid hg; clear hg
        by_cases hlt : k ≤ 2
        rotate_left
        · obtain rfl : k = 3 := by omega
          have HS := Lib.hid (show someTo ⟨x0, x1, x2, xs, ys⟩ 3 = R by rw [← HR.out]; exact (ruleOk_end HH.out HG.out).symm)
          rw [HS.out]
          go_wp2
          go_ret
          exact ⟨rfl, by (with_reducible repeat' first | exact Below.refl _ _ | assumption | (refine Below.setCell ?_ (by first | omega | (simp; omega) | (simp; done) | (dsimp only; omega)) _) | (refine Below.alloc ?_ (by first | omega | (simp; omega) | (simp; done) | (dsimp only; omega)) _) | (refine below_drewN ?_ _) | (refine Below.drew ?_) | (refine Below.trans ?_ (hbr.mono (by first | omega | (simp; omega) | (simp; done) | (dsimp only; omega)))) | (refine Below.trans ?_ (hb.mono (by first | omega | (simp; omega) | (simp; done) | (dsimp only; omega)))))⟩
        have hk : k = 1 ∨ k = 2 := by omega
        have HK := Lib.hid hk; clear hk
        have zr := hbr.size
        have lt1 : w.heap.size < wr.heap.size := by omega
        replace a1 := (hbr.cell (p := ⟨w.heap.size, 1, none⟩) (by first | omega | (simp; omega) | (simp; done) | (dsimp only; omega))).trans a1
        replace a3 := (hbr.cell (p := ⟨w.heap.size, 3, none⟩) (by first | omega | (simp; omega) | (simp; done) | (dsimp only; omega))).trans a3
        replace a4 := (hbr.cell (p := ⟨w.heap.size, 4, none⟩) (by first | omega | (simp; omega) | (simp; done) | (dsimp only; omega))).trans a4
        replace h := h.same (Same.of_below hbr (by first | omega | (simp; omega) | (simp; done) | (dsimp only; omega))); replace h' := h'.same (Same.of_below hbr (by first | omega | (simp; omega) | (simp; done) | (dsimp only; omega)))
        have hbw : Below w.heap.size w wr := by (with_reducible repeat' first | exact Below.refl _ _ | assumption | (refine Below.setCell ?_ (by first | omega | (simp; omega) | (simp; done) | (dsimp only; omega)) _) | (refine Below.alloc ?_ (by first | omega | (simp; omega) | (simp; done) | (dsimp only; omega)) _) | (refine below_drewN ?_ _) | (refine Below.drew ?_) | (refine Below.trans ?_ (hbr.mono (by first | omega | (simp; omega) | (simp; done) | (dsimp only; omega)))) | (refine Below.trans ?_ (hb.mono (by first | omega | (simp; omega) | (simp; done) | (dsimp only; omega)))))
        generalize hsm : someTo ⟨x0, x1, x2, xs, ys⟩ k = sm
        have HSM := Lib.hid hsm; clear hsm
        go_upto_region 11 with fail
        generalize hW3 : (wr.alloc (.cells #[.int .i64 (k : Int), .slice A xs.length c] 30)).alloc (.cells #[.int .i64 (k : Int), .slice B ys.length d] 30) = W3
        obtain ⟨b5, hb5e⟩ : ∃ b, b = wr.heap.size := ⟨_, rfl⟩
        obtain ⟨b6, hb6e⟩ : ∃ b, b = wr.heap.size + 1 := ⟨_, rfl⟩
        have e0 : W3.cell? ⟨b5, 0, none⟩ = some (.int .i64 (k : Int)) := by subst hW3; subst hb5e; simp [go_sem]
        have e1 : W3.cell? ⟨b5, 1, none⟩ = some (.slice A xs.length c) := by subst hW3; subst hb5e; simp [go_sem]
        have e2 : W3.cell? ⟨b6, 0, none⟩ = some (.int .i64 (k : Int)) := by subst hW3; subst hb6e; simp [go_sem]
        have e3 : W3.cell? ⟨b6, 1, none⟩ = some (.slice B ys.length d) := by subst hW3; subst hb6e; simp [go_sem]
        have hb5 : Below wr.heap.size wr W3 := by subst hW3; (with_reducible repeat' first | exact Below.refl _ _ | assumption | (refine Below.setCell ?_ (by first | omega | (simp; omega) | (simp; done) | (dsimp only; omega)) _) | (refine Below.alloc ?_ (by first | omega | (simp; omega) | (simp; done) | (dsimp only; omega)) _) | (refine below_drewN ?_ _) | (refine Below.drew ?_))
        have l5 : b5 < W3.heap.size := by subst hW3; subst hb5e; first | (simp; done) | (simp; omega)
        have l6 : b6 < W3.heap.size := by subst hW3; subst hb6e; first | (simp; done) | (simp; omega)
        rw [← hb6e, ← hb5e]
        clear hb5e hb6e hW3
        have z3 := hb5.size
        replace a1 := (hb5.cell (p := ⟨w.heap.size, 1, none⟩) (by first | omega | (simp; omega) | (simp; done) | (dsimp only; omega))).trans a1
        replace h := h.same (Same.of_below hb5 (by first | omega | (simp; omega) | (simp; done) | (dsimp only; omega))); replace h' := h'.same (Same.of_below hb5 (by first | omega | (simp; omega) | (simp; done) | (dsimp only; omega)))
        replace hbw := hbw.trans (hb5.mono (by first | omega | (simp; omega) | (simp; done) | (dsimp only; omega)))
        have hWW : Below W.heap.size W W3 := by (with_reducible repeat' first | exact Below.refl _ _ | assumption | (refine Below.setCell ?_ (by first | omega | (simp; omega) | (simp; done) | (dsimp only; omega)) _) | (refine Below.alloc ?_ (by first | omega | (simp; omega) | (simp; done) | (dsimp only; omega)) _) | (refine below_drewN ?_ _) | (refine Below.drew ?_) | (refine Below.trans ?_ (hb5.mono (by first | omega | (simp; omega) | (simp; done) | (dsimp only; omega)))) | (refine Below.trans ?_ (hbr.mono (by first | omega | (simp; omega) | (simp; done) | (dsimp only; omega)))))
        clear hb5 hbr a3 a4
        have CONT : ∀ w4 : World, Below W3.heap.size W3 w4 → skipR ⟨x0, x1, x2, xs, ys⟩ k = true → SidesRel ⟨x0, x1, x2, xs, ys⟩ W (.bool sm) (.int .i64 ((k : Int) + 1)) w4 := fun w4 hb4 hsk => by
          obtain ⟨t1, t2⟩ := to_skip HK.out hsk HG.out
          exact ⟨k + 1, by omega, by omega, by go_num, by rw [t2, HSM.out], t1, by (with_reducible repeat' first | exact Below.refl _ _ | assumption | (refine Below.setCell ?_ (by first | omega | (simp; omega) | (simp; done) | (dsimp only; omega)) _) | (refine Below.alloc ?_ (by first | omega | (simp; omega) | (simp; done) | (dsimp only; omega)) _) | (refine below_drewN ?_ _) | (refine Below.drew ?_) | (refine Below.trans ?_ (hb4.mono (by first | omega | (simp; omega) | (simp; done) | (dsimp only; omega)))) | (refine Below.trans ?_ (hWW.mono (by first | omega | (simp; omega) | (simp; done) | (dsimp only; omega)))))⟩
        have CONT2 : ∀ w4 : World, Below W3.heap.size W3 w4 → skipR ⟨x0, x1, x2, xs, ys⟩ k = false → sideR ⟨x0, x1, x2, xs, ys⟩ k = true → SidesRel ⟨x0, x1, x2, xs, ys⟩ W (.bool true) (.int .i64 ((k : Int) + 1)) w4 := fun w4 hb4 hsk hsd => by
          obtain ⟨t1, t2⟩ := to_side HK.out hsk hsd HG.out
          exact ⟨k + 1, by omega, by omega, by go_num, by rw [t2], t1, by (with_reducible repeat' first | exact Below.refl _ _ | assumption | (refine Below.setCell ?_ (by first | omega | (simp; omega) | (simp; done) | (dsimp only; omega)) _) | (refine Below.alloc ?_ (by first | omega | (simp; omega) | (simp; done) | (dsimp only; omega)) _) | (refine below_drewN ?_ _) | (refine Below.drew ?_) | (refine Below.trans ?_ (hb4.mono (by first | omega | (simp; omega) | (simp; done) | (dsimp only; omega)))) | (refine Below.trans ?_ (hWW.mono (by first | omega | (simp; omega) | (simp; done) | (dsimp only; omega)))))⟩
        have HC := Lib.hid CONT; have HC2 := Lib.hid CONT2; clear CONT CONT2
        by_cases hA : x1 ≠ 0 ∧ x1 ≠ (k : Int)
        · have HSK := Lib.hid (skip_no (r := ⟨x0, x1, x2, xs, ys⟩) hA.1 hA.2)
          have n1 : (x1 != 0) = true := by simp [hA.1]
          have n2 : (x1 != (k : Int)) = true := by simp [hA.2]
          clear hA
          go_wp2
          exact ⟨HC.out _ (Below.refl _ _) HSK.out, by simp [intOf]; omega⟩
        have hA2 : x1 = 0 ∨ x1 = (k : Int) := by omega
        clear hA
        have HA := Lib.hid hA2
        have hm : (x1 != 0) = false ∨ ((x1 != 0) = true ∧ (x1 != (k : Int)) = false) := by
          by_cases h0 : x1 = 0
          · exact .inl (by simp [h0])
          · exact .inr ⟨by simp [h0], by rcases hA2 with hA2 | hA2; exact absurd hA2 h0; simp [hA2]⟩
        clear hA2
        have HM := Lib.hid hm; clear hm
        cases h1 : typeOk ⟨(k : Int), xs⟩ with
        | false =>
          have H1 := Lib.hid h1; clear h1
          have HSK := Lib.hid (skip_ty (r := ⟨x0, x1, x2, xs, ys⟩) H1.out)
          rcases HM.out with n1 | ⟨n1, n2⟩
          all_goals
            clear HM
            go_wp2_with (go_at_call 85; (with_reducible refine (specIsType_any (k : Int) A c lo hi xs _ (h.same (by (with_reducible repeat' first | exact Same.refl _ _ _ | assumption | (refine Same.setCell ?_ (by first | omega | (simp; omega) | (simp; done) | (dsimp only; omega)) _) | (refine Same.alloc ?_ (by first | omega | (simp; omega) | (simp; done) | (dsimp only; omega)) _) | (refine Same.drewN ?_ _) | (refine Same.drew ?_)))) (by first | omega | (simp; omega) | (simp; done) | (dsimp only; omega))).mono ?_); rintro e w4 ⟨rfl, hb4⟩; simp only [H1.out])
            exact ⟨HC.out _ hb4 HSK.out, by simp [intOf]; omega⟩
        | true =>
          have H1 := Lib.hid h1; clear h1
          have HSK := Lib.hid (skip_not (r := ⟨x0, x1, x2, xs, ys⟩) HA.out H1.out)
          rcases HM.out with n1 | ⟨n1, n2⟩
          all_goals
            clear HM
            go_wp2_with (go_at_call 85; (with_reducible refine (specIsType_any (k : Int) A c lo hi xs _ (h.same (by (with_reducible repeat' first | exact Same.refl _ _ _ | assumption | (refine Same.setCell ?_ (by first | omega | (simp; omega) | (simp; done) | (dsimp only; omega)) _) | (refine Same.alloc ?_ (by first | omega | (simp; omega) | (simp; done) | (dsimp only; omega)) _) | (refine Same.drewN ?_ _) | (refine Same.drew ?_)))) (by first | omega | (simp; omega) | (simp; done) | (dsimp only; omega))).mono ?_); rintro e w4 ⟨rfl, hb4⟩; simp only [H1.out])
            have hb4s := hb4.size
            replace e0 := (hb4.cell (p := ⟨b5, 0, none⟩) (by first | omega | (simp; omega) | (simp; done) | (dsimp only; omega))).trans e0; replace e1 := (hb4.cell (p := ⟨b5, 1, none⟩) (by first | omega | (simp; omega) | (simp; done) | (dsimp only; omega))).trans e1; replace e2 := (hb4.cell (p := ⟨b6, 0, none⟩) (by first | omega | (simp; omega) | (simp; done) | (dsimp only; omega))).trans e2; replace e3 := (hb4.cell (p := ⟨b6, 1, none⟩) (by first | omega | (simp; omega) | (simp; done) | (dsimp only; omega))).trans e3
            replace h := h.same (Same.of_below hb4 (by first | omega | (simp; omega) | (simp; done) | (dsimp only; omega))); replace h' := h'.same (Same.of_below hb4 (by first | omega | (simp; omega) | (simp; done) | (dsimp only; omega)))
            cases h2 : typeOk ⟨(k : Int), ys⟩ with
            | false =>
              have H2 := Lib.hid h2; clear h2
              have HN2 := Lib.hid (show R = false by rw [← HR.out]; exact ruleOk_bad HK.out HSK.out (side_ty (r := ⟨x0, x1, x2, xs, ys⟩) H2.out))
              refine wp_region_held_drew (S := fun w' => w'.cell? ⟨b5, 0, none⟩ = some (.int .i64 (k : Int)) ∧ w'.cell? ⟨b5, 1, none⟩ = some (.slice A xs.length c) ∧ w'.cell? ⟨b6, 0, none⟩ = some (.int .i64 (k : Int)) ∧ w'.cell? ⟨b6, 1, none⟩ = some (.slice B ys.length d)) (by kernel_rfl) ⟨e0, e1, e2, e3⟩ (fun hHeld => ?_)
              refine wpAnyH_take (i := 0) (oi := { dst := some 62, op := _, type := _, pos := _, after := _, guard := _ }) (v := ?_) rfl (by kernel_rfl) (by kernel_rfl) (by kernel_rfl) (fun _ _ _ h => h) (Or.inl ⟨by rfl, ?_⟩) (by assumption) ?_; rotate_left; (intro w hSw; (try dsimp only at hSw); go_simp); (try with_reducible rfl); (try simp only [Act.put, List.setIfInBounds_toArray, List.set_cons_zero, List.set_cons_succ])
              refine wpAnyH_ready (rs := [1]) (by kernel_rfl) (by simp) ?_
              refine AllReadyH.cons (o := { dst := some 63, op := _, type := _, pos := _, after := _, guard := _ }) rfl (fun K hK => ?_) AllReadyH.nil
              go_simp
              (go_at_call 85; (with_reducible refine (specIsType_any (k : Int) B d lo hi ys _ (h'.same (by (with_reducible repeat' first | exact Same.refl _ _ _ | assumption | (refine Same.setCell ?_ (by first | omega | (simp; omega) | (simp; done) | (dsimp only; omega)) _) | (refine Same.alloc ?_ (by first | omega | (simp; omega) | (simp; done) | (dsimp only; omega)) _) | (refine Same.drewN ?_ _) | (refine Same.drew ?_)))) (by first | omega | (simp; omega) | (simp; done) | (dsimp only; omega))).mono ?_); rintro e w5 ⟨rfl, hb6⟩; simp only [H2.out]; replace hb6 := undrew hb6; (replace e0 := (hb6.cell (by first | omega | (simp; omega) | (simp; done) | (dsimp only; omega))).trans e0; replace e1 := (hb6.cell (by first | omega | (simp; omega) | (simp; done) | (dsimp only; omega))).trans e1; replace e2 := (hb6.cell (by first | omega | (simp; omega) | (simp; done) | (dsimp only; omega))).trans e2; replace e3 := (hb6.cell (by first | omega | (simp; omega) | (simp; done) | (dsimp only; omega))).trans e3; replace h := h.same (Same.of_below hb6 (by first | omega | (simp; omega) | (simp; done) | (dsimp only; omega))); replace h' := h'.same (Same.of_below hb6 (by first | omega | (simp; omega) | (simp; done) | (dsimp only; omega))); replace hb4 := hb4.trans (hb6.mono (by first | omega | (simp; omega) | (simp; done) | (dsimp only; omega))); replace hb4s := Nat.le_trans hb4s hb6.size; have zhb6 := hb6.size; clear hb6))
              try go_wp2_with fail
              refine hK.out _ _ ⟨e0, e1, e2, e3⟩ (fun hHeld => ?_)
              clear hK K; (try simp only [Act.put, List.setIfInBounds_toArray, List.set_cons_zero, List.set_cons_succ])
              refine wpAnyH_take (i := 2) (oi := { dst := some 64, op := _, type := _, pos := _, after := _, guard := _ }) (v := ?_) rfl (by kernel_rfl) (by kernel_rfl) (by kernel_rfl) (fun _ _ _ h => h) (Or.inl ⟨by rfl, ?_⟩) (by assumption) ?_; rotate_left; (intro w hSw; (try dsimp only at hSw); go_simp); (try with_reducible rfl); (try simp only [Act.put, List.setIfInBounds_toArray, List.set_cons_zero, List.set_cons_succ])
              refine wpAnyH_take (i := 3) (oi := { dst := some 65, op := _, type := _, pos := _, after := _, guard := _ }) (v := ?_) rfl (by kernel_rfl) (by kernel_rfl) (by kernel_rfl) (fun _ _ _ h => h) (Or.inl ⟨by rfl, ?_⟩) (by assumption) ?_; rotate_left; (intro w hSw; (try dsimp only at hSw); go_simp); (try with_reducible rfl); (try simp only [Act.put, List.setIfInBounds_toArray, List.set_cons_zero, List.set_cons_succ])
              refine wpAnyH_take (i := 4) (oi := { dst := some 66, op := _, type := _, pos := _, after := _, guard := _ }) (v := _) rfl (by kernel_rfl) (by kernel_rfl) (by kernel_rfl) (fun _ _ _ h => h) (Or.inr ⟨by kernel_rfl, rfl⟩) (by assumption) ?_; (try simp only [Act.put, List.setIfInBounds_toArray, List.set_cons_zero, List.set_cons_succ])
              refine wpAnyH_take (i := 6) (oi := { dst := some 68, op := _, type := _, pos := _, after := _, guard := _ }) (v := _) rfl (by kernel_rfl) (by kernel_rfl) (by kernel_rfl) (fun _ _ _ h => h) (Or.inr ⟨by kernel_rfl, rfl⟩) (by assumption) ?_; (try simp only [Act.put, List.setIfInBounds_toArray, List.set_cons_zero, List.set_cons_succ])
              refine wpAnyH_take (i := 5) (oi := { dst := some 67, op := _, type := _, pos := _, after := _, guard := _ }) (v := _) rfl (by kernel_rfl) (by kernel_rfl) (by kernel_rfl) (fun _ _ _ h => h) (Or.inr ⟨by kernel_rfl, rfl⟩) (by assumption) ?_; (try simp only [Act.put, List.setIfInBounds_toArray, List.set_cons_zero, List.set_cons_succ])
              refine wpAnyH_take (i := 7) (oi := { dst := some 69, op := _, type := _, pos := _, after := _, guard := _ }) (v := _) rfl (by kernel_rfl) (by kernel_rfl) (by kernel_rfl) (fun _ _ _ h => h) (Or.inr ⟨by kernel_rfl, rfl⟩) (by assumption) ?_; (try simp only [Act.put, List.setIfInBounds_toArray, List.set_cons_zero, List.set_cons_succ])
              refine wpAnyH_take (i := 8) (oi := { dst := some 70, op := _, type := _, pos := _, after := _, guard := _ }) (v := _) rfl (by kernel_rfl) (by kernel_rfl) (by kernel_rfl) (fun _ _ _ h => h) (Or.inr ⟨by kernel_rfl, rfl⟩) (by assumption) ?_; (try simp only [Act.put, List.setIfInBounds_toArray, List.set_cons_zero, List.set_cons_succ])
              refine wpAnyH_take (i := 9) (oi := { dst := some 71, op := _, type := _, pos := _, after := _, guard := _ }) (v := ?_) rfl (by kernel_rfl) (by kernel_rfl) (by kernel_rfl) (fun _ _ _ h => h) (Or.inl ⟨by rfl, ?_⟩) (by assumption) ?_; rotate_left; (intro w hSw; (try dsimp only at hSw); go_simp); (try with_reducible rfl); (try simp only [Act.put, List.setIfInBounds_toArray, List.set_cons_zero, List.set_cons_succ])
              refine wpAnyH_done (by kernel_rfl) ?_ _
              go_wp2_with fail
              go_ret
              exact ⟨ret_bool (by rw [HN2.out]), by (with_reducible repeat' first | exact Below.refl _ _ | assumption | (refine Below.setCell ?_ (by first | omega | (simp; omega) | (simp; done) | (dsimp only; omega)) _) | (refine Below.alloc ?_ (by first | omega | (simp; omega) | (simp; done) | (dsimp only; omega)) _) | (refine below_drewN ?_ _) | (refine Below.drew ?_) | (refine Below.trans ?_ (hb4.mono (by first | omega | (simp; omega) | (simp; done) | (dsimp only; omega)))) | (refine Below.trans ?_ (hbw.mono (by first | omega | (simp; omega) | (simp; done) | (dsimp only; omega)))))⟩
            | true =>
              have H2 := Lib.hid h2; clear h2
              by_cases hsx : sexM ⟨(k : Int), xs⟩ = sexM ⟨(k : Int), ys⟩
              · have HSD := Lib.hid (side_yes (r := ⟨x0, x1, x2, xs, ys⟩) H2.out hsx)
                generalize hX : sexM ⟨(k : Int), xs⟩ = X at hsx
                generalize hY : sexM ⟨(k : Int), ys⟩ = Y at hsx
                have HX := Lib.hid hX; have HY := Lib.hid hY; clear hX hY
                have nx : (Y != X) = false := by simp [hsx]
                clear hsx
                refine wp_region_held_drew (S := fun w' => w'.cell? ⟨b5, 0, none⟩ = some (.int .i64 (k : Int)) ∧ w'.cell? ⟨b5, 1, none⟩ = some (.slice A xs.length c) ∧ w'.cell? ⟨b6, 0, none⟩ = some (.int .i64 (k : Int)) ∧ w'.cell? ⟨b6, 1, none⟩ = some (.slice B ys.length d)) (by kernel_rfl) ⟨e0, e1, e2, e3⟩ (fun hHeld => ?_)
                refine wpAnyH_take (i := 0) (oi := { dst := some 62, op := _, type := _, pos := _, after := _, guard := _ }) (v := ?_) rfl (by kernel_rfl) (by kernel_rfl) (by kernel_rfl) (fun _ _ _ h => h) (Or.inl ⟨by rfl, ?_⟩) (by assumption) ?_; rotate_left; (intro w hSw; (try dsimp only at hSw); go_simp); (try with_reducible rfl); (try simp only [Act.put, List.setIfInBounds_toArray, List.set_cons_zero, List.set_cons_succ])
                refine wpAnyH_ready (rs := [1]) (by kernel_rfl) (by simp) ?_
                refine AllReadyH.cons (o := { dst := some 63, op := _, type := _, pos := _, after := _, guard := _ }) rfl (fun K hK => ?_) AllReadyH.nil
                go_simp
                (go_at_call 85; (with_reducible refine (specIsType_any (k : Int) B d lo hi ys _ (h'.same (by (with_reducible repeat' first | exact Same.refl _ _ _ | assumption | (refine Same.setCell ?_ (by first | omega | (simp; omega) | (simp; done) | (dsimp only; omega)) _) | (refine Same.alloc ?_ (by first | omega | (simp; omega) | (simp; done) | (dsimp only; omega)) _) | (refine Same.drewN ?_ _) | (refine Same.drew ?_)))) (by first | omega | (simp; omega) | (simp; done) | (dsimp only; omega))).mono ?_); rintro e w5 ⟨rfl, hb6⟩; simp only [H2.out]; replace hb6 := undrew hb6; (replace e0 := (hb6.cell (by first | omega | (simp; omega) | (simp; done) | (dsimp only; omega))).trans e0; replace e1 := (hb6.cell (by first | omega | (simp; omega) | (simp; done) | (dsimp only; omega))).trans e1; replace e2 := (hb6.cell (by first | omega | (simp; omega) | (simp; done) | (dsimp only; omega))).trans e2; replace e3 := (hb6.cell (by first | omega | (simp; omega) | (simp; done) | (dsimp only; omega))).trans e3; replace h := h.same (Same.of_below hb6 (by first | omega | (simp; omega) | (simp; done) | (dsimp only; omega))); replace h' := h'.same (Same.of_below hb6 (by first | omega | (simp; omega) | (simp; done) | (dsimp only; omega))); replace hb4 := hb4.trans (hb6.mono (by first | omega | (simp; omega) | (simp; done) | (dsimp only; omega))); replace hb4s := Nat.le_trans hb4s hb6.size; have zhb6 := hb6.size; clear hb6))
                try go_wp2_with fail
                refine hK.out _ _ ⟨e0, e1, e2, e3⟩ (fun hHeld => ?_)
                clear hK K; (try simp only [Act.put, List.setIfInBounds_toArray, List.set_cons_zero, List.set_cons_succ])
                refine wpAnyH_take (i := 2) (oi := { dst := some 64, op := _, type := _, pos := _, after := _, guard := _ }) (v := ?_) rfl (by kernel_rfl) (by kernel_rfl) (by kernel_rfl) (fun _ _ _ h => h) (Or.inl ⟨by rfl, ?_⟩) (by assumption) ?_; rotate_left; (intro w hSw; (try dsimp only at hSw); go_simp); (try with_reducible rfl); (try simp only [Act.put, List.setIfInBounds_toArray, List.set_cons_zero, List.set_cons_succ])
                refine wpAnyH_take (i := 3) (oi := { dst := some 65, op := _, type := _, pos := _, after := _, guard := _ }) (v := ?_) rfl (by kernel_rfl) (by kernel_rfl) (by kernel_rfl) (fun _ _ _ h => h) (Or.inl ⟨by rfl, ?_⟩) (by assumption) ?_; rotate_left; (intro w hSw; (try dsimp only at hSw); go_simp); (try with_reducible rfl); (try simp only [Act.put, List.setIfInBounds_toArray, List.set_cons_zero, List.set_cons_succ])
                refine wpAnyH_take (i := 4) (oi := { dst := some 66, op := _, type := _, pos := _, after := _, guard := _ }) (v := ?_) rfl (by kernel_rfl) (by kernel_rfl) (by kernel_rfl) (fun _ _ _ h => h) (Or.inl ⟨by rfl, ?_⟩) (by assumption) ?_; rotate_left; (intro w hSw; (try dsimp only at hSw); go_simp); (try with_reducible rfl); (try simp only [Act.put, List.setIfInBounds_toArray, List.set_cons_zero, List.set_cons_succ])
                refine wpAnyH_take (i := 6) (oi := { dst := some 68, op := _, type := _, pos := _, after := _, guard := _ }) (v := ?_) rfl (by kernel_rfl) (by kernel_rfl) (by kernel_rfl) (fun _ _ _ h => h) (Or.inl ⟨by rfl, ?_⟩) (by assumption) ?_; rotate_left; (intro w hSw; (try dsimp only at hSw); go_simp); (try with_reducible rfl); (try simp only [Act.put, List.setIfInBounds_toArray, List.set_cons_zero, List.set_cons_succ])
                refine wpAnyH_ready (rs := [5]) (by kernel_rfl) (by simp) ?_
                refine AllReadyH.cons (o := { dst := some 67, op := _, type := _, pos := _, after := _, guard := _ }) rfl (fun K hK => ?_) AllReadyH.nil
                go_simp
                (go_at_call 153; (with_reducible refine (l3Last_any (k : Int) B d lo hi ys _ h' (by first | omega | (simp; omega) | (simp; done) | (dsimp only; omega)) H2.out).mono ?_); rintro e w6 ⟨rfl, hb7⟩; simp only [HY.out]; (replace e0 := (hb7.cell (by first | omega | (simp; omega) | (simp; done) | (dsimp only; omega))).trans e0; replace e1 := (hb7.cell (by first | omega | (simp; omega) | (simp; done) | (dsimp only; omega))).trans e1; replace e2 := (hb7.cell (by first | omega | (simp; omega) | (simp; done) | (dsimp only; omega))).trans e2; replace e3 := (hb7.cell (by first | omega | (simp; omega) | (simp; done) | (dsimp only; omega))).trans e3; replace h := h.same (Same.of_below hb7 (by first | omega | (simp; omega) | (simp; done) | (dsimp only; omega))); replace h' := h'.same (Same.of_below hb7 (by first | omega | (simp; omega) | (simp; done) | (dsimp only; omega))); replace hb4 := hb4.trans (hb7.mono (by first | omega | (simp; omega) | (simp; done) | (dsimp only; omega))); replace hb4s := Nat.le_trans hb4s hb7.size; have zhb7 := hb7.size; clear hb7))
                try go_wp2_with fail
                refine hK.out _ _ ⟨e0, e1, e2, e3⟩ (fun hHeld => ?_)
                clear hK K; (try simp only [Act.put, List.setIfInBounds_toArray, List.set_cons_zero, List.set_cons_succ])
                refine wpAnyH_ready (rs := [7]) (by kernel_rfl) (by simp) ?_
                refine AllReadyH.cons (o := { dst := some 69, op := _, type := _, pos := _, after := _, guard := _ }) rfl (fun K hK => ?_) AllReadyH.nil
                go_simp
                (go_at_call 153; (with_reducible refine (l3Last_any (k : Int) A c lo hi xs _ h (by first | omega | (simp; omega) | (simp; done) | (dsimp only; omega)) H1.out).mono ?_); rintro e w7 ⟨rfl, hb8⟩; simp only [HX.out]; (replace e0 := (hb8.cell (by first | omega | (simp; omega) | (simp; done) | (dsimp only; omega))).trans e0; replace e1 := (hb8.cell (by first | omega | (simp; omega) | (simp; done) | (dsimp only; omega))).trans e1; replace e2 := (hb8.cell (by first | omega | (simp; omega) | (simp; done) | (dsimp only; omega))).trans e2; replace e3 := (hb8.cell (by first | omega | (simp; omega) | (simp; done) | (dsimp only; omega))).trans e3; replace h := h.same (Same.of_below hb8 (by first | omega | (simp; omega) | (simp; done) | (dsimp only; omega))); replace h' := h'.same (Same.of_below hb8 (by first | omega | (simp; omega) | (simp; done) | (dsimp only; omega))); replace hb4 := hb4.trans (hb8.mono (by first | omega | (simp; omega) | (simp; done) | (dsimp only; omega))); replace hb4s := Nat.le_trans hb4s hb8.size; have zhb8 := hb8.size; clear hb8))
                try go_wp2_with fail
                refine hK.out _ _ ⟨e0, e1, e2, e3⟩ (fun hHeld => ?_)
                clear hK K; (try simp only [Act.put, List.setIfInBounds_toArray, List.set_cons_zero, List.set_cons_succ])
                refine wpAnyH_take (i := 8) (oi := { dst := some 70, op := _, type := _, pos := _, after := _, guard := _ }) (v := ?_) rfl (by kernel_rfl) (by kernel_rfl) (by kernel_rfl) (fun _ _ _ h => h) (Or.inl ⟨by rfl, ?_⟩) (by assumption) ?_; rotate_left; (intro w hSw; (try dsimp only at hSw); go_simp); (try with_reducible rfl); (try simp only [Act.put, List.setIfInBounds_toArray, List.set_cons_zero, List.set_cons_succ])
                refine wpAnyH_take (i := 9) (oi := { dst := some 71, op := _, type := _, pos := _, after := _, guard := _ }) (v := ?_) rfl (by kernel_rfl) (by kernel_rfl) (by kernel_rfl) (fun _ _ _ h => h) (Or.inl ⟨by rfl, ?_⟩) (by assumption) ?_; rotate_left; (intro w hSw; (try dsimp only at hSw); go_simp); (try with_reducible rfl); (try simp only [Act.put, List.setIfInBounds_toArray, List.set_cons_zero, List.set_cons_succ])
                refine wpAnyH_done (by kernel_rfl) ?_ _
                go_wp2_with fail
                exact ⟨HC2.out _ hb4 HSK.out HSD.out, by simp [intOf]; omega⟩
              · have HSD := Lib.hid (side_ne (r := ⟨x0, x1, x2, xs, ys⟩) hsx)
                have HN2 := Lib.hid (show R = false by rw [← HR.out]; exact ruleOk_bad HK.out HSK.out HSD.out)
                generalize hX : sexM ⟨(k : Int), xs⟩ = X at hsx
                generalize hY : sexM ⟨(k : Int), ys⟩ = Y at hsx
                have HX := Lib.hid hX; have HY := Lib.hid hY; clear hX hY
                have nx : (Y != X) = true := by simp; exact fun h => hsx h.symm
                clear hsx
                refine wp_region_held_drew (S := fun w' => w'.cell? ⟨b5, 0, none⟩ = some (.int .i64 (k : Int)) ∧ w'.cell? ⟨b5, 1, none⟩ = some (.slice A xs.length c) ∧ w'.cell? ⟨b6, 0, none⟩ = some (.int .i64 (k : Int)) ∧ w'.cell? ⟨b6, 1, none⟩ = some (.slice B ys.length d)) (by kernel_rfl) ⟨e0, e1, e2, e3⟩ (fun hHeld => ?_)
                refine wpAnyH_take (i := 0) (oi := { dst := some 62, op := _, type := _, pos := _, after := _, guard := _ }) (v := ?_) rfl (by kernel_rfl) (by kernel_rfl) (by kernel_rfl) (fun _ _ _ h => h) (Or.inl ⟨by rfl, ?_⟩) (by assumption) ?_; rotate_left; (intro w hSw; (try dsimp only at hSw); go_simp); (try with_reducible rfl); (try simp only [Act.put, List.setIfInBounds_toArray, List.set_cons_zero, List.set_cons_succ])
                refine wpAnyH_ready (rs := [1]) (by kernel_rfl) (by simp) ?_
                refine AllReadyH.cons (o := { dst := some 63, op := _, type := _, pos := _, after := _, guard := _ }) rfl (fun K hK => ?_) AllReadyH.nil
                go_simp
                (go_at_call 85; (with_reducible refine (specIsType_any (k : Int) B d lo hi ys _ (h'.same (by (with_reducible repeat' first | exact Same.refl _ _ _ | assumption | (refine Same.setCell ?_ (by first | omega | (simp; omega) | (simp; done) | (dsimp only; omega)) _) | (refine Same.alloc ?_ (by first | omega | (simp; omega) | (simp; done) | (dsimp only; omega)) _) | (refine Same.drewN ?_ _) | (refine Same.drew ?_)))) (by first | omega | (simp; omega) | (simp; done) | (dsimp only; omega))).mono ?_); rintro e w5 ⟨rfl, hb6⟩; simp only [H2.out]; replace hb6 := undrew hb6; (replace e0 := (hb6.cell (by first | omega | (simp; omega) | (simp; done) | (dsimp only; omega))).trans e0; replace e1 := (hb6.cell (by first | omega | (simp; omega) | (simp; done) | (dsimp only; omega))).trans e1; replace e2 := (hb6.cell (by first | omega | (simp; omega) | (simp; done) | (dsimp only; omega))).trans e2; replace e3 := (hb6.cell (by first | omega | (simp; omega) | (simp; done) | (dsimp only; omega))).trans e3; replace h := h.same (Same.of_below hb6 (by first | omega | (simp; omega) | (simp; done) | (dsimp only; omega))); replace h' := h'.same (Same.of_below hb6 (by first | omega | (simp; omega) | (simp; done) | (dsimp only; omega))); replace hb4 := hb4.trans (hb6.mono (by first | omega | (simp; omega) | (simp; done) | (dsimp only; omega))); replace hb4s := Nat.le_trans hb4s hb6.size; have zhb6 := hb6.size; clear hb6))
                try go_wp2_with fail
                refine hK.out _ _ ⟨e0, e1, e2, e3⟩ (fun hHeld => ?_)
                clear hK K; (try simp only [Act.put, List.setIfInBounds_toArray, List.set_cons_zero, List.set_cons_succ])
                refine wpAnyH_take (i := 2) (oi := { dst := some 64, op := _, type := _, pos := _, after := _, guard := _ }) (v := ?_) rfl (by kernel_rfl) (by kernel_rfl) (by kernel_rfl) (fun _ _ _ h => h) (Or.inl ⟨by rfl, ?_⟩) (by assumption) ?_; rotate_left; (intro w hSw; (try dsimp only at hSw); go_simp); (try with_reducible rfl); (try simp only [Act.put, List.setIfInBounds_toArray, List.set_cons_zero, List.set_cons_succ])
                refine wpAnyH_take (i := 3) (oi := { dst := some 65, op := _, type := _, pos := _, after := _, guard := _ }) (v := ?_) rfl (by kernel_rfl) (by kernel_rfl) (by kernel_rfl) (fun _ _ _ h => h) (Or.inl ⟨by rfl, ?_⟩) (by assumption) ?_; rotate_left; (intro w hSw; (try dsimp only at hSw); go_simp); (try with_reducible rfl); (try simp only [Act.put, List.setIfInBounds_toArray, List.set_cons_zero, List.set_cons_succ])
                refine wpAnyH_take (i := 4) (oi := { dst := some 66, op := _, type := _, pos := _, after := _, guard := _ }) (v := ?_) rfl (by kernel_rfl) (by kernel_rfl) (by kernel_rfl) (fun _ _ _ h => h) (Or.inl ⟨by rfl, ?_⟩) (by assumption) ?_; rotate_left; (intro w hSw; (try dsimp only at hSw); go_simp); (try with_reducible rfl); (try simp only [Act.put, List.setIfInBounds_toArray, List.set_cons_zero, List.set_cons_succ])
                refine wpAnyH_take (i := 6) (oi := { dst := some 68, op := _, type := _, pos := _, after := _, guard := _ }) (v := ?_) rfl (by kernel_rfl) (by kernel_rfl) (by kernel_rfl) (fun _ _ _ h => h) (Or.inl ⟨by rfl, ?_⟩) (by assumption) ?_; rotate_left; (intro w hSw; (try dsimp only at hSw); go_simp); (try with_reducible rfl); (try simp only [Act.put, List.setIfInBounds_toArray, List.set_cons_zero, List.set_cons_succ])
                refine wpAnyH_ready (rs := [5]) (by kernel_rfl) (by simp) ?_
                refine AllReadyH.cons (o := { dst := some 67, op := _, type := _, pos := _, after := _, guard := _ }) rfl (fun K hK => ?_) AllReadyH.nil
                go_simp
                (go_at_call 153; (with_reducible refine (l3Last_any (k : Int) B d lo hi ys _ h' (by first | omega | (simp; omega) | (simp; done) | (dsimp only; omega)) H2.out).mono ?_); rintro e w6 ⟨rfl, hb7⟩; simp only [HY.out]; (replace e0 := (hb7.cell (by first | omega | (simp; omega) | (simp; done) | (dsimp only; omega))).trans e0; replace e1 := (hb7.cell (by first | omega | (simp; omega) | (simp; done) | (dsimp only; omega))).trans e1; replace e2 := (hb7.cell (by first | omega | (simp; omega) | (simp; done) | (dsimp only; omega))).trans e2; replace e3 := (hb7.cell (by first | omega | (simp; omega) | (simp; done) | (dsimp only; omega))).trans e3; replace h := h.same (Same.of_below hb7 (by first | omega | (simp; omega) | (simp; done) | (dsimp only; omega))); replace h' := h'.same (Same.of_below hb7 (by first | omega | (simp; omega) | (simp; done) | (dsimp only; omega))); replace hb4 := hb4.trans (hb7.mono (by first | omega | (simp; omega) | (simp; done) | (dsimp only; omega))); replace hb4s := Nat.le_trans hb4s hb7.size; have zhb7 := hb7.size; clear hb7))
                try go_wp2_with fail
                refine hK.out _ _ ⟨e0, e1, e2, e3⟩ (fun hHeld => ?_)
                clear hK K; (try simp only [Act.put, List.setIfInBounds_toArray, List.set_cons_zero, List.set_cons_succ])
                refine wpAnyH_ready (rs := [7]) (by kernel_rfl) (by simp) ?_
                refine AllReadyH.cons (o := { dst := some 69, op := _, type := _, pos := _, after := _, guard := _ }) rfl (fun K hK => ?_) AllReadyH.nil
                go_simp
                (go_at_call 153; (with_reducible refine (l3Last_any (k : Int) A c lo hi xs _ h (by first | omega | (simp; omega) | (simp; done) | (dsimp only; omega)) H1.out).mono ?_); rintro e w7 ⟨rfl, hb8⟩; simp only [HX.out]; (replace e0 := (hb8.cell (by first | omega | (simp; omega) | (simp; done) | (dsimp only; omega))).trans e0; replace e1 := (hb8.cell (by first | omega | (simp; omega) | (simp; done) | (dsimp only; omega))).trans e1; replace e2 := (hb8.cell (by first | omega | (simp; omega) | (simp; done) | (dsimp only; omega))).trans e2; replace e3 := (hb8.cell (by first | omega | (simp; omega) | (simp; done) | (dsimp only; omega))).trans e3; replace h := h.same (Same.of_below hb8 (by first | omega | (simp; omega) | (simp; done) | (dsimp only; omega))); replace h' := h'.same (Same.of_below hb8 (by first | omega | (simp; omega) | (simp; done) | (dsimp only; omega))); replace hb4 := hb4.trans (hb8.mono (by first | omega | (simp; omega) | (simp; done) | (dsimp only; omega))); replace hb4s := Nat.le_trans hb4s hb8.size; have zhb8 := hb8.size; clear hb8))
                try go_wp2_with fail
                refine hK.out _ _ ⟨e0, e1, e2, e3⟩ (fun hHeld => ?_)
                clear hK K; (try simp only [Act.put, List.setIfInBounds_toArray, List.set_cons_zero, List.set_cons_succ])
                refine wpAnyH_take (i := 8) (oi := { dst := some 70, op := _, type := _, pos := _, after := _, guard := _ }) (v := ?_) rfl (by kernel_rfl) (by kernel_rfl) (by kernel_rfl) (fun _ _ _ h => h) (Or.inl ⟨by rfl, ?_⟩) (by assumption) ?_; rotate_left; (intro w hSw; (try dsimp only at hSw); go_simp); (try with_reducible rfl); (try simp only [Act.put, List.setIfInBounds_toArray, List.set_cons_zero, List.set_cons_succ])
                refine wpAnyH_take (i := 9) (oi := { dst := some 71, op := _, type := _, pos := _, after := _, guard := _ }) (v := ?_) rfl (by kernel_rfl) (by kernel_rfl) (by kernel_rfl) (fun _ _ _ h => h) (Or.inl ⟨by rfl, ?_⟩) (by assumption) ?_; rotate_left; (intro w hSw; (try dsimp only at hSw); go_simp); (try with_reducible rfl); (try simp only [Act.put, List.setIfInBounds_toArray, List.set_cons_zero, List.set_cons_succ])
                refine wpAnyH_done (by kernel_rfl) ?_ _
                go_wp2_with fail
                go_ret
                exact ⟨ret_bool (by rw [HN2.out]), by (with_reducible repeat' first | exact Below.refl _ _ | assumption | (refine Below.setCell ?_ (by first | omega | (simp; omega) | (simp; done) | (dsimp only; omega)) _) | (refine Below.alloc ?_ (by first | omega | (simp; omega) | (simp; done) | (dsimp only; omega)) _) | (refine below_drewN ?_ _) | (refine Below.drew ?_) | (refine Below.trans ?_ (hb4.mono (by first | omega | (simp; omega) | (simp; done) | (dsimp only; omega)))) | (refine Below.trans ?_ (hbw.mono (by first | omega | (simp; omega) | (simp; done) | (dsimp only; omega)))))⟩
end Go.Proofs.Ytnnjilkjjdiblaa
