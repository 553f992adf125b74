/-
  The text of a kin type.
-/
import Derived.Test.YtnnjilkjjdiblaaXFmt
namespace Go.Proofs.Ytnnjilkjjdiblaa
set_option maxRecDepth 100000
open Go.RowKit

theorem stepsOk_in {xs : List Step} : ∀ {sex : Int}, stepsOk sex xs = true → StepsIn xs := by
  induction xs with
  | nil => intro sex _ k x h; simp at h
  | cons y r ih =>
    intro sex h k x hk
    simp only [stepsOk, Bool.and_eq_true] at h
    cases k with
    | zero =>
      simp at hk; subst hk
      have := h.1
      simp [stepOk] at this; omega
    | succ k => simp at hk; exact ih h.2 k x hk
theorem typeOk_in {t : KinType} (h : typeOk t = true) : StepsIn t.steps := by
  simp only [typeOk, Bool.and_eq_true] at h
  exact stepsOk_in h.2
theorem preT_size (e : Int) : (preT e).size ≤ 2 := by
  unfold preT; split <;> (try split) <;> decide
theorem stepsT_size (xs : List Step) : (stepsT xs).size ≤ 2 * xs.length := by
  induction xs with
  | nil => exact Nat.le_refl 0
  | cons x r ih =>
    have h1 := ageT_size x.age
    have h2 := kindT_size x.kind
    simp only [stepsT, stepT, ByteArray.size_append, List.length_cons]; omega
theorem dotT_size (s : ByteArray) : (dotT s).size ≤ s.size + 1 := by
  unfold dotT; split
  · exact Nat.le_add_left 1 _
  · omega

theorem implFormatType_any (s : Int) (A : Option Addr) (c lo hi : Nat) (xs : List Step) (w : World) (h : EStep.AS w lo hi A xs) (hh : hi ≤ w.heap.size) :
    Calls Try.prog 66 #[.agg #[.int .i64 s, .slice A xs.length c]] w fun e w' => e = .returned (.string (textT ⟨s, xs⟩)) ∧ Below w.heap.size w w' := by
  cases hok : typeOk ⟨s, xs⟩ with
  | true =>
    have hin := typeOk_in hok
    have hl := typeOk_len hok
    have he := typeOk_ego hok
    simp only at hin hl he
    have hp := preT_size s
    have hw : (wordT xs).size ≤ 17 := Nat.le_trans (dotT_size _) (by have := stepsT_size xs; omega)
    have e1 := add_run (preT s) (dotT (stepsT xs)) (by omega) (by unfold wordT at hw; omega)
    have HO := Lib.hid hok; clear hok
    go_enter Try.func66, Try.ntmps66
    go_wp2_with (go_at_call 86; refine (implIsType_any s A c lo hi xs _ (h.same (by (with_reducible repeat' first | exact Same.refl _ _ _ | assumption | (refine Same.setCell ?_ (by first | omega | (simp; omega) | (simp; done) | (dsimp only; omega)) _) | (refine Same.alloc ?_ (by first | omega | (simp; omega) | (simp; done) | (dsimp only; omega)) _) | (refine Same.drewN ?_ _) | (refine Same.drew ?_)))) (by first | omega | (simp; omega) | (simp; done) | (dsimp only; omega))).mono ?_; rintro e w1 ⟨rfl, hb1⟩; simp only [HO.out]; (obtain ⟨hb1c, hb1f⟩ := bcell hb1); (have hb1z := hb1.size); (try simp only [szs] at hb1c hb1f hb1z))
    have h1 : EStep.AS w1 lo hi A xs := h.same (by (with_reducible repeat' first | exact Same.refl _ _ _ | assumption | (refine Same.setCell ?_ (by first | omega | (simp; omega) | (simp; done) | (dsimp only; omega)) _) | (refine Same.alloc ?_ (by first | omega | (simp; omega) | (simp; done) | (dsimp only; omega)) _) | (refine Same.drewN ?_ _) | (refine Same.drew ?_) | (refine Same.trans ?_ (Same.of_below hb1 (by first | omega | (simp; omega) | (simp; done) | (dsimp only; omega))))))
    have c1 : w1.cell? ⟨w.heap.size, 0, none⟩ = some (.int .i64 s) := by rw [hb1c _ _ (by omega)]; simp [go_sem]
    have c2 : w1.cell? ⟨w.heap.size, 1, none⟩ = some (.slice A xs.length c) := by rw [hb1c _ _ (by omega)]; simp [go_sem]
    go_region_held3 (fun w' => w'.cell? ⟨w.heap.size, 0, none⟩ = some (.int .i64 s) ∧ w'.cell? ⟨w.heap.size, 1, none⟩ = some (.slice A xs.length c)) (exact ⟨c1, c2⟩)
      (first
        | (go_at_call 149; refine (egoPrefix_any s _ he).mono ?_; rintro e w2 ⟨rfl, hb2⟩; replace hb2 := undrew hb2; replace h1 := h1.same (Same.of_below hb2 (by first | omega | (simp; omega) | (simp; done) | (dsimp only; omega))); replace c1 := (hb2.cell (by first | omega | (simp; omega) | (simp; done) | (dsimp only; omega))).trans c1; replace c2 := (hb2.cell (by first | omega | (simp; omega) | (simp; done) | (dsimp only; omega))).trans c2; have z2 := hb2.size)
        | (go_at_call 151; refine (implStepsText_any A c lo hi xs _ h1 (by first | omega | (simp; omega) | (simp; done) | (dsimp only; omega)) hin).mono ?_; rintro e w3 ⟨rfl, hb3⟩; replace c1 := (hb3.cell (by first | omega | (simp; omega) | (simp; done) | (dsimp only; omega))).trans c1; replace c2 := (hb3.cell (by first | omega | (simp; omega) | (simp; done) | (dsimp only; omega))).trans c2)
        | (go_at_call 150; refine (orDot_any _ _).mono ?_; rintro e w4 ⟨rfl, rfl⟩))
    go_wp2
    go_ret
    exact ⟨by rw [textT, if_pos HO.out]; rfl, by (with_reducible repeat' first | exact Below.refl _ _ | assumption | (refine Below.setCell ?_ (by first | omega | (simp; omega) | (simp; done) | (dsimp only; omega)) _) | (refine Below.alloc ?_ (by first | omega | (simp; omega) | (simp; done) | (dsimp only; omega)) _) | (refine below_drewN ?_ _) | (refine Below.drew ?_) | (refine Below.trans ?_ (hb3.mono (by first | omega | (simp; omega) | (simp; done) | (dsimp only; omega)))) | (refine Below.trans ?_ (hb2.mono (by first | omega | (simp; omega) | (simp; done) | (dsimp only; omega)))) | (refine Below.trans ?_ (hb1.mono (by first | omega | (simp; omega) | (simp; done) | (dsimp only; omega)))))⟩
  | false =>
    have HO := Lib.hid hok; clear hok
    go_enter Try.func66, Try.ntmps66
    go_wp2_with (go_at_call 86; refine (implIsType_any s A c lo hi xs _ (h.same (by (with_reducible repeat' first | exact Same.refl _ _ _ | assumption | (refine Same.setCell ?_ (by first | omega | (simp; omega) | (simp; done) | (dsimp only; omega)) _) | (refine Same.alloc ?_ (by first | omega | (simp; omega) | (simp; done) | (dsimp only; omega)) _) | (refine Same.drewN ?_ _) | (refine Same.drew ?_)))) (by first | omega | (simp; omega) | (simp; done) | (dsimp only; omega))).mono ?_; rintro e w1 ⟨rfl, hb1⟩; simp only [HO.out]; (obtain ⟨hb1c, hb1f⟩ := bcell hb1); (have hb1z := hb1.size); (try simp only [szs] at hb1c hb1f hb1z))
    go_ret
    exact ⟨by rw [textT, if_neg (by rw [HO.out]; simp)]; rfl, by (with_reducible repeat' first | exact Below.refl _ _ | assumption | (refine Below.setCell ?_ (by first | omega | (simp; omega) | (simp; done) | (dsimp only; omega)) _) | (refine Below.alloc ?_ (by first | omega | (simp; omega) | (simp; done) | (dsimp only; omega)) _) | (refine below_drewN ?_ _) | (refine Below.drew ?_) | (refine Below.trans ?_ (hb1.mono (by first | omega | (simp; omega) | (simp; done) | (dsimp only; omega)))))⟩

end Go.Proofs.Ytnnjilkjjdiblaa
