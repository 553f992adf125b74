/-
  Kin types, continued: validity in the reference, sex of ego and of the relative.
-/
import Derived.Test.YtnnjilkjjdiblaaTyp
namespace Go.Proofs.Ytnnjilkjjdiblaa
set_option maxRecDepth 100000
open Go.RowKit

theorem specIsType_any (s : Int) (A : Option Addr) (c lo hi : Nat) (xs : List Step) (w : World) (h : EStep.AS w lo hi A xs) (hh : hi ≤ w.heap.size) :
    Calls Try.prog 85 #[.agg #[.int .i64 s, .slice A xs.length c]] w fun e w' => e = .returned (.bool (typeOk ⟨s, xs⟩)) ∧ Below w.heap.size w w' := by
  have hx := h.le
  unfold BIG at hx
  by_cases h00 : 0 ≤ s ∧ s ≤ 2
  · by_cases h0 : xs.length ≤ 8
    · have HI := Lib.hid (inB_true h00)
      go_enter Try.func85, Try.ntmps85
      go_wp2_with (go_at_call 111; refine (l1In_any _ _ _ _).mono ?_; rintro e w' ⟨rfl, rfl⟩; simp only [HI.out])
      go_loopw [3, 21] (fun sx i wr => TypeRel w s xs sx i wr) (fun _ i _ => xs.length - (intOf i).toNat)
      case atStart => exact ⟨0, s, Nat.zero_le _, rfl, rfl, by (with_reducible repeat' first | exact Below.refl _ _ | assumption | (refine Below.setCell ?_ (by first | omega | (simp; omega) | (simp; done) | (dsimp only; omega)) _) | (refine Below.alloc ?_ (by first | omega | (simp; omega) | (simp; done) | (dsimp only; omega)) _) | (refine below_drewN ?_ _) | (refine Below.drew ?_)), by simp, rfl⟩
      case round =>
        obtain ⟨k, sex, hk, rfl, rfl, hb, hz, he⟩ := hrel
        have HE := Lib.hid he; clear he
        by_cases hlt : k < xs.length
        · obtain ⟨b, off, ⟨x, y⟩, rfl, _, _, hd, hxk, hc1, hc2⟩ := AStep.at_ (h.same (Same.of_below hb hh)) hlt
          have HD := Lib.hid hd; clear hd hxk
          by_cases hok : stepOk ⟨x, y⟩ sex = true
          · obtain ⟨k1, k2⟩ := stepOk_kind hok
            have HO := Lib.hid hok; clear hok
            go_wp2_with (first | (go_at_call 134; refine (l3Step_any x y sex _).mono ?_; rintro e w1 ⟨rfl, hb1⟩; simp only [HO.out]; (obtain ⟨hb1c, hb1f⟩ := bcell hb1); (have hb1z := hb1.size); (try simp only [szs] at hb1c hb1f hb1z)) | (go_at_call 172; refine (l3Sex_any x _ k1 k2).mono ?_; rintro e w2 ⟨rfl, rfl⟩))
            exact ⟨⟨k + 1, _, by omega, by go_num, rfl, by (with_reducible repeat' first | exact Below.refl _ _ | assumption | (refine Below.setCell ?_ (by first | omega | (simp; omega) | (simp; done) | (dsimp only; omega)) _) | (refine Below.alloc ?_ (by first | omega | (simp; omega) | (simp; done) | (dsimp only; omega)) _) | (refine below_drewN ?_ _) | (refine Below.drew ?_) | (refine Below.trans ?_ (hb1.mono (by first | omega | (simp; omega) | (simp; done) | (dsimp only; omega))))), by omega, stepsOk_yes HE.out HD.out HO.out⟩, by simp [intOf]; omega⟩
          · have hok : stepOk ⟨x, y⟩ sex = false := by simpa using hok
            have HO := Lib.hid hok; clear hok
            go_wp2_with (first | (go_at_call 134; refine (l3Step_any x y sex _).mono ?_; rintro e w1 ⟨rfl, hb1⟩; simp only [HO.out]; (obtain ⟨hb1c, hb1f⟩ := bcell hb1); (have hb1z := hb1.size); (try simp only [szs] at hb1c hb1f hb1z)))
            go_ret
            exact ⟨ret_bool (by have := stepsOk_no HE.out HD.out HO.out; simp [typeOk, this]), by (with_reducible repeat' first | exact Below.refl _ _ | assumption | (refine Below.setCell ?_ (by first | omega | (simp; omega) | (simp; done) | (dsimp only; omega)) _) | (refine Below.alloc ?_ (by first | omega | (simp; omega) | (simp; done) | (dsimp only; omega)) _) | (refine below_drewN ?_ _) | (refine Below.drew ?_) | (refine Below.trans ?_ (hb1.mono (by first | omega | (simp; omega) | (simp; done) | (dsimp only; omega)))))⟩
        · go_wp2
          go_ret
          exact ⟨ret_bool (by have := stepsOk_end HE.out (by omega); simp [typeOk, this]; omega), hb⟩
    · have HI := Lib.hid (inB_true h00)
      go_enter Try.func85, Try.ntmps85
      go_wp2_with (go_at_call 111; refine (l1In_any _ _ _ _).mono ?_; rintro e w' ⟨rfl, rfl⟩; simp only [HI.out])
      all_goals (go_ret; exact ⟨ret_bool (by simp [typeOk]; omega), by (with_reducible repeat' first | exact Below.refl _ _ | assumption | (refine Below.setCell ?_ (by first | omega | (simp; omega) | (simp; done) | (dsimp only; omega)) _) | (refine Below.alloc ?_ (by first | omega | (simp; omega) | (simp; done) | (dsimp only; omega)) _) | (refine below_drewN ?_ _) | (refine Below.drew ?_))⟩)
  · have HI := Lib.hid (inB_false h00)
    go_enter Try.func85, Try.ntmps85
    go_wp2_with (go_at_call 111; refine (l1In_any _ _ _ _).mono ?_; rintro e w' ⟨rfl, rfl⟩; simp only [HI.out])
    all_goals (go_ret; exact ⟨ret_bool (by simp [typeOk]; omega), by (with_reducible repeat' first | exact Below.refl _ _ | assumption | (refine Below.setCell ?_ (by first | omega | (simp; omega) | (simp; done) | (dsimp only; omega)) _) | (refine Below.alloc ?_ (by first | omega | (simp; omega) | (simp; done) | (dsimp only; omega)) _) | (refine below_drewN ?_ _) | (refine Below.drew ?_))⟩)

/-- The steps of a valid list have kinds from 1 to 8. -/
theorem stepsOk_at {xs : List Step} : ∀ {sex : Int} {k : Nat} {s : Step}, stepsOk sex xs = true → xs[k]? = some s → 1 ≤ s.kind ∧ s.kind ≤ 8 := by
  induction xs with
  | nil => intro sex k s _ h; simp at h
  | cons x r ih =>
    intro sex k s h hk
    simp only [stepsOk, Bool.and_eq_true] at h
    cases k with
    | zero => simp at hk; subst hk; exact stepOk_kind h.1
    | succ k => simp at hk; exact ih h.2 hk
theorem typeOk_at {t : KinType} {k : Nat} {s : Step} (h : typeOk t = true) (hk : t.steps[k]? = some s) : 1 ≤ s.kind ∧ s.kind ≤ 8 := by
  simp only [typeOk, Bool.and_eq_true] at h
  exact stepsOk_at h.2 hk
theorem typeOk_len {t : KinType} (h : typeOk t = true) : t.steps.length ≤ 8 := by
  simp [typeOk] at h; omega
theorem typeOk_ego {t : KinType} (h : typeOk t = true) : 0 ≤ t.ego ∧ t.ego ≤ 2 := by
  simp [typeOk] at h; omega

theorem l3Last_any (s : Int) (A : Option Addr) (c lo hi : Nat) (xs : List Step) (w : World) (h : EStep.AS w lo hi A xs) (hh : hi ≤ w.heap.size) (hok : typeOk ⟨s, xs⟩ = true) :
    Calls Try.prog 153 #[.agg #[.int .i64 s, .slice A xs.length c]] w fun e w' => e = .returned (.int .i64 (sexM ⟨s, xs⟩)) ∧ Below w.heap.size w w' := by
  have hl := typeOk_len hok
  simp only at hl
  have HO := Lib.hid hok; clear hok
  by_cases h0 : xs.length = 0
  · have H0 := Lib.hid h0
    have hb : ((xs.length : Int) == 0) = true := by simp [h0]
    clear h0
    go_enter Try.func153, Try.ntmps153
    go_wp2
    go_ret
    exact ⟨ret_int (by simp [sexM, H0.out]), by (with_reducible repeat' first | exact Below.refl _ _ | assumption | (refine Below.setCell ?_ (by first | omega | (simp; omega) | (simp; done) | (dsimp only; omega)) _) | (refine Below.alloc ?_ (by first | omega | (simp; omega) | (simp; done) | (dsimp only; omega)) _) | (refine below_drewN ?_ _) | (refine Below.drew ?_))⟩
  · have hb : ((xs.length : Int) == 0) = false := beq_eq_false_iff_ne.2 (by omega)
    have hlt : xs.length - 1 < xs.length := Nat.sub_lt (by omega) (by omega)
    obtain ⟨b, off, ⟨x, y⟩, rfl, _, hbh, _, hxk, hc1, hc2⟩ := AStep.at_ h hlt
    have hbw : b < w.heap.size := by omega
    have k12 := typeOk_at HO.out hxk
    have HX := Lib.hid hxk; clear hxk
    have e1 : ((xs.length : Int) - 1) = ((xs.length - 1 : Nat) : Int) := by omega
    have k1 := k12.1; have k2 := k12.2; simp only at k1 k2; clear k12
    go_enter Try.func153, Try.ntmps153
    go_wp2_with (go_at_call 172; refine (l3Sex_any x _ k1 k2).mono ?_; rintro e w2 ⟨rfl, rfl⟩)
    go_ret
    exact ⟨ret_int (by simp [sexM, h0, List.getD, HX.out]), by (with_reducible repeat' first | exact Below.refl _ _ | assumption | (refine Below.setCell ?_ (by first | omega | (simp; omega) | (simp; done) | (dsimp only; omega)) _) | (refine Below.alloc ?_ (by first | omega | (simp; omega) | (simp; done) | (dsimp only; omega)) _) | (refine below_drewN ?_ _) | (refine Below.drew ?_))⟩

theorem sexOf_any (s : Int) (A : Option Addr) (c lo hi : Nat) (xs : List Step) (w : World) (h : EStep.AS w lo hi A xs) (hh : hi ≤ w.heap.size) (hok : typeOk ⟨s, xs⟩ = true) :
    Calls Try.prog 88 #[.agg #[.int .i64 s, .slice A xs.length c]] w fun e w' => e = .returned (.int .i64 (sexM ⟨s, xs⟩)) ∧ Below w.heap.size w w' := by
  have hl := typeOk_len hok
  simp only at hl
  have HO := Lib.hid hok; clear hok
  by_cases h0 : xs.length = 0
  · have H0 := Lib.hid h0
    have hb : ((xs.length : Int) == 0) = true := by simp [h0]
    clear h0
    go_enter Try.func88, Try.ntmps88
    go_wp2
    go_ret
    exact ⟨ret_int (by simp [sexM, H0.out]), by (with_reducible repeat' first | exact Below.refl _ _ | assumption | (refine Below.setCell ?_ (by first | omega | (simp; omega) | (simp; done) | (dsimp only; omega)) _) | (refine Below.alloc ?_ (by first | omega | (simp; omega) | (simp; done) | (dsimp only; omega)) _) | (refine below_drewN ?_ _) | (refine Below.drew ?_))⟩
  · have hb : ((xs.length : Int) == 0) = false := beq_eq_false_iff_ne.2 (by omega)
    have hlt : xs.length - 1 < xs.length := Nat.sub_lt (by omega) (by omega)
    obtain ⟨b, off, ⟨x, y⟩, rfl, _, hbh, _, hxk, hc1, hc2⟩ := AStep.at_ h hlt
    have hbw : b < w.heap.size := by omega
    have k12 := typeOk_at HO.out hxk
    have HX := Lib.hid hxk; clear hxk
    have e1 : ((xs.length : Int) - 1) = ((xs.length - 1 : Nat) : Int) := by omega
    have k1 := k12.1; have k2 := k12.2; simp only at k1 k2; clear k12
    go_enter Try.func88, Try.ntmps88
    go_wp2_with (go_at_call 173; refine (stepSex_any x _ k1 k2).mono ?_; rintro e w2 ⟨rfl, rfl⟩)
    go_ret
    exact ⟨ret_int (by simp [sexM, h0, List.getD, HX.out]), by (with_reducible repeat' first | exact Below.refl _ _ | assumption | (refine Below.setCell ?_ (by first | omega | (simp; omega) | (simp; done) | (dsimp only; omega)) _) | (refine Below.alloc ?_ (by first | omega | (simp; omega) | (simp; done) | (dsimp only; omega)) _) | (refine below_drewN ?_ _) | (refine Below.drew ?_))⟩

theorem egoM_of {xs r : List Step} {s : Step} (h : xs.drop 0 = s :: r) : egoM ⟨0, xs⟩ = if s.kind = 7 then 2 else if s.kind = 8 then 1 else 0 := by
  simp only [List.drop_zero] at h; subst h; rfl
theorem l3Ego_any (s : Int) (A : Option Addr) (c lo hi : Nat) (xs : List Step) (w : World) (h : EStep.AS w lo hi A xs) (hh : hi ≤ w.heap.size) :
    Calls Try.prog 152 #[.agg #[.int .i64 s, .slice A xs.length c]] w fun e w' => e = .returned (.int .i64 (egoM ⟨s, xs⟩)) ∧ Below w.heap.size w w' := by
  by_cases hs : s = 0
  · subst hs
    by_cases h0 : 0 < xs.length
    · obtain ⟨b, off, ⟨x, y⟩, rfl, _, hbh, hd, hxk, hc1, hc2⟩ := AStep.at_ h h0
      have hbw : b < w.heap.size := by omega
      have HD := Lib.hid hd; clear hd hxk
      simp only [Nat.zero_mul, Nat.add_zero] at hc1 hc2
      go_enter Try.func152, Try.ntmps152
      go_wp2
      all_goals (go_ret; exact ⟨ret_int (by rw [egoM_of HD.out]; simp_all), by (with_reducible repeat' first | exact Below.refl _ _ | assumption | (refine Below.setCell ?_ (by first | omega | (simp; omega) | (simp; done) | (dsimp only; omega)) _) | (refine Below.alloc ?_ (by first | omega | (simp; omega) | (simp; done) | (dsimp only; omega)) _) | (refine below_drewN ?_ _) | (refine Below.drew ?_))⟩)
    · obtain rfl : xs = [] := List.eq_nil_of_length_eq_zero (by omega)
      go_enter Try.func152, Try.ntmps152
      go_wp2
      go_ret
      exact ⟨ret_int (by simp [egoM]), by (with_reducible repeat' first | exact Below.refl _ _ | assumption | (refine Below.setCell ?_ (by first | omega | (simp; omega) | (simp; done) | (dsimp only; omega)) _) | (refine Below.alloc ?_ (by first | omega | (simp; omega) | (simp; done) | (dsimp only; omega)) _) | (refine below_drewN ?_ _) | (refine Below.drew ?_))⟩
  · have hb : (s == 0) = false := by simpa using hs
    go_enter Try.func152, Try.ntmps152
    go_wp2
    go_ret
    exact ⟨ret_int (by simp [egoM, hs]), by (with_reducible repeat' first | exact Below.refl _ _ | assumption | (refine Below.setCell ?_ (by first | omega | (simp; omega) | (simp; done) | (dsimp only; omega)) _) | (refine Below.alloc ?_ (by first | omega | (simp; omega) | (simp; done) | (dsimp only; omega)) _) | (refine below_drewN ?_ _) | (refine Below.drew ?_))⟩

theorem egoOf_any (s : Int) (A : Option Addr) (c lo hi : Nat) (xs : List Step) (w : World) (h : EStep.AS w lo hi A xs) (hh : hi ≤ w.heap.size) :
    Calls Try.prog 87 #[.agg #[.int .i64 s, .slice A xs.length c]] w fun e w' => e = .returned (.int .i64 (egoM ⟨s, xs⟩)) ∧ Below w.heap.size w w' := by
  by_cases hs : s = 0
  · subst hs
    by_cases h0 : 0 < xs.length
    · obtain ⟨b, off, ⟨x, y⟩, rfl, _, hbh, hd, hxk, hc1, hc2⟩ := AStep.at_ h h0
      have hbw : b < w.heap.size := by omega
      have HD := Lib.hid hd; clear hd hxk
      simp only [Nat.zero_mul, Nat.add_zero] at hc1 hc2
      have hb0 : ((xs.length : Int) == 0) = false := beq_eq_false_iff_ne.2 (by omega)
      go_enter Try.func87, Try.ntmps87
      go_wp2
      all_goals (go_ret; exact ⟨ret_int (by rw [egoM_of HD.out]; simp_all), by (with_reducible repeat' first | exact Below.refl _ _ | assumption | (refine Below.setCell ?_ (by first | omega | (simp; omega) | (simp; done) | (dsimp only; omega)) _) | (refine Below.alloc ?_ (by first | omega | (simp; omega) | (simp; done) | (dsimp only; omega)) _) | (refine below_drewN ?_ _) | (refine Below.drew ?_))⟩)
    · obtain rfl : xs = [] := List.eq_nil_of_length_eq_zero (by omega)
      go_enter Try.func87, Try.ntmps87
      go_wp2
      go_ret
      exact ⟨ret_int (by simp [egoM]), by (with_reducible repeat' first | exact Below.refl _ _ | assumption | (refine Below.setCell ?_ (by first | omega | (simp; omega) | (simp; done) | (dsimp only; omega)) _) | (refine Below.alloc ?_ (by first | omega | (simp; omega) | (simp; done) | (dsimp only; omega)) _) | (refine below_drewN ?_ _) | (refine Below.drew ?_))⟩
  · have hb : (s == 0) = false := by simpa using hs
    go_enter Try.func87, Try.ntmps87
    go_wp2
    go_ret
    exact ⟨ret_int (by simp [egoM, hs]), by (with_reducible repeat' first | exact Below.refl _ _ | assumption | (refine Below.setCell ?_ (by first | omega | (simp; omega) | (simp; done) | (dsimp only; omega)) _) | (refine Below.alloc ?_ (by first | omega | (simp; omega) | (simp; done) | (dsimp only; omega)) _) | (refine below_drewN ?_ _) | (refine Below.drew ?_))⟩

def sexT (t : KinType) : Int := if typeOk t = true then sexM t else 0
def egoT (t : KinType) : Int := if typeOk t = true then egoM t else 0

theorem specEgoOfType_any (s : Int) (A : Option Addr) (c lo hi : Nat) (xs : List Step) (w : World) (h : EStep.AS w lo hi A xs) (hh : hi ≤ w.heap.size) :
    Calls Try.prog 67 #[.agg #[.int .i64 s, .slice A xs.length c]] w fun e w' => e = .returned (.int .i64 (egoT ⟨s, xs⟩)) ∧ Below w.heap.size w w' := by
  by_cases hok : typeOk ⟨s, xs⟩ = true
  · have HO := Lib.hid hok
    clear hok
    go_enter Try.func67, Try.ntmps67
    go_wp2_with (first | (go_at_call 85; refine (specIsType_any s A c lo hi xs _ (h.same ?_) ?_).mono ?_; (with_reducible repeat' first | exact Same.refl _ _ _ | assumption | (refine Same.setCell ?_ (by first | omega | (simp; omega) | (simp; done) | (dsimp only; omega)) _) | (refine Same.alloc ?_ (by first | omega | (simp; omega) | (simp; done) | (dsimp only; omega)) _) | (refine Same.drewN ?_ _) | (refine Same.drew ?_)); (first | omega | (simp; omega) | (simp; done) | (dsimp only; omega)); rintro e w1 ⟨rfl, hb1⟩; simp only [HO.out]; (obtain ⟨hb1c, hb1f⟩ := bcell hb1); (have hb1z := hb1.size); (try simp only [szs] at hb1c hb1f hb1z)) | (go_at_call 152; refine (l3Ego_any s A c lo hi xs _ (h.same ?_) ?_).mono ?_; (with_reducible repeat' first | exact Same.refl _ _ _ | assumption | (refine Same.setCell ?_ (by first | omega | (simp; omega) | (simp; done) | (dsimp only; omega)) _) | (refine Same.alloc ?_ (by first | omega | (simp; omega) | (simp; done) | (dsimp only; omega)) _) | (refine Same.drewN ?_ _) | (refine Same.drew ?_) | (refine Same.trans ?_ (Same.of_below hb1 (by first | omega | (simp; omega) | (simp; done) | (dsimp only; omega))))); (first | omega | (simp; omega) | (simp; done) | (dsimp only; omega)); rintro e w2 ⟨rfl, hb2⟩))
    go_ret
    exact ⟨ret_int (by simp [egoT, HO.out]), by (with_reducible repeat' first | exact Below.refl _ _ | assumption | (refine Below.setCell ?_ (by first | omega | (simp; omega) | (simp; done) | (dsimp only; omega)) _) | (refine Below.alloc ?_ (by first | omega | (simp; omega) | (simp; done) | (dsimp only; omega)) _) | (refine below_drewN ?_ _) | (refine Below.drew ?_) | (refine Below.trans ?_ (hb2.mono (by first | omega | (simp; omega) | (simp; done) | (dsimp only; omega)))) | (refine Below.trans ?_ (hb1.mono (by first | omega | (simp; omega) | (simp; done) | (dsimp only; omega)))))⟩
  · have hok : typeOk ⟨s, xs⟩ = false := by simpa using hok
    have HO := Lib.hid hok
    clear hok
    go_enter Try.func67, Try.ntmps67
    go_wp2_with (first | (go_at_call 85; refine (specIsType_any s A c lo hi xs _ (h.same ?_) ?_).mono ?_; (with_reducible repeat' first | exact Same.refl _ _ _ | assumption | (refine Same.setCell ?_ (by first | omega | (simp; omega) | (simp; done) | (dsimp only; omega)) _) | (refine Same.alloc ?_ (by first | omega | (simp; omega) | (simp; done) | (dsimp only; omega)) _) | (refine Same.drewN ?_ _) | (refine Same.drew ?_)); (first | omega | (simp; omega) | (simp; done) | (dsimp only; omega)); rintro e w1 ⟨rfl, hb1⟩; simp only [HO.out]; (obtain ⟨hb1c, hb1f⟩ := bcell hb1); (have hb1z := hb1.size); (try simp only [szs] at hb1c hb1f hb1z)))
    go_ret
    exact ⟨ret_int (by simp [egoT, HO.out]), by (with_reducible repeat' first | exact Below.refl _ _ | assumption | (refine Below.setCell ?_ (by first | omega | (simp; omega) | (simp; done) | (dsimp only; omega)) _) | (refine Below.alloc ?_ (by first | omega | (simp; omega) | (simp; done) | (dsimp only; omega)) _) | (refine below_drewN ?_ _) | (refine Below.drew ?_) | (refine Below.trans ?_ (hb1.mono (by first | omega | (simp; omega) | (simp; done) | (dsimp only; omega)))))⟩

end Go.Proofs.Ytnnjilkjjdiblaa
