/-
  Kin types: steps, validity, the sex of ego and of the relative, in the reference and in the program.
-/
import Derived.Test.YtnnjilkjjdiblaaConvTyp
import Derived.Test.YtnnjilkjjdiblaaSmall
namespace Go.Proofs.Ytnnjilkjjdiblaa
set_option maxRecDepth 100000
open Go.RowKit

def stepOk (s : Step) (sex : Int) : Bool := decide (1 ≤ s.kind ∧ s.kind ≤ 8 ∧ 0 ≤ s.age ∧ s.age ≤ 2 ∧ (s.age = 0 ∨ s.kind = 3 ∨ s.kind = 4) ∧ ¬ (s.kind = 7 ∧ sex = 1) ∧ ¬ (s.kind = 8 ∧ sex = 2))
def sexTo (k : Int) : Int := if k % 2 = 1 then 1 else 2
def stepsOk : Int → List Step → Bool
  | _, [] => true
  | sex, s :: r => stepOk s sex && stepsOk (sexTo s.kind) r
def typeOk (t : KinType) : Bool := decide (0 ≤ t.ego ∧ t.ego ≤ 2 ∧ t.steps.length ≤ 8) && stepsOk t.ego t.steps
def egoM (t : KinType) : Int := if t.ego = 0 then (match t.steps with | [] => 0 | s :: _ => if s.kind = 7 then 2 else if s.kind = 8 then 1 else 0) else t.ego
def sexM (t : KinType) : Int := if t.steps.length = 0 then t.ego else sexTo (t.steps.getD (t.steps.length - 1) ⟨0, 0⟩).kind

theorem l3Step_any (x y sex : Int) (w : World) : Calls Try.prog 134 #[.agg #[.int .i64 x, .int .i64 y], .int .i64 sex] w fun e w' => e = .returned (.bool (stepOk ⟨x, y⟩ sex)) ∧ Below w.heap.size w w' := by
  by_cases h1 : 1 ≤ x ∧ x ≤ 8
  · by_cases h2 : 0 ≤ y ∧ y ≤ 2
    · have i1 := inB_true h1
      have i2 := inB_true h2
      go_enter Try.func134, Try.ntmps134
      go_wp2_with (go_at_call 111; refine (l1In_any _ _ _ _).mono ?_; rintro e w' ⟨rfl, rfl⟩)
      all_goals (go_ret; exact ⟨ret_bool (by first | (simp_all [stepOk]; done) | (simp_all [stepOk]; omega) | (rw [Bool.eq_iff_iff]; simp_all [stepOk]; done) | (rw [Bool.eq_iff_iff]; simp_all [stepOk]; omega) | (simp [stepOk]; omega)), by (with_reducible repeat' first | exact Below.refl _ _ | assumption | (refine Below.setCell ?_ (by first | omega | (simp; omega) | (simp; done) | (dsimp only; omega)) _) | (refine Below.alloc ?_ (by first | omega | (simp; omega) | (simp; done) | (dsimp only; omega)) _) | (refine below_drewN ?_ _) | (refine Below.drew ?_))⟩)
    · have i1 := inB_true h1
      have i2 := inB_false h2
      go_enter Try.func134, Try.ntmps134
      go_wp2_with (go_at_call 111; refine (l1In_any _ _ _ _).mono ?_; rintro e w' ⟨rfl, rfl⟩)
      all_goals (go_ret; exact ⟨ret_bool (by simp [stepOk]; omega), by (with_reducible repeat' first | exact Below.refl _ _ | assumption | (refine Below.setCell ?_ (by first | omega | (simp; omega) | (simp; done) | (dsimp only; omega)) _) | (refine Below.alloc ?_ (by first | omega | (simp; omega) | (simp; done) | (dsimp only; omega)) _) | (refine below_drewN ?_ _) | (refine Below.drew ?_))⟩)
  · have i1 := inB_false h1
    go_enter Try.func134, Try.ntmps134
    go_wp2_with (go_at_call 111; refine (l1In_any _ _ _ _).mono ?_; rintro e w' ⟨rfl, rfl⟩)
    all_goals (go_ret; exact ⟨ret_bool (by simp [stepOk]; omega), by (with_reducible repeat' first | exact Below.refl _ _ | assumption | (refine Below.setCell ?_ (by first | omega | (simp; omega) | (simp; done) | (dsimp only; omega)) _) | (refine Below.alloc ?_ (by first | omega | (simp; omega) | (simp; done) | (dsimp only; omega)) _) | (refine below_drewN ?_ _) | (refine Below.drew ?_))⟩)

theorem stepFits_any (x y sex : Int) (w : World) : Calls Try.prog 113 #[.agg #[.int .i64 x, .int .i64 y], .int .i64 sex] w fun e w' => e = .returned (.bool (stepOk ⟨x, y⟩ sex)) ∧ Below w.heap.size w w' := by
  go_enter Try.func113, Try.ntmps113
  go_wp2
  all_goals (go_ret; exact ⟨ret_bool (by first | (simp_all [stepOk]; done) | (simp_all [stepOk]; omega) | (rw [Bool.eq_iff_iff]; simp_all [stepOk]; done) | (rw [Bool.eq_iff_iff]; simp_all [stepOk]; omega) | (simp [stepOk]; omega)), by (with_reducible repeat' first | exact Below.refl _ _ | assumption | (refine Below.setCell ?_ (by first | omega | (simp; omega) | (simp; done) | (dsimp only; omega)) _) | (refine Below.alloc ?_ (by first | omega | (simp; omega) | (simp; done) | (dsimp only; omega)) _) | (refine below_drewN ?_ _) | (refine Below.drew ?_))⟩)

theorem l3Sex_any (k : Int) (w : World) (h : 1 ≤ k) (h8 : k ≤ 8) : Calls Try.prog 172 #[.int .i64 k] w fun e w' => e = .returned (.int .i64 (sexTo k)) ∧ w = w' := by
  go_enter Try.func172, Try.ntmps172
  go_wp2
  all_goals (go_ret; exact ⟨ret_int (by unfold sexTo; simp_all), rfl⟩)
theorem stepSex_any (k : Int) (w : World) (h : 1 ≤ k) (h8 : k ≤ 8) : Calls Try.prog 173 #[.int .i64 k] w fun e w' => e = .returned (.int .i64 (sexTo k)) ∧ w = w' := by
  go_enter Try.func173, Try.ntmps173
  go_wp2
  all_goals (go_ret; exact ⟨ret_int (by unfold sexTo; simp_all), rfl⟩)
theorem stepOk_kind {s : Step} {sex : Int} (h : stepOk s sex = true) : 1 ≤ s.kind ∧ s.kind ≤ 8 := by simp [stepOk] at h; omega

theorem stepsOk_cons (sex : Int) (s : Step) (r : List Step) : stepsOk sex (s :: r) = (stepOk s sex && stepsOk (sexTo s.kind) r) := rfl
theorem stepsOk_no {sex sex0 : Int} {s : Step} {xs r : List Step} {k : Nat} (he : stepsOk sex (xs.drop k) = stepsOk sex0 xs) (h1 : xs.drop k = s :: r) (h : stepOk s sex = false) : stepsOk sex0 xs = false := by
  rw [← he, h1, stepsOk_cons, h]; rfl
theorem stepsOk_yes {sex sex0 : Int} {s : Step} {xs r : List Step} {k : Nat} (he : stepsOk sex (xs.drop k) = stepsOk sex0 xs) (h1 : xs.drop k = s :: r) (h : stepOk s sex = true) : stepsOk (sexTo s.kind) r = stepsOk sex0 xs := by
  rw [← he, h1, stepsOk_cons, h]; rfl
theorem stepsOk_end {sex sex0 : Int} {xs : List Step} {k : Nat} (he : stepsOk sex (xs.drop k) = stepsOk sex0 xs) (h1 : xs.length ≤ k) : stepsOk sex0 xs = true := by
  rw [← he, List.drop_eq_nil_of_le h1]; rfl
def TypeRel (w : World) (ego : Int) (xs : List Step) (sx i : Value) (wr : World) : Prop :=
  ∃ (k : Nat) (sex : Int), k ≤ xs.length ∧ i = .int .i64 k ∧ sx = .int .i64 sex ∧ Below w.heap.size w wr ∧ w.heap.size + 1 ≤ wr.heap.size ∧ stepsOk sex (xs.drop k) = stepsOk ego xs

theorem implIsType_any (s : Int) (A : Option Addr) (c lo hi : Nat) (xs : List Step) (w : World) (h : EStep.AS w lo hi A xs) (hh : hi ≤ w.heap.size) :
    Calls Try.prog 86 #[.agg #[.int .i64 s, .slice A xs.length c]] w fun e w' => e = .returned (.bool (typeOk ⟨s, xs⟩)) ∧ Below w.heap.size w w' := by
  have hx := h.le
  unfold BIG at hx
  by_cases h0 : 0 ≤ s ∧ s ≤ 2 ∧ xs.length ≤ 8
  · obtain ⟨g1, g2, g3⟩ := h0
    go_enter Try.func86, Try.ntmps86
    go_wp2
    go_loopw [3, 25] (fun sx i wr => TypeRel w s xs sx i wr) (fun _ i _ => xs.length - (intOf i).toNat)
    case atStart => exact ⟨0, s, Nat.zero_le _, rfl, rfl, by (with_reducible repeat' first | exact Below.refl _ _ | assumption | (refine Below.setCell ?_ (by first | omega | (simp; omega) | (simp; done) | (dsimp only; omega)) _) | (refine Below.alloc ?_ (by first | omega | (simp; omega) | (simp; done) | (dsimp only; omega)) _) | (refine below_drewN ?_ _) | (refine Below.drew ?_)), by simp, rfl⟩
    case round =>
      obtain ⟨k, sex, hk, rfl, rfl, hb, hz, he⟩ := hrel
      have HE := Lib.hid he; clear he
      by_cases hlt : k < xs.length
      · obtain ⟨b, off, ⟨x, y⟩, rfl, _, _, hd, hxk, hc1, hc2⟩ := AStep.at_ (h.same (Same.of_below hb hh)) hlt
        have HD := Lib.hid hd; clear hd hxk
        by_cases hok : stepOk ⟨x, y⟩ sex = true
        · obtain ⟨k1, k2⟩ := stepOk_kind hok
          have HO := Lib.hid hok; clear hok
          go_wp2_with (first | (go_at_call 113; refine (stepFits_any x y sex _).mono ?_; rintro e w1 ⟨rfl, hb1⟩; simp only [HO.out]; (obtain ⟨hb1c, hb1f⟩ := bcell hb1); (have hb1z := hb1.size); (try simp only [szs] at hb1c hb1f hb1z)) | (go_at_call 173; refine (stepSex_any x _ k1 k2).mono ?_; rintro e w2 ⟨rfl, rfl⟩))
          exact ⟨⟨k + 1, _, by omega, by go_num, rfl, by (with_reducible repeat' first | exact Below.refl _ _ | assumption | (refine Below.setCell ?_ (by first | omega | (simp; omega) | (simp; done) | (dsimp only; omega)) _) | (refine Below.alloc ?_ (by first | omega | (simp; omega) | (simp; done) | (dsimp only; omega)) _) | (refine below_drewN ?_ _) | (refine Below.drew ?_) | (refine Below.trans ?_ (hb1.mono (by first | omega | (simp; omega) | (simp; done) | (dsimp only; omega))))), by omega, stepsOk_yes HE.out HD.out HO.out⟩, by simp [intOf]; omega⟩
        · have hok : stepOk ⟨x, y⟩ sex = false := by simpa using hok
          have HO := Lib.hid hok; clear hok
          go_wp2_with (first | (go_at_call 113; refine (stepFits_any x y sex _).mono ?_; rintro e w1 ⟨rfl, hb1⟩; simp only [HO.out]; (obtain ⟨hb1c, hb1f⟩ := bcell hb1); (have hb1z := hb1.size); (try simp only [szs] at hb1c hb1f hb1z)))
          go_ret
          exact ⟨ret_bool (by have := stepsOk_no HE.out HD.out HO.out; simp [typeOk, this]), by (with_reducible repeat' first | exact Below.refl _ _ | assumption | (refine Below.setCell ?_ (by first | omega | (simp; omega) | (simp; done) | (dsimp only; omega)) _) | (refine Below.alloc ?_ (by first | omega | (simp; omega) | (simp; done) | (dsimp only; omega)) _) | (refine below_drewN ?_ _) | (refine Below.drew ?_) | (refine Below.trans ?_ (hb1.mono (by first | omega | (simp; omega) | (simp; done) | (dsimp only; omega)))))⟩
      · go_wp2
        go_ret
        exact ⟨ret_bool (by have := stepsOk_end HE.out (by omega); simp [typeOk, this]; omega), hb⟩
  · go_enter Try.func86, Try.ntmps86
    go_wp2
    all_goals (go_ret; exact ⟨ret_bool (by simp [typeOk]; omega), by (with_reducible repeat' first | exact Below.refl _ _ | assumption | (refine Below.setCell ?_ (by first | omega | (simp; omega) | (simp; done) | (dsimp only; omega)) _) | (refine Below.alloc ?_ (by first | omega | (simp; omega) | (simp; done) | (dsimp only; omega)) _) | (refine below_drewN ?_ _) | (refine Below.drew ?_))⟩)
end Go.Proofs.Ytnnjilkjjdiblaa
