/-
  The text of a rule, in the reference and in the program.
-/
import Derived.Test.YtnnjilkjjdiblaaIsRuleI
import Derived.Test.YtnnjilkjjdiblaaFmtType
import Derived.Deep.RegionHeld3
namespace Go.Proofs.Ytnnjilkjjdiblaa
set_option maxRecDepth 100000
open Go.RowKit

theorem nameOk_le {s : ByteArray} (h : nameOk s = true) : s.size ≤ 12 := by
  simp only [nameOk, Bool.and_eq_true, decide_eq_true_eq] at h; exact h.1.2
/-- A valid rule: some sex at which it speaks. -/
theorem ruleOk_sex {r : Rule} (h : ruleOk r = true) : ∃ s : Int, (s = 1 ∨ s = 2) ∧ (r.sex = 0 ∨ r.sex = s) ∧ typeOk ⟨s, r.src⟩ = true ∧ typeOk ⟨s, r.dst⟩ = true := by
  simp only [ruleOk, Bool.and_eq_true] at h
  obtain ⟨⟨⟨_, h1⟩, h2⟩, h3⟩ := h
  have go : ∀ s : Int, skipR r s = false → sideR r s = true → (r.sex = 0 ∨ r.sex = s) ∧ typeOk ⟨s, r.src⟩ = true ∧ typeOk ⟨s, r.dst⟩ = true := by
    intro s k1 k2
    simp only [skipR, Bool.or_eq_false_iff, decide_eq_false_iff_not, Bool.not_eq_false'] at k1
    simp only [sideR, Bool.and_eq_true] at k2
    exact ⟨by have := k1.1; omega, k1.2, k2.1⟩
  cases k : skipR r 1 with
  | false => rw [k] at h1; exact ⟨1, .inl rfl, go 1 k (by simpa using h1)⟩
  | true =>
    cases k' : skipR r 2 with
    | false => rw [k'] at h2; exact ⟨2, .inr rfl, go 2 k' (by simpa using h2)⟩
    | true => rw [k, k'] at h3; simp at h3
theorem ruleOk_in {r : Rule} (h : ruleOk r = true) : StepsIn r.src ∧ StepsIn r.dst := by
  obtain ⟨s, _, _, h1, h2⟩ := ruleOk_sex h
  exact ⟨typeOk_in h1, typeOk_in h2⟩
theorem wordT_ne {xs : List Step} (h : StepsIn xs) (hl : 1 ≤ xs.length) : wordT xs = stepsT xs := by
  cases xs with
  | nil => simp at hl
  | cons x r =>
    obtain ⟨k1, k2, _, _⟩ := h 0 x rfl
    have hk : (kindT x.kind).size = 1 := by
      rw [kindT, ByteArray.size_extract]
      have : letters.size = 8 := rfl
      omega
    rw [wordT, dotT, if_neg]
    intro e
    have := congrArg ByteArray.size e
    simp only [stepsT, stepT, ByteArray.size_append, hk] at this
    have h0 : (⟨#[]⟩ : ByteArray).size = 0 := rfl
    omega
def ruleHead (r : Rule) : ByteArray := (r.name ++ ⟨#[58, 32]⟩) ++ preT r.sex
def ruleMid (r : Rule) : ByteArray := (if r.place = 1 then ruleHead r ++ ⟨#[94]⟩ else ruleHead r) ++ stepsT r.src
def ruleFrom (r : Rule) : ByteArray := if r.place = 2 then ruleMid r ++ ⟨#[36]⟩ else ruleMid r
def ruleText (r : Rule) : ByteArray := (ruleFrom r ++ ⟨#[32, 45, 62, 32]⟩) ++ wordT r.dst
def ruleT (r : Rule) : ByteArray := if ruleOk r = true then ruleText r else ⟨#[]⟩

set_option maxHeartbeats 4000000 in
theorem specFormatRule_any (x0 : ByteArray) (x1 x2 : Int) (A B : Option Addr) (c d lo hi : Nat) (xs ys : List Step) (w : World) (h : EStep.AS w lo hi A xs) (h' : EStep.AS w lo hi B ys) (hh : hi ≤ w.heap.size) (hs : x0.size ≤ 140737488355328) :
    Calls Try.prog 125 #[.agg #[.string x0, .int .i64 x1, .int .i64 x2, .slice A xs.length c, .slice B ys.length d]] w fun e w' => e = .returned (.string (ruleT ⟨x0, x1, x2, xs, ys⟩)) ∧ Below w.heap.size w w' := by
  cases hok : ruleOk ⟨x0, x1, x2, xs, ys⟩ with
  | true =>
    obtain ⟨_, hn, s1, s2, p1, p2, l1, l2, l3⟩ := ruleOk_parts hok
    obtain ⟨hin, hin'⟩ := ruleOk_in hok
    simp only at hn s1 s2 p1 p2 l1 l2 l3 hin hin'
    have hns := nameOk_le hn
    have hz1 : (stepsT xs).size ≤ 8 := by have := stepsT_size xs; omega
    have hz2 : (wordT ys).size ≤ 9 := Nat.le_trans (dotT_size _) (by have := stepsT_size ys; omega)
    have hz3 := preT_size x1
    have HW := Lib.hid (wordT_ne hin l1)
    have e1 := add_run x0 ⟨#[58, 32]⟩ (by omega) (by decide)
    have q1 : (x0 ++ (⟨#[58, 32]⟩ : ByteArray)).size ≤ 14 := by rw [ByteArray.size_append]; have : (⟨#[58, 32]⟩ : ByteArray).size = 2 := rfl; omega
    have e2 := add_run (x0 ++ ⟨#[58, 32]⟩) (preT x1) (by omega) (by omega)
    obtain ⟨H, hH⟩ : ∃ H, (x0 ++ (⟨#[58, 32]⟩ : ByteArray)) ++ preT x1 = H := ⟨_, rfl⟩
    have hHs : H.size ≤ 16 := by rw [← hH, ByteArray.size_append]; omega
    rw [hH] at e2
    have HH := Lib.hid hH
    have HO := Lib.hid hok; clear hok hn hH q1
    rcases (by omega : x2 = 0 ∨ x2 = 1 ∨ x2 = 2) with rfl | rfl | rfl
    all_goals
      go_enter Try.func125, Try.ntmps125
      go_wp2_with (go_at_call 124; (with_reducible refine (specIsRule_any x0 x1 _ A B c d lo hi xs ys _ (h.same (by (with_reducible repeat' first | exact Same.refl _ _ _ | assumption | (refine Same.setCell ?_ (by first | omega | (simp; omega) | (simp; done) | (dsimp only; omega)) _) | (refine Same.alloc ?_ (by first | omega | (simp; omega) | (simp; done) | (dsimp only; omega)) _) | (refine Same.drewN ?_ _) | (refine Same.drew ?_)))) (h'.same (by (with_reducible repeat' first | exact Same.refl _ _ _ | assumption | (refine Same.setCell ?_ (by first | omega | (simp; omega) | (simp; done) | (dsimp only; omega)) _) | (refine Same.alloc ?_ (by first | omega | (simp; omega) | (simp; done) | (dsimp only; omega)) _) | (refine Same.drewN ?_ _) | (refine Same.drew ?_)))) (by first | omega | (simp; omega) | (simp; done) | (dsimp only; omega)) hs).mono ?_); rintro e w1 ⟨rfl, hb1⟩; simp only [HO.out]; (obtain ⟨hb1c, hb1f⟩ := bcell hb1); (have hb1z := hb1.size); (try simp only [szs] at hb1c hb1f hb1z))
      have h1 : EStep.AS w1 lo hi A xs := h.same (by (with_reducible repeat' first | exact Same.refl _ _ _ | assumption | (refine Same.setCell ?_ (by first | omega | (simp; omega) | (simp; done) | (dsimp only; omega)) _) | (refine Same.alloc ?_ (by first | omega | (simp; omega) | (simp; done) | (dsimp only; omega)) _) | (refine Same.drewN ?_ _) | (refine Same.drew ?_) | (refine Same.trans ?_ (Same.of_below hb1 (by first | omega | (simp; omega) | (simp; done) | (dsimp only; omega))))))
      have h2 : EStep.AS w1 lo hi B ys := h'.same (by (with_reducible repeat' first | exact Same.refl _ _ _ | assumption | (refine Same.setCell ?_ (by first | omega | (simp; omega) | (simp; done) | (dsimp only; omega)) _) | (refine Same.alloc ?_ (by first | omega | (simp; omega) | (simp; done) | (dsimp only; omega)) _) | (refine Same.drewN ?_ _) | (refine Same.drew ?_) | (refine Same.trans ?_ (Same.of_below hb1 (by first | omega | (simp; omega) | (simp; done) | (dsimp only; omega))))))
      have c0 : w1.cell? ⟨w.heap.size, 0, none⟩ = some (.string x0) := by rw [hb1c _ _ (by omega)]; simp [go_sem]
      have c1 : w1.cell? ⟨w.heap.size, 1, none⟩ = some (.int .i64 x1) := by rw [hb1c _ _ (by omega)]; simp [go_sem]
      have c2 := hb1c w.heap.size 2 (by omega)
      simp [go_sem] at c2
      have c3 : w1.cell? ⟨w.heap.size, 3, none⟩ = some (.slice A xs.length c) := by rw [hb1c _ _ (by omega)]; simp [go_sem]
      have c4 : w1.cell? ⟨w.heap.size, 4, none⟩ = some (.slice B ys.length d) := by rw [hb1c _ _ (by omega)]; simp [go_sem]
      have hbw : Below w.heap.size w w1 := by (with_reducible repeat' first | exact Below.refl _ _ | assumption | (refine Below.setCell ?_ (by first | omega | (simp; omega) | (simp; done) | (dsimp only; omega)) _) | (refine Below.alloc ?_ (by first | omega | (simp; omega) | (simp; done) | (dsimp only; omega)) _) | (refine below_drewN ?_ _) | (refine Below.drew ?_) | (refine Below.trans ?_ (hb1.mono (by first | omega | (simp; omega) | (simp; done) | (dsimp only; omega)))))
      have lw : w.heap.size < w1.heap.size := by omega
      clear hb1 hb1c hb1f hb1z
      go_region_held3 (fun w' => w'.cell? ⟨w.heap.size, 0, none⟩ = some (.string x0) ∧ w'.cell? ⟨w.heap.size, 1, none⟩ = some (.int .i64 x1)) (exact ⟨c0, c1⟩)
        ((go_at_call 184; refine (l3Prefix_any x1 _).mono ?_; rintro e w2 ⟨rfl, rfl⟩))
      clear e1 e2
      go_wp2_with (first
        | (go_at_call 185; (with_reducible refine (specWord_any A c lo hi xs _ (h1.same (by (with_reducible repeat' first | exact Same.refl _ _ _ | assumption | (refine Same.setCell ?_ (by first | omega | (simp; omega) | (simp; done) | (dsimp only; omega)) _) | (refine Same.alloc ?_ (by first | omega | (simp; omega) | (simp; done) | (dsimp only; omega)) _) | (refine Same.drewN ?_ _) | (refine Same.drew ?_)))) (by first | omega | (simp; omega) | (simp; done) | (dsimp only; omega)) hin).mono ?_); rintro e w3 ⟨rfl, hb3⟩; rw [HW.out]; (first | (replace hb3 := undrew hb3) | skip); (have z3 := hb3.size); (replace c2 := (hb3.cell (p := ⟨w.heap.size, 2, none⟩) (by first | omega | (simp; omega) | (simp; done) | (dsimp only; omega))).trans c2); (replace c4 := (hb3.cell (p := ⟨w.heap.size, 4, none⟩) (by first | omega | (simp; omega) | (simp; done) | (dsimp only; omega))).trans c4))
        | (go_at_call 185; (with_reducible refine (specWord_any B d lo hi ys _ (h2.same (by (with_reducible repeat' first | exact Same.refl _ _ _ | assumption | (refine Same.setCell ?_ (by first | omega | (simp; omega) | (simp; done) | (dsimp only; omega)) _) | (refine Same.alloc ?_ (by first | omega | (simp; omega) | (simp; done) | (dsimp only; omega)) _) | (refine Same.drewN ?_ _) | (refine Same.drew ?_) | (refine Same.trans ?_ (Same.of_below hb3 (by first | omega | (simp; omega) | (simp; done) | (dsimp only; omega))))))) (by first | omega | (simp; omega) | (simp; done) | (dsimp only; omega)) hin').mono ?_); rintro e w4 ⟨rfl, hb4⟩))
      go_ret
      exact ⟨by rw [ruleT, if_pos HO.out, ruleText, ruleFrom, ruleMid, ruleHead]; simp only [HH.out]; rfl, by (with_reducible repeat' first | exact Below.refl _ _ | assumption | (refine Below.setCell ?_ (by first | omega | (simp; omega) | (simp; done) | (dsimp only; omega)) _) | (refine Below.alloc ?_ (by first | omega | (simp; omega) | (simp; done) | (dsimp only; omega)) _) | (refine below_drewN ?_ _) | (refine Below.drew ?_) | (refine Below.trans ?_ (hb4.mono (by first | omega | (simp; omega) | (simp; done) | (dsimp only; omega)))) | (refine Below.trans ?_ (hb3.mono (by first | omega | (simp; omega) | (simp; done) | (dsimp only; omega)))) | (refine Below.trans ?_ (hbw.mono (by first | omega | (simp; omega) | (simp; done) | (dsimp only; omega)))))⟩
  | false =>
    have HO := Lib.hid hok; clear hok
    go_enter Try.func125, Try.ntmps125
    go_wp2_with (go_at_call 124; (with_reducible refine (specIsRule_any x0 x1 x2 A B c d lo hi xs ys _ (h.same (by (with_reducible repeat' first | exact Same.refl _ _ _ | assumption | (refine Same.setCell ?_ (by first | omega | (simp; omega) | (simp; done) | (dsimp only; omega)) _) | (refine Same.alloc ?_ (by first | omega | (simp; omega) | (simp; done) | (dsimp only; omega)) _) | (refine Same.drewN ?_ _) | (refine Same.drew ?_)))) (h'.same (by (with_reducible repeat' first | exact Same.refl _ _ _ | assumption | (refine Same.setCell ?_ (by first | omega | (simp; omega) | (simp; done) | (dsimp only; omega)) _) | (refine Same.alloc ?_ (by first | omega | (simp; omega) | (simp; done) | (dsimp only; omega)) _) | (refine Same.drewN ?_ _) | (refine Same.drew ?_)))) (by first | omega | (simp; omega) | (simp; done) | (dsimp only; omega)) hs).mono ?_); rintro e w1 ⟨rfl, hb1⟩; simp only [HO.out]; (obtain ⟨hb1c, hb1f⟩ := bcell hb1); (have hb1z := hb1.size); (try simp only [szs] at hb1c hb1f hb1z))
    go_ret
    exact ⟨by rw [ruleT, if_neg (by rw [HO.out]; simp)]; rfl, by (with_reducible repeat' first | exact Below.refl _ _ | assumption | (refine Below.setCell ?_ (by first | omega | (simp; omega) | (simp; done) | (dsimp only; omega)) _) | (refine Below.alloc ?_ (by first | omega | (simp; omega) | (simp; done) | (dsimp only; omega)) _) | (refine below_drewN ?_ _) | (refine Below.drew ?_) | (refine Below.trans ?_ (hb1.mono (by first | omega | (simp; omega) | (simp; done) | (dsimp only; omega)))))⟩
set_option maxHeartbeats 4000000 in
theorem implFormatRule_any (x0 : ByteArray) (x1 x2 : Int) (A B : Option Addr) (c d lo hi : Nat) (xs ys : List Step) (w : World) (h : EStep.AS w lo hi A xs) (h' : EStep.AS w lo hi B ys) (hh : hi ≤ w.heap.size) (hs : x0.size ≤ 140737488355328) :
    Calls Try.prog 130 #[.agg #[.string x0, .int .i64 x1, .int .i64 x2, .slice A xs.length c, .slice B ys.length d]] w fun e w' => e = .returned (.string (ruleT ⟨x0, x1, x2, xs, ys⟩)) ∧ Below w.heap.size w w' := by
  cases hok : ruleOk ⟨x0, x1, x2, xs, ys⟩ with
  | true =>
    obtain ⟨_, hn, s1, s2, p1, p2, l1, l2, l3⟩ := ruleOk_parts hok
    obtain ⟨hin, hin'⟩ := ruleOk_in hok
    simp only at hn s1 s2 p1 p2 l1 l2 l3 hin hin'
    have hns := nameOk_le hn
    have hz1 : (stepsT xs).size ≤ 8 := by have := stepsT_size xs; omega
    have he : 0 ≤ x1 ∧ x1 ≤ 2 := ⟨s1, s2⟩
    have hz2 : (wordT ys).size ≤ 9 := Nat.le_trans (dotT_size _) (by have := stepsT_size ys; omega)
    have hz3 := preT_size x1
    have hz4 : (dotT (stepsT ys)).size ≤ 9 := hz2
    clear hz2
    have e1 := add_run x0 ⟨#[58, 32]⟩ (by omega) (by decide)
    have q1 : (x0 ++ (⟨#[58, 32]⟩ : ByteArray)).size ≤ 14 := by rw [ByteArray.size_append]; have : (⟨#[58, 32]⟩ : ByteArray).size = 2 := rfl; omega
    have e2 := add_run (x0 ++ ⟨#[58, 32]⟩) (preT x1) (by omega) (by omega)
    obtain ⟨H, hH⟩ : ∃ H, (x0 ++ (⟨#[58, 32]⟩ : ByteArray)) ++ preT x1 = H := ⟨_, rfl⟩
    have hHs : H.size ≤ 16 := by rw [← hH, ByteArray.size_append]; omega
    rw [hH] at e2
    have HH := Lib.hid hH
    have HO := Lib.hid hok; clear hok hn hH q1
    rcases (by omega : x2 = 0 ∨ x2 = 1 ∨ x2 = 2) with rfl | rfl | rfl
    all_goals
      go_enter Try.func130, Try.ntmps130
      go_wp2_with (go_at_call 129; (with_reducible refine (implIsRule_any x0 x1 _ A B c d lo hi xs ys _ (h.same (by (with_reducible repeat' first | exact Same.refl _ _ _ | assumption | (refine Same.setCell ?_ (by first | omega | (simp; omega) | (simp; done) | (dsimp only; omega)) _) | (refine Same.alloc ?_ (by first | omega | (simp; omega) | (simp; done) | (dsimp only; omega)) _) | (refine Same.drewN ?_ _) | (refine Same.drew ?_)))) (h'.same (by (with_reducible repeat' first | exact Same.refl _ _ _ | assumption | (refine Same.setCell ?_ (by first | omega | (simp; omega) | (simp; done) | (dsimp only; omega)) _) | (refine Same.alloc ?_ (by first | omega | (simp; omega) | (simp; done) | (dsimp only; omega)) _) | (refine Same.drewN ?_ _) | (refine Same.drew ?_)))) (by first | omega | (simp; omega) | (simp; done) | (dsimp only; omega)) hs).mono ?_); rintro e w1 ⟨rfl, hb1⟩; simp only [HO.out]; (obtain ⟨hb1c, hb1f⟩ := bcell hb1); (have hb1z := hb1.size); (try simp only [szs] at hb1c hb1f hb1z))
      have h1 : EStep.AS w1 lo hi A xs := h.same (by (with_reducible repeat' first | exact Same.refl _ _ _ | assumption | (refine Same.setCell ?_ (by first | omega | (simp; omega) | (simp; done) | (dsimp only; omega)) _) | (refine Same.alloc ?_ (by first | omega | (simp; omega) | (simp; done) | (dsimp only; omega)) _) | (refine Same.drewN ?_ _) | (refine Same.drew ?_) | (refine Same.trans ?_ (Same.of_below hb1 (by first | omega | (simp; omega) | (simp; done) | (dsimp only; omega))))))
      have h2 : EStep.AS w1 lo hi B ys := h'.same (by (with_reducible repeat' first | exact Same.refl _ _ _ | assumption | (refine Same.setCell ?_ (by first | omega | (simp; omega) | (simp; done) | (dsimp only; omega)) _) | (refine Same.alloc ?_ (by first | omega | (simp; omega) | (simp; done) | (dsimp only; omega)) _) | (refine Same.drewN ?_ _) | (refine Same.drew ?_) | (refine Same.trans ?_ (Same.of_below hb1 (by first | omega | (simp; omega) | (simp; done) | (dsimp only; omega))))))
      have c0 : w1.cell? ⟨w.heap.size, 0, none⟩ = some (.string x0) := by rw [hb1c _ _ (by omega)]; simp [go_sem]
      have c1 : w1.cell? ⟨w.heap.size, 1, none⟩ = some (.int .i64 x1) := by rw [hb1c _ _ (by omega)]; simp [go_sem]
      have c2 := hb1c w.heap.size 2 (by omega)
      simp [go_sem] at c2
      have c3 : w1.cell? ⟨w.heap.size, 3, none⟩ = some (.slice A xs.length c) := by rw [hb1c _ _ (by omega)]; simp [go_sem]
      have c4 : w1.cell? ⟨w.heap.size, 4, none⟩ = some (.slice B ys.length d) := by rw [hb1c _ _ (by omega)]; simp [go_sem]
      have hbw : Below w.heap.size w w1 := by (with_reducible repeat' first | exact Below.refl _ _ | assumption | (refine Below.setCell ?_ (by first | omega | (simp; omega) | (simp; done) | (dsimp only; omega)) _) | (refine Below.alloc ?_ (by first | omega | (simp; omega) | (simp; done) | (dsimp only; omega)) _) | (refine below_drewN ?_ _) | (refine Below.drew ?_) | (refine Below.trans ?_ (hb1.mono (by first | omega | (simp; omega) | (simp; done) | (dsimp only; omega)))))
      have lw : w.heap.size < w1.heap.size := by omega
      clear hb1 hb1c hb1f hb1z
      go_region_held3 (fun w' => w'.cell? ⟨w.heap.size, 0, none⟩ = some (.string x0) ∧ w'.cell? ⟨w.heap.size, 1, none⟩ = some (.int .i64 x1)) (exact ⟨c0, c1⟩)
        ((go_at_call 149; refine (egoPrefix_any x1 _ he).mono ?_; rintro e w2 ⟨rfl, hb2⟩; replace hb2 := undrew hb2; (have z2 := hb2.size); (replace c0 := (hb2.cell (p := ⟨w.heap.size, 0, none⟩) (by first | omega | (simp; omega) | (simp; done) | (dsimp only; omega))).trans c0); (replace c1 := (hb2.cell (p := ⟨w.heap.size, 1, none⟩) (by first | omega | (simp; omega) | (simp; done) | (dsimp only; omega))).trans c1); (replace c2 := (hb2.cell (p := ⟨w.heap.size, 2, none⟩) (by first | omega | (simp; omega) | (simp; done) | (dsimp only; omega))).trans c2); (replace c3 := (hb2.cell (p := ⟨w.heap.size, 3, none⟩) (by first | omega | (simp; omega) | (simp; done) | (dsimp only; omega))).trans c3); (replace c4 := (hb2.cell (p := ⟨w.heap.size, 4, none⟩) (by first | omega | (simp; omega) | (simp; done) | (dsimp only; omega))).trans c4); (replace h1 := h1.same (Same.of_below hb2 (by first | omega | (simp; omega) | (simp; done) | (dsimp only; omega)))); (replace h2 := h2.same (Same.of_below hb2 (by first | omega | (simp; omega) | (simp; done) | (dsimp only; omega)))); (replace hbw := hbw.trans (hb2.mono (by first | omega | (simp; omega) | (simp; done) | (dsimp only; omega))))))
      have lw2 : w.heap.size < w2.heap.size := by omega
      clear e1 e2
      go_wp2_with (first
        | (go_at_call 151; (with_reducible refine (implStepsText_any A c lo hi xs _ (h1.same (by (with_reducible repeat' first | exact Same.refl _ _ _ | assumption | (refine Same.setCell ?_ (by first | omega | (simp; omega) | (simp; done) | (dsimp only; omega)) _) | (refine Same.alloc ?_ (by first | omega | (simp; omega) | (simp; done) | (dsimp only; omega)) _) | (refine Same.drewN ?_ _) | (refine Same.drew ?_)))) (by first | omega | (simp; omega) | (simp; done) | (dsimp only; omega)) hin).mono ?_); rintro e w3 ⟨rfl, hb3⟩; (first | (replace hb3 := undrew hb3) | skip); (have z3 := hb3.size); (replace c2 := (hb3.cell (p := ⟨w.heap.size, 2, none⟩) (by first | omega | (simp; omega) | (simp; done) | (dsimp only; omega))).trans c2); (replace c4 := (hb3.cell (p := ⟨w.heap.size, 4, none⟩) (by first | omega | (simp; omega) | (simp; done) | (dsimp only; omega))).trans c4))
        | (go_at_call 151; (with_reducible refine (implStepsText_any B d lo hi ys _ (h2.same (by (with_reducible repeat' first | exact Same.refl _ _ _ | assumption | (refine Same.setCell ?_ (by first | omega | (simp; omega) | (simp; done) | (dsimp only; omega)) _) | (refine Same.alloc ?_ (by first | omega | (simp; omega) | (simp; done) | (dsimp only; omega)) _) | (refine Same.drewN ?_ _) | (refine Same.drew ?_) | (refine Same.trans ?_ (Same.of_below hb3 (by first | omega | (simp; omega) | (simp; done) | (dsimp only; omega))))))) (by first | omega | (simp; omega) | (simp; done) | (dsimp only; omega)) hin').mono ?_); rintro e w4 ⟨rfl, hb4⟩)
        | (go_at_call 150; refine (orDot_any _ _).mono ?_; rintro e w5 ⟨rfl, rfl⟩))
      go_ret
      exact ⟨by rw [ruleT, if_pos HO.out, ruleText, ruleFrom, ruleMid, ruleHead]; simp only [HH.out]; rfl, by (with_reducible repeat' first | exact Below.refl _ _ | assumption | (refine Below.setCell ?_ (by first | omega | (simp; omega) | (simp; done) | (dsimp only; omega)) _) | (refine Below.alloc ?_ (by first | omega | (simp; omega) | (simp; done) | (dsimp only; omega)) _) | (refine below_drewN ?_ _) | (refine Below.drew ?_) | (refine Below.trans ?_ (hb4.mono (by first | omega | (simp; omega) | (simp; done) | (dsimp only; omega)))) | (refine Below.trans ?_ (hb3.mono (by first | omega | (simp; omega) | (simp; done) | (dsimp only; omega)))) | (refine Below.trans ?_ (hbw.mono (by first | omega | (simp; omega) | (simp; done) | (dsimp only; omega)))))⟩
  | false =>
    have HO := Lib.hid hok; clear hok
    go_enter Try.func130, Try.ntmps130
    go_wp2_with (go_at_call 129; (with_reducible refine (implIsRule_any x0 x1 x2 A B c d lo hi xs ys _ (h.same (by (with_reducible repeat' first | exact Same.refl _ _ _ | assumption | (refine Same.setCell ?_ (by first | omega | (simp; omega) | (simp; done) | (dsimp only; omega)) _) | (refine Same.alloc ?_ (by first | omega | (simp; omega) | (simp; done) | (dsimp only; omega)) _) | (refine Same.drewN ?_ _) | (refine Same.drew ?_)))) (h'.same (by (with_reducible repeat' first | exact Same.refl _ _ _ | assumption | (refine Same.setCell ?_ (by first | omega | (simp; omega) | (simp; done) | (dsimp only; omega)) _) | (refine Same.alloc ?_ (by first | omega | (simp; omega) | (simp; done) | (dsimp only; omega)) _) | (refine Same.drewN ?_ _) | (refine Same.drew ?_)))) (by first | omega | (simp; omega) | (simp; done) | (dsimp only; omega)) hs).mono ?_); rintro e w1 ⟨rfl, hb1⟩; simp only [HO.out]; (obtain ⟨hb1c, hb1f⟩ := bcell hb1); (have hb1z := hb1.size); (try simp only [szs] at hb1c hb1f hb1z))
    go_ret
    exact ⟨by rw [ruleT, if_neg (by rw [HO.out]; simp)]; rfl, by (with_reducible repeat' first | exact Below.refl _ _ | assumption | (refine Below.setCell ?_ (by first | omega | (simp; omega) | (simp; done) | (dsimp only; omega)) _) | (refine Below.alloc ?_ (by first | omega | (simp; omega) | (simp; done) | (dsimp only; omega)) _) | (refine below_drewN ?_ _) | (refine Below.drew ?_) | (refine Below.trans ?_ (hb1.mono (by first | omega | (simp; omega) | (simp; done) | (dsimp only; omega)))))⟩
end Go.Proofs.Ytnnjilkjjdiblaa
