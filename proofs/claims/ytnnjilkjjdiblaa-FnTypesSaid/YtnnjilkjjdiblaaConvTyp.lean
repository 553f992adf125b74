/-
  Sizes, copies and equality of steps and kin types.
-/
import Derived.Test.YtnnjilkjjdiblaaBase
namespace Go.Proofs.Ytnnjilkjjdiblaa
set_option maxRecDepth 100000
open Go.RowKit

structure KinType where
  ego : Int
  steps : List Step
  deriving DecidableEq

theorem szStepS_any (A : Option Addr) (c : Nat) (xs : List Step) (left : Int) (w : World) (hx : xs.length ≤ BIG) (h0 : 0 ≤ left) (h1 : left ≤ 1048576) :
    Calls Try.prog 145 #[.slice A xs.length c, .int .i64 left] w fun e w' => ∃ r, e = .returned (.int .i64 r) ∧ w = w' ∧ Sz r left xs.length := by
  unfold BIG at hx
  go_enter Try.func145, Try.ntmps145
  go_wp2
  · go_ret; exact ⟨_, rfl, rfl, .inl ⟨rfl, by omega⟩⟩
  · go_ret; exact ⟨_, rfl, rfl, .inr ⟨by omega, rfl⟩⟩

theorem toStep_any (x y : Int) (w : World) :
    Calls Try.prog 50 #[.agg #[.int .i64 x, .int .i64 y]] w fun e w' => e = .returned (.agg #[.int .i64 x, .int .i64 y]) ∧ Below w.heap.size w w' := by
  go_enter Try.func50, Try.ntmps50
  go_wp2
  exact bodyPost_ret (v := .agg #[.int .i64 x, .int .i64 y]) (by simp [results, Try.results50, go_sem]) rfl ⟨rfl, by (with_reducible repeat' first | exact Below.refl _ _ | assumption | (refine Below.setCell ?_ (by first | omega | (simp; omega) | (simp; done) | (dsimp only; omega)) _) | (refine Below.alloc ?_ (by first | omega | (simp; omega) | (simp; done) | (dsimp only; omega)) _) | (refine below_drewN ?_ _) | (refine Below.drew ?_))⟩

theorem eqStep_any (x y x' y' : Int) (w : World) :
    Calls Try.prog 187 #[.agg #[.int .i64 x, .int .i64 y], .agg #[.int .i64 x', .int .i64 y']] w fun e w' => e = .returned (.bool (eqB (⟨x, y⟩ : Step) ⟨x', y'⟩)) ∧ Below w.heap.size w w' := by
  go_enter Try.func187, Try.ntmps187
  go_wp2
  all_goals (go_ret; exact ⟨ret_bool (by simp_all [eqB]), by (with_reducible repeat' first | exact Below.refl _ _ | assumption | (refine Below.setCell ?_ (by first | omega | (simp; omega) | (simp; done) | (dsimp only; omega)) _) | (refine Below.alloc ?_ (by first | omega | (simp; omega) | (simp; done) | (dsimp only; omega)) _) | (refine below_drewN ?_ _) | (refine Below.drew ?_))⟩)

theorem step_info : (Try.prog.info? 72).map (fun i => (i.zero, i.size, i.bytes)) = some (some (.agg #[.int .i64 0, .int .i64 0]), 2, 16) := by kernel_rfl

theorem toStepS_any (A : Option Addr) (c lo hi : Nat) (xs : List Step) (w : World) (h : EStep.AS w lo hi A xs) (hh : hi ≤ w.heap.size) (hs : xs.length ≤ 1048576) :
    Calls Try.prog 147 #[.slice A xs.length c] w fun e w' => ∃ A' c', e = .returned (.slice A' xs.length c') ∧ EStep.OS w' w.heap.size w'.heap.size (.slice A' xs.length c') xs ∧ Below w.heap.size w w' := by
  obtain ⟨i0, hi0, hz0, hz1, hz2⟩ := info_parts step_info
  have hx := h.le
  have hmk := run_mk (P := Try.prog) 28 72 i0 _ 2 16 Try.underlying28 hi0 hz0 hz1 hz2 xs.length (by omega) hx
  clear hi0 hz0 hz1 hz2
  unfold BIG at hx
  go_enter Try.func147, Try.ntmps147
  go_wp2
  go_loopw [4] (fun i wr => ToRel EStep w xs i wr) (fun i _ => xs.length - (intOf i).toNat)
  case atStart => exact ToRel.start (E := EStep) _ (by simp [size_madeCells, EStep, Elem.flat])
  case round =>
    have hrel' := hrel
    obtain ⟨k, css, hk, rfl, hb, hsz, hf, ho⟩ := hrel
    clear hmk
    have hl := Lib.hid (ToRel.flen ho hk)
    by_cases hlt : k < xs.length
    · obtain ⟨b, off, ⟨x, y⟩, rfl, hb1, hb2, hdr, hxk, hc1, hc2⟩ := AStep.at_ (h.same (Same.of_below hb hh)) hlt
      have HX := Lib.hid hxk; clear hxk hrel' hdr
      have hh' : hi ≤ wr.heap.size := by omega
      go_wp2_with (go_at_call 50; refine (toStep_any x y wr).mono ?_; rintro e w1 ⟨rfl, hb1'⟩; (have hz1 := hb1'.size); (have hf1 := hf.same (lo := 0) (Same.of_below hb1' (Nat.le_refl _)) (Nat.zero_le _) (by omega)); (obtain ⟨u, hu⟩ := hf1.next (i := k * 2) (by simp [EStep, Elem.flat]; omega)); (obtain ⟨u', hu'⟩ := hf1.next (i := k * 2 + 1) (by simp [EStep, Elem.flat]; omega)); (have hfz := hf1.free (k * 2)); (have hfz' := hf1.free (k * 2 + 1)))
      exact ⟨ToRel.step hlt HX.out (by (with_reducible repeat' first | exact Below.refl _ _ | assumption | (refine Below.setCell ?_ (by first | omega | (simp; omega) | (simp; done) | (dsimp only; omega)) _) | (refine Below.alloc ?_ (by first | omega | (simp; omega) | (simp; done) | (dsimp only; omega)) _) | (refine below_drewN ?_ _) | (refine Below.drew ?_) | (refine Below.trans ?_ (hb1'.mono (by first | omega | (simp; omega) | (simp; done) | (dsimp only; omega)))))) hsz (ToRel.fill2 hf1 hl.out hlt) ho (by (with_reducible repeat' first | exact Same.refl _ _ _ | assumption | (refine Same.setCell ?_ (by first | omega | (simp; omega) | (simp; done) | (dsimp only; omega)) _) | (refine Same.alloc ?_ (by first | omega | (simp; omega) | (simp; done) | (dsimp only; omega)) _) | (refine Same.drewN ?_ _) | (refine Same.drew ?_) | (refine Same.trans ?_ (Same.of_below hb1' (by first | omega | (simp; omega) | (simp; done) | (dsimp only; omega)))))) rfl, by simp [intOf]; omega⟩
    · have hd := hrel'.done hlt h.le
      clear hrel'
      go_wp2
      go_ret
      exact ⟨_, _, rfl, hd⟩

theorem eqStepS_any (A B : Option Addr) (c d lo hi lo' hi' : Nat) (xs ys : List Step) (w : World) (h : EStep.AS w lo hi A xs) (h' : EStep.AS w lo' hi' B ys) (hh : hi ≤ w.heap.size) (hh' : hi' ≤ w.heap.size) :
    Calls Try.prog 122 #[.slice A xs.length c, .slice B ys.length d] w fun e w' => e = .returned (.bool (eqB xs ys)) ∧ Below w.heap.size w w' := by
  have hx := h.le
  unfold BIG at hx
  by_cases hn : xs.length = ys.length
  · have n1 : xs.length ≤ ys.length := by omega
    have n2 : ys.length ≤ xs.length := by omega
    clear hn
    have nb : ((xs.length : Int) != (ys.length : Int)) = false := by simp; omega
    go_enter Try.func122, Try.ntmps122
    go_wp2
    go_loopw [5] (fun i wr => EqRelB xs ys w i wr) (fun i _ => xs.length - (intOf i).toNat)
    case atStart => exact ⟨0, Nat.zero_le _, rfl, Below.refl _ _, by simp⟩
    case round =>
      obtain ⟨k, hk, rfl, hw, he⟩ := hrel
      have HE := Lib.hid he; clear he
      have h := h.same (Same.of_below hw hh); have h' := h'.same (Same.of_below hw hh')
      have hz := hw.size
      by_cases hlt : k < xs.length
      · obtain ⟨b1, o1, ⟨x, y⟩, rfl, l1, m1, hd1, _, hc1, hc2⟩ := AStep.at_ h hlt
        obtain ⟨b2, o2, ⟨x', y'⟩, rfl, l2, m2, hd2, _, hc3, hc4⟩ := AStep.at_ h' (by omega : k < ys.length)
        have HD1 := Lib.hid hd1; have HD2 := Lib.hid hd2; clear hd1 hd2
        have q1 : (0 : Int) ≤ (k : Int) := by omega
        have q2 : (k : Int) < (xs.length : Int) := by omega
        have q3 : (k : Int) < (ys.length : Int) := by omega
        go_wp2
        go_region_held3 (fun w' => w'.cell? ⟨b1, o1 + k * 2, none⟩ = some (.int .i64 x) ∧ w'.cell? ⟨b1, o1 + k * 2 + 1, none⟩ = some (.int .i64 y) ∧ w'.cell? ⟨b2, o2 + k * 2, none⟩ = some (.int .i64 x') ∧ w'.cell? ⟨b2, o2 + k * 2 + 1, none⟩ = some (.int .i64 y')) (first | exact ⟨hc1, hc2, hc3, hc4⟩ | exact ⟨(hb1.cell (by simp; omega)).trans hc1, (hb1.cell (by simp; omega)).trans hc2, (hb1.cell (by simp; omega)).trans hc3, (hb1.cell (by simp; omega)).trans hc4⟩)
          (first | (go_at_call 187; refine (eqStep_any x y x' y' _).mono ?_; rintro e w1 ⟨rfl, hb1⟩))
        have hw1 := hw.trans (((Below.refl _ _).drew.trans hb1).mono hz)
        go_wp2
        · have hxy : (!eqB (⟨x, y⟩ : Step) ⟨x', y'⟩) = true := by assumption
          go_ret
          exact ⟨ret_bool (eqB_no HE.out HD1.out HD2.out (not_true hxy)), hw1⟩
        · have hxy : (!eqB (⟨x, y⟩ : Step) ⟨x', y'⟩) = false := by assumption
          exact ⟨⟨k + 1, by omega, by go_num, hw1, eqB_yes HE.out HD1.out HD2.out (not_false hxy)⟩, by simp [intOf]; omega⟩
      · go_wp2
        go_ret
        exact ⟨ret_bool (eqB_end HE.out (by omega) (by omega)), hw⟩
  · go_enter Try.func122, Try.ntmps122
    go_wp2
    go_ret
    exact ⟨ret_bool (eqB_len hn).symm, Below.refl _ _⟩

theorem szKinType_any (A : Option Addr) (c lo hi : Nat) (s : Int) (xs : List Step) (left : Int) (w : World) (h : EStep.AS w lo hi A xs) (h0 : 0 ≤ left) (h1 : left ≤ 1048576) (_hh : hi ≤ w.heap.size) :
    Calls Try.prog 57 #[.agg #[.int .i64 s, .slice A xs.length c], .int .i64 left] w fun e w' => ∃ r, e = .returned (.int .i64 r) ∧ Below w.heap.size w w' ∧ Sz r left xs.length := by
  go_enter Try.func57, Try.ntmps57
  go_wp2_with (go_at_call 145; refine (szStepS_any A c xs left _ h.le h0 h1).mono ?_; rintro e w' ⟨r, rfl, rfl, hs⟩)
  · go_ret
    refine ⟨_, rfl, (Below.refl _ _).alloc (Nat.le_refl _) _, .inl ⟨rfl, ?_⟩⟩
    rcases hs with ⟨_, hs⟩ | ⟨hs, _⟩ <;> omega
  · go_ret
    exact ⟨_, rfl, (Below.refl _ _).alloc (Nat.le_refl _) _, hs⟩

theorem toKinType_any (A : Option Addr) (c lo hi : Nat) (s : Int) (xs : List Step) (w : World) (h : EStep.AS w lo hi A xs) (hh : hi ≤ w.heap.size) (hs : xs.length ≤ 1048576) :
    Calls Try.prog 59 #[.agg #[.int .i64 s, .slice A xs.length c]] w fun e w' => ∃ A' c', e = .returned (.agg #[.int .i64 s, .slice A' xs.length c']) ∧
      EStep.OS w' w.heap.size w'.heap.size (.slice A' xs.length c') xs ∧ Below w.heap.size w w' := by
  go_enter Try.func59, Try.ntmps59
  go_wp2_with (go_at_call 147; refine (toStepS_any A c lo hi xs _ (h.same ?_) ?_ hs).mono ?_; (with_reducible repeat' first | exact Same.refl _ _ _ | assumption | (refine Same.setCell ?_ (by first | omega | (simp; omega) | (simp; done) | (dsimp only; omega)) _) | (refine Same.alloc ?_ (by first | omega | (simp; omega) | (simp; done) | (dsimp only; omega)) _) | (refine Same.drewN ?_ _) | (refine Same.drew ?_)); (first | omega | (simp; omega) | (simp; done) | (dsimp only; omega)); rintro e w1 ⟨A1, c1, rfl, hv, hb1⟩; (obtain ⟨hb1c, hb1f⟩ := bcell hb1); (have hb1z := hb1.size); (try simp only [szs] at hb1c hb1f hb1z))
  exact bodyPost_ret (v := .agg #[.int .i64 s, .slice A1 xs.length c1]) (by simp [results, Try.results59, go_sem, hb1c]) rfl ⟨_, _, rfl, (hv.same (by (with_reducible repeat' first | exact Same.refl _ _ _ | assumption | (refine Same.setCell ?_ (by first | omega | (simp; omega) | (simp; done) | (dsimp only; omega)) _) | (refine Same.alloc ?_ (by first | omega | (simp; omega) | (simp; done) | (dsimp only; omega)) _) | (refine Same.drewN ?_ _) | (refine Same.drew ?_)))).mono (by first | omega | (simp; omega) | (simp; done) | (dsimp only; omega)) (by first | omega | (simp; omega) | (simp; done) | (dsimp only; omega)), by (with_reducible repeat' first | exact Below.refl _ _ | assumption | (refine Below.setCell ?_ (by first | omega | (simp; omega) | (simp; done) | (dsimp only; omega)) _) | (refine Below.alloc ?_ (by first | omega | (simp; omega) | (simp; done) | (dsimp only; omega)) _) | (refine below_drewN ?_ _) | (refine Below.drew ?_) | (refine Below.trans ?_ (hb1.mono (by first | omega | (simp; omega) | (simp; done) | (dsimp only; omega)))))⟩

theorem eqKinType_any (A B : Option Addr) (c d lo hi lo' hi' : Nat) (s t : Int) (xs ys : List Step) (w : World) (h : EStep.AS w lo hi A xs) (h' : EStep.AS w lo' hi' B ys) (hh : hi ≤ w.heap.size) (hh' : hi' ≤ w.heap.size) :
    Calls Try.prog 39 #[.agg #[.int .i64 s, .slice A xs.length c], .agg #[.int .i64 t, .slice B ys.length d]] w fun e w' => e = .returned (.bool (eqB (⟨s, xs⟩ : KinType) ⟨t, ys⟩)) ∧ Below w.heap.size w w' := by
  go_enter Try.func39, Try.ntmps39
  go_wp2_with (go_at_call 122; refine (eqStepS_any A B c d lo hi lo' hi' xs ys _ (h.same ?_) (h'.same ?_) ?_ ?_).mono ?_; (with_reducible repeat' first | exact Same.refl _ _ _ | assumption | (refine Same.setCell ?_ (by first | omega | (simp; omega) | (simp; done) | (dsimp only; omega)) _) | (refine Same.alloc ?_ (by first | omega | (simp; omega) | (simp; done) | (dsimp only; omega)) _) | (refine Same.drewN ?_ _) | (refine Same.drew ?_)); (with_reducible repeat' first | exact Same.refl _ _ _ | assumption | (refine Same.setCell ?_ (by first | omega | (simp; omega) | (simp; done) | (dsimp only; omega)) _) | (refine Same.alloc ?_ (by first | omega | (simp; omega) | (simp; done) | (dsimp only; omega)) _) | (refine Same.drewN ?_ _) | (refine Same.drew ?_)); (first | omega | (simp; omega) | (simp; done) | (dsimp only; omega)); (first | omega | (simp; omega) | (simp; done) | (dsimp only; omega)); rintro e w1 ⟨rfl, hb1⟩)
  all_goals (go_ret; exact ⟨ret_bool (by simp_all [eqB]), by (with_reducible repeat' first | exact Below.refl _ _ | assumption | (refine Below.setCell ?_ (by first | omega | (simp; omega) | (simp; done) | (dsimp only; omega)) _) | (refine Below.alloc ?_ (by first | omega | (simp; omega) | (simp; done) | (dsimp only; omega)) _) | (refine below_drewN ?_ _) | (refine Below.drew ?_) | (refine Below.trans ?_ (hb1.mono (by first | omega | (simp; omega) | (simp; done) | (dsimp only; omega)))))⟩)
end Go.Proofs.Ytnnjilkjjdiblaa
