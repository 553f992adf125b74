/-
  A rewriting step leads from valid types to valid types, and down in an order: plain facts.
-/
import Derived.Test.YtnanlbglgflecaaRewM
namespace Go.Proofs.Ytnanlbglgflecaa
set_option maxRecDepth 100000
open Go.RowKit

/-! ### The sex after some steps -/
def endS : Int → List Step → Int
  | s, [] => s
  | _, x :: r => endS (sexTo x.kind) r
theorem stepsOk_app (a b : List Step) : ∀ s, stepsOk s (a ++ b) = (stepsOk s a && stepsOk (endS s a) b) := by
  induction a with
  | nil => intro s; simp [stepsOk, endS]
  | cons x r ih => intro s; simp only [List.cons_append, stepsOk, endS, ih, Bool.and_assoc]
theorem endS_app (a b : List Step) : ∀ s, endS s (a ++ b) = endS (endS s a) b := by
  induction a with
  | nil => intro s; rfl
  | cons x r ih => intro s; simp only [List.cons_append, endS, ih]
theorem endS_cons_any (x : Step) (r : List Step) (s s' : Int) : endS s (x :: r) = endS s' (x :: r) := rfl
theorem sexM_endS (a : List Step) : ∀ s, sexM ⟨s, a⟩ = endS s a := by
  induction a with
  | nil => intro s; simp [sexM, endS]
  | cons x r ih =>
    intro s
    cases r with
    | nil => simp [sexM, endS]
    | cons y q =>
      have h := ih (sexTo x.kind)
      simp only [endS] at h ⊢
      rw [← h]
      simp [sexM]
theorem endS_last (a : List Step) (s : Int) (x : Step) : endS s (a ++ [x]) = sexTo x.kind := by rw [endS_app]; rfl
theorem endS_in (a : List Step) (h : a ≠ []) (s : Int) : endS s a = 1 ∨ endS s a = 2 := by
  obtain ⟨b, x, rfl⟩ : ∃ b x, a = b ++ [x] := ⟨a.dropLast, a.getLast h, (List.dropLast_concat_getLast h).symm⟩
  rw [endS_last]; exact sexTo_in _
theorem stepOk_mono {s : Step} {a : Int} (h : stepOk s a = true) (k : Int) (h7 : s.kind = 7 → k ≠ 1) (h8 : s.kind = 8 → k ≠ 2) : stepOk s k = true := by
  simp only [stepOk, decide_eq_true_eq] at h ⊢
  refine ⟨h.1, h.2.1, h.2.2.1, h.2.2.2.1, h.2.2.2.2.1, fun e => h7 e.1 e.2, fun e => h8 e.1 e.2⟩
/-- What fits to steps that are valid is valid. -/
theorem fit_ok : ∀ (src m : List Step) (s : Int), src.length = m.length → stepsFit src m = true → (∀ x ∈ src, 0 ≤ x.age ∧ x.age ≤ 2) → stepsOk s m = true → stepsOk s src = true ∧ endS s src = endS s m
  | [], [], s, _, _, _, _ => ⟨rfl, rfl⟩
  | [], _ :: _, s, h, _, _, _ => by simp at h
  | _ :: _, [], s, h, _, _, _ => by simp at h
  | a :: r, x :: q, s, hl, hf, ha, hm => by
    simp only [stepsFit, Bool.and_eq_true] at hf
    simp only [stepsOk, Bool.and_eq_true] at hm
    obtain ⟨hf1, hf2⟩ := hf
    simp only [fitStep, Bool.and_eq_true, Bool.or_eq_true, decide_eq_true_eq] at hf1
    have ih := fit_ok r q (sexTo x.kind) (by simpa using hl) hf2 (fun y hy => ha y (List.mem_cons_of_mem _ hy)) hm.2
    have hk : a.kind = x.kind := hf1.1.symm
    simp only [stepsOk, endS, Bool.and_eq_true, hk]
    refine ⟨⟨?_, ih.1⟩, ih.2⟩
    have h1 := hm.1
    simp only [stepOk, decide_eq_true_eq] at h1 ⊢
    rcases hf1.2 with h0 | h0 <;> (rw [h0, hk]; omega)

/-! ### The order -/
def codeS (s : Step) : Nat := 4 * s.kind.toNat + s.age.toNat
def numS : List Step → Nat
  | [] => 0
  | s :: r => codeS s * 64 ^ r.length + numS r
def muS (xs : List Step) : Nat := 64 ^ xs.length + numS xs
def SmallS (xs : List Step) : Prop := ∀ x ∈ xs, 0 ≤ x.kind ∧ x.kind ≤ 8 ∧ 0 ≤ x.age ∧ x.age ≤ 2
theorem stepsOk_small : ∀ {xs : List Step} {s : Int}, stepsOk s xs = true → SmallS xs
  | [], _, _ => fun x hx => by cases hx
  | y :: r, s, h => by
    simp only [stepsOk, Bool.and_eq_true] at h
    intro x hx
    rcases List.mem_cons.1 hx with rfl | hx
    · have := h.1; simp only [stepOk, decide_eq_true_eq] at this; omega
    · exact stepsOk_small h.2 x hx
theorem numS_lt : ∀ (xs : List Step), SmallS xs → numS xs < 64 ^ xs.length
  | [], _ => by simp [numS]
  | s :: r, h => by
    have ih := numS_lt r (fun x hx => h x (List.mem_cons_of_mem _ hx))
    have hs := h s (List.mem_cons_self ..)
    have hc : codeS s + 1 ≤ 64 := by unfold codeS; omega
    have := Nat.mul_le_mul_right (64 ^ r.length) hc
    rw [Nat.add_mul, Nat.one_mul] at this
    simp only [numS, List.length_cons, Nat.pow_succ]
    omega
theorem numS_app (a b : List Step) : numS (a ++ b) = numS a * 64 ^ b.length + numS b := by
  induction a with
  | nil => simp [numS]
  | cons x r ih =>
    simp only [List.cons_append, numS, ih, List.length_append, Nat.pow_add, Nat.add_mul, Nat.mul_assoc]
    omega
theorem muS_app (a b : List Step) : muS (a ++ b) = muS a * 64 ^ b.length + numS b := by
  simp only [muS, numS_app, List.length_append, Nat.pow_add, Nat.add_mul]; omega
theorem muS_pos (a : List Step) : 1 ≤ muS a := by
  have : 0 < 64 ^ a.length := Nat.pow_pos (by decide)
  unfold muS; omega
theorem codeS_lt {a b : Step} (ha : 0 ≤ a.kind ∧ a.kind ≤ 8 ∧ 0 ≤ a.age ∧ a.age ≤ 2) (hb : 0 ≤ b.kind ∧ b.kind ≤ 8 ∧ 0 ≤ b.age ∧ b.age ≤ 2) (h : a.kind < b.kind ∨ (a.kind = b.kind ∧ a.age < b.age)) : codeS a + 1 ≤ codeS b := by
  unfold codeS; omega
theorem lex_lt : ∀ (xs ys : List Step), xs.length = ys.length → SmallS xs → SmallS ys → lexC xs ys < 0 → numS xs < numS ys
  | [], _, _, _, _, h => by simp [lexC] at h
  | _ :: _, [], h, _, _, _ => by simp at h
  | a :: r, b :: q, hl, hx, hy, h => by
    have hl' : r.length = q.length := by simpa using hl
    have ha := hx a (List.mem_cons_self ..); have hb := hy b (List.mem_cons_self ..)
    have hr : SmallS r := fun x h => hx x (List.mem_cons_of_mem _ h); have hq : SmallS q := fun x h => hy x (List.mem_cons_of_mem _ h)
    have key : codeS a + 1 ≤ codeS b → numS (a :: r) < numS (b :: q) := by
      intro hc
      have h1 := numS_lt r hr
      have h2 := Nat.mul_le_mul_right (64 ^ r.length) hc
      rw [Nat.add_mul, Nat.one_mul] at h2
      simp only [numS, ← hl']
      omega
    rw [lexC_cons] at h
    by_cases hk : a.kind = b.kind
    · rw [if_neg (fun k => k hk)] at h
      by_cases hg : a.age = b.age
      · rw [if_neg (fun k => k hg)] at h
        have ih := lex_lt r q hl' hr hq h
        have hc : codeS a = codeS b := by unfold codeS; rw [hk, hg]
        simp only [numS, ← hl', hc]
        omega
      · rw [if_pos hg] at h
        split at h
        · exact key (codeS_lt ha hb (.inr ⟨hk, by assumption⟩))
        · omega
    · rw [if_pos hk] at h
      split at h
      · exact key (codeS_lt ha hb (.inl (by assumption)))
      · omega
theorem fit_ge : ∀ (src m : List Step), src.length = m.length → stepsFit src m = true → SmallS m → numS src ≤ numS m
  | [], [], _, _, _ => Nat.le_refl _
  | [], _ :: _, h, _, _ => by simp at h
  | _ :: _, [], h, _, _ => by simp at h
  | a :: r, x :: q, hl, hf, hm => by
    simp only [stepsFit, Bool.and_eq_true] at hf
    obtain ⟨hf1, hf2⟩ := hf
    simp only [fitStep, Bool.and_eq_true, Bool.or_eq_true, decide_eq_true_eq] at hf1
    have hl' : r.length = q.length := by simpa using hl
    have ih := fit_ge r q hl' hf2 (fun x h => hm x (List.mem_cons_of_mem _ h))
    have hc : codeS a ≤ codeS x := by
      unfold codeS
      rcases hf1.2 with h0 | h0
      · rw [h0, hf1.1]; simp
      · rw [h0, hf1.1]; exact Nat.le_refl _
    have := Nat.mul_le_mul_right (64 ^ r.length) hc
    simp only [numS, ← hl']
    omega
/-- Fewer steps, or as many that come before: the whole comes down. -/
theorem mu_down (pre dst m suf : List Step) (hd : SmallS dst) (h : dst.length < m.length ∨ (dst.length = m.length ∧ numS dst < numS m)) : muS ((pre ++ dst) ++ suf) < muS ((pre ++ m) ++ suf) := by
  have key : muS (pre ++ dst) < muS (pre ++ m) := by
    rw [muS_app, muS_app]
    rcases h with h | ⟨h, h'⟩
    · have h1 := numS_lt dst hd
      have h2 : (muS pre + 1) * 64 ^ dst.length ≤ (muS pre * 64) * 64 ^ dst.length := Nat.mul_le_mul_right _ (by have := muS_pos pre; omega)
      have h3 : 64 ^ (dst.length + 1) ≤ 64 ^ m.length := Nat.pow_le_pow_right (by decide) (by omega)
      have h4 := Nat.mul_le_mul_left (muS pre) h3
      rw [Nat.pow_succ, Nat.mul_comm (64 ^ dst.length) 64, ← Nat.mul_assoc] at h4
      rw [Nat.add_mul, Nat.one_mul] at h2
      omega
    · rw [h]; omega
  rw [muS_app (pre ++ dst), muS_app (pre ++ m)]
  have h0 : 0 < 64 ^ suf.length := Nat.pow_pos (by decide)
  have := Nat.mul_lt_mul_of_pos_right key h0
  omega

/-! ### A replacement -/
theorem stepsFit_take : ∀ (src q : List Step), stepsFit src q = true → stepsFit src (q.take src.length) = true ∧ src.length ≤ q.length
  | [], _, _ => ⟨rfl, Nat.zero_le _⟩
  | _ :: _, [], h => by simp [stepsFit] at h
  | a :: r, x :: q, h => by
    simp only [stepsFit, Bool.and_eq_true] at h
    have ih := stepsFit_take r q h.2
    refine ⟨?_, by simp; exact ih.2⟩
    simp only [List.length_cons, List.take_succ_cons, stepsFit, Bool.and_eq_true]
    exact ⟨h.1, ih.1⟩
theorem skipR_src {r : Rule} (hr : ruleOk r = true) : ∃ s, (s = 1 ∨ s = 2) ∧ typeOk ⟨s, r.src⟩ = true := by
  simp only [ruleOk, Bool.and_eq_true] at hr
  have h := hr.2
  by_cases h1 : typeOk ⟨1, r.src⟩ = true
  · exact ⟨1, .inl rfl, h1⟩
  · by_cases h2 : typeOk ⟨2, r.src⟩ = true
    · exact ⟨2, .inr rfl, h2⟩
    · simp [skipR, h1, h2] at h
theorem typeOk_steps {t : KinType} (h : typeOk t = true) : stepsOk t.ego t.steps = true := by
  simp only [typeOk, Bool.and_eq_true] at h; exact h.2
theorem typeOk_of {t : KinType} (h0 : 0 ≤ t.ego ∧ t.ego ≤ 2) (h1 : t.steps.length ≤ 8) (h : stepsOk t.ego t.steps = true) : typeOk t = true := by
  simp only [typeOk, Bool.and_eq_true, decide_eq_true_eq]; exact ⟨⟨h0.1, h0.2, h1⟩, h⟩
/-- A sex of the person from whom the steps are made serves as well as 'any'. -/
theorem stepsOk_ego {t : KinType} (h : typeOk t = true) : stepsOk (egoM t) t.steps = true := by
  have h1 := typeOk_steps h
  obtain ⟨e, xs⟩ := t
  cases xs with
  | nil => rfl
  | cons x r =>
    simp only [stepsOk, Bool.and_eq_true] at h1 ⊢
    refine ⟨?_, h1.2⟩
    simp only [egoM]
    split
    · refine stepOk_mono h1.1 _ (fun e7 => ?_) (fun e8 => ?_)
      · rw [if_pos e7]; decide
      · rw [if_neg (by omega), if_pos e8]; decide
    · exact h1.1
theorem egoM_none {t : KinType} (h : egoM t = 0) : t.ego = 0 ∧ ∀ x r, t.steps = x :: r → x.kind ≠ 7 ∧ x.kind ≠ 8 := by
  obtain ⟨e, xs⟩ := t
  unfold egoM at h
  split at h
  · rename_i h0
    refine ⟨h0, fun x r hx => ?_⟩
    simp only at hx
    subst hx
    simp only at h
    constructor
    · intro e; rw [if_pos e] at h; cases h
    · intro e; rw [if_neg (by omega), if_pos e] at h; cases h
  · rename_i h0; exact absurd h h0
theorem sideR_of {r : Rule} {s : Int} (hr : ruleOk r = true) (hs : s = 1 ∨ s = 2) (hsex : r.sex = 0 ∨ r.sex = s) (hsrc : stepsOk s r.src = true) : stepsOk s r.dst = true ∧ endS s r.src = endS s r.dst := by
  have hp := ruleOk_parts hr
  simp only [ruleOk, Bool.and_eq_true] at hr
  have hT : typeOk ⟨s, r.src⟩ = true := typeOk_of (by simp only; omega) (by simp only; omega) hsrc
  have hk : skipR r s = false := by
    simp only [skipR, hT, Bool.not_true, Bool.or_false, decide_eq_false_iff_not]
    omega
  have hside : sideR r s = true := by
    rcases hs with rfl | rfl
    · have := hr.1.1.2; rw [hk] at this; simpa using this
    · have := hr.1.2; rw [hk] at this; simpa using this
  simp only [sideR, Bool.and_eq_true, decide_eq_true_eq] at hside
  refine ⟨typeOk_steps hside.1, ?_⟩
  rw [← sexM_endS, ← sexM_endS]; exact hside.2
theorem endS_take {t : KinType} {j : Nat} (hj : j ≤ t.steps.length) : endS (egoM t) (t.steps.take j) = sexBM t j := by
  unfold sexBM
  split
  · rename_i h; subst h; rfl
  · rename_i h
    obtain ⟨i, rfl⟩ : ∃ i, j = i + 1 := ⟨j - 1, by omega⟩
    have hi : i < t.steps.length := by omega
    rw [List.take_succ_eq_append_getElem hi, endS_last]
    simp [List.getD, hi]
/-- The middle part of the steps where a rule fits. -/
theorem fits_split {r : Rule} {t : KinType} {j : Nat} (hf : fitsM r t j = true) : ∃ m, t.steps = (t.steps.take j ++ m) ++ t.steps.drop (j + r.src.length) ∧ r.src.length = m.length ∧ stepsFit r.src m = true ∧ j + r.src.length ≤ t.steps.length ∧ (r.sex = 0 ∨ r.sex = sexBM t j) := by
  simp only [fitsM, Bool.and_eq_true, decide_eq_true_eq] at hf
  obtain ⟨⟨_, h1⟩, h2⟩ := hf
  rw [Int.toNat_natCast] at h2
  simp only [fitsIn, Bool.and_eq_true, Bool.not_eq_true'] at h2
  obtain ⟨⟨_, h3⟩, h4⟩ := h2
  have h5 := stepsFit_take _ _ h4
  refine ⟨(t.steps.drop j).take r.src.length, ?_, ?_, h5.1, by omega, ?_⟩
  · rw [List.append_assoc, ← List.drop_drop, List.take_append_drop, List.take_append_drop]
  · rw [List.length_take]; omega
  · simp only [sexBad, decide_eq_false_iff_not] at h3; omega
theorem repl_ok {r : Rule} {t : KinType} {j : Nat} (hr : ruleOk r = true) (ht : typeOk t = true) (hf : fitsM r t j = true) : typeOk (replM r t j) = true ∧ muS (replM r t j).steps < muS t.steps := by
  obtain ⟨m, hsp, hlm, hfm, hj, hsex⟩ := fits_split hf
  have hp := ruleOk_parts hr
  have hd := ruleOk_dst hr
  have hlen := typeOk_len ht
  have hok := stepsOk_ego ht
  rw [hsp, stepsOk_app, stepsOk_app, endS_app, Bool.and_eq_true, Bool.and_eq_true, endS_take (by omega)] at hok
  obtain ⟨⟨hk1, hk2⟩, hk3⟩ := hok
  have hsrcsmall : SmallS r.src := by
    obtain ⟨s, _, h⟩ := skipR_src hr
    exact stepsOk_small (typeOk_steps h)
  have hge := fit_ge r.src m hlm hfm (stepsOk_small hk2)
  have hfo := fit_ok r.src m _ hlm hfm (fun x hx => (hsrcsmall x hx).2.2) hk2
  -- the new steps in the middle
  have hmid : stepsOk (sexBM t j) r.dst = true ∧ endS (sexBM t j) r.dst = endS (sexBM t j) m ∧ SmallS r.dst := by
    by_cases hs : sexBM t j = 1 ∨ sexBM t j = 2
    · have h := sideR_of hr hs hsex hfo.1
      exact ⟨h.1, by rw [← h.2]; exact hfo.2, stepsOk_small h.1⟩
    · have hj0 : j = 0 := by
        by_cases h : j = 0
        · exact h
        · exact absurd (by rw [sexBM, if_neg h]; exact sexTo_in _) hs
      subst hj0
      have he : egoM t = 0 := by
        by_cases h : egoM t = 0
        · exact h
        · exact absurd (by rw [sexBM, if_pos rfl]; exact egoM_in ht h) hs
      have hb : sexBM t 0 = 0 := by rw [sexBM, if_pos rfl, he]
      rw [hb] at hsex hfo hk2 ⊢
      have hr0 : r.sex = 0 := by omega
      obtain ⟨a, q, hsrc⟩ : ∃ a q, r.src = a :: q := by
        cases h : r.src with
        | nil => rw [h] at hp; simp at hp
        | cons a q => exact ⟨a, q, rfl⟩
      obtain ⟨x, p, hm⟩ : ∃ x p, m = x :: p := by
        cases h : m with
        | nil => rw [h, hsrc] at hlm; simp at hlm
        | cons x p => exact ⟨x, p, rfl⟩
      have hx := (egoM_none he).2 x (p ++ t.steps.drop (0 + r.src.length)) (hsp.trans (by rw [hm]; simp))
      have hak : a.kind = x.kind := by
        rw [hsrc, hm] at hfm
        simp only [stepsFit, fitStep, Bool.and_eq_true, decide_eq_true_eq] at hfm
        exact hfm.1.1.symm
      have hsr : ∀ s, stepsOk s r.src = true := by
        intro s
        have h0 := hfo.1
        rw [hsrc] at h0 ⊢
        simp only [stepsOk, Bool.and_eq_true] at h0 ⊢
        exact ⟨stepOk_mono h0.1 s (fun e => absurd e (by omega)) (fun e => absurd e (by omega)), h0.2⟩
      have h1 := sideR_of (s := 1) hr (.inl rfl) (.inl hr0) (hsr 1)
      have h2 := sideR_of (s := 2) hr (.inr rfl) (.inl hr0) (hsr 2)
      obtain ⟨y, z, hdst⟩ : ∃ y z, r.dst = y :: z := by
        cases h : r.dst with
        | nil =>
          have e1 := h1.2; have e2 := h2.2
          rw [h, hsrc] at e1 e2
          have e3 : endS 1 (a :: q) = endS 2 (a :: q) := rfl
          rw [e1, e2] at e3
          simp [endS] at e3
        | cons y z => exact ⟨y, z, rfl⟩
      refine ⟨?_, ?_, stepsOk_small h1.1⟩
      · have g1 := h1.1; have g2 := h2.1
        rw [hdst] at g1 g2 ⊢
        simp only [stepsOk, Bool.and_eq_true] at g1 g2 ⊢
        refine ⟨stepOk_mono g1.1 0 (by omega) (by omega), g1.2⟩
      · rw [← hfo.2]
        have := h1.2
        rw [hdst, hsrc] at this ⊢
        exact this.symm
  refine ⟨typeOk_of ?_ ?_ ?_, ?_⟩
  · have := typeOk_ego ht
    by_cases h : egoM t = 0
    · show 0 ≤ egoM t ∧ egoM t ≤ 2
      omega
    · have := egoM_in ht h
      show 0 ≤ egoM t ∧ egoM t ≤ 2
      omega
  · have := replM_len (r := r) (t := t) (j := j) hj hd; omega
  · show stepsOk (egoM t) ((t.steps.take j ++ r.dst) ++ t.steps.drop (j + r.src.length)) = true
    rw [stepsOk_app, stepsOk_app, endS_app, Bool.and_eq_true, Bool.and_eq_true, endS_take (by omega), hmid.2.1]
    exact ⟨⟨hk1, hmid.1⟩, hk3⟩
  · show muS ((t.steps.take j ++ r.dst) ++ t.steps.drop (j + r.src.length)) < muS t.steps
    conv => rhs; rw [hsp]
    refine mu_down _ _ _ _ hmid.2.2 ?_
    by_cases h : r.dst.length = m.length
    · refine .inr ⟨h, Nat.lt_of_lt_of_le ?_ hge⟩
      have hbef : beforeM r.dst r.src = true := by
        have h1 := hp.1
        simp only [headOk, Bool.and_eq_true] at h1
        exact h1.2
      rw [beforeM_lex (by omega), decide_eq_true_eq] at hbef
      exact lex_lt _ _ (by omega) hmid.2.2 hsrcsmall hbef
    · exact .inl (by omega)

/-! ### A step, and the end of steps -/
theorem rewIn_some {t : KinType} {i : Nat} {r : Rule} {k : Nat} : ∀ {rs : List Rule} {j : Nat}, rewIn t i rs j = some (r, k) → r ∈ rs ∧ fitsM r t i = true
  | [], _, h => by simp [rewIn] at h
  | q :: rs, j, h => by
    rw [rewIn] at h
    split at h
    · injection h with h; injection h with h _; subst h
      exact ⟨List.mem_cons_self .., by assumption⟩
    · have := rewIn_some h
      exact ⟨List.mem_cons_of_mem _ this.1, this.2⟩
theorem rewFrom_some {rs : List Rule} {t : KinType} {r : Rule} {k i : Nat} : ∀ {n j : Nat}, rewFrom rs t n j = some (r, k, i) → r ∈ rs ∧ fitsM r t i = true
  | 0, _, h => by simp [rewFrom] at h
  | n + 1, j, h => by
    rw [rewFrom] at h
    split at h
    · rename_i h'
      injection h with h; injection h with h1 h2; injection h2 with h2 h3
      subst h1; subst h2; subst h3
      exact rewIn_some h'
    · exact rewFrom_some h
theorem rulesOk_mem {rs : List Rule} (h : rulesOk rs = true) {r : Rule} (hr : r ∈ rs) : ruleOk r = true := by
  obtain ⟨k, hk⟩ := List.getElem?_of_mem hr
  exact rulesOk_at h hk
theorem stepM_down {rs : List Rule} {t : KinType} (hr : rulesOk rs = true) (ht : typeOk t = true) (h : (stepM rs t).2.2.2 = true) : typeOk (stepM rs t).1 = true ∧ muS (stepM rs t).1.steps < muS t.steps := by
  unfold stepM at h ⊢
  split at h
  · rename_i r k i h'
    have := rewFrom_some h'
    exact repl_ok (rulesOk_mem hr this.1) ht this.2
  · cases h
theorem stepM_len {rs : List Rule} {t : KinType} (hr : rulesOk rs = true) (ht : typeOk t = true) : (stepM rs t).1.steps.length ≤ 8 := by
  cases h : (stepM rs t).2.2.2 with
  | true => exact typeOk_len (stepM_down hr ht h).1
  | false =>
    unfold stepM at h ⊢
    split at h
    · cases h
    · simp [zeroT]
theorem rewM_len (rs : List Rule) (t : KinType) : (rewM rs t).1.steps.length ≤ 8 := by
  unfold rewM
  split
  · rename_i h
    rw [Bool.and_eq_true] at h
    exact stepM_len h.1 h.2
  · simp [zeroT]
/-- At most n steps. -/
def normN (rs : List Rule) : Nat → KinType → KinType
  | 0, t => t
  | n + 1, t => if (stepM rs t).2.2.2 = true then normN rs n (stepM rs t).1 else t
def normM (rs : List Rule) (t : KinType) : KinType := if rulesOk rs && typeOk t then normN rs (muS t.steps) t else zeroT
theorem normN_stop {rs : List Rule} {t : KinType} (h : (stepM rs t).2.2.2 = false) (n : Nat) : normN rs n t = t := by
  cases n with
  | zero => rfl
  | succ n => rw [normN, if_neg (by rw [h]; decide)]
theorem normN_go {rs : List Rule} {t : KinType} (h : (stepM rs t).2.2.2 = true) (n : Nat) : normN rs (n + 1) t = normN rs n (stepM rs t).1 := by rw [normN, if_pos h]
theorem normN_ok {rs : List Rule} (hr : rulesOk rs = true) : ∀ (n : Nat) (t : KinType), typeOk t = true → typeOk (normN rs n t) = true
  | 0, _, h => h
  | n + 1, t, h => by
    rw [normN]
    split
    · exact normN_ok hr n _ (stepM_down hr h (by assumption)).1
    · exact h
theorem normM_len (rs : List Rule) (t : KinType) : (normM rs t).steps.length ≤ 8 := by
  unfold normM
  split
  · rename_i h
    rw [Bool.and_eq_true] at h
    exact typeOk_len (normN_ok h.1 _ _ h.2)
  · simp [zeroT]
end Go.Proofs.Ytnanlbglgflecaa
