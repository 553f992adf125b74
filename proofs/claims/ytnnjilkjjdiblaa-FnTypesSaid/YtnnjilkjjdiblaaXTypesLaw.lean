/-
  Kin types are read back from their text; reversed twice, a type is itself; joined types lead by way of both: the plain laws. No program in sight.
-/
import Derived.Test.YtnnjilkjjdiblaaXRevLaw
import Derived.Test.YtnnjilkjjdiblaaXParseM
import Derived.Test.YtnnjilkjjdiblaaJoinT
namespace Go.Proofs.Ytnnjilkjjdiblaa
set_option maxRecDepth 100000
open Go.RowKit

/-! ### A type whose sex of ego is known -/
theorem stepOk_any {s : Step} {x : Int} (h : stepOk s 0 = true) (h7 : ¬ (s.kind = 7 ∧ x = 1)) (h8 : ¬ (s.kind = 8 ∧ x = 2)) : stepOk s x = true := by
  rw [stepOk, decide_eq_true_eq] at h ⊢
  omega
theorem make_ego {zs : List Step} (h : typeOk ⟨0, zs⟩ = true) (h1 : typeOk ⟨1, zs⟩ = false) : typeOk ⟨2, zs⟩ = true := by
  cases zs with
  | nil => rw [typeOk_bare (by omega)] at h1; cases h1
  | cons s r =>
    simp only [typeOk, stepsOk_cons, Bool.and_eq_true, decide_eq_true_eq] at h ⊢
    obtain ⟨⟨_, _, hl⟩, h2, h3⟩ := h
    refine ⟨⟨by omega, by omega, hl⟩, ?_, h3⟩
    by_cases h7 : s.kind = 7
    · exact stepOk_any h2 (by omega) (by omega)
    · exfalso
      have k1 : stepOk s 1 = true := stepOk_any h2 (by omega) (by omega)
      have k2 : typeOk ⟨1, s :: r⟩ = true := by
        simp only [typeOk, stepsOk_cons, Bool.and_eq_true, decide_eq_true_eq]
        exact ⟨⟨by omega, by omega, hl⟩, k1, h3⟩
      rw [k2] at h1; cases h1

/-! ### Read back from the text -/
theorem word_list {xs : List Step} (h : ∀ x ∈ xs, StepIn x) : (wordT xs).data.toList = if xs = [] then [46] else xs.flatMap stepB := by
  cases xs with
  | nil => rfl
  | cons x r => rw [wordT_cons h, stepsT_list h, if_neg (by simp)]
theorem word_head {xs : List Step} (h : ∀ x ∈ xs, StepIn x) : ∃ c r, (wordT xs).data.toList = c :: r ∧ c ≠ 109 ∧ c ≠ 119 ∧ (xs ≠ [] → c ≠ 46) := by
  rw [word_list h]
  cases xs with
  | nil => exact ⟨46, [], rfl, by decide, by decide, fun e => absurd rfl e⟩
  | cons x r =>
    rw [if_neg (by simp), List.flatMap_cons]
    obtain ⟨k, a⟩ := x
    obtain ⟨h1, h2, h3, h4⟩ := h _ (List.mem_cons_self ..)
    simp only at h1 h2 h3 h4
    have hk : charOf k ≠ 109 ∧ charOf k ≠ 119 ∧ charOf k ≠ 46 := by
      rcases (by omega : k = 1 ∨ k = 2 ∨ k = 3 ∨ k = 4 ∨ k = 5 ∨ k = 6 ∨ k = 7 ∨ k = 8) with rfl | rfl | rfl | rfl | rfl | rfl | rfl | rfl <;> decide
    rcases (by omega : a = 0 ∨ a = 1 ∨ a = 2) with rfl | rfl | rfl
    · exact ⟨charOf k, _, rfl, hk.1, hk.2.1, fun _ => hk.2.2⟩
    · exact ⟨101, _, rfl, by decide, by decide, fun _ => by decide⟩
    · exact ⟨121, _, rfl, by decide, by decide, fun _ => by decide⟩
theorem cut_two {p r : ByteArray} {a b : UInt8} (hp : p.data.toList = [a, b]) : (p ++ r).extract 2 (p ++ r).size = r := by
  apply list_inj
  rw [ByteArray.data_extract, Array.toList_extract]
  simp only [List.extract_eq_take_drop]
  rw [ByteArray.data_append, Array.toList_append, hp]
  show List.take ((p ++ r).size - 2) r.data.toList = r.data.toList
  refine List.take_of_length_le ?_
  have hz : r.data.toList.length = r.size := by rw [Array.length_toList]; rfl
  have hq : p.size = 2 := by
    have : p.data.toList.length = 2 := by rw [hp]; rfl
    rw [Array.length_toList] at this; exact this
  rw [hz, ByteArray.size_append, hq]; omega
theorem cutM_text {t : KinType} (h : typeOk t = true) : cutM (textT t) = (t.ego, wordT t.steps) := by
  have he := typeOk_ego h
  have hin := stepIn_of (typeOk_in h)
  obtain ⟨c, r, hw, h1, h2, _⟩ := word_head hin
  obtain ⟨e, xs⟩ := t
  simp only at *
  rw [textT, if_pos h]
  simp only
  rcases (by omega : e = 0 ∨ e = 1 ∨ e = 2) with rfl | rfl | rfl
  · have h0 : preT 0 ++ wordT xs = wordT xs := bytes_nil_app _
    rw [h0, cutM, hw, if_neg, if_neg]
    · cases r with
      | nil => simp
      | cons d r => simp only [List.take_succ_cons, List.take_zero, List.cons.injEq, not_and]; intro e; exact absurd e h2
    · cases r with
      | nil => simp
      | cons d r => simp only [List.take_succ_cons, List.take_zero, List.cons.injEq, not_and]; intro e; exact absurd e h1
  · have hp : (preT 1).data.toList = [109, 58] := rfl
    rw [cutM, ByteArray.data_append, Array.toList_append, hp, if_pos (show List.take 2 ([109, 58] ++ (wordT xs).data.toList) = [109, 58] from rfl), cut_two hp]
  · have hp : (preT 2).data.toList = [119, 58] := rfl
    rw [cutM, ByteArray.data_append, Array.toList_append, hp, if_neg (by simp), if_pos (show List.take 2 ([119, 58] ++ (wordT xs).data.toList) = [119, 58] from rfl), cut_two hp]
theorem stepsM_word {xs : List Step} (h : ∀ x ∈ xs, StepIn x) (hl : xs.length ≤ 20) : stepsM (wordT xs).data.toList = xs := by
  obtain ⟨c, r, hw, _, _, h3⟩ := word_head h
  cases xs with
  | nil => rfl
  | cons x l =>
    have hc := h3 (by simp)
    rw [stepsM, if_neg, word_list h, if_neg (by simp)]
    · exact readS_flat h (by omega)
    · rw [hw]; intro e; injection e with e _; exact hc e
theorem parse_text {t : KinType} (h : typeOk t = true) : parseM (textT t) = (t, true) := by
  have hl := typeOk_len h
  rw [← parseS_eq, cutM_text h]
  simp only
  rw [stepsM_word (stepIn_of (typeOk_in h)) (by omega), if_pos]
  exact ⟨h, rfl⟩

/-! ### Reversed twice -/
theorem back_twice {s : Step} {sa : Int} (hs : stepOk s sa = true) (hsa : sa = 1 ∨ sa = 2) : backM (backM s sa) (sexTo s.kind) = s := by
  obtain ⟨p1, p2, p3, p4, p5, p6, p7⟩ := stepOk_parts hs
  obtain ⟨kd, ag⟩ := s
  simp only at *
  rcases (by omega : ag = 0 ∨ ag = 1 ∨ ag = 2) with rfl | rfl | rfl <;> rcases (by omega : kd = 1 ∨ kd = 2 ∨ kd = 3 ∨ kd = 4 ∨ kd = 5 ∨ kd = 6 ∨ kd = 7 ∨ kd = 8) with rfl | rfl | rfl | rfl | rfl | rfl | rfl | rfl <;> rcases hsa with rfl | rfl <;> first | rfl | (exfalso; omega)
theorem revL_at {s : Int} {xs : List Step} {n k : Nat} (h : k < n) : (revL s xs n)[k]? = some (bk s xs (n - 1 - k)) := by
  rw [revL, List.getElem?_reverse (by simpa using h), List.getElem?_map]
  simp only [List.length_map, List.length_range]
  rw [List.getElem?_range (by omega)]; rfl
theorem rev_twice {t : KinType} (ht : typeOk t = true) (he : t.ego ≠ 0) : revT (revT t).1 = (t, true) := by
  have hm := egoM_bare he
  have he' : egoM t ≠ 0 := by rw [hm]; exact he
  have hok := rev_ok ht (.inr he')
  rw [revT_good ht (.inr he')] at hok ⊢
  simp only at hok ⊢
  have hs0 : sexM t ≠ 0 := by
    unfold sexM; split
    · exact he
    · rcases sexTo_in (t.steps.getD (t.steps.length - 1) ⟨0, 0⟩).kind with e | e <;> rw [e] <;> decide
  have hb : egoM ⟨sexM t, revL t.ego t.steps t.steps.length⟩ = sexM t := egoM_bare hs0
  rw [revT_good hok (.inr (by rw [hb]; exact hs0))]
  simp only [revL_len]
  have hst : revL (sexM t) (revL t.ego t.steps t.steps.length) t.steps.length = t.steps := by
    apply List.ext_getElem?
    intro k
    by_cases hk : k < t.steps.length
    · obtain ⟨x, hx⟩ := getSome hk
      rw [revL_at hk, hx, bk_at (revL_at (k := t.steps.length - 1 - k) (by omega))]
      rw [show t.steps.length - 1 - (t.steps.length - 1 - k) = k by omega]
      have e1 : bk t.ego t.steps k = backM x (sexBM t k) := bk_at hx
      have hok1 := before_ok ht he' hx
      have hin := sexBM_in ht he' k
      rw [e1]
      have e2 : sexBM ⟨sexM t, revL t.ego t.steps t.steps.length⟩ (t.steps.length - 1 - k) = sexTo x.kind := by
        by_cases hl : t.steps.length - 1 - k = 0
        · rw [hl, sexBM, if_pos rfl, hb, sexM, if_neg (by omega), show t.steps.length - 1 = k by omega, List.getD, hx]; rfl
        · obtain ⟨j, hj⟩ : ∃ j, t.steps.length - 1 - k = j + 1 := ⟨t.steps.length - 1 - k - 1, by omega⟩
          obtain ⟨y, hy⟩ := getSome (l := t.steps) (k := k + 1) (by omega)
          rw [hj, sexBM_succ (revL_at (k := j) (by omega)), show t.steps.length - 1 - j = k + 1 by omega]
          have e3 : bk t.ego t.steps (k + 1) = backM y (sexBM t (k + 1)) := bk_at hy
          rw [e3, back_to (before_ok ht he' hy) (sexBM_in ht he' _), sexBM_succ hx]
      rw [e2, back_twice hok1 hin]
    · rw [List.getElem?_eq_none (by rw [revL_len]; omega), List.getElem?_eq_none (by omega)]
  have hsx : sexM ⟨sexM t, revL t.ego t.steps t.steps.length⟩ = t.ego := by
    by_cases h0 : t.steps.length = 0
    · rw [sexM, if_pos (by rw [revL_len]; exact h0)]
      show sexM t = t.ego
      rw [sexM, if_pos h0]
    · obtain ⟨x, hx⟩ := getSome (l := t.steps) (k := 0) (by omega)
      rw [sexM, if_neg (by rw [revL_len]; exact h0)]
      simp only [revL_len]
      rw [List.getD, revL_at (k := t.steps.length - 1) (by omega), show t.steps.length - 1 - (t.steps.length - 1) = 0 by omega]
      have e1 : bk t.ego t.steps 0 = backM x (sexBM t 0) := bk_at hx
      simp only [Option.getD_some]
      rw [e1, back_to (before_ok ht he' hx) (sexBM_in ht he' 0), sexBM, if_pos rfl, hm]
  rw [hst, hsx]

/-! ### Joined -/
theorem walkP_app {n : Nat} {L : Step → Nat → Nat → Bool} {m : List Step} : ∀ {l : List Step} {p : Nat → Nat → Bool}, walkP n L p (l ++ m) = walkP n L (walkP n L p l) m := by
  intro l
  induction l with
  | nil => intro p; rfl
  | cons x r ih => intro p; exact ih
theorem walk_app {n : Nat} {L : Step → Nat → Nat → Bool} {l m : List Step} {a c : Nat} (hc : c < n) : walkP n L sameP (l ++ m) a c = true ↔ ∃ b, b < n ∧ walkP n L sameP l a b = true ∧ walkP n L sameP m b c = true := by
  rw [walkP_app, walk_start hc]
theorem walk_sex {xs : List Person} {ys : List Union} {t : KinType} {a b : Nat} (h0 : 0 < t.steps.length) (h : walkP xs.length (leadM xs ys) sameP t.steps a b = true) : sexAt xs b = sexM t := by
  have h1 := walk_last (t := t) h0 (Nat.le_refl _) (by rw [List.take_length]; exact h)
  rw [h1, sexM, if_neg (by omega), sexBM, if_neg (by omega)]
theorem join_ways {xs : List Person} {ys : List Union} {t u : KinType} (hc : clash t u = false) {a c : Nat} (ha : a < xs.length) (hc' : c < xs.length) :
    waysP xs ys (joinedT t u) (joinedT t u).steps.length a c = stepP xs.length (waysP xs ys t t.steps.length) (waysP xs ys u u.steps.length) a c := by
  obtain ⟨x, hx⟩ := getSome (l := xs) (k := a) ha
  have hcl : ¬ (u.ego ≠ 0 ∧ sexM t ≠ 0 ∧ u.ego ≠ sexM t) := by
    intro h; rw [clash, decide_eq_true h] at hc; cases hc
  rw [Bool.eq_iff_iff, ways_iff hx hc', stepP_iff]
  have hst : (joinedT t u).steps = t.steps ++ u.steps := rfl
  rw [hst, walk_app hc']
  have heg : (joinedT t u).ego = if t.ego = 0 ∧ t.steps.length = 0 then u.ego else t.ego := rfl
  rw [heg]
  constructor
  · rintro ⟨h1, b, hb, h2, h3⟩
    obtain ⟨y, hy⟩ := getSome (l := xs) (k := b) hb
    refine ⟨b, hb, (ways_iff hx hb).2 ⟨?_, h2⟩, (ways_iff hy hc').2 ⟨?_, h3⟩⟩
    · by_cases h0 : t.ego = 0
      · simp [egoIs, h0]
      · rw [if_neg (fun k => h0 k.1)] at h1; exact h1
    · by_cases hl : t.steps.length = 0
      · have hnil : t.steps = [] := List.eq_nil_of_length_eq_zero hl
        rw [hnil] at h2
        have hab : a = b := by simpa [walkP, sameP] using h2
        subst hab
        rw [hx] at hy; injection hy with hy; subst hy
        by_cases h0 : t.ego = 0
        · rw [if_pos ⟨h0, hl⟩] at h1; exact h1
        · rw [if_neg (fun k => h0 k.1)] at h1
          have hs : sexM t = t.ego := by rw [sexM, if_pos hl]
          rw [hs] at hcl
          simp only [egoIs, decide_eq_true_eq] at h1 ⊢
          rcases h1 with h1 | h1
          · exact absurd h1 h0
          · by_cases hu : u.ego = 0
            · exact .inl hu
            · right
              have : u.ego = t.ego := Classical.byContradiction fun k => hcl ⟨hu, h0, k⟩
              rw [this]; exact h1
      · have hsb := walk_sex (t := t) (by omega) h2
        rw [sexAt_of hy] at hsb
        have hne : sexM t ≠ 0 := by
          rw [sexM, if_neg hl]
          rcases sexTo_in (t.steps.getD (t.steps.length - 1) ⟨0, 0⟩).kind with e | e <;> rw [e] <;> decide
        simp only [egoIs, decide_eq_true_eq]
        by_cases hu : u.ego = 0
        · exact .inl hu
        · right
          have : u.ego = sexM t := Classical.byContradiction fun k => hcl ⟨hu, hne, k⟩
          rw [this]; exact hsb
  · rintro ⟨b, hb, h1, h2⟩
    obtain ⟨y, hy⟩ := getSome (l := xs) (k := b) hb
    obtain ⟨h3, h4⟩ := (ways_iff hx hb).1 h1
    obtain ⟨h5, h6⟩ := (ways_iff hy hc').1 h2
    refine ⟨?_, b, hb, h4, h6⟩
    by_cases h0 : t.ego = 0 ∧ t.steps.length = 0
    · rw [if_pos h0]
      have hnil : t.steps = [] := List.eq_nil_of_length_eq_zero h0.2
      rw [hnil] at h4
      have hab : a = b := by simpa [walkP, sameP] using h4
      subst hab
      rw [hx] at hy; injection hy with hy; subst hy
      exact h5
    · rw [if_neg h0]; exact h3
theorem join_law (xs : List Person) (ys : List Union) {t u : KinType} (h : (joinT t u).2 = true) : equalM (relForM xs ys (joinT t u).1) (compM (relForM xs ys t) (relForM xs ys u)) = true := by
  by_cases hg : badJ t u = false ∧ typeOk (joinedT t u) = true
  · rw [joinT_good hg.1 hg.2]
    have hb := hg.1
    simp only [badJ, Bool.or_eq_false_iff, Bool.not_eq_false'] at hb
    obtain ⟨⟨ht, hu⟩, hcl⟩ := hb
    cases hf : famOk xs ys with
    | false => rw [relForM_fam hf, relForM_fam hf, relForM_fam hf]; rfl
    | true =>
      have hn := (famOk_parts hf).1
      rw [relForM_in hf hg.2, relForM_in hf ht, relForM_in hf hu, compM_relP _ _ hn]
      exact equalM_relP hn fun a b ha hb => join_ways hcl ha hb
  · rw [joinT, if_neg hg] at h; cases h
end Go.Proofs.Ytnnjilkjjdiblaa
