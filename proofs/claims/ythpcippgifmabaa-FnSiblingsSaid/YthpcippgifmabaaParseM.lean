/-
  Reading kin types from their text: models.
-/
import Derived.Test.YthpcippgifmabaaFmtType
namespace Go.Proofs.Ythpcippgifmabaa
set_option maxRecDepth 100000
open Go.RowKit

/-- The number of a letter, 0 for none. -/
def kindOf (c : UInt8) : Int := if c = 70 then 1 else if c = 77 then 2 else if c = 66 then 3 else if c = 90 then 4 else if c = 83 then 5 else if c = 68 then 6 else if c = 72 then 7 else if c = 87 then 8 else 0
def charOf (k : Int) : UInt8 := if k = 1 then 70 else if k = 2 then 77 else if k = 3 then 66 else if k = 4 then 90 else if k = 5 then 83 else if k = 6 then 68 else if k = 7 then 72 else 87
def ageB (a : Int) : List UInt8 := if a = 1 then [101] else if a = 2 then [121] else []
def stepB (x : Step) : List UInt8 := ageB x.age ++ [charOf x.kind]
def StepIn (x : Step) : Prop := 1 ≤ x.kind ∧ x.kind ≤ 8 ∧ 0 ≤ x.age ∧ x.age ≤ 2
theorem kind_char {k : Int} (h : 1 ≤ k ∧ k ≤ 8) : kindOf (charOf k) = k := by
  rcases (by omega : k = 1 ∨ k = 2 ∨ k = 3 ∨ k = 4 ∨ k = 5 ∨ k = 6 ∨ k = 7 ∨ k = 8) with rfl | rfl | rfl | rfl | rfl | rfl | rfl | rfl <;> rfl
theorem char_kind {c : UInt8} (h : kindOf c ≠ 0) : charOf (kindOf c) = c ∧ 1 ≤ kindOf c ∧ kindOf c ≤ 8 := by
  unfold kindOf at h ⊢
  split at h
  · subst_vars; decide
  split at h
  · subst_vars; decide
  split at h
  · subst_vars; decide
  split at h
  · subst_vars; decide
  split at h
  · subst_vars; decide
  split at h
  · subst_vars; decide
  split at h
  · subst_vars; decide
  split at h
  · subst_vars; decide
  · exact absurd rfl h
theorem char_age {k : Int} (h : 1 ≤ k ∧ k ≤ 8) : charOf k ≠ 101 ∧ charOf k ≠ 121 ∧ charOf k ≠ 46 := by
  rcases (by omega : k = 1 ∨ k = 2 ∨ k = 3 ∨ k = 4 ∨ k = 5 ∨ k = 6 ∨ k = 7 ∨ k = 8) with rfl | rfl | rfl | rfl | rfl | rfl | rfl | rfl <;> decide
theorem stepT_list {x : Step} (h : StepIn x) : (stepT x).data.toList = stepB x := by
  obtain ⟨k, a⟩ := x
  obtain ⟨h1, h2, h3, h4⟩ := h
  simp only at h1 h2 h3 h4
  rcases (by omega : k = 1 ∨ k = 2 ∨ k = 3 ∨ k = 4 ∨ k = 5 ∨ k = 6 ∨ k = 7 ∨ k = 8) with rfl | rfl | rfl | rfl | rfl | rfl | rfl | rfl <;>
    rcases (by omega : a = 0 ∨ a = 1 ∨ a = 2) with rfl | rfl | rfl <;> rfl
theorem stepsT_list {xs : List Step} (h : ∀ x ∈ xs, StepIn x) : (stepsT xs).data.toList = xs.flatMap stepB := by
  induction xs with
  | nil => rfl
  | cons x r ih =>
    rw [stepsT, List.flatMap_cons, ← ih fun y hy => h y (List.mem_cons_of_mem _ hy), ← stepT_list (h x (List.mem_cons_self ..))]
    simp
/-- The program's reading. -/
def readI : List UInt8 → Option (List Step)
  | [] => some []
  | [c] => if c = 101 ∨ c = 121 then none else if kindOf c = 0 then none else some [⟨kindOf c, 0⟩]
  | c :: d :: r =>
    if c = 101 ∨ c = 121 then (if kindOf d = 0 then none else (readI r).map (⟨kindOf d, if c = 101 then 1 else 2⟩ :: ·))
    else if kindOf c = 0 then none else (readI (d :: r)).map (⟨kindOf c, 0⟩ :: ·)
theorem readI_nil : readI [] = some [] := by simp only [readI]
theorem readI_one {c : UInt8} {r : List UInt8} (h : c ≠ 101) (h' : c ≠ 121) : readI (c :: r) = if kindOf c = 0 then none else (readI r).map (⟨kindOf c, 0⟩ :: ·) := by
  cases r with
  | nil => simp only [readI]; rw [if_neg (by simp [h, h'])]; rfl
  | cons d r => rw [readI, if_neg (by simp [h, h'])]
theorem readI_two {c d : UInt8} {r : List UInt8} (h : c = 101 ∨ c = 121) : readI (c :: d :: r) = if kindOf d = 0 then none else (readI r).map (⟨kindOf d, if c = 101 then 1 else 2⟩ :: ·) := by
  rw [readI, if_pos h]
theorem readI_end {c : UInt8} (h : c = 101 ∨ c = 121) : readI [c] = none := by rw [readI, if_pos h]
theorem readI_some : ∀ (n : Nat) (bs : List UInt8) (xs : List Step), bs.length ≤ n → readI bs = some xs → bs = xs.flatMap stepB ∧ ∀ x ∈ xs, StepIn x := by
  intro n
  induction n with
  | zero =>
    intro bs xs hn h
    obtain rfl : bs = [] := List.length_eq_zero_iff.1 (by omega)
    rw [readI_nil] at h; injection h with h; subst h
    exact ⟨rfl, by simp⟩
  | succ n ih =>
    intro bs xs hn h
    match bs, hn, h with
    | [], _, h =>
      rw [readI_nil] at h; injection h with h; subst h
      exact ⟨rfl, by simp⟩
    | c :: r, hn, h =>
      by_cases hc : c = 101 ∨ c = 121
      · match r, hn, h with
        | [], _, h => rw [readI_end hc] at h; cases h
        | d :: r', hn, h =>
          rw [readI_two hc] at h
          by_cases hk : kindOf d = 0
          · rw [if_pos hk] at h; cases h
          · rw [if_neg hk] at h
            cases hr : readI r' with
            | none => rw [hr] at h; cases h
            | some ys =>
              rw [hr] at h
              simp only [Option.map_some, Option.some.injEq] at h
              subst h
              obtain ⟨h1, h2⟩ := ih r' ys (by simp at hn; omega) hr
              obtain ⟨h3, h4, h5⟩ := char_kind hk
              refine ⟨?_, fun x hx => ?_⟩
              · rw [List.flatMap_cons, ← h1]
                simp only [stepB, h3]
                rcases hc with rfl | rfl <;> rfl
              · rcases List.mem_cons.1 hx with rfl | hx
                · refine ⟨h4, h5, ?_, ?_⟩ <;> simp only <;> split <;> omega
                · exact h2 x hx
      · rw [readI_one (fun e => hc (.inl e)) (fun e => hc (.inr e))] at h
        by_cases hk : kindOf c = 0
        · rw [if_pos hk] at h; cases h
        · rw [if_neg hk] at h
          cases hr : readI r with
          | none => rw [hr] at h; cases h
          | some ys =>
            rw [hr] at h
            simp only [Option.map_some, Option.some.injEq] at h
            subst h
            obtain ⟨h1, h2⟩ := ih r ys (by simp at hn; omega) hr
            obtain ⟨h3, h4, h5⟩ := char_kind hk
            refine ⟨?_, fun x hx => ?_⟩
            · rw [List.flatMap_cons, ← h1]
              simp [stepB, h3, ageB]
            · rcases List.mem_cons.1 hx with rfl | hx
              · exact ⟨h4, h5, by simp, by simp⟩
              · exact h2 x hx
theorem readI_flat {xs : List Step} (h : ∀ x ∈ xs, StepIn x) : readI (xs.flatMap stepB) = some xs := by
  induction xs with
  | nil => exact readI_nil
  | cons x r ih =>
    obtain ⟨k, a⟩ := x
    obtain ⟨h1, h2, h3, h4⟩ := h _ (List.mem_cons_self ..)
    simp only at h1 h2 h3 h4
    have ih' := ih fun y hy => h y (List.mem_cons_of_mem _ hy)
    have hk := kind_char ⟨h1, h2⟩
    obtain ⟨e1, e2, _⟩ := char_age ⟨h1, h2⟩
    rw [List.flatMap_cons]
    rcases (by omega : a = 0 ∨ a = 1 ∨ a = 2) with rfl | rfl | rfl
    · show readI (charOf k :: r.flatMap stepB) = _
      rw [readI_one e1 e2, hk, if_neg (by omega), ih']; rfl
    · show readI (101 :: charOf k :: r.flatMap stepB) = _
      rw [readI_two (.inl rfl), hk, if_neg (by omega), ih']; rfl
    · show readI (121 :: charOf k :: r.flatMap stepB) = _
      rw [readI_two (.inr rfl), hk, if_neg (by omega), ih']; rfl
/-- The reference's reading, after n steps and with an age already read. -/
def readS (n : Nat) (age : Int) : List UInt8 → List Step
  | [] => []
  | c :: r => if 20 ≤ n then [] else if c = 101 then readS n 1 r else if c = 121 then readS n 2 r else ⟨kindOf c, age⟩ :: readS (n + 1) 0 r
theorem readS_full {n : Nat} {age : Int} {bs : List UInt8} (h : 20 ≤ n) : readS n age bs = [] := by
  cases bs with
  | nil => rfl
  | cons c r => rw [readS, if_pos h]
theorem readS_flat {xs : List Step} : ∀ {n : Nat}, (∀ x ∈ xs, StepIn x) → n + xs.length ≤ 20 → readS n 0 (xs.flatMap stepB) = xs := by
  induction xs with
  | nil => intro n _ _; rfl
  | cons x r ih =>
    intro n h hn
    obtain ⟨k, a⟩ := x
    obtain ⟨h1, h2, h3, h4⟩ := h _ (List.mem_cons_self ..)
    simp only at h1 h2 h3 h4
    simp only [List.length_cons] at hn
    have ih' := ih (n := n + 1) (fun y hy => h y (List.mem_cons_of_mem _ hy)) (by omega)
    have hk := kind_char ⟨h1, h2⟩
    obtain ⟨e1, e2, _⟩ := char_age ⟨h1, h2⟩
    rw [List.flatMap_cons]
    have hl : ∀ age, readS n age (charOf k :: r.flatMap stepB) = ⟨k, age⟩ :: r := fun age => by
      rw [readS, if_neg (by omega), if_neg e1, if_neg e2, hk, ih']
    rcases (by omega : a = 0 ∨ a = 1 ∨ a = 2) with rfl | rfl | rfl
    · exact hl 0
    · show readS n 0 (101 :: charOf k :: r.flatMap stepB) = _
      rw [readS, if_neg (by omega), if_pos rfl]; exact hl 1
    · show readS n 0 (121 :: charOf k :: r.flatMap stepB) = _
      rw [readS, if_neg (by omega), if_neg (by decide), if_pos rfl]; exact hl 2
theorem readS_len : ∀ {bs : List UInt8} {n : Nat} {age : Int}, n ≤ 20 → (readS n age bs).length + n ≤ 20 := by
  intro bs
  induction bs with
  | nil => intro n age h; simpa [readS] using h
  | cons c r ih =>
    intro n age h
    rw [readS]
    split
    · simpa using h
    · split
      · exact ih h
      · split
        · exact ih h
        · have := @ih (n + 1) 0 (by omega)
          simp only [List.length_cons]; omega
/-- The sex at the head of a text, and the rest. -/
def cutM (s : ByteArray) : Int × ByteArray := if s.data.toList.take 2 = [109, 58] then (1, s.extract 2 s.size) else if s.data.toList.take 2 = [119, 58] then (2, s.extract 2 s.size) else (0, s)
theorem take2_cat {s p : ByteArray} (h : s.data.toList.take 2 = p.data.toList) : s = p ++ s.extract 2 s.size := by
  apply ByteArray.ext
  apply Array.ext'
  rw [ByteArray.data_append, Array.toList_append, ← h]
  rw [ByteArray.data_extract, Array.toList_extract]
  have hz : s.data.toList.length = s.size := by rw [Array.length_toList]; rfl
  simp only [List.extract_eq_take_drop]
  have h1 : List.take (s.size - 2) (List.drop 2 s.data.toList) = List.drop 2 s.data.toList := List.take_of_length_le (by rw [List.length_drop, hz]; exact Nat.le_refl _)
  rw [h1, List.take_append_drop]
theorem cutM_cat (s : ByteArray) : s = preT (cutM s).1 ++ (cutM s).2 := by
  unfold cutM
  split
  · rename_i h; exact take2_cat h
  · split
    · rename_i h; exact take2_cat h
    · exact (bytes_nil_app s).symm
theorem cutM_ego (s : ByteArray) : 0 ≤ (cutM s).1 ∧ (cutM s).1 ≤ 2 := by
  unfold cutM; split
  · simp
  · split <;> simp
def zeroTyp : KinType := ⟨0, []⟩
/-- What the program reads. -/
def parseM (s : ByteArray) : KinType × Bool :=
  if (cutM s).2.data.toList = [46] then (⟨(cutM s).1, []⟩, true) else match readI (cutM s).2.data.toList with
    | none => (zeroTyp, false)
    | some xs => if xs = [] ∨ typeOk ⟨(cutM s).1, xs⟩ = false then (zeroTyp, false) else (⟨(cutM s).1, xs⟩, true)
/-- The steps that the reference reads. -/
def stepsM (r : List UInt8) : List Step := if r = [46] then [] else readS 0 0 r
theorem stepIn_of {xs : List Step} (h : StepsIn xs) : ∀ x ∈ xs, StepIn x := fun x hx => by
  obtain ⟨k, hk⟩ := List.getElem?_of_mem hx
  exact h k x hk
theorem list_inj {a b : ByteArray} (h : a.data.toList = b.data.toList) : a = b := ByteArray.ext (Array.ext' h)
theorem typeOk_bare {e : Int} (h : 0 ≤ e ∧ e ≤ 2) : typeOk ⟨e, []⟩ = true := by simp [typeOk, stepsOk, h]
theorem wordT_cons {x : Step} {xs : List Step} (h : ∀ y ∈ x :: xs, StepIn y) : wordT (x :: xs) = stepsT (x :: xs) := by
  rw [wordT, dotT, if_neg]
  intro e
  have h1 := stepsT_list h
  rw [e] at h1
  rw [List.flatMap_cons] at h1
  have h2 := congrArg List.length h1
  simp [stepB] at h2
theorem parseS_eq (s : ByteArray) : (if typeOk ⟨(cutM s).1, stepsM (cutM s).2.data.toList⟩ = true ∧ textT ⟨(cutM s).1, stepsM (cutM s).2.data.toList⟩ = s then ((⟨(cutM s).1, stepsM (cutM s).2.data.toList⟩ : KinType), true) else (zeroTyp, false)) = parseM s := by
  have hc := cutM_cat s
  have he := cutM_ego s
  generalize hE : (cutM s).1 = e at *
  generalize hR : (cutM s).2 = r at *
  unfold parseM
  rw [hE, hR]
  by_cases hd : r.data.toList = [46]
  · rw [if_pos hd, stepsM, if_pos hd, if_pos]
    refine ⟨typeOk_bare he, ?_⟩
    rw [textT, if_pos (typeOk_bare he)]
    refine Eq.trans ?_ hc.symm
    congr 1
    exact list_inj hd.symm
  · rw [if_neg hd, stepsM, if_neg hd]
    cases hi : readI r.data.toList with
    | none =>
      simp only
      rw [if_neg]
      rintro ⟨h1, h2⟩
      have hin := stepIn_of (typeOk_in h1)
      simp only at hin
      rw [textT, if_pos h1] at h2
      have h3 : wordT (readS 0 0 r.data.toList) = r := by
        have := h2.trans hc
        have h4 := congrArg (fun b => b.data.toList) this
        simp only [ByteArray.data_append, Array.toList_append] at h4
        exact list_inj (List.append_cancel_left h4)
      generalize readS 0 0 r.data.toList = ys at *
      cases ys with
      | nil => exact hd (by rw [← h3]; rfl)
      | cons y ys =>
        rw [wordT_cons hin] at h3
        rw [← h3, stepsT_list hin, readI_flat hin] at hi
        cases hi
    | some xs =>
      simp only
      obtain ⟨h1, h2⟩ := readI_some _ _ xs (Nat.le_refl _) hi
      by_cases hbad : xs = [] ∨ typeOk ⟨e, xs⟩ = false
      · rw [if_pos hbad, if_neg]
        rintro ⟨h3, h4⟩
        have hin := stepIn_of (typeOk_in h3)
        simp only at hin
        rw [textT, if_pos h3] at h4
        have h5 : wordT (readS 0 0 r.data.toList) = r := by
          have := h4.trans hc
          have h6 := congrArg (fun b => b.data.toList) this
          simp only [ByteArray.data_append, Array.toList_append] at h6
          exact list_inj (List.append_cancel_left h6)
        generalize readS 0 0 r.data.toList = ys at *
        cases ys with
        | nil => exact hd (by rw [← h5]; rfl)
        | cons y ys =>
          rw [wordT_cons hin] at h5
          rw [← h5, stepsT_list hin, readI_flat hin] at hi
          injection hi with hi
          subst hi
          rcases hbad with hb | hb
          · cases hb
          · rw [hb] at h3; cases h3
      · rw [if_neg hbad]
        have hne : xs ≠ [] := fun e => hbad (.inl e)
        have hok : typeOk ⟨e, xs⟩ = true := by
          cases ht : typeOk ⟨e, xs⟩ with
          | true => rfl
          | false => exact absurd (.inr ht) hbad
        have hlen := typeOk_len hok
        simp only at hlen
        have h3 : readS 0 0 r.data.toList = xs := by
          rw [h1]; exact readS_flat h2 (by omega)
        rw [h3, if_pos]
        refine ⟨hok, ?_⟩
        rw [textT, if_pos hok]
        refine Eq.trans ?_ hc.symm
        congr 1
        cases xs with
        | nil => exact absurd rfl hne
        | cons y ys =>
          rw [wordT_cons h2]
          exact list_inj (by rw [stepsT_list h2, h1])
end Go.Proofs.Ythpcippgifmabaa
