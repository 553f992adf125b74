/-
  Reading a rule from its text: models, and that the reference and the program read the same. No program in sight.
-/
import Derived.Test.YtnnjilkjjdiblaaGParse
import Derived.Test.YtnnjilkjjdiblaaFmtRule
import Derived.Lib.IndexMore
import Derived.Lib.Strings
namespace Go.Proofs.Ytnnjilkjjdiblaa
set_option maxRecDepth 100000
open Go.RowKit

def zeroRule : Rule := ⟨⟨#[]⟩, 0, 0, [], []⟩
/-- What is handed back of what was read. -/
def finR (s : ByteArray) : Option Rule → Rule × Bool
  | some r => if ruleOk r = true ∧ ruleText r = s then (r, true) else (zeroRule, false)
  | none => (zeroRule, false)
theorem finR_eq {s : ByteArray} {c d : Option Rule} (hc : ∀ r, ruleOk r = true → ruleText r = s → c = some r) (hd : ∀ r, ruleOk r = true → ruleText r = s → d = some r) : finR s c = finR s d := by
  have key : ∀ c : Option Rule, (¬ ∃ r, ruleOk r = true ∧ ruleText r = s) → finR s c = (zeroRule, false) := by
    intro c h
    cases c with
    | none => rfl
    | some r => simp only [finR]; rw [if_neg fun k => h ⟨r, k⟩]
  by_cases h : ∃ r, ruleOk r = true ∧ ruleText r = s
  · obtain ⟨r, h1, h2⟩ := h
    rw [hc r h1 h2, hd r h1 h2]
  · rw [key c h, key d h]

/-! ### The program's reading -/
def cut1 (s : ByteArray) : List UInt8 × List UInt8 × Bool := Lib.cut s.data.toList [58, 32]
def cut2 (s : ByteArray) : List UInt8 × List UInt8 × Bool := Lib.cut (cut1 s).2.1 [32, 45, 62, 32]
def bodyI (s : ByteArray) : Int × ByteArray := cutM ⟨(cut2 s).1.toArray⟩
def midI (b : ByteArray) : List UInt8 := Lib.trimPrefix b.data.toList [94]
def srcI (b : ByteArray) : List UInt8 := Lib.trimSuffix (midI b) [36]
def toI (l : List UInt8) : Option (List Step) := if l = [46] then some [] else readI l
def placeI (b : ByteArray) : Int := if Lib.hasSuffix (midI b) [36] = true then 2 else if Lib.hasPrefix b.data.toList [94] = true then 1 else 0
def candI (s : ByteArray) : Option Rule :=
  if (cut1 s).2.2 = true ∧ (cut2 s).2.2 = true then
    if Lib.hasPrefix (bodyI s).2.data.toList [94] = true ∧ Lib.hasSuffix (midI (bodyI s).2) [36] = true then none
    else match readI (srcI (bodyI s).2), toI (cut2 s).2.1 with
      | some a, some b => some ⟨⟨(cut1 s).1.toArray⟩, (bodyI s).1, placeI (bodyI s).2, a, b⟩
      | _, _ => none
  else none

/-! ### The reference's reading -/
def splitL (c : UInt8) : List UInt8 → List UInt8 → List (List UInt8)
  | acc, [] => [acc]
  | acc, x :: r => if x = c then acc :: splitL c [] r else splitL c (acc ++ [x]) r
def wordsS (s : ByteArray) : List (List UInt8) := splitL 32 [] s.data.toList
def placeS (l : List UInt8) : Int := if l.head? = some 94 then 1 else if l.getLast? = some 36 then 2 else 0
def srcS (l : List UInt8) : List UInt8 := if l.head? = some 94 then l.drop 1 else if l.getLast? = some 36 then l.take (l.length - 1) else l
def candS (s : ByteArray) : Option Rule :=
  match wordsS s with
  | [a, b, _, d] => if a.length < 2 ∨ b.length < 1 then none else
      some ⟨⟨(a.take (a.length - 1)).toArray⟩, (cutM ⟨b.toArray⟩).1, placeS (cutM ⟨b.toArray⟩).2.data.toList, stepsM (srcS (cutM ⟨b.toArray⟩).2.data.toList), stepsM d⟩
  | _ => none

/-! ### The text of a valid rule -/
def fromL (r : Rule) : List UInt8 := (preT r.sex).data.toList ++ ((if r.place = 1 then [94] else []) ++ (r.src.flatMap stepB ++ (if r.place = 2 then [36] else [])))
def tailL (r : Rule) : List UInt8 := (if r.place = 1 then [94] else []) ++ (r.src.flatMap stepB ++ (if r.place = 2 then [36] else []))
def wordL (xs : List Step) : List UInt8 := if xs = [] then [46] else xs.flatMap stepB
theorem wordT_list {xs : List Step} (h : ∀ x ∈ xs, StepIn x) : (wordT xs).data.toList = wordL xs := by
  cases xs with
  | nil => rfl
  | cons x r => rw [wordT_cons h, stepsT_list h, wordL, if_neg (by simp)]
theorem text_list {r : Rule} (h : ruleOk r = true) : (ruleText r).data.toList = r.name.data.toList ++ ([58, 32] ++ (fromL r ++ ([32, 45, 62, 32] ++ wordL r.dst))) := by
  obtain ⟨h1, h2⟩ := ruleOk_in h
  have e1 := stepsT_list (stepIn_of h1)
  have e2 := wordT_list (stepIn_of h2)
  unfold ruleText ruleFrom ruleMid ruleHead fromL
  by_cases p1 : r.place = 1
  · rw [if_pos p1, if_neg (by omega), if_pos p1, if_neg (by omega)]
    simp only [ByteArray.data_append, Array.toList_append, e1, e2, List.append_assoc, List.append_nil]
  · rw [if_neg p1, if_neg p1]
    by_cases p2 : r.place = 2
    · rw [if_pos p2, if_pos p2]
      simp only [ByteArray.data_append, Array.toList_append, e1, e2, List.append_assoc, List.nil_append]
    · rw [if_neg p2, if_neg p2]
      simp only [ByteArray.data_append, Array.toList_append, e1, e2, List.append_assoc, List.nil_append, List.append_nil]
/-- A letter of a step. -/
def Letter (c : UInt8) : Prop := c = 101 ∨ c = 121 ∨ c = 70 ∨ c = 77 ∨ c = 66 ∨ c = 90 ∨ c = 83 ∨ c = 68 ∨ c = 72 ∨ c = 87
theorem stepB_letter {x : Step} {c : UInt8} (h : c ∈ stepB x) : Letter c := by
  unfold stepB ageB at h
  unfold Letter
  rw [List.mem_append] at h
  rcases h with h | h
  · split at h
    · simp at h; exact .inl h
    · split at h
      · simp at h; exact .inr (.inl h)
      · simp at h
  · simp only [List.mem_singleton] at h
    rw [h]
    unfold charOf
    repeat' split
    all_goals decide
theorem steps_letter {xs : List Step} {c : UInt8} (h : c ∈ xs.flatMap stepB) : Letter c := by
  obtain ⟨x, _, hx⟩ := List.mem_flatMap.1 h
  exact stepB_letter hx
theorem letter_not {c : UInt8} (h : Letter c) : c ≠ 32 ∧ c ≠ 94 ∧ c ≠ 36 ∧ c ≠ 109 ∧ c ≠ 119 ∧ c ≠ 58 ∧ c ≠ 46 := by
  rcases h with h | h | h | h | h | h | h | h | h | h <;> subst h <;> decide
theorem steps_ne {xs : List Step} (h : 1 ≤ xs.length) : xs.flatMap stepB ≠ [] := by
  cases xs with
  | nil => simp at h
  | cons x r => rw [List.flatMap_cons]; simp [stepB]
theorem pre_in {e : Int} {c : UInt8} (h : c ∈ (preT e).data.toList) : c ≠ 32 := by
  unfold preT at h
  split at h
  · simp at h; rcases h with rfl | rfl <;> decide
  · split at h
    · simp at h; rcases h with rfl | rfl <;> decide
    · simp at h
theorem tail_in {r : Rule} {c : UInt8} (h : c ∈ tailL r) : c ≠ 32 ∧ c ≠ 109 ∧ c ≠ 119 := by
  unfold tailL at h
  simp only [List.mem_append] at h
  rcases h with h | h | h
  · split at h
    · simp at h; subst h; decide
    · simp at h
  · have := letter_not (steps_letter h); exact ⟨this.1, this.2.2.2.1, this.2.2.2.2.1⟩
  · split at h
    · simp at h; subst h; decide
    · simp at h
theorem from_in {r : Rule} {c : UInt8} (h : c ∈ fromL r) : c ≠ 32 := by
  rw [show fromL r = (preT r.sex).data.toList ++ tailL r from rfl, List.mem_append] at h
  rcases h with h | h
  · exact pre_in h
  · exact (tail_in h).1
theorem word_in {xs : List Step} {c : UInt8} (h : c ∈ wordL xs) : c ≠ 32 := by
  unfold wordL at h
  split at h
  · simp at h; subst h; decide
  · exact (letter_not (steps_letter h)).1
theorem name_in {s : ByteArray} {c : UInt8} (h : nameOk s = true) (hc : c ∈ s.data.toList) : c ≠ 58 ∧ c ≠ 32 := by
  simp only [nameOk, Bool.and_eq_true, List.all_eq_true] at h
  have := h.2 c hc
  constructor
  · intro e; subst e; revert this; decide
  · intro e; subst e; revert this; decide

/-! ### Cutting -/
theorem index_clean {c : UInt8} {t r : List UInt8} : ∀ {a : List UInt8}, (∀ x ∈ a, x ≠ c) → Lib.index (a ++ ((c :: t) ++ r)) (c :: t) = a.length := by
  intro a
  induction a with
  | nil =>
    intro _
    simp only [List.nil_append, List.cons_append, Lib.index]
    rw [if_pos]; · rfl
    rw [show c :: (t ++ r) = (c :: t) ++ r from rfl, List.isPrefixOf_iff_prefix]
    exact List.prefix_append _ _
  | cons x a ih =>
    intro h
    simp only [List.cons_append, Lib.index]
    have hx : (c == x) = false := by rw [beq_eq_false_iff_ne]; exact fun e => h x (List.mem_cons_self ..) e.symm
    rw [List.isPrefixOf_cons_cons, hx, Bool.false_and, if_neg (by simp)]
    have := ih fun y hy => h y (List.mem_cons_of_mem _ hy)
    simp only [List.cons_append] at this
    have hne : ((a.length : Int) == -1) = false := by rw [beq_eq_false_iff_ne]; omega
    rw [this, hne, if_neg (by simp)]
    simp
theorem cut_clean {c : UInt8} {a t r : List UInt8} (h : ∀ x ∈ a, x ≠ c) : Lib.cut (a ++ ((c :: t) ++ r)) (c :: t) = (a, r, true) := by
  unfold Lib.cut
  rw [index_clean h, if_pos (by omega)]
  simp only [Int.toNat_natCast, List.take_left, Prod.mk.injEq, and_true, true_and]
  rw [← List.append_assoc, ← List.length_append, List.drop_left]
theorem cutM_pre {e : Int} {l : List UInt8} (he : 0 ≤ e ∧ e ≤ 2) (h : ∀ c, l.head? = some c → c ≠ 109 ∧ c ≠ 119) : cutM ⟨((preT e).data.toList ++ l).toArray⟩ = (e, ⟨l.toArray⟩) := by
  have two : ∀ (a b : UInt8), (⟨(a :: b :: l).toArray⟩ : ByteArray).extract 2 (⟨(a :: b :: l).toArray⟩ : ByteArray).size = ⟨l.toArray⟩ := by
    intro a b
    apply list_inj
    rw [ByteArray.data_extract, Array.toList_extract, List.extract_eq_take_drop]
    have : (⟨(a :: b :: l).toArray⟩ : ByteArray).size = l.length + 2 := by show (a :: b :: l).toArray.size = _; simp
    rw [this]
    simp
  rcases (by omega : e = 0 ∨ e = 1 ∨ e = 2) with rfl | rfl | rfl
  · have e0 : (preT 0).data.toList = [] := rfl
    rw [e0, List.nil_append, cutM, if_neg, if_neg]
    · intro k
      cases l with
      | nil => simp at k
      | cons x t => simp at k; exact (h x rfl).2 k.1
    · intro k
      cases l with
      | nil => simp at k
      | cons x t => simp at k; exact (h x rfl).1 k.1
  · have e1 : (preT 1).data.toList = [109, 58] := rfl
    rw [e1, show [109, 58] ++ l = 109 :: 58 :: l from rfl, cutM, if_pos (by simp), two]
  · have e1 : (preT 2).data.toList = [119, 58] := rfl
    rw [e1, show [119, 58] ++ l = 119 :: 58 :: l from rfl, cutM, if_neg (by simp), if_pos (by simp), two]

/-! ### The way back -/
theorem name_back (s : ByteArray) : (⟨s.data.toList.toArray⟩ : ByteArray) = s := list_inj (by simp)
theorem tail_head {r : Rule} (_hl : 1 ≤ r.src.length) : ∀ c, (tailL r).head? = some c → c ≠ 109 ∧ c ≠ 119 := fun _c hc => (tail_in (List.mem_of_head? hc)).2
theorem fromL_eq (r : Rule) : fromL r = (preT r.sex).data.toList ++ tailL r := rfl
theorem hasPrefix_one (l : List UInt8) (c : UInt8) : Lib.hasPrefix l [c] = decide (l.head? = some c) := by
  cases l with
  | nil => rfl
  | cons x r =>
    show (c == x && true) = _
    rw [Bool.and_true, Bool.eq_iff_iff, beq_iff_eq, decide_eq_true_eq, List.head?_cons, Option.some.injEq]
    exact eq_comm
theorem hasSuffix_one (l : List UInt8) (c : UInt8) : Lib.hasSuffix l [c] = decide (l.getLast? = some c) := by
  unfold Lib.hasSuffix
  rw [Bool.eq_iff_iff, decide_eq_true_eq, List.isSuffixOf_iff_suffix]
  constructor
  · rintro ⟨t, rfl⟩; simp
  · intro h
    obtain ⟨t, ht⟩ := List.getLast?_eq_some_iff.1 h
    exact ⟨t, ht.symm⟩
theorem flat_head {xs : List Step} {c : UInt8} {q : List UInt8} (hl : 1 ≤ xs.length) (h : (xs.flatMap stepB ++ q).head? = some c) : Letter c := by
  have hne := steps_ne hl
  cases hf : xs.flatMap stepB with
  | nil => exact absurd hf hne
  | cons x t =>
    rw [hf] at h
    simp at h
    subst h
    exact steps_letter (xs := xs) (by rw [hf]; exact List.mem_cons_self ..)
theorem flat_last {xs : List Step} {c : UInt8} (h : (xs.flatMap stepB).getLast? = some c) : Letter c := steps_letter (List.mem_of_getLast? h)
theorem tail_pre {r : Rule} (hl : 1 ≤ r.src.length) : Lib.hasPrefix (tailL r) [94] = decide (r.place = 1) := by
  rw [hasPrefix_one, decide_eq_decide]
  unfold tailL
  constructor
  · intro h
    by_cases p : r.place = 1
    · exact p
    · rw [if_neg p, List.nil_append] at h
      exact absurd rfl (letter_not (flat_head hl h)).2.1
  · intro p; rw [if_pos p]; rfl
theorem tail_mid {r : Rule} (hl : 1 ≤ r.src.length) : Lib.trimPrefix (tailL r) [94] = r.src.flatMap stepB ++ (if r.place = 2 then [36] else []) := by
  unfold Lib.trimPrefix
  rw [tail_pre hl]
  by_cases p : r.place = 1
  · rw [if_pos (by simpa using p)]; unfold tailL; rw [if_pos p]; rfl
  · rw [if_neg (by simpa using p)]; unfold tailL; rw [if_neg p, List.nil_append]
theorem mid_suf {r : Rule} : Lib.hasSuffix (r.src.flatMap stepB ++ (if r.place = 2 then [36] else [])) [36] = decide (r.place = 2) := by
  rw [hasSuffix_one, decide_eq_decide]
  constructor
  · intro h
    by_cases p : r.place = 2
    · exact p
    · rw [if_neg p, List.append_nil] at h
      exact absurd rfl (letter_not (flat_last h)).2.2.1
  · intro p; rw [if_pos p]; simp
theorem mid_src {r : Rule} : Lib.trimSuffix (r.src.flatMap stepB ++ (if r.place = 2 then [36] else [])) [36] = r.src.flatMap stepB := by
  unfold Lib.trimSuffix
  rw [mid_suf]
  by_cases p : r.place = 2
  · rw [if_pos (by simpa using p), if_pos p]; simp
  · rw [if_neg (by simpa using p), if_neg p, List.append_nil]
theorem word_dot {xs : List Step} : wordL xs = [46] ↔ xs = [] := by
  unfold wordL
  constructor
  · intro h
    by_cases hx : xs = []
    · exact hx
    · rw [if_neg hx] at h
      exact absurd rfl (letter_not (steps_letter (xs := xs) (c := 46) (by rw [h]; exact List.mem_singleton.2 rfl))).2.2.2.2.2.2
  · intro h; rw [if_pos h]
theorem word_toI {xs : List Step} (h : ∀ x ∈ xs, StepIn x) : toI (wordL xs) = some xs := by
  unfold toI
  by_cases hx : xs = []
  · rw [if_pos (word_dot.2 hx), hx]
  · rw [if_neg (fun k => hx (word_dot.1 k)), wordL, if_neg hx, readI_flat h]
theorem word_stepsM {xs : List Step} (h : ∀ x ∈ xs, StepIn x) (hl : xs.length ≤ 20) : stepsM (wordL xs) = xs := by
  unfold stepsM
  by_cases hx : xs = []
  · rw [if_pos (word_dot.2 hx), hx]
  · rw [if_neg (fun k => hx (word_dot.1 k)), wordL, if_neg hx, readS_flat h (by omega)]
theorem flat_stepsM {xs : List Step} (h : ∀ x ∈ xs, StepIn x) (hl : 1 ≤ xs.length ∧ xs.length ≤ 20) : stepsM (xs.flatMap stepB) = xs := by
  have := word_stepsM h hl.2
  rwa [wordL, if_neg (by rintro rfl; simp at hl)] at this
theorem candI_of {r : Rule} {s : ByteArray} (h : ruleOk r = true) (hs : ruleText r = s) : candI s = some r := by
  obtain ⟨_, hn, s1, s2, p1, p2, l1, l2, l3⟩ := ruleOk_parts h
  obtain ⟨i1, i2⟩ := ruleOk_in h
  have hsl := text_list h
  rw [hs] at hsl
  have c1 : cut1 s = (r.name.data.toList, fromL r ++ ([32, 45, 62, 32] ++ wordL r.dst), true) := by
    unfold cut1; rw [hsl]; exact cut_clean fun x hx => (name_in hn hx).1
  have c2 : cut2 s = (fromL r, wordL r.dst, true) := by
    unfold cut2; rw [c1]; exact cut_clean fun x hx => from_in hx
  have b1 : bodyI s = (r.sex, ⟨(tailL r).toArray⟩) := by
    unfold bodyI; rw [c2]; exact cutM_pre ⟨s1, s2⟩ (tail_head l1)
  have m1 : midI (bodyI s).2 = r.src.flatMap stepB ++ (if r.place = 2 then [36] else []) := by
    unfold midI; rw [b1]; exact tail_mid l1
  have m2 : srcI (bodyI s).2 = r.src.flatMap stepB := by
    unfold srcI; rw [m1]; exact mid_src
  have p1' : placeI (bodyI s).2 = r.place := by
    unfold placeI; rw [m1, mid_suf, b1]
    show (if decide (r.place = 2) = true then 2 else if Lib.hasPrefix (tailL r) [94] = true then 1 else 0) = r.place
    rw [tail_pre l1]
    by_cases q2 : r.place = 2
    · rw [if_pos (by simpa using q2), q2]
    · rw [if_neg (by simpa using q2)]
      by_cases q1 : r.place = 1
      · rw [if_pos (by simpa using q1), q1]
      · rw [if_neg (by simpa using q1)]; omega
  unfold candI
  rw [if_pos (by rw [c1, c2]; exact ⟨rfl, rfl⟩), if_neg]
  · rw [m2, readI_flat (stepIn_of i1), c2]
    simp only
    rw [word_toI (stepIn_of i2), b1] 
    simp only
    rw [show (⟨(cut1 s).1.toArray⟩ : ByteArray) = r.name by rw [c1]]
    rw [b1] at p1'
    simp only at p1'
    rw [p1']
  · rintro ⟨k1, k2⟩
    rw [m1, mid_suf] at k2
    rw [b1] at k1
    have k1' : Lib.hasPrefix (tailL r) [94] = true := k1
    rw [tail_pre l1] at k1'
    simp at k1' k2
    omega
theorem splitL_clean {c : UInt8} : ∀ {a acc r : List UInt8}, (∀ x ∈ a, x ≠ c) → splitL c acc (a ++ c :: r) = (acc ++ a) :: splitL c [] r := by
  intro a
  induction a with
  | nil => intro acc r _; simp [splitL]
  | cons x a ih =>
    intro acc r h
    rw [List.cons_append, splitL, if_neg (h x (List.mem_cons_self ..)), ih fun y hy => h y (List.mem_cons_of_mem _ hy)]
    simp
theorem splitL_last {c : UInt8} : ∀ {a acc : List UInt8}, (∀ x ∈ a, x ≠ c) → splitL c acc a = [acc ++ a] := by
  intro a
  induction a with
  | nil => intro acc _; simp [splitL]
  | cons x a ih =>
    intro acc h
    rw [splitL, if_neg (h x (List.mem_cons_self ..)), ih fun y hy => h y (List.mem_cons_of_mem _ hy)]
    simp
theorem words_of {r : Rule} {s : ByteArray} (h : ruleOk r = true) (hs : ruleText r = s) : wordsS s = [r.name.data.toList ++ [58], fromL r, [45, 62], wordL r.dst] := by
  obtain ⟨_, hn, _⟩ := ruleOk_parts h
  have hsl := text_list h
  rw [hs] at hsl
  unfold wordsS
  rw [hsl, show r.name.data.toList ++ ([58, 32] ++ (fromL r ++ ([32, 45, 62, 32] ++ wordL r.dst))) = (r.name.data.toList ++ [58]) ++ 32 :: (fromL r ++ 32 :: ([45, 62] ++ 32 :: wordL r.dst)) by simp]
  rw [splitL_clean, splitL_clean, splitL_clean, splitL_last]
  · rfl
  · exact fun x hx => word_in hx
  · intro x hx; simp at hx; rcases hx with rfl | rfl <;> decide
  · exact fun x hx => from_in hx
  · intro x hx
    rw [List.mem_append] at hx
    rcases hx with hx | hx
    · exact (name_in hn hx).2
    · simp at hx; subst hx; decide
theorem candS_of {r : Rule} {s : ByteArray} (h : ruleOk r = true) (hs : ruleText r = s) : candS s = some r := by
  obtain ⟨_, hn, s1, s2, p1, p2, l1, l2, l3⟩ := ruleOk_parts h
  obtain ⟨i1, i2⟩ := ruleOk_in h
  have hn1 : 1 ≤ r.name.data.toList.length := by
    simp only [nameOk, Bool.and_eq_true, decide_eq_true_eq] at hn
    rw [Array.length_toList]; exact hn.1.1
  have hf1 : 1 ≤ (fromL r).length := by
    have := List.length_pos_iff.2 (steps_ne l1)
    unfold fromL; simp only [List.length_append]; omega
  have b1 : cutM ⟨(fromL r).toArray⟩ = (r.sex, ⟨(tailL r).toArray⟩) := cutM_pre ⟨s1, s2⟩ (tail_head l1)
  have hp : ((tailL r).head? = some 94) ↔ r.place = 1 := by
    have := tail_pre l1; rw [hasPrefix_one, decide_eq_decide] at this; exact this
  have e1 : srcS (tailL r) = r.src.flatMap stepB := by
    unfold srcS
    by_cases q1 : r.place = 1
    · rw [if_pos (hp.2 q1)]; unfold tailL; rw [if_pos q1, if_neg (by omega)]; simp
    · rw [if_neg (fun k => q1 (hp.1 k))]
      have et : tailL r = r.src.flatMap stepB ++ (if r.place = 2 then [36] else []) := by unfold tailL; rw [if_neg q1, List.nil_append]
      have hq := mid_suf (r := r)
      rw [hasSuffix_one, decide_eq_decide] at hq
      rw [et]
      by_cases q2 : r.place = 2
      · rw [if_pos (hq.2 q2), if_pos q2]; simp
      · rw [if_neg (fun k => q2 (hq.1 k)), if_neg q2, List.append_nil]
  have e2 : placeS (tailL r) = r.place := by
    unfold placeS
    by_cases q1 : r.place = 1
    · rw [if_pos (hp.2 q1), q1]
    · rw [if_neg (fun k => q1 (hp.1 k))]
      have et : tailL r = r.src.flatMap stepB ++ (if r.place = 2 then [36] else []) := by unfold tailL; rw [if_neg q1, List.nil_append]
      have hq := mid_suf (r := r)
      rw [hasSuffix_one, decide_eq_decide] at hq
      rw [et]
      by_cases q2 : r.place = 2
      · rw [if_pos (hq.2 q2), q2]
      · rw [if_neg (fun k => q2 (hq.1 k))]; omega
  unfold candS
  rw [words_of h hs]
  simp only
  rw [if_neg (by rw [List.length_append, List.length_singleton]; omega), b1]
  simp only
  rw [e1, e2, flat_stepsM (stepIn_of i1) (by omega), word_stepsM (stepIn_of i2) (by omega)]
  have en : (⟨((r.name.data.toList ++ [58]).take ((r.name.data.toList ++ [58]).length - 1)).toArray⟩ : ByteArray) = r.name := by
    rw [List.length_append, List.length_singleton, Nat.add_sub_cancel, List.take_left]
  exact congrArg some (by cases r; simp only [Rule.mk.injEq, and_true]; exact en)
/-- Both read the same. -/
theorem parse_same (s : ByteArray) : finR s (candI s) = finR s (candS s) := finR_eq (fun _ h1 h2 => candI_of h1 h2) (fun _ h1 h2 => candS_of h1 h2)
end Go.Proofs.Ytnnjilkjjdiblaa
