/-
  Reading kin types from their text: models.
  Go's strings.CutPrefix and strings.IndexByte: what they return, walked over the library's own text.
  Reading kin types from their text, in the program.
  Reading a kin type from its text, in the program.
  Reading kin types from their text, in the reference.
-/
import Derived.Test.YtnnjilkjjdiblaaFmtType
import Derived.Test.YtnnjilkjjdiblaaBase
import Derived.Lib.Strings
import Derived.Lib.Slices
import Derived.Lib.Walk
import Derived.Lib.Bytealg
import Derived.Test.YtnnjilkjjdiblaaJoinT
import Derived.Deep.Cut
import Derived.Deep.DeepCutAuto

/-! ## ParseM -/
namespace Go.Proofs.Ytnnjilkjjdiblaa
set_option maxRecDepth 100000
open Go.RowKit

/-- The number of a letter, 0 for none. -/
def kindOf (c : UInt8) : Int := if c = 70 then 1 else if c = 77 then 2 else if c = 66 then 3 else if c = 90 then 4 else if c = 83 then 5 else if c = 68 then 6 else if c = 72 then 7 else if c = 87 then 8 else 0
def charOf (k : Int) : UInt8 := if k = 1 then 70 else if k = 2 then 77 else if k = 3 then 66 else if k = 4 then 90 else if k = 5 then 83 else if k = 6 then 68 else if k = 7 then 72 else 87
def ageB (a : Int) : List UInt8 := if a = 1 then [101] else if a = 2 then [121] else []
def stepB (x : Step) : List UInt8 := ageB x.age ++ [charOf x.kind]
def StepIn (x : Step) : Prop := 1 ≤ x.kind ∧ x.kind ≤ 8 ∧ 0 ≤ x.age ∧ x.age ≤ 2
theorem kind_char {k : Int} (h : 1 ≤ k ∧ k ≤ 8) : kindOf (charOf k) = k := by
  rcases (by omega : k = 1 ∨ k = 2 ∨ k = 3 ∨ k = 4 ∨ k = 5 ∨ k = 6 ∨ k = 7 ∨ k = 8) with rfl | rfl | rfl | rfl | rfl | rfl | rfl | rfl <;> rfl
theorem char_kind {c : UInt8} (h : kindOf c ≠ 0) : charOf (kindOf c) = c ∧ 1 ≤ kindOf c ∧ kindOf c ≤ 8 := by
  unfold kindOf at h ⊢
  split at h
  · subst_vars; decide
  split at h
  · subst_vars; decide
  split at h
  · subst_vars; decide
  split at h
  · subst_vars; decide
  split at h
  · subst_vars; decide
  split at h
  · subst_vars; decide
  split at h
  · subst_vars; decide
  split at h
  · subst_vars; decide
  · exact absurd rfl h
theorem char_age {k : Int} (h : 1 ≤ k ∧ k ≤ 8) : charOf k ≠ 101 ∧ charOf k ≠ 121 ∧ charOf k ≠ 46 := by
  rcases (by omega : k = 1 ∨ k = 2 ∨ k = 3 ∨ k = 4 ∨ k = 5 ∨ k = 6 ∨ k = 7 ∨ k = 8) with rfl | rfl | rfl | rfl | rfl | rfl | rfl | rfl <;> decide
theorem stepT_list {x : Step} (h : StepIn x) : (stepT x).data.toList = stepB x := by
  obtain ⟨k, a⟩ := x
  obtain ⟨h1, h2, h3, h4⟩ := h
  simp only at h1 h2 h3 h4
  rcases (by omega : k = 1 ∨ k = 2 ∨ k = 3 ∨ k = 4 ∨ k = 5 ∨ k = 6 ∨ k = 7 ∨ k = 8) with rfl | rfl | rfl | rfl | rfl | rfl | rfl | rfl <;>
    rcases (by omega : a = 0 ∨ a = 1 ∨ a = 2) with rfl | rfl | rfl <;> rfl
theorem stepsT_list {xs : List Step} (h : ∀ x ∈ xs, StepIn x) : (stepsT xs).data.toList = xs.flatMap stepB := by
  induction xs with
  | nil => rfl
  | cons x r ih =>
    rw [stepsT, List.flatMap_cons, ← ih fun y hy => h y (List.mem_cons_of_mem _ hy), ← stepT_list (h x (List.mem_cons_self ..))]
    simp
/-- The program's reading. -/
def readI : List UInt8 → Option (List Step)
  | [] => some []
  | [c] => if c = 101 ∨ c = 121 then none else if kindOf c = 0 then none else some [⟨kindOf c, 0⟩]
  | c :: d :: r =>
    if c = 101 ∨ c = 121 then (if kindOf d = 0 then none else (readI r).map (⟨kindOf d, if c = 101 then 1 else 2⟩ :: ·))
    else if kindOf c = 0 then none else (readI (d :: r)).map (⟨kindOf c, 0⟩ :: ·)
theorem readI_nil : readI [] = some [] := by simp only [readI]
theorem readI_one {c : UInt8} {r : List UInt8} (h : c ≠ 101) (h' : c ≠ 121) : readI (c :: r) = if kindOf c = 0 then none else (readI r).map (⟨kindOf c, 0⟩ :: ·) := by
  cases r with
  | nil => simp only [readI]; rw [if_neg (by simp [h, h'])]; rfl
  | cons d r => rw [readI, if_neg (by simp [h, h'])]
theorem readI_two {c d : UInt8} {r : List UInt8} (h : c = 101 ∨ c = 121) : readI (c :: d :: r) = if kindOf d = 0 then none else (readI r).map (⟨kindOf d, if c = 101 then 1 else 2⟩ :: ·) := by
  rw [readI, if_pos h]
theorem readI_end {c : UInt8} (h : c = 101 ∨ c = 121) : readI [c] = none := by rw [readI, if_pos h]
theorem readI_some : ∀ (n : Nat) (bs : List UInt8) (xs : List Step), bs.length ≤ n → readI bs = some xs → bs = xs.flatMap stepB ∧ ∀ x ∈ xs, StepIn x := by
  intro n
  induction n with
  | zero =>
    intro bs xs hn h
    obtain rfl : bs = [] := List.length_eq_zero_iff.1 (by omega)
    rw [readI_nil] at h; injection h with h; subst h
    exact ⟨rfl, by simp⟩
  | succ n ih =>
    intro bs xs hn h
    match bs, hn, h with
    | [], _, h =>
      rw [readI_nil] at h; injection h with h; subst h
      exact ⟨rfl, by simp⟩
    | c :: r, hn, h =>
      by_cases hc : c = 101 ∨ c = 121
      · match r, hn, h with
        | [], _, h => rw [readI_end hc] at h; cases h
        | d :: r', hn, h =>
          rw [readI_two hc] at h
          by_cases hk : kindOf d = 0
          · rw [if_pos hk] at h; cases h
          · rw [if_neg hk] at h
            cases hr : readI r' with
            | none => rw [hr] at h; cases h
            | some ys =>
              rw [hr] at h
              simp only [Option.map_some, Option.some.injEq] at h
              subst h
              obtain ⟨h1, h2⟩ := ih r' ys (by simp at hn; omega) hr
              obtain ⟨h3, h4, h5⟩ := char_kind hk
              refine ⟨?_, fun x hx => ?_⟩
              · rw [List.flatMap_cons, ← h1]
                simp only [stepB, h3]
                rcases hc with rfl | rfl <;> rfl
              · rcases List.mem_cons.1 hx with rfl | hx
                · refine ⟨h4, h5, ?_, ?_⟩ <;> simp only <;> split <;> omega
                · exact h2 x hx
      · rw [readI_one (fun e => hc (.inl e)) (fun e => hc (.inr e))] at h
        by_cases hk : kindOf c = 0
        · rw [if_pos hk] at h; cases h
        · rw [if_neg hk] at h
          cases hr : readI r with
          | none => rw [hr] at h; cases h
          | some ys =>
            rw [hr] at h
            simp only [Option.map_some, Option.some.injEq] at h
            subst h
            obtain ⟨h1, h2⟩ := ih r ys (by simp at hn; omega) hr
            obtain ⟨h3, h4, h5⟩ := char_kind hk
            refine ⟨?_, fun x hx => ?_⟩
            · rw [List.flatMap_cons, ← h1]
              simp [stepB, h3, ageB]
            · rcases List.mem_cons.1 hx with rfl | hx
              · exact ⟨h4, h5, by simp, by simp⟩
              · exact h2 x hx
theorem readI_flat {xs : List Step} (h : ∀ x ∈ xs, StepIn x) : readI (xs.flatMap stepB) = some xs := by
  induction xs with
  | nil => exact readI_nil
  | cons x r ih =>
    obtain ⟨k, a⟩ := x
    obtain ⟨h1, h2, h3, h4⟩ := h _ (List.mem_cons_self ..)
    simp only at h1 h2 h3 h4
    have ih' := ih fun y hy => h y (List.mem_cons_of_mem _ hy)
    have hk := kind_char ⟨h1, h2⟩
    obtain ⟨e1, e2, _⟩ := char_age ⟨h1, h2⟩
    rw [List.flatMap_cons]
    rcases (by omega : a = 0 ∨ a = 1 ∨ a = 2) with rfl | rfl | rfl
    · show readI (charOf k :: r.flatMap stepB) = _
      rw [readI_one e1 e2, hk, if_neg (by omega), ih']; rfl
    · show readI (101 :: charOf k :: r.flatMap stepB) = _
      rw [readI_two (.inl rfl), hk, if_neg (by omega), ih']; rfl
    · show readI (121 :: charOf k :: r.flatMap stepB) = _
      rw [readI_two (.inr rfl), hk, if_neg (by omega), ih']; rfl
/-- The reference's reading, after n steps and with an age already read. -/
def readS (n : Nat) (age : Int) : List UInt8 → List Step
  | [] => []
  | c :: r => if 20 ≤ n then [] else if c = 101 then readS n 1 r else if c = 121 then readS n 2 r else ⟨kindOf c, age⟩ :: readS (n + 1) 0 r
theorem readS_full {n : Nat} {age : Int} {bs : List UInt8} (h : 20 ≤ n) : readS n age bs = [] := by
  cases bs with
  | nil => rfl
  | cons c r => rw [readS, if_pos h]
theorem readS_flat {xs : List Step} : ∀ {n : Nat}, (∀ x ∈ xs, StepIn x) → n + xs.length ≤ 20 → readS n 0 (xs.flatMap stepB) = xs := by
  induction xs with
  | nil => intro n _ _; rfl
  | cons x r ih =>
    intro n h hn
    obtain ⟨k, a⟩ := x
    obtain ⟨h1, h2, h3, h4⟩ := h _ (List.mem_cons_self ..)
    simp only at h1 h2 h3 h4
    simp only [List.length_cons] at hn
    have ih' := ih (n := n + 1) (fun y hy => h y (List.mem_cons_of_mem _ hy)) (by omega)
    have hk := kind_char ⟨h1, h2⟩
    obtain ⟨e1, e2, _⟩ := char_age ⟨h1, h2⟩
    rw [List.flatMap_cons]
    have hl : ∀ age, readS n age (charOf k :: r.flatMap stepB) = ⟨k, age⟩ :: r := fun age => by
      rw [readS, if_neg (by omega), if_neg e1, if_neg e2, hk, ih']
    rcases (by omega : a = 0 ∨ a = 1 ∨ a = 2) with rfl | rfl | rfl
    · exact hl 0
    · show readS n 0 (101 :: charOf k :: r.flatMap stepB) = _
      rw [readS, if_neg (by omega), if_pos rfl]; exact hl 1
    · show readS n 0 (121 :: charOf k :: r.flatMap stepB) = _
      rw [readS, if_neg (by omega), if_neg (by decide), if_pos rfl]; exact hl 2
theorem readS_len : ∀ {bs : List UInt8} {n : Nat} {age : Int}, n ≤ 20 → (readS n age bs).length + n ≤ 20 := by
  intro bs
  induction bs with
  | nil => intro n age h; simpa [readS] using h
  | cons c r ih =>
    intro n age h
    rw [readS]
    split
    · simpa using h
    · split
      · exact ih h
      · split
        · exact ih h
        · have := @ih (n + 1) 0 (by omega)
          simp only [List.length_cons]; omega
/-- The sex at the head of a text, and the rest. -/
def cutM (s : ByteArray) : Int × ByteArray := if s.data.toList.take 2 = [109, 58] then (1, s.extract 2 s.size) else if s.data.toList.take 2 = [119, 58] then (2, s.extract 2 s.size) else (0, s)
theorem take2_cat {s p : ByteArray} (h : s.data.toList.take 2 = p.data.toList) : s = p ++ s.extract 2 s.size := by
  apply ByteArray.ext
  apply Array.ext'
  rw [ByteArray.data_append, Array.toList_append, ← h]
  rw [ByteArray.data_extract, Array.toList_extract]
  have hz : s.data.toList.length = s.size := by rw [Array.length_toList]; rfl
  simp only [List.extract_eq_take_drop]
  have h1 : List.take (s.size - 2) (List.drop 2 s.data.toList) = List.drop 2 s.data.toList := List.take_of_length_le (by rw [List.length_drop, hz]; exact Nat.le_refl _)
  rw [h1, List.take_append_drop]
theorem cutM_cat (s : ByteArray) : s = preT (cutM s).1 ++ (cutM s).2 := by
  unfold cutM
  split
  · rename_i h; exact take2_cat h
  · split
    · rename_i h; exact take2_cat h
    · exact (bytes_nil_app s).symm
theorem cutM_ego (s : ByteArray) : 0 ≤ (cutM s).1 ∧ (cutM s).1 ≤ 2 := by
  unfold cutM; split
  · simp
  · split <;> simp
def zeroTyp : KinType := ⟨0, []⟩
/-- What the program reads. -/
def parseM (s : ByteArray) : KinType × Bool :=
  if (cutM s).2.data.toList = [46] then (⟨(cutM s).1, []⟩, true) else match readI (cutM s).2.data.toList with
    | none => (zeroTyp, false)
    | some xs => if xs = [] ∨ typeOk ⟨(cutM s).1, xs⟩ = false then (zeroTyp, false) else (⟨(cutM s).1, xs⟩, true)
/-- The steps that the reference reads. -/
def stepsM (r : List UInt8) : List Step := if r = [46] then [] else readS 0 0 r
theorem stepIn_of {xs : List Step} (h : StepsIn xs) : ∀ x ∈ xs, StepIn x := fun x hx => by
  obtain ⟨k, hk⟩ := List.getElem?_of_mem hx
  exact h k x hk
theorem list_inj {a b : ByteArray} (h : a.data.toList = b.data.toList) : a = b := ByteArray.ext (Array.ext' h)
theorem typeOk_bare {e : Int} (h : 0 ≤ e ∧ e ≤ 2) : typeOk ⟨e, []⟩ = true := by simp [typeOk, stepsOk, h]
theorem wordT_cons {x : Step} {xs : List Step} (h : ∀ y ∈ x :: xs, StepIn y) : wordT (x :: xs) = stepsT (x :: xs) := by
  rw [wordT, dotT, if_neg]
  intro e
  have h1 := stepsT_list h
  rw [e] at h1
  rw [List.flatMap_cons] at h1
  have h2 := congrArg List.length h1
  simp [stepB] at h2
theorem parseS_eq (s : ByteArray) : (if typeOk ⟨(cutM s).1, stepsM (cutM s).2.data.toList⟩ = true ∧ textT ⟨(cutM s).1, stepsM (cutM s).2.data.toList⟩ = s then ((⟨(cutM s).1, stepsM (cutM s).2.data.toList⟩ : KinType), true) else (zeroTyp, false)) = parseM s := by
  have hc := cutM_cat s
  have he := cutM_ego s
  generalize hE : (cutM s).1 = e at *
  generalize hR : (cutM s).2 = r at *
  unfold parseM
  rw [hE, hR]
  by_cases hd : r.data.toList = [46]
  · rw [if_pos hd, stepsM, if_pos hd, if_pos]
    refine ⟨typeOk_bare he, ?_⟩
    rw [textT, if_pos (typeOk_bare he)]
    refine Eq.trans ?_ hc.symm
    congr 1
    exact list_inj hd.symm
  · rw [if_neg hd, stepsM, if_neg hd]
    cases hi : readI r.data.toList with
    | none =>
      simp only
      rw [if_neg]
      rintro ⟨h1, h2⟩
      have hin := stepIn_of (typeOk_in h1)
      simp only at hin
      rw [textT, if_pos h1] at h2
      have h3 : wordT (readS 0 0 r.data.toList) = r := by
        have := h2.trans hc
        have h4 := congrArg (fun b => b.data.toList) this
        simp only [ByteArray.data_append, Array.toList_append] at h4
        exact list_inj (List.append_cancel_left h4)
      generalize readS 0 0 r.data.toList = ys at *
      cases ys with
      | nil => exact hd (by rw [← h3]; rfl)
      | cons y ys =>
        rw [wordT_cons hin] at h3
        rw [← h3, stepsT_list hin, readI_flat hin] at hi
        cases hi
    | some xs =>
      simp only
      obtain ⟨h1, h2⟩ := readI_some _ _ xs (Nat.le_refl _) hi
      by_cases hbad : xs = [] ∨ typeOk ⟨e, xs⟩ = false
      · rw [if_pos hbad, if_neg]
        rintro ⟨h3, h4⟩
        have hin := stepIn_of (typeOk_in h3)
        simp only at hin
        rw [textT, if_pos h3] at h4
        have h5 : wordT (readS 0 0 r.data.toList) = r := by
          have := h4.trans hc
          have h6 := congrArg (fun b => b.data.toList) this
          simp only [ByteArray.data_append, Array.toList_append] at h6
          exact list_inj (List.append_cancel_left h6)
        generalize readS 0 0 r.data.toList = ys at *
        cases ys with
        | nil => exact hd (by rw [← h5]; rfl)
        | cons y ys =>
          rw [wordT_cons hin] at h5
          rw [← h5, stepsT_list hin, readI_flat hin] at hi
          injection hi with hi
          subst hi
          rcases hbad with hb | hb
          · cases hb
          · rw [hb] at h3; cases h3
      · rw [if_neg hbad]
        have hne : xs ≠ [] := fun e => hbad (.inl e)
        have hok : typeOk ⟨e, xs⟩ = true := by
          cases ht : typeOk ⟨e, xs⟩ with
          | true => rfl
          | false => exact absurd (.inr ht) hbad
        have hlen := typeOk_len hok
        simp only at hlen
        have h3 : readS 0 0 r.data.toList = xs := by
          rw [h1]; exact readS_flat h2 (by omega)
        rw [h3, if_pos]
        refine ⟨hok, ?_⟩
        rw [textT, if_pos hok]
        refine Eq.trans ?_ hc.symm
        congr 1
        cases xs with
        | nil => exact absurd rfl hne
        | cons y ys =>
          rw [wordT_cons h2]
          exact list_inj (by rw [stepsT_list h2, h1])
end Go.Proofs.Ytnnjilkjjdiblaa

/-! ## LibStr -/
namespace Go.Proofs.Ytnnjilkjjdiblaa
set_option maxRecDepth 100000
open Go.RowKit

set_option maxHeartbeats 1000000 in
theorem cutPrefix_any (s p : ByteArray) (w : World) :
    Calls Try.prog 127 #[.string s, .string p] w fun e w' => e = .returned (.tuple #[.string ⟨(Lib.trimPrefix s.data.toList p.data.toList).toArray⟩, .bool (Lib.hasPrefix s.data.toList p.data.toList)]) ∧ w = w' := by
  go_enter Try.func127, Try.ntmps127
  go_wp2
  · have h2 : (!((s.extract 0 p.size).toList == p.toList)) = true := by assumption
    have h3 : (decide (p.size ≤ s.size) && ((s.extract 0 p.size).toList == p.toList)) = false := by
      have : ((s.extract 0 p.size).toList == p.toList) = false := by simpa using h2
      rw [this]
      simp
    go_ret2
    refine ⟨?_, rfl⟩
    rw [Lib.trimPrefix_miss s p h3, ← Lib.hasPrefix_raw, h3]
    rfl
  · have h1 : p.size ≤ s.size := by assumption
    have h2 : (!((s.extract 0 p.size).toList == p.toList)) = false := by assumption
    have h2' : ((s.extract 0 p.size).toList == p.toList) = true := by simpa using h2
    go_ret2
    refine ⟨?_, rfl⟩
    rw [Lib.trimPrefix_hit s p h1 h2', ← Lib.hasPrefix_raw, h2', decide_eq_true h1]
    rfl
  · have h1 : ¬ p.size ≤ s.size := by assumption
    have h3 : (decide (p.size ≤ s.size) && ((s.extract 0 p.size).toList == p.toList)) = false := by simp [h1]
    go_ret2
    refine ⟨?_, rfl⟩
    rw [Lib.trimPrefix_miss s p h3, ← Lib.hasPrefix_raw, h3]
    rfl

set_option maxHeartbeats 1000000 in
theorem liteIndexByte_any (s : ByteArray) (c : Int) (w : World) :
    Calls Try.prog 215 #[.string s, .int .u8 c] w fun e w' => e = .returned (.int .i64 (Lib.indexByte s.data.toList c.toNat.toUInt8)) ∧ w = w' := by
  go_enter Try.func215, Try.ntmps215
  go_wp2
  rw [run_callFunc_extern Try.func227 (by kernel_rfl) (by kernel_rfl) (by kernel_rfl) (e := Extern.BytealgIndexByte.indexByte) (by kernel_rfl), Lib.run_indexByteString]
  simp only [Result.andThen]
  rw [Oper.upon_value]
  go_wp2
  go_ret
  exact ⟨rfl, rfl⟩
set_option maxHeartbeats 1000000 in
theorem indexByte_any (s : ByteArray) (c : Int) (w : World) :
    Calls Try.prog 186 #[.string s, .int .u8 c] w fun e w' => e = .returned (.int .i64 (Lib.indexByte s.data.toList c.toNat.toUInt8)) ∧ w = w' := by
  go_enter Try.func186, Try.ntmps186
  go_wp2_with (go_at_call 215; refine (liteIndexByte_any _ _ _).mono ?_; rintro e w' ⟨rfl, rfl⟩)
  go_ret
  exact ⟨rfl, rfl⟩
end Go.Proofs.Ytnnjilkjjdiblaa

/-! ## ParseI -/
namespace Go.Proofs.Ytnnjilkjjdiblaa
set_option maxRecDepth 100000
open Go.RowKit

theorem hasPrefix_two (l : List UInt8) (a b : UInt8) : Lib.hasPrefix l [a, b] = decide (l.take 2 = [a, b]) := by
  match l with
  | [] => rfl
  | [x] =>
    show (a == x && false) = _
    rw [Bool.and_false, eq_comm, decide_eq_false_iff_not]
    intro h; cases h
  | x :: y :: r =>
    show (a == x && (b == y && true)) = _
    rw [Bool.eq_iff_iff, decide_eq_true_eq, Bool.and_true, Bool.and_eq_true, beq_iff_eq, beq_iff_eq]
    constructor
    · rintro ⟨rfl, rfl⟩; rfl
    · intro h
      injection h with h1 h2
      injection h2 with h2 _
      exact ⟨h1.symm, h2.symm⟩
theorem trim_two {s p : ByteArray} (hp : p.size = 2) (h : Lib.hasPrefix s.data.toList p.data.toList = true) : (⟨(Lib.trimPrefix s.data.toList p.data.toList).toArray⟩ : ByteArray) = s.extract 2 s.size := by
  rw [← Lib.hasPrefix_raw] at h
  simp only [Bool.and_eq_true, decide_eq_true_eq] at h
  rw [Lib.trimPrefix_hit s p h.1 h.2, hp]
theorem cutM_m {s : ByteArray} (h : Lib.hasPrefix s.data.toList [109, 58] = true) : cutM s = (1, s.extract 2 s.size) := by
  rw [hasPrefix_two, decide_eq_true_eq] at h
  rw [cutM, if_pos h]
theorem cutM_w {s : ByteArray} (h0 : Lib.hasPrefix s.data.toList [109, 58] = false) (h : Lib.hasPrefix s.data.toList [119, 58] = true) : cutM s = (2, s.extract 2 s.size) := by
  rw [hasPrefix_two, decide_eq_true_eq] at h
  rw [hasPrefix_two, decide_eq_false_iff_not] at h0
  rw [cutM, if_neg h0, if_pos h]
theorem cutM_none {s : ByteArray} (h0 : Lib.hasPrefix s.data.toList [109, 58] = false) (h : Lib.hasPrefix s.data.toList [119, 58] = false) : cutM s = (0, s) := by
  rw [hasPrefix_two, decide_eq_false_iff_not] at h
  rw [hasPrefix_two, decide_eq_false_iff_not] at h0
  rw [cutM, if_neg h0, if_neg h]
def CutRel (s : ByteArray) (B : Nat) (W : World) (i : Value) (wr : World) : Prop :=
  ∃ k : Nat, k ≤ 2 ∧ i = .int .i64 ((k : Int) + 1) ∧ (1 ≤ k → Lib.hasPrefix s.data.toList [109, 58] = false) ∧ (2 ≤ k → Lib.hasPrefix s.data.toList [119, 58] = false) ∧ Below B W wr

theorem preT_at {k : Nat} (hk : k < 2) : preT ((k : Int) + 1) = ⟨#[if k = 0 then 109 else 119, 58]⟩ := by
  rcases (by omega : k = 0 ∨ k = 1) with rfl | rfl <;> rfl
set_option maxHeartbeats 2000000 in
theorem cutEgo_any (s : ByteArray) (w : World) : Calls Try.prog 120 #[.string s] w fun e w' => e = .returned (.tuple #[.int .i64 (cutM s).1, .string (cutM s).2]) ∧ Below w.heap.size w w' := by
  go_enter Try.func120, Try.ntmps120
  go_wp2
  go_loopw [4] (fun i wr => CutRel s w.heap.size w i wr) (fun i _ => 3 - (intOf i).toNat)
  case atStart => exact ⟨0, by omega, rfl, by omega, by omega, Below.refl _ _⟩
  case round =>
    obtain ⟨k, hk, rfl, h1, h2, hb⟩ := hrel
    have hz := hb.size
    by_cases hlt : k < 2
    · have he : (0 : Int) ≤ (k : Int) + 1 ∧ (k : Int) + 1 ≤ 2 := by omega
      obtain ⟨pb, hpb⟩ : ∃ pb : UInt8, (if k = 0 then 109 else 119) = pb := ⟨_, rfl⟩
      have hpt := preT_at hlt
      rw [hpb] at hpt
      have HP := Lib.hid hpt
      clear hpt
      cases hpf : Lib.hasPrefix s.data.toList [pb, 58] with
      | true =>
        have HF := Lib.hid hpf
        have HC := Lib.hid (show cutM s = ((k : Int) + 1, s.extract 2 s.size) by
          rcases (by omega : k = 0 ∨ k = 1) with rfl | rfl
          · subst hpb; exact cutM_m hpf
          · subst hpb; exact cutM_w (h1 (by omega)) hpf)
        clear hpf h1 h2 hpb
        go_wp2_with (first
          | (go_at_call 149; refine (egoPrefix_any _ _ he).mono ?_; rintro e w2 ⟨rfl, hb2⟩; rw [HP.out])
          | (go_at_call 127; refine (cutPrefix_any _ _ _).mono ?_; rintro e w3 ⟨rfl, rfl⟩; rw [trim_two rfl HF.out, HF.out]))
        exact bodyPost_ret (v := .tuple #[.int .i64 ((k : Int) + 1), .string (s.extract 2 s.size)]) (by simp [results, Try.results120, go_sem]) rfl ⟨by rw [HC.out], by (with_reducible repeat' first | exact Below.refl _ _ | assumption | (refine Below.setCell ?_ (by first | omega | (simp; omega) | (simp; done) | (dsimp only; omega)) _) | (refine Below.alloc ?_ (by first | omega | (simp; omega) | (simp; done) | (dsimp only; omega)) _) | (refine below_drewN ?_ _) | (refine Below.drew ?_) | (refine Below.trans ?_ (hb2.mono (by first | omega | (simp; omega) | (simp; done) | (dsimp only; omega)))) | (refine Below.trans ?_ (hb.mono (by first | omega | (simp; omega) | (simp; done) | (dsimp only; omega)))))⟩
      | false =>
        have HF := Lib.hid hpf
        have HPB := Lib.hid hpb
        clear hpf hpb
        go_wp2_with (first
          | (go_at_call 149; refine (egoPrefix_any _ _ he).mono ?_; rintro e w2 ⟨rfl, hb2⟩; rw [HP.out])
          | (go_at_call 127; refine (cutPrefix_any _ _ _).mono ?_; rintro e w3 ⟨rfl, rfl⟩; rw [HF.out]))
        refine ⟨⟨k + 1, by omega, by go_num, fun h => ?_, fun h => ?_, by (with_reducible repeat' first | exact Below.refl _ _ | assumption | (refine Below.setCell ?_ (by first | omega | (simp; omega) | (simp; done) | (dsimp only; omega)) _) | (refine Below.alloc ?_ (by first | omega | (simp; omega) | (simp; done) | (dsimp only; omega)) _) | (refine below_drewN ?_ _) | (refine Below.drew ?_) | (refine Below.trans ?_ (hb2.mono (by first | omega | (simp; omega) | (simp; done) | (dsimp only; omega)))) | (refine Below.trans ?_ (hb.mono (by first | omega | (simp; omega) | (simp; done) | (dsimp only; omega)))))⟩, by simp [intOf]; omega⟩
        · by_cases hk0 : k = 0
          · subst hk0; have hpb := HPB.out; subst hpb; exact HF.out
          · exact h1 (by omega)
        · obtain rfl : k = 1 := by omega
          have hpb := HPB.out; subst hpb; exact HF.out
    · obtain rfl : k = 2 := by omega
      have HC := Lib.hid (cutM_none (h1 (by omega)) (h2 (by omega)))
      clear h1 h2
      go_wp2
      exact bodyPost_ret (v := .tuple #[.int .i64 0, .string s]) (by simp [results, Try.results120, go_sem]) rfl ⟨by rw [HC.out], hb⟩

/-! ### The steps -/
def RetOpt (w : World) (m : Option (List Step)) (e : Ending) (w' : World) : Prop :=
  ∃ (A : Option Addr) (c : Nat), e = .returned (.tuple #[.slice A (m.getD []).length c, .bool m.isSome]) ∧ EStep.OS w' w.heap.size w'.heap.size (.slice A (m.getD []).length c) (m.getD []) ∧ Below w.heap.size w w'
theorem RetOpt.none {w w' : World} (h : Below w.heap.size w w') : RetOpt w Option.none (.returned (.tuple #[.slice Option.none 0 0, .bool false])) w' := ⟨_, _, rfl, Elem.OS.nil, h⟩
def ReadRel (bs : List UInt8) (w : World) (v i : Value) (wr : World) : Prop :=
  ∃ (k : Nat) (A : Option Addr) (c : Nat) (xs : List Step), k ≤ bs.length ∧ i = .int .i64 k ∧ v = .slice A xs.length c ∧ EStep.OS wr w.heap.size wr.heap.size (.slice A xs.length c) xs ∧ xs.length ≤ k ∧ (readI (bs.drop k)).map (xs ++ ·) = readI bs ∧ Below w.heap.size w wr
theorem index_kind (c : UInt8) : Lib.indexByte [70, 77, 66, 90, 83, 68, 72, 87] c + 1 = kindOf c := by
  unfold kindOf
  by_cases h1 : c = 70
  · subst h1; rfl
  by_cases h2 : c = 77
  · subst h2; rfl
  by_cases h3 : c = 66
  · subst h3; rfl
  by_cases h4 : c = 90
  · subst h4; rfl
  by_cases h5 : c = 83
  · subst h5; rfl
  by_cases h6 : c = 68
  · subst h6; rfl
  by_cases h7 : c = 72
  · subst h7; rfl
  by_cases h8 : c = 87
  · subst h8; rfl
  have n : ∀ {a : UInt8}, ¬ c = a → (a == c) = false := fun h => beq_false_of_ne (Ne.symm h)
  simp only [Lib.indexByte, n h1, n h2, n h3, n h4, n h5, n h6, n h7, n h8, if_neg h1, if_neg h2, if_neg h3, if_neg h4, if_neg h5, if_neg h6, if_neg h7, if_neg h8]
  rfl
theorem index_kind' (c : UInt8) : Lib.indexByte (⟨#[70, 77, 66, 90, 83, 68, 72, 87]⟩ : ByteArray).data.toList ((c.toNat : Int)).toNat.toUInt8 + 1 = kindOf c := by
  rw [← index_kind c]
  congr 2
  simp
theorem kindOf_in (c : UInt8) : 0 ≤ kindOf c ∧ kindOf c ≤ 8 := by
  by_cases h : kindOf c = 0
  · omega
  · have := char_kind h; omega
theorem index_kd (c : UInt8) : Lib.indexByte (⟨#[70, 77, 66, 90, 83, 68, 72, 87]⟩ : ByteArray).data.toList ((c.toNat : Int)).toNat.toUInt8 = kindOf c - 1 := by
  have := index_kind' c; omega
theorem byte_ne {c d : UInt8} (h : c ≠ d) : ((c.toNat : Int) == (d.toNat : Int)) = false := by
  rw [beq_eq_false_iff_ne]
  intro e
  exact h (UInt8.toNat_inj.1 (by omega))
theorem readI_no1 {bs : List UInt8} {xs : List Step} {k : Nat} {c : UInt8} {r : List UInt8} (h : (readI (bs.drop k)).map (xs ++ ·) = readI bs) (hd : bs.drop k = c :: r) (h1 : c ≠ 101) (h2 : c ≠ 121) (hk : kindOf c = 0) : readI bs = none := by
  rw [← h, hd, readI_one h1 h2, if_pos hk]; rfl
theorem readI_yes1 {bs : List UInt8} {xs : List Step} {k : Nat} {c : UInt8} (h : (readI (bs.drop k)).map (xs ++ ·) = readI bs) (hd : bs.drop k = c :: bs.drop (k + 1)) (h1 : c ≠ 101) (h2 : c ≠ 121) (hk : kindOf c ≠ 0) : (readI (bs.drop (k + 1))).map ((xs ++ [⟨kindOf c, 0⟩]) ++ ·) = readI bs := by
  rw [← h, hd, readI_one h1 h2, if_neg hk, Option.map_map]
  congr 1
  funext l; simp
theorem readI_last {bs : List UInt8} {xs : List Step} {k : Nat} {c : UInt8} (h : (readI (bs.drop k)).map (xs ++ ·) = readI bs) (hd : bs.drop k = [c]) (h1 : c = 101 ∨ c = 121) : readI bs = none := by
  rw [← h, hd, readI_end h1]; rfl
theorem readI_no2 {bs : List UInt8} {xs : List Step} {k : Nat} {c d : UInt8} {r : List UInt8} (h : (readI (bs.drop k)).map (xs ++ ·) = readI bs) (hd : bs.drop k = c :: d :: r) (h1 : c = 101 ∨ c = 121) (hk : kindOf d = 0) : readI bs = none := by
  rw [← h, hd, readI_two h1, if_pos hk]; rfl
theorem readI_yes2 {bs : List UInt8} {xs : List Step} {k : Nat} {c d : UInt8} {r : List UInt8} (h : (readI (bs.drop k)).map (xs ++ ·) = readI bs) (hd : bs.drop k = c :: d :: r) (h1 : c = 101 ∨ c = 121) (hk : kindOf d ≠ 0) : (readI r).map ((xs ++ [⟨kindOf d, if c = 101 then 1 else 2⟩]) ++ ·) = readI bs := by
  rw [← h, hd, readI_two h1, if_neg hk, Option.map_map]
  congr 1
  funext l; simp

set_option maxHeartbeats 4000000 in
theorem readSteps_any (s : ByteArray) (w : World) (hs : s.size ≤ 1048576) : Calls Try.prog 121 #[.string s] w (RetOpt w (readI s.data.toList)) := by
  go_enter Try.func121, Try.ntmps121
  go_wp2
  go_loopw [4, 5] (fun v i wr => ReadRel s.data.toList w v i wr) (fun _ i _ => s.size - (intOf i).toNat)
  case atStart => exact ⟨0, none, 0, [], Nat.zero_le _, rfl, rfl, Elem.OS.nil, Nat.le_refl _, by simp, Below.refl _ _⟩
  case round =>
    obtain ⟨k, A, c, xs, hk, rfl, rfl, ho, hxl, hre, hb⟩ := hrel
    have hk' : k ≤ s.size := by simpa using hk
    have HRE := Lib.hid hre; clear hre hk
    have z := hb.size
    by_cases hlt : k < s.size
    · have hd := bytes_drop hlt
      obtain ⟨ch, hch⟩ : ∃ ch, s[k] = ch := ⟨_, rfl⟩
      rw [hch] at hd
      go_upto_region 6 with fail
      generalize hW5 : wr.alloc (.cells #[.int .i64 0, .int .i64 0] 72) = W5
      have r5 : Blk W5 wr.heap.size 72 #[.int .i64 0, .int .i64 0] := by subst hW5; exact Blk.new _ rfl
      have hb5 : Below w.heap.size w W5 := by subst hW5; (with_reducible repeat' first | exact Below.refl _ _ | assumption | (refine Below.setCell ?_ (by first | omega | (simp; omega) | (simp; done) | (dsimp only; omega)) _) | (refine Below.alloc ?_ (by first | omega | (simp; omega) | (simp; done) | (dsimp only; omega)) _) | (refine below_drewN ?_ _) | (refine Below.drew ?_) | (refine Below.trans ?_ (hb.mono (by first | omega | (simp; omega) | (simp; done) | (dsimp only; omega)))))
      have z5 : wr.heap.size + 1 = W5.heap.size := by subst hW5; simp
      have ho5 := ho.same (show Same w.heap.size wr.heap.size wr W5 by subst hW5; (with_reducible repeat' first | exact Same.refl _ _ _ | assumption | (refine Same.setCell ?_ (by first | omega | (simp; omega) | (simp; done) | (dsimp only; omega)) _) | (refine Same.alloc ?_ (by first | omega | (simp; omega) | (simp; done) | (dsimp only; omega)) _) | (refine Same.drewN ?_ _) | (refine Same.drew ?_)))
      clear hW5
      have q0 := r5.cell (i := 0) rfl; have q1 := r5.cell (i := 1) rfl; have f0 := r5.free 0; have f1 := r5.free 1
      have lr : wr.heap.size < W5.heap.size := by omega
      rcases (Classical.em (ch = 101)) with hc | h101
      · -- an age
        have hcc : ch = 101 ∨ ch = 121 := .inl hc
        have hag : (if ch = 101 then (1 : Int) else 2) = 1 := by rw [hc]; rfl
        have n1 : ((ch.toNat : Int) == 101) = true := by rw [hc]; rfl
        clear hc
        by_cases hlt2 : k + 1 < s.size
        · have hd2 := bytes_drop hlt2
          obtain ⟨dh, hdh⟩ : ∃ dh, s[k + 1] = dh := ⟨_, rfl⟩
          rw [hdh] at hd2
          rw [hd2] at hd
          have ne2 : ((k : Int) + 1 == (s.size : Int)) = false := by rw [beq_eq_false_iff_ne]; omega
          by_cases hk0 : kindOf dh = 0
          · have HN := Lib.hid (readI_no2 HRE.out hd hcc hk0)
            go_wp2_with (go_at_call 186; refine (indexByte_any _ _ _).mono ?_; rintro e w6 ⟨rfl, rfl⟩; rw [index_kd, hk0])
            exact bodyPost_ret (v := .tuple #[.slice none 0 0, .bool false]) (by simp [results, Try.results121, go_sem]) rfl (by rw [HN.out]; exact RetOpt.none (by (with_reducible repeat' first | exact Below.refl _ _ | assumption | (refine Below.setCell ?_ (by first | omega | (simp; omega) | (simp; done) | (dsimp only; omega)) _) | (refine Below.alloc ?_ (by first | omega | (simp; omega) | (simp; done) | (dsimp only; omega)) _) | (refine below_drewN ?_ _) | (refine Below.drew ?_) | (refine Below.trans ?_ (hb5.mono (by first | omega | (simp; omega) | (simp; done) | (dsimp only; omega)))))))
          · skip
            obtain ⟨kd, hkd⟩ : ∃ kd, kindOf dh = kd := ⟨_, rfl⟩
            have hin := kindOf_in dh
            rw [hkd] at hin
            have nk : (kd == 0) = false := by rw [beq_eq_false_iff_ne, ← hkd]; exact hk0
            have HY := Lib.hid (by have h := readI_yes2 HRE.out hd hcc hk0; rw [hkd, hag] at h; exact h)
            clear hk0
            go_upto_region 18 with (go_at_call 186; refine (indexByte_any _ _ _).mono ?_; rintro e w6 ⟨rfl, rfl⟩; rw [index_kd])
            generalize hW7 : (W5.setCell ⟨wr.heap.size, 1, none⟩ (.int .i64 1)).setCell ⟨wr.heap.size, 0, none⟩ (.int .i64 kd) = W7
            have r7 : Blk W7 wr.heap.size 72 #[.int .i64 kd, .int .i64 1] := by subst hW7; exact (r5.set 1 _).set 0 _
            have hb7 : Below w.heap.size w W7 := by subst hW7; (with_reducible repeat' first | exact Below.refl _ _ | assumption | (refine Below.setCell ?_ (by first | omega | (simp; omega) | (simp; done) | (dsimp only; omega)) _) | (refine Below.alloc ?_ (by first | omega | (simp; omega) | (simp; done) | (dsimp only; omega)) _) | (refine below_drewN ?_ _) | (refine Below.drew ?_) | (refine Below.trans ?_ (hb5.mono (by first | omega | (simp; omega) | (simp; done) | (dsimp only; omega)))))
            have z7 : W5.heap.size = W7.heap.size := by subst hW7; simp [World.setCell]
            have ho7 : EStep.OS W7 w.heap.size wr.heap.size (.slice A xs.length c) xs := by subst hW7; exact ho5.same (by (with_reducible repeat' first | exact Same.refl _ _ _ | assumption | (refine Same.setCell ?_ (by first | omega | (simp; omega) | (simp; done) | (dsimp only; omega)) _) | (refine Same.alloc ?_ (by first | omega | (simp; omega) | (simp; done) | (dsimp only; omega)) _) | (refine Same.drewN ?_ _) | (refine Same.drew ?_)))
            clear hW7
            have p0 := r7.cell (i := 0) rfl; have p1 := r7.cell (i := 1) rfl
            have lr7 : wr.heap.size < W7.heap.size := by omega
            go_wp2_with (at_builtin; refine wpList_app1 tyStepS A xs ⟨kd, 1⟩ [.int .i64 kd, .int .i64 1] ⟨W7.heap.size, 0, none⟩ 1 (lo := w.heap.size) (hi := wr.heap.size) (ho7.same (by (with_reducible repeat' first | exact Same.refl _ _ _ | assumption | (refine Same.setCell ?_ (by first | omega | (simp; omega) | (simp; done) | (dsimp only; omega)) _) | (refine Same.alloc ?_ (by first | omega | (simp; omega) | (simp; done) | (dsimp only; omega)) _) | (refine Same.drewN ?_ _) | (refine Same.drew ?_)))) rfl (by first | omega | (simp; omega) | (simp; done) | (dsimp only; omega)) z rfl _ _ rfl rfl rfl rfl (cell_row_at _ #[.int .i64 kd, .int .i64 1] _ _ rfl) (by simp; exact ⟨rfl, rfl⟩) (by omega) (by decide) (fun A' c' w1 ho1 hg1 hc1 hm1 => ?_))
            refine ⟨⟨k + 1 + 1, A', c', xs ++ [⟨kd, 1⟩], by simp; omega, by go_num, by simp, by simpa using ho1, by simp; omega, HY.out, ?_⟩, by simp [intOf]; omega⟩
            exact Below.grown (w := W7.alloc _) (by (with_reducible repeat' first | exact Below.refl _ _ | assumption | (refine Below.setCell ?_ (by first | omega | (simp; omega) | (simp; done) | (dsimp only; omega)) _) | (refine Below.alloc ?_ (by first | omega | (simp; omega) | (simp; done) | (dsimp only; omega)) _) | (refine below_drewN ?_ _) | (refine Below.drew ?_) | (refine Below.trans ?_ (hb7.mono (by first | omega | (simp; omega) | (simp; done) | (dsimp only; omega)))))) hg1 (by simp; omega) (fun k hk => (ho.blkv k hk).1)
        · have hd2 : s.data.toList.drop (k + 1) = [] := List.drop_eq_nil_of_le (by simp; omega)
          rw [hd2] at hd
          have HN := Lib.hid (readI_last HRE.out hd hcc)
          have ne2 : ((k : Int) + 1 == (s.size : Int)) = true := by rw [beq_iff_eq]; omega
          go_wp2_with fail
          exact bodyPost_ret (v := .tuple #[.slice none 0 0, .bool false]) (by simp [results, Try.results121, go_sem]) rfl (by rw [HN.out]; exact RetOpt.none (by (with_reducible repeat' first | exact Below.refl _ _ | assumption | (refine Below.setCell ?_ (by first | omega | (simp; omega) | (simp; done) | (dsimp only; omega)) _) | (refine Below.alloc ?_ (by first | omega | (simp; omega) | (simp; done) | (dsimp only; omega)) _) | (refine below_drewN ?_ _) | (refine Below.drew ?_) | (refine Below.trans ?_ (hb5.mono (by first | omega | (simp; omega) | (simp; done) | (dsimp only; omega)))))))
      · rcases (Classical.em (ch = 121)) with hc | h121
        · -- an age
          have hcc : ch = 101 ∨ ch = 121 := .inr hc
          have hag : (if ch = 101 then (1 : Int) else 2) = 2 := by rw [hc]; rfl
          have n1 : ((ch.toNat : Int) == 101) = false := by rw [hc]; rfl
          have n2 : ((ch.toNat : Int) == 121) = true := by rw [hc]; rfl
          clear hc
          by_cases hlt2 : k + 1 < s.size
          · have hd2 := bytes_drop hlt2
            obtain ⟨dh, hdh⟩ : ∃ dh, s[k + 1] = dh := ⟨_, rfl⟩
            rw [hdh] at hd2
            rw [hd2] at hd
            have ne2 : ((k : Int) + 1 == (s.size : Int)) = false := by rw [beq_eq_false_iff_ne]; omega
            by_cases hk0 : kindOf dh = 0
            · have HN := Lib.hid (readI_no2 HRE.out hd hcc hk0)
              go_wp2_with (go_at_call 186; refine (indexByte_any _ _ _).mono ?_; rintro e w6 ⟨rfl, rfl⟩; rw [index_kd, hk0])
              exact bodyPost_ret (v := .tuple #[.slice none 0 0, .bool false]) (by simp [results, Try.results121, go_sem]) rfl (by rw [HN.out]; exact RetOpt.none (by (with_reducible repeat' first | exact Below.refl _ _ | assumption | (refine Below.setCell ?_ (by first | omega | (simp; omega) | (simp; done) | (dsimp only; omega)) _) | (refine Below.alloc ?_ (by first | omega | (simp; omega) | (simp; done) | (dsimp only; omega)) _) | (refine below_drewN ?_ _) | (refine Below.drew ?_) | (refine Below.trans ?_ (hb5.mono (by first | omega | (simp; omega) | (simp; done) | (dsimp only; omega)))))))
            · skip
              obtain ⟨kd, hkd⟩ : ∃ kd, kindOf dh = kd := ⟨_, rfl⟩
              have hin := kindOf_in dh
              rw [hkd] at hin
              have nk : (kd == 0) = false := by rw [beq_eq_false_iff_ne, ← hkd]; exact hk0
              have HY := Lib.hid (by have h := readI_yes2 HRE.out hd hcc hk0; rw [hkd, hag] at h; exact h)
              clear hk0
              go_upto_region 18 with (go_at_call 186; refine (indexByte_any _ _ _).mono ?_; rintro e w6 ⟨rfl, rfl⟩; rw [index_kd])
              generalize hW7 : (W5.setCell ⟨wr.heap.size, 1, none⟩ (.int .i64 2)).setCell ⟨wr.heap.size, 0, none⟩ (.int .i64 kd) = W7
              have r7 : Blk W7 wr.heap.size 72 #[.int .i64 kd, .int .i64 2] := by subst hW7; exact (r5.set 1 _).set 0 _
              have hb7 : Below w.heap.size w W7 := by subst hW7; (with_reducible repeat' first | exact Below.refl _ _ | assumption | (refine Below.setCell ?_ (by first | omega | (simp; omega) | (simp; done) | (dsimp only; omega)) _) | (refine Below.alloc ?_ (by first | omega | (simp; omega) | (simp; done) | (dsimp only; omega)) _) | (refine below_drewN ?_ _) | (refine Below.drew ?_) | (refine Below.trans ?_ (hb5.mono (by first | omega | (simp; omega) | (simp; done) | (dsimp only; omega)))))
              have z7 : W5.heap.size = W7.heap.size := by subst hW7; simp [World.setCell]
              have ho7 : EStep.OS W7 w.heap.size wr.heap.size (.slice A xs.length c) xs := by subst hW7; exact ho5.same (by (with_reducible repeat' first | exact Same.refl _ _ _ | assumption | (refine Same.setCell ?_ (by first | omega | (simp; omega) | (simp; done) | (dsimp only; omega)) _) | (refine Same.alloc ?_ (by first | omega | (simp; omega) | (simp; done) | (dsimp only; omega)) _) | (refine Same.drewN ?_ _) | (refine Same.drew ?_)))
              clear hW7
              have p0 := r7.cell (i := 0) rfl; have p1 := r7.cell (i := 1) rfl
              have lr7 : wr.heap.size < W7.heap.size := by omega
              go_wp2_with (at_builtin; refine wpList_app1 tyStepS A xs ⟨kd, 2⟩ [.int .i64 kd, .int .i64 2] ⟨W7.heap.size, 0, none⟩ 1 (lo := w.heap.size) (hi := wr.heap.size) (ho7.same (by (with_reducible repeat' first | exact Same.refl _ _ _ | assumption | (refine Same.setCell ?_ (by first | omega | (simp; omega) | (simp; done) | (dsimp only; omega)) _) | (refine Same.alloc ?_ (by first | omega | (simp; omega) | (simp; done) | (dsimp only; omega)) _) | (refine Same.drewN ?_ _) | (refine Same.drew ?_)))) rfl (by first | omega | (simp; omega) | (simp; done) | (dsimp only; omega)) z rfl _ _ rfl rfl rfl rfl (cell_row_at _ #[.int .i64 kd, .int .i64 2] _ _ rfl) (by simp; exact ⟨rfl, rfl⟩) (by omega) (by decide) (fun A' c' w1 ho1 hg1 hc1 hm1 => ?_))
              refine ⟨⟨k + 1 + 1, A', c', xs ++ [⟨kd, 2⟩], by simp; omega, by go_num, by simp, by simpa using ho1, by simp; omega, HY.out, ?_⟩, by simp [intOf]; omega⟩
              exact Below.grown (w := W7.alloc _) (by (with_reducible repeat' first | exact Below.refl _ _ | assumption | (refine Below.setCell ?_ (by first | omega | (simp; omega) | (simp; done) | (dsimp only; omega)) _) | (refine Below.alloc ?_ (by first | omega | (simp; omega) | (simp; done) | (dsimp only; omega)) _) | (refine below_drewN ?_ _) | (refine Below.drew ?_) | (refine Below.trans ?_ (hb7.mono (by first | omega | (simp; omega) | (simp; done) | (dsimp only; omega)))))) hg1 (by simp; omega) (fun k hk => (ho.blkv k hk).1)
          · have hd2 : s.data.toList.drop (k + 1) = [] := List.drop_eq_nil_of_le (by simp; omega)
            rw [hd2] at hd
            have HN := Lib.hid (readI_last HRE.out hd hcc)
            have ne2 : ((k : Int) + 1 == (s.size : Int)) = true := by rw [beq_iff_eq]; omega
            go_wp2_with fail
            exact bodyPost_ret (v := .tuple #[.slice none 0 0, .bool false]) (by simp [results, Try.results121, go_sem]) rfl (by rw [HN.out]; exact RetOpt.none (by (with_reducible repeat' first | exact Below.refl _ _ | assumption | (refine Below.setCell ?_ (by first | omega | (simp; omega) | (simp; done) | (dsimp only; omega)) _) | (refine Below.alloc ?_ (by first | omega | (simp; omega) | (simp; done) | (dsimp only; omega)) _) | (refine below_drewN ?_ _) | (refine Below.drew ?_) | (refine Below.trans ?_ (hb5.mono (by first | omega | (simp; omega) | (simp; done) | (dsimp only; omega)))))))
        · -- a step without an age
          have n1 : ((ch.toNat : Int) == 101) = false := byte_ne h101
          have n2 : ((ch.toNat : Int) == 121) = false := byte_ne h121
          have ne2 : ((k : Int) == (s.size : Int)) = false := by rw [beq_eq_false_iff_ne]; omega
          by_cases hk0 : kindOf ch = 0
          · have HN := Lib.hid (readI_no1 HRE.out hd h101 h121 hk0)
            go_wp2_with (go_at_call 186; refine (indexByte_any _ _ _).mono ?_; rintro e w6 ⟨rfl, rfl⟩; rw [index_kd, hk0])
            exact bodyPost_ret (v := .tuple #[.slice none 0 0, .bool false]) (by simp [results, Try.results121, go_sem]) rfl (by rw [HN.out]; exact RetOpt.none (by (with_reducible repeat' first | exact Below.refl _ _ | assumption | (refine Below.setCell ?_ (by first | omega | (simp; omega) | (simp; done) | (dsimp only; omega)) _) | (refine Below.alloc ?_ (by first | omega | (simp; omega) | (simp; done) | (dsimp only; omega)) _) | (refine below_drewN ?_ _) | (refine Below.drew ?_) | (refine Below.trans ?_ (hb5.mono (by first | omega | (simp; omega) | (simp; done) | (dsimp only; omega)))))))
          · skip
            obtain ⟨kd, hkd⟩ : ∃ kd, kindOf ch = kd := ⟨_, rfl⟩
            have hin := kindOf_in ch
            rw [hkd] at hin
            have nk : (kd == 0) = false := by rw [beq_eq_false_iff_ne, ← hkd]; exact hk0
            have HY := Lib.hid (by have h := readI_yes1 HRE.out hd h101 h121 hk0; rw [hkd] at h; exact h)
            clear hk0
            go_upto_region 18 with (go_at_call 186; refine (indexByte_any _ _ _).mono ?_; rintro e w6 ⟨rfl, rfl⟩; rw [index_kd])
            generalize hW7 : W5.setCell ⟨wr.heap.size, 0, none⟩ (.int .i64 kd) = W7
            have r7 : Blk W7 wr.heap.size 72 #[.int .i64 kd, .int .i64 0] := by subst hW7; exact r5.set 0 _
            have hb7 : Below w.heap.size w W7 := by subst hW7; (with_reducible repeat' first | exact Below.refl _ _ | assumption | (refine Below.setCell ?_ (by first | omega | (simp; omega) | (simp; done) | (dsimp only; omega)) _) | (refine Below.alloc ?_ (by first | omega | (simp; omega) | (simp; done) | (dsimp only; omega)) _) | (refine below_drewN ?_ _) | (refine Below.drew ?_) | (refine Below.trans ?_ (hb5.mono (by first | omega | (simp; omega) | (simp; done) | (dsimp only; omega)))))
            have z7 : W5.heap.size = W7.heap.size := by subst hW7; simp [World.setCell]
            have ho7 : EStep.OS W7 w.heap.size wr.heap.size (.slice A xs.length c) xs := by subst hW7; exact ho5.same (by (with_reducible repeat' first | exact Same.refl _ _ _ | assumption | (refine Same.setCell ?_ (by first | omega | (simp; omega) | (simp; done) | (dsimp only; omega)) _) | (refine Same.alloc ?_ (by first | omega | (simp; omega) | (simp; done) | (dsimp only; omega)) _) | (refine Same.drewN ?_ _) | (refine Same.drew ?_)))
            clear hW7
            have p0 := r7.cell (i := 0) rfl; have p1 := r7.cell (i := 1) rfl
            have lr7 : wr.heap.size < W7.heap.size := by omega
            go_wp2_with (at_builtin; refine wpList_app1 tyStepS A xs ⟨kd, 0⟩ [.int .i64 kd, .int .i64 0] ⟨W7.heap.size, 0, none⟩ 1 (lo := w.heap.size) (hi := wr.heap.size) (ho7.same (by (with_reducible repeat' first | exact Same.refl _ _ _ | assumption | (refine Same.setCell ?_ (by first | omega | (simp; omega) | (simp; done) | (dsimp only; omega)) _) | (refine Same.alloc ?_ (by first | omega | (simp; omega) | (simp; done) | (dsimp only; omega)) _) | (refine Same.drewN ?_ _) | (refine Same.drew ?_)))) rfl (by first | omega | (simp; omega) | (simp; done) | (dsimp only; omega)) z rfl _ _ rfl rfl rfl rfl (cell_row_at _ #[.int .i64 kd, .int .i64 0] _ _ rfl) (by simp; exact ⟨rfl, rfl⟩) (by omega) (by decide) (fun A' c' w1 ho1 hg1 hc1 hm1 => ?_))
            refine ⟨⟨k + 1, A', c', xs ++ [⟨kd, 0⟩], by simp; omega, by go_num, by simp, by simpa using ho1, by simp; omega, HY.out, ?_⟩, by simp [intOf]; omega⟩
            exact Below.grown (w := W7.alloc _) (by (with_reducible repeat' first | exact Below.refl _ _ | assumption | (refine Below.setCell ?_ (by first | omega | (simp; omega) | (simp; done) | (dsimp only; omega)) _) | (refine Below.alloc ?_ (by first | omega | (simp; omega) | (simp; done) | (dsimp only; omega)) _) | (refine below_drewN ?_ _) | (refine Below.drew ?_) | (refine Below.trans ?_ (hb7.mono (by first | omega | (simp; omega) | (simp; done) | (dsimp only; omega)))))) hg1 (by simp; omega) (fun k hk => (ho.blkv k hk).1)
    · obtain rfl : k = s.size := by omega
      have hre := HRE.out
      rw [List.drop_eq_nil_of_le (by simp), readI_nil] at hre
      have HN := Lib.hid (show readI s.data.toList = some xs by rw [← hre]; simp)
      go_wp2
      exact bodyPost_ret (v := .tuple #[.slice A xs.length c, .bool true]) (by simp [results, Try.results121, go_sem]) rfl (by rw [HN.out]; exact ⟨A, c, rfl, ho, hb⟩)
end Go.Proofs.Ytnnjilkjjdiblaa

/-! ## ParseJ -/
namespace Go.Proofs.Ytnnjilkjjdiblaa
set_option maxRecDepth 100000
open Go.RowKit

theorem parseM_dot {s : ByteArray} (h : (cutM s).2.data.toList = [46]) : parseM s = (⟨(cutM s).1, []⟩, true) := by rw [parseM, if_pos h]
theorem parseM_none {s : ByteArray} (h : (cutM s).2.data.toList ≠ [46]) (h' : readI (cutM s).2.data.toList = none) : parseM s = (zeroTyp, false) := by rw [parseM, if_neg h, h']
theorem parseM_bad {s : ByteArray} {xs : List Step} (h : (cutM s).2.data.toList ≠ [46]) (h' : readI (cutM s).2.data.toList = some xs) (hb : xs = [] ∨ typeOk ⟨(cutM s).1, xs⟩ = false) : parseM s = (zeroTyp, false) := by
  rw [parseM, if_neg h, h']; simp only; rw [if_pos hb]
theorem parseM_good {s : ByteArray} {xs : List Step} (h : (cutM s).2.data.toList ≠ [46]) (h' : readI (cutM s).2.data.toList = some xs) (hn : xs ≠ []) (ht : typeOk ⟨(cutM s).1, xs⟩ = true) : parseM s = (⟨(cutM s).1, xs⟩, true) := by
  rw [parseM, if_neg h, h']; simp only; rw [if_neg]; rintro (e | e); exact hn e; rw [ht] at e; cases e
theorem parseM_len (s : ByteArray) : (parseM s).1.steps.length ≤ 8 := by
  unfold parseM
  split
  · simp
  · split
    · simp [zeroTyp]
    · rename_i xs _
      split
      · simp [zeroTyp]
      · rename_i h
        cases ht : typeOk ⟨(cutM s).1, xs⟩ with
        | false => exact absurd (.inr ht) h
        | true => exact typeOk_len ht

set_option maxHeartbeats 4000000 in
theorem implParseType_any (s : ByteArray) (w : World) (hs : s.size ≤ 1048576) : Calls Try.prog 38 #[.string s] w (RetTypB w (parseM s)) := by
  obtain ⟨eg, heg⟩ : ∃ eg, (cutM s).1 = eg := ⟨_, rfl⟩
  obtain ⟨r, hr⟩ : ∃ r, (cutM s).2 = r := ⟨_, rfl⟩
  have hrs : r.size ≤ 1048576 := by
    rw [← hr]; unfold cutM
    split
    · simp; omega
    · split
      · simp; omega
      · exact hs
  have HC := Lib.hid (show cutM s = (eg, r) by rw [← heg, ← hr])
  go_enter Try.func38, Try.ntmps38
  go_upto_region 2 with (go_at_call 120; refine (cutEgo_any _ _).mono ?_; rintro e w1 ⟨rfl, hb1⟩; rw [HC.out])
  have hbw : Below w.heap.size w w1 := by (with_reducible repeat' first | exact Below.refl _ _ | assumption | (refine Below.setCell ?_ (by first | omega | (simp; omega) | (simp; done) | (dsimp only; omega)) _) | (refine Below.alloc ?_ (by first | omega | (simp; omega) | (simp; done) | (dsimp only; omega)) _) | (refine below_drewN ?_ _) | (refine Below.drew ?_) | (refine Below.trans ?_ (hb1.mono (by first | omega | (simp; omega) | (simp; done) | (dsimp only; omega)))))
  have r1 : Blk w1 w.heap.size 30 #[.int .i64 0, .slice none 0 0] := (Blk.new w rfl).below hb1 (by simp)
  have g0 := r1.cell (i := 0) rfl; have g1 := r1.cell (i := 1) rfl; have f0 := r1.free 0; have f1 := r1.free 1
  have lr := r1.lt
  clear hb1 heg
  have hrd : r.toList = r.data.toList := by rw [ByteArray.toList_eq]
  by_cases hd : r.data.toList = [46]
  · have nd : (r.toList == [46]) = true := by rw [hrd, hd]; rfl
    have HN := Lib.hid (show parseM s = (⟨eg, []⟩, true) by rw [parseM_dot (by rw [hr]; exact hd), HC.out])
    clear hd hrd hr
    go_wp2_with fail
    have R := (r1.set 0 (.int .i64 eg)).set 1 (.slice none 0 0)
    rw [HN.out]
    exact bodyPost_ret (v := .tuple #[.agg #[.int .i64 eg, .slice none 0 0], .bool true]) (by simp [results, Try.results38, go_sem, R.cell (i := 0) rfl, R.cell (i := 1) rfl]) rfl ⟨none, 0, rfl, Elem.OS.nil, by (with_reducible repeat' first | exact Below.refl _ _ | assumption | (refine Below.setCell ?_ (by first | omega | (simp; omega) | (simp; done) | (dsimp only; omega)) _) | (refine Below.alloc ?_ (by first | omega | (simp; omega) | (simp; done) | (dsimp only; omega)) _) | (refine below_drewN ?_ _) | (refine Below.drew ?_) | (refine Below.trans ?_ (hbw.mono (by first | omega | (simp; omega) | (simp; done) | (dsimp only; omega)))))⟩
  · have nd : (r.toList == [46]) = false := by rw [hrd]; simpa using hd
    have hd' : (cutM s).2.data.toList ≠ [46] := by rw [hr]; exact hd
    clear hd hrd
    cases hri : readI r.data.toList with
    | none =>
      have HRI := Lib.hid hri
      have HN := Lib.hid (parseM_none hd' (by rw [hr]; exact hri))
      clear hri hd' hr
      go_wp2_with (go_at_call 121; (have H := readSteps_any r w1 hrs); rw [HRI.out] at H; refine H.mono ?_; rintro e w2 ⟨A2, c2, rfl, o2, hb2⟩; simp only [Option.getD, Option.isSome] at o2 ⊢; (have r2 := r1.below hb2 r1.lt); (have g0 := r2.cell (i := 0) rfl); (have g1 := r2.cell (i := 1) rfl); (have f0 := r2.free 0); (have f1 := r2.free 1); (have lr2 := r2.lt); (have z2 := hb2.size))
      have R := ((r2.set 0 (.int .i64 0)).set 1 (.slice none 0 0)).alloc (.cells #[.int .i64 eg, .slice A2 0 c2] 30)
      rw [HN.out]
      exact bodyPost_ret (v := .tuple #[.agg #[.int .i64 0, .slice none 0 0], .bool false]) (by simp [results, Try.results38, go_sem, R.cell (i := 0) rfl, R.cell (i := 1) rfl]) rfl ⟨none, 0, rfl, Elem.OS.nil, by (with_reducible repeat' first | exact Below.refl _ _ | assumption | (refine Below.setCell ?_ (by first | omega | (simp; omega) | (simp; done) | (dsimp only; omega)) _) | (refine Below.alloc ?_ (by first | omega | (simp; omega) | (simp; done) | (dsimp only; omega)) _) | (refine below_drewN ?_ _) | (refine Below.drew ?_) | (refine Below.trans ?_ (hb2.mono (by first | omega | (simp; omega) | (simp; done) | (dsimp only; omega)))) | (refine Below.trans ?_ (hbw.mono (by first | omega | (simp; omega) | (simp; done) | (dsimp only; omega)))))⟩
    | some xs =>
      have HRI := Lib.hid hri
      by_cases h0 : xs = []
      · have HN := Lib.hid (parseM_bad hd' (by rw [hr]; exact hri) (.inl h0))
        subst h0
        clear hri hd' hr
        go_wp2_with (go_at_call 121; (have H := readSteps_any r w1 hrs); rw [HRI.out] at H; refine H.mono ?_; rintro e w2 ⟨A2, c2, rfl, o2, hb2⟩; simp only [Option.getD, Option.isSome] at o2 ⊢; (have r2 := r1.below hb2 r1.lt); (have g0 := r2.cell (i := 0) rfl); (have g1 := r2.cell (i := 1) rfl); (have f0 := r2.free 0); (have f1 := r2.free 1); (have lr2 := r2.lt); (have z2 := hb2.size))
        have R := ((r2.set 0 (.int .i64 0)).set 1 (.slice none 0 0)).alloc (.cells #[.int .i64 eg, .slice A2 0 c2] 30)
        rw [HN.out]
        exact bodyPost_ret (v := .tuple #[.agg #[.int .i64 0, .slice none 0 0], .bool false]) (by simp [results, Try.results38, go_sem, R.cell (i := 0) rfl, R.cell (i := 1) rfl]) rfl ⟨none, 0, rfl, Elem.OS.nil, by (with_reducible repeat' first | exact Below.refl _ _ | assumption | (refine Below.setCell ?_ (by first | omega | (simp; omega) | (simp; done) | (dsimp only; omega)) _) | (refine Below.alloc ?_ (by first | omega | (simp; omega) | (simp; done) | (dsimp only; omega)) _) | (refine below_drewN ?_ _) | (refine Below.drew ?_) | (refine Below.trans ?_ (hb2.mono (by first | omega | (simp; omega) | (simp; done) | (dsimp only; omega)))) | (refine Below.trans ?_ (hbw.mono (by first | omega | (simp; omega) | (simp; done) | (dsimp only; omega)))))⟩
      · have n0 : ((xs.length : Int) == 0) = false := by
          rw [beq_eq_false_iff_ne]
          intro e
          exact h0 (List.eq_nil_of_length_eq_zero (by omega))
        cases ht : typeOk ⟨eg, xs⟩ with
        | false =>
          have HT := Lib.hid ht
          have HN := Lib.hid (parseM_bad hd' (by rw [hr]; exact hri) (.inr (by rw [HC.out]; exact ht)))
          clear hri hd' hr ht h0
          go_wp2_with (first
            | (go_at_call 121; (have H := readSteps_any r w1 hrs); rw [HRI.out] at H; refine H.mono ?_; rintro e w2 ⟨A2, c2, rfl, o2, hb2⟩; simp only [Option.getD, Option.isSome] at o2 ⊢; (have r2 := r1.below hb2 r1.lt); (have g0 := r2.cell (i := 0) rfl); (have g1 := r2.cell (i := 1) rfl); (have f0 := r2.free 0); (have f1 := r2.free 1); (have lr2 := r2.lt); (have z2 := hb2.size))
            | (go_at_call 86; (with_reducible refine (implIsType_any eg A2 c2 w1.heap.size w2.heap.size xs _ (o2.read.as.same (by (with_reducible repeat' first | exact Same.refl _ _ _ | assumption | (refine Same.setCell ?_ (by first | omega | (simp; omega) | (simp; done) | (dsimp only; omega)) _) | (refine Same.alloc ?_ (by first | omega | (simp; omega) | (simp; done) | (dsimp only; omega)) _) | (refine Same.drewN ?_ _) | (refine Same.drew ?_)))) (by first | omega | (simp; omega) | (simp; done) | (dsimp only; omega))).mono ?_); rintro e w3 ⟨rfl, hb3⟩; simp only [HT.out]; (obtain ⟨hb3c, hb3f⟩ := bcell hb3); (have hb3z := hb3.size); (try simp only [szs] at hb3c hb3f hb3z); (have r3 := (r2.alloc (.cells #[.int .i64 eg, .slice A2 xs.length c2] 30)).below hb3 (by simp; omega)); (have g0 := r3.cell (i := 0) rfl); (have g1 := r3.cell (i := 1) rfl); (have f0 := r3.free 0); (have f1 := r3.free 1); (have lr3 := r3.lt); (have lq3 : w2.heap.size < w3.heap.size := by omega)))
          have R := (r3.set 0 (.int .i64 0)).set 1 (.slice none 0 0)
          rw [HN.out]
          exact bodyPost_ret (v := .tuple #[.agg #[.int .i64 0, .slice none 0 0], .bool false]) (by simp [results, Try.results38, go_sem, R.cell (i := 0) rfl, R.cell (i := 1) rfl]) rfl ⟨none, 0, rfl, Elem.OS.nil, by (with_reducible repeat' first | exact Below.refl _ _ | assumption | (refine Below.setCell ?_ (by first | omega | (simp; omega) | (simp; done) | (dsimp only; omega)) _) | (refine Below.alloc ?_ (by first | omega | (simp; omega) | (simp; done) | (dsimp only; omega)) _) | (refine below_drewN ?_ _) | (refine Below.drew ?_) | (refine Below.trans ?_ (hb3.mono (by first | omega | (simp; omega) | (simp; done) | (dsimp only; omega)))) | (refine Below.trans ?_ (hb2.mono (by first | omega | (simp; omega) | (simp; done) | (dsimp only; omega)))) | (refine Below.trans ?_ (hbw.mono (by first | omega | (simp; omega) | (simp; done) | (dsimp only; omega)))))⟩
        | true =>
          have HT := Lib.hid ht
          have HN := Lib.hid (show parseM s = (⟨eg, xs⟩, true) by rw [parseM_good hd' (by rw [hr]; exact hri) h0 (by rw [HC.out]; exact ht), HC.out])
          clear hri hd' hr ht h0
          go_wp2_with (first
            | (go_at_call 121; (have H := readSteps_any r w1 hrs); rw [HRI.out] at H; refine H.mono ?_; rintro e w2 ⟨A2, c2, rfl, o2, hb2⟩; simp only [Option.getD, Option.isSome] at o2 ⊢; (have r2 := r1.below hb2 r1.lt); (have g0 := r2.cell (i := 0) rfl); (have g1 := r2.cell (i := 1) rfl); (have f0 := r2.free 0); (have f1 := r2.free 1); (have lr2 := r2.lt); (have z2 := hb2.size))
            | (go_at_call 86; (with_reducible refine (implIsType_any eg A2 c2 w1.heap.size w2.heap.size xs _ (o2.read.as.same (by (with_reducible repeat' first | exact Same.refl _ _ _ | assumption | (refine Same.setCell ?_ (by first | omega | (simp; omega) | (simp; done) | (dsimp only; omega)) _) | (refine Same.alloc ?_ (by first | omega | (simp; omega) | (simp; done) | (dsimp only; omega)) _) | (refine Same.drewN ?_ _) | (refine Same.drew ?_)))) (by first | omega | (simp; omega) | (simp; done) | (dsimp only; omega))).mono ?_); rintro e w3 ⟨rfl, hb3⟩; simp only [HT.out]; (obtain ⟨hb3c, hb3f⟩ := bcell hb3); (have hb3z := hb3.size); (try simp only [szs] at hb3c hb3f hb3z); (have r3 := (r2.alloc (.cells #[.int .i64 eg, .slice A2 xs.length c2] 30)).below hb3 (by simp; omega)); (have g0 := r3.cell (i := 0) rfl); (have g1 := r3.cell (i := 1) rfl); (have f0 := r3.free 0); (have f1 := r3.free 1); (have lr3 := r3.lt); (have lq3 : w2.heap.size < w3.heap.size := by omega)))
          have R := (r3.set 0 (.int .i64 eg)).set 1 (.slice A2 xs.length c2)
          rw [HN.out]
          exact bodyPost_ret (v := .tuple #[.agg #[.int .i64 eg, .slice A2 xs.length c2], .bool true]) (by simp [results, Try.results38, go_sem, R.cell (i := 0) rfl, R.cell (i := 1) rfl]) rfl ⟨A2, c2, rfl, (o2.same (by (with_reducible repeat' first | exact Same.refl _ _ _ | assumption | (refine Same.setCell ?_ (by first | omega | (simp; omega) | (simp; done) | (dsimp only; omega)) _) | (refine Same.alloc ?_ (by first | omega | (simp; omega) | (simp; done) | (dsimp only; omega)) _) | (refine Same.drewN ?_ _) | (refine Same.drew ?_) | (refine Same.trans ?_ (Same.of_below hb3 (by first | omega | (simp; omega) | (simp; done) | (dsimp only; omega))))))).mono (by first | omega | (simp; omega) | (simp; done) | (dsimp only; omega)) (by first | omega | (simp; omega) | (simp; done) | (dsimp only; omega)), by (with_reducible repeat' first | exact Below.refl _ _ | assumption | (refine Below.setCell ?_ (by first | omega | (simp; omega) | (simp; done) | (dsimp only; omega)) _) | (refine Below.alloc ?_ (by first | omega | (simp; omega) | (simp; done) | (dsimp only; omega)) _) | (refine below_drewN ?_ _) | (refine Below.drew ?_) | (refine Below.trans ?_ (hb3.mono (by first | omega | (simp; omega) | (simp; done) | (dsimp only; omega)))) | (refine Below.trans ?_ (hb2.mono (by first | omega | (simp; omega) | (simp; done) | (dsimp only; omega)))) | (refine Below.trans ?_ (hbw.mono (by first | omega | (simp; omega) | (simp; done) | (dsimp only; omega)))))⟩
end Go.Proofs.Ytnnjilkjjdiblaa

/-! ## ParseS -/
namespace Go.Proofs.Ytnnjilkjjdiblaa
set_option maxRecDepth 100000
open Go.RowKit

theorem extract_two (s : ByteArray) : (s.extract 0 2).toList = s.data.toList.take 2 := by
  rw [ByteArray.toList_eq, ByteArray.data_extract, Array.toList_extract]
  simp [List.extract_eq_take_drop]
set_option maxHeartbeats 2000000 in
theorem l3Cut_any (s : ByteArray) (w : World) : Calls Try.prog 117 #[.string s] w fun e w' => e = .returned (.tuple #[.int .i64 (cutM s).1, .string (cutM s).2]) ∧ ∃ n, w' = w.drewN n := by
  by_cases hl : 1 < s.size
  · have hl' : (1 : Int) < (s.size : Int) := by omega
    by_cases h1 : s.data.toList.take 2 = [109, 58]
    · have e1 : ((s.extract 0 2).toList == [109, 58]) = true := by rw [extract_two, h1]; rfl
      have HC := Lib.hid (show cutM s = (1, s.extract 2 s.size) by rw [cutM, if_pos h1])
      clear h1
      go_enter Try.func117, Try.ntmps117
      go_wp2_with fail
      go_quiet (fail)
      go_wp2
      exact bodyPost_ret (v := .tuple #[.int .i64 1, .string (s.extract 2 s.size)]) (by simp [results, Try.results117, go_sem]) rfl ⟨by rw [HC.out], _, rfl⟩
    · by_cases h2 : s.data.toList.take 2 = [119, 58]
      · have e1 : ((s.extract 0 2).toList == [109, 58]) = false := by rw [extract_two]; simpa using h1
        have e2 : ((s.extract 0 2).toList == [119, 58]) = true := by rw [extract_two, h2]; rfl
        have HC := Lib.hid (show cutM s = (2, s.extract 2 s.size) by rw [cutM, if_neg h1, if_pos h2])
        clear h1 h2
        go_enter Try.func117, Try.ntmps117
        go_wp2_with fail
        go_quiet (fail)
        go_wp2
        exact bodyPost_ret (v := .tuple #[.int .i64 2, .string (s.extract 2 s.size)]) (by simp [results, Try.results117, go_sem]) rfl ⟨by rw [HC.out], _, rfl⟩
      · have e1 : ((s.extract 0 2).toList == [109, 58]) = false := by rw [extract_two]; simpa using h1
        have e2 : ((s.extract 0 2).toList == [119, 58]) = false := by rw [extract_two]; simpa using h2
        have HC := Lib.hid (show cutM s = (0, s) by rw [cutM, if_neg h1, if_neg h2])
        clear h1 h2
        go_enter Try.func117, Try.ntmps117
        go_wp2
        exact bodyPost_ret (v := .tuple #[.int .i64 0, .string s]) (by simp [results, Try.results117, go_sem]) rfl ⟨by rw [HC.out], 0, rfl⟩
  · have hl' : ¬ (1 : Int) < (s.size : Int) := by omega
    have hlen : (s.data.toList.take 2).length ≤ 1 := by rw [List.length_take]; simp; omega
    have HC := Lib.hid (show cutM s = (0, s) by rw [cutM, if_neg (fun h => by rw [h] at hlen; simp at hlen), if_neg (fun h => by rw [h] at hlen; simp at hlen)])
    clear hlen
    go_enter Try.func117, Try.ntmps117
    go_wp2
    exact bodyPost_ret (v := .tuple #[.int .i64 0, .string s]) (by simp [results, Try.results117, go_sem]) rfl ⟨by rw [HC.out], 0, rfl⟩

theorem l3Letters_quiet (w : World) (n : Nat) : Calls Try.prog 183 #[] (w.drewN n) fun e w'' => e = .returned (.string ⟨#[70, 77, 66, 90, 83, 68, 72, 87]⟩) ∧ ∃ m, w'' = w.drewN m :=
  (l3Letters_any _).mono fun _ _ ⟨he, hw⟩ => ⟨he, n, hw.symm⟩
def letAt (j : Nat) : UInt8 := charOf ((j : Int) + 1)
def kindTo (c : UInt8) : Nat → Int
  | 0 => 0
  | j + 1 => if letAt j = c then (j : Int) + 1 else kindTo c j
theorem kindTo_eight (c : UInt8) : kindTo c 8 = kindOf c := by
  unfold kindOf
  have l : letAt 0 = 70 ∧ letAt 1 = 77 ∧ letAt 2 = 66 ∧ letAt 3 = 90 ∧ letAt 4 = 83 ∧ letAt 5 = 68 ∧ letAt 6 = 72 ∧ letAt 7 = 87 := by decide
  obtain ⟨l0, l1, l2, l3, l4, l5, l6, l7⟩ := l
  simp only [kindTo, l0, l1, l2, l3, l4, l5, l6, l7]
  by_cases h1 : c = 70
  · subst h1; decide
  by_cases h2 : c = 77
  · subst h2; decide
  by_cases h3 : c = 66
  · subst h3; decide
  by_cases h4 : c = 90
  · subst h4; decide
  by_cases h5 : c = 83
  · subst h5; decide
  by_cases h6 : c = 68
  · subst h6; decide
  by_cases h7 : c = 72
  · subst h7; decide
  by_cases h8 : c = 87
  · subst h8; decide
  simp only [if_neg h1, if_neg h2, if_neg h3, if_neg h4, if_neg h5, if_neg h6, if_neg h7, if_neg h8, if_neg (Ne.symm h1), if_neg (Ne.symm h2), if_neg (Ne.symm h3), if_neg (Ne.symm h4), if_neg (Ne.symm h5), if_neg (Ne.symm h6), if_neg (Ne.symm h7), if_neg (Ne.symm h8)]
def RetSteps (w : World) (m : List Step) (e : Ending) (w' : World) : Prop :=
  ∃ (A : Option Addr) (c : Nat), e = .returned (.slice A m.length c) ∧ EStep.OS w' w.heap.size w'.heap.size (.slice A m.length c) m ∧ Below w.heap.size w w'
def ReadSRel (bs : List UInt8) (w : World) (v a i : Value) (wr : World) : Prop :=
  ∃ (k : Nat) (A : Option Addr) (c : Nat) (xs : List Step) (age : Int), k ≤ bs.length ∧ i = .int .i64 k ∧ a = .int .i64 age ∧ v = .slice A xs.length c ∧ EStep.OS wr w.heap.size wr.heap.size (.slice A xs.length c) xs ∧ xs.length ≤ 20 ∧ xs ++ readS xs.length age (bs.drop k) = readS 0 0 bs ∧ Below w.heap.size w wr
def KindRel (ch : UInt8) (W : World) (v i : Value) (wr : World) : Prop :=
  ∃ j n : Nat, j ≤ 8 ∧ i = .int .i64 j ∧ v = .int .i64 (kindTo ch j) ∧ wr = W.drewN n
theorem readS_e {bs : List UInt8} {xs : List Step} {age : Int} {k : Nat} {c : UInt8} {r ys : List UInt8} (h : xs ++ readS xs.length age (bs.drop k) = readS 0 0 ys) (hd : bs.drop k = c :: r) (hx : xs.length < 20) (hc : c = 101) : xs ++ readS xs.length 1 r = readS 0 0 ys := by
  rw [← h, hd, readS, if_neg (by omega), if_pos hc]
theorem readS_y {bs : List UInt8} {xs : List Step} {age : Int} {k : Nat} {c : UInt8} {r ys : List UInt8} (h : xs ++ readS xs.length age (bs.drop k) = readS 0 0 ys) (hd : bs.drop k = c :: r) (hx : xs.length < 20) (hc : c ≠ 101) (hc' : c = 121) : xs ++ readS xs.length 2 r = readS 0 0 ys := by
  rw [← h, hd, readS, if_neg (by omega), if_neg hc, if_pos hc']
theorem readS_step {bs : List UInt8} {xs : List Step} {age : Int} {k : Nat} {c : UInt8} {r ys : List UInt8} (h : xs ++ readS xs.length age (bs.drop k) = readS 0 0 ys) (hd : bs.drop k = c :: r) (hx : xs.length < 20) (hc : c ≠ 101) (hc' : c ≠ 121) : (xs ++ [(⟨kindOf c, age⟩ : Step)]) ++ readS (xs ++ [(⟨kindOf c, age⟩ : Step)]).length 0 r = readS 0 0 ys := by
  rw [← h, hd]
  conv => rhs; rw [readS, if_neg (by omega), if_neg hc, if_neg hc']
  simp

set_option maxHeartbeats 4000000 in
theorem l3Read_any (s : ByteArray) (w : World) (hs : s.size ≤ 1048576) : Calls Try.prog 118 #[.string s] w (RetSteps w (stepsM s.data.toList)) := by
  have hrd : s.toList = s.data.toList := by rw [ByteArray.toList_eq]
  by_cases hd : s.data.toList = [46]
  · have nd : (s.toList == [46]) = true := by rw [hrd, hd]; rfl
    have HN := Lib.hid (show stepsM s.data.toList = [] by rw [stepsM, if_pos hd])
    clear hd hrd
    go_enter Try.func118, Try.ntmps118
    go_wp2
    go_ret
    rw [HN.out]
    exact ⟨_, _, rfl, (Elem.OS.made0 (E := EStep) w), by (with_reducible repeat' first | exact Below.refl _ _ | assumption | (refine Below.setCell ?_ (by first | omega | (simp; omega) | (simp; done) | (dsimp only; omega)) _) | (refine Below.alloc ?_ (by first | omega | (simp; omega) | (simp; done) | (dsimp only; omega)) _) | (refine below_drewN ?_ _) | (refine Below.drew ?_))⟩
  · have nd : (s.toList == [46]) = false := by rw [hrd]; simpa using hd
    have HN := Lib.hid (show stepsM s.data.toList = readS 0 0 s.data.toList by rw [stepsM, if_neg hd])
    clear hd hrd
    rw [HN.out]
    go_enter Try.func118, Try.ntmps118
    go_wp2
    go_loopw [3, 4, 5] (fun v a i wr => ReadSRel s.data.toList w v a i wr) (fun _ _ i _ => s.size - (intOf i).toNat)
    case atStart => exact ⟨0, _, _, [], 0, Nat.zero_le _, rfl, rfl, rfl, (Elem.OS.made0 (E := EStep) w), by simp, rfl, by (with_reducible repeat' first | exact Below.refl _ _ | assumption | (refine Below.setCell ?_ (by first | omega | (simp; omega) | (simp; done) | (dsimp only; omega)) _) | (refine Below.alloc ?_ (by first | omega | (simp; omega) | (simp; done) | (dsimp only; omega)) _) | (refine below_drewN ?_ _) | (refine Below.drew ?_))⟩
    case round =>
      obtain ⟨k, A, c, xs, age, hk, rfl, rfl, rfl, ho, hx, hre, hb⟩ := hrel
      have hk' : k ≤ s.size := by simpa using hk
      have HRE := Lib.hid hre; clear hre hk
      have z := hb.size
      by_cases hlt : k < s.size
      · by_cases hx20 : xs.length < 20
        · have hd := bytes_drop hlt
          obtain ⟨ch, hch⟩ : ∃ ch, s[k] = ch := ⟨_, rfl⟩
          rw [hch] at hd
          have HD := Lib.hid hd
          clear hd
          by_cases h101 : ch = 101
          · have n1 : ((ch.toNat : Int) == 101) = true := by rw [h101]; rfl
            have HY := Lib.hid (readS_e HRE.out HD.out hx20 h101)
            clear h101
            go_wp2
            exact ⟨⟨k + 1, A, c, xs, 1, by simp; omega, by go_num, rfl, rfl, ho, hx, HY.out, hb⟩, by simp [intOf]; omega⟩
          · have n1 : ((ch.toNat : Int) == 101) = false := byte_ne h101
            by_cases h121 : ch = 121
            · have n2 : ((ch.toNat : Int) == 121) = true := by rw [h121]; rfl
              have HY := Lib.hid (readS_y HRE.out HD.out hx20 h101 h121)
              clear h101 h121
              go_wp2
              exact ⟨⟨k + 1, A, c, xs, 2, by simp; omega, by go_num, rfl, rfl, ho, hx, HY.out, hb⟩, by simp [intOf]; omega⟩
            · have n2 : ((ch.toNat : Int) == 121) = false := byte_ne h121
              have HY := Lib.hid (readS_step HRE.out HD.out hx20 h101 h121)
              clear h101 h121
              go_upto_region 15 with fail
              obtain ⟨wo, rfl⟩ : ∃ wo : World, wo = wr := ⟨_, rfl⟩
              go_loopw [6, 7] (fun v i w2 => KindRel ch wo v i w2) (fun _ i _ => 8 - (intOf i).toNat)
              case atStart => exact ⟨0, 0, Nat.zero_le _, rfl, rfl, rfl⟩
              case round =>
                obtain ⟨j, n, hj, rfl, rfl, hw⟩ := hrel
                have HW := Lib.hid hw; clear hw
                by_cases hlj : j < 8
                · by_cases hc : letAt j = ch
                  · have HK := Lib.hid (show kindTo ch (j + 1) = (j : Int) + 1 by rw [kindTo, if_pos hc])
                    have hcn : (((letAt j).toNat : Int) == (ch.toNat : Int)) = true := by rw [hc]; simp
                    clear hc
                    obtain ⟨kt, hkt⟩ : ∃ kt, kindTo ch j = kt := ⟨_, rfl⟩
                    rw [hkt]; clear hkt
                    rcases (by omega : j = 0 ∨ j = 1 ∨ j = 2 ∨ j = 3 ∨ j = 4 ∨ j = 5 ∨ j = 6 ∨ j = 7) with rfl | rfl | rfl | rfl | rfl | rfl | rfl | rfl
                    · have hix : (⟨#[70, 77, 66, 90, 83, 68, 72, 87]⟩ : ByteArray)[0]'(by decide) = 70 := rfl
                      have hcm : ((70 : Int) == (ch.toNat : Int)) = true := hcn
                      clear hcn
                      go_wp2_with fail
                      go_quiet ((go_at_call 183; exact l3Letters_quiet _ _))
                      go_wp2
                      exact ⟨⟨1, _, by omega, by go_num, by rw [HK.out]; rfl, by rw [HW.out, World.drewN_drewN]⟩, by simp [intOf]⟩
                    · have hix : (⟨#[70, 77, 66, 90, 83, 68, 72, 87]⟩ : ByteArray)[1]'(by decide) = 77 := rfl
                      have hcm : ((77 : Int) == (ch.toNat : Int)) = true := hcn
                      clear hcn
                      go_wp2_with fail
                      go_quiet ((go_at_call 183; exact l3Letters_quiet _ _))
                      go_wp2
                      exact ⟨⟨2, _, by omega, by go_num, by rw [HK.out]; rfl, by rw [HW.out, World.drewN_drewN]⟩, by simp [intOf]⟩
                    · have hix : (⟨#[70, 77, 66, 90, 83, 68, 72, 87]⟩ : ByteArray)[2]'(by decide) = 66 := rfl
                      have hcm : ((66 : Int) == (ch.toNat : Int)) = true := hcn
                      clear hcn
                      go_wp2_with fail
                      go_quiet ((go_at_call 183; exact l3Letters_quiet _ _))
                      go_wp2
                      exact ⟨⟨3, _, by omega, by go_num, by rw [HK.out]; rfl, by rw [HW.out, World.drewN_drewN]⟩, by simp [intOf]⟩
                    · have hix : (⟨#[70, 77, 66, 90, 83, 68, 72, 87]⟩ : ByteArray)[3]'(by decide) = 90 := rfl
                      have hcm : ((90 : Int) == (ch.toNat : Int)) = true := hcn
                      clear hcn
                      go_wp2_with fail
                      go_quiet ((go_at_call 183; exact l3Letters_quiet _ _))
                      go_wp2
                      exact ⟨⟨4, _, by omega, by go_num, by rw [HK.out]; rfl, by rw [HW.out, World.drewN_drewN]⟩, by simp [intOf]⟩
                    · have hix : (⟨#[70, 77, 66, 90, 83, 68, 72, 87]⟩ : ByteArray)[4]'(by decide) = 83 := rfl
                      have hcm : ((83 : Int) == (ch.toNat : Int)) = true := hcn
                      clear hcn
                      go_wp2_with fail
                      go_quiet ((go_at_call 183; exact l3Letters_quiet _ _))
                      go_wp2
                      exact ⟨⟨5, _, by omega, by go_num, by rw [HK.out]; rfl, by rw [HW.out, World.drewN_drewN]⟩, by simp [intOf]⟩
                    · have hix : (⟨#[70, 77, 66, 90, 83, 68, 72, 87]⟩ : ByteArray)[5]'(by decide) = 68 := rfl
                      have hcm : ((68 : Int) == (ch.toNat : Int)) = true := hcn
                      clear hcn
                      go_wp2_with fail
                      go_quiet ((go_at_call 183; exact l3Letters_quiet _ _))
                      go_wp2
                      exact ⟨⟨6, _, by omega, by go_num, by rw [HK.out]; rfl, by rw [HW.out, World.drewN_drewN]⟩, by simp [intOf]⟩
                    · have hix : (⟨#[70, 77, 66, 90, 83, 68, 72, 87]⟩ : ByteArray)[6]'(by decide) = 72 := rfl
                      have hcm : ((72 : Int) == (ch.toNat : Int)) = true := hcn
                      clear hcn
                      go_wp2_with fail
                      go_quiet ((go_at_call 183; exact l3Letters_quiet _ _))
                      go_wp2
                      exact ⟨⟨7, _, by omega, by go_num, by rw [HK.out]; rfl, by rw [HW.out, World.drewN_drewN]⟩, by simp [intOf]⟩
                    · have hix : (⟨#[70, 77, 66, 90, 83, 68, 72, 87]⟩ : ByteArray)[7]'(by decide) = 87 := rfl
                      have hcm : ((87 : Int) == (ch.toNat : Int)) = true := hcn
                      clear hcn
                      go_wp2_with fail
                      go_quiet ((go_at_call 183; exact l3Letters_quiet _ _))
                      go_wp2
                      exact ⟨⟨8, _, by omega, by go_num, by rw [HK.out]; rfl, by rw [HW.out, World.drewN_drewN]⟩, by simp [intOf]⟩
                  · have HK := Lib.hid (show kindTo ch (j + 1) = kindTo ch j by rw [kindTo, if_neg hc])
                    have hcn : (((letAt j).toNat : Int) == (ch.toNat : Int)) = false := byte_ne hc
                    clear hc
                    obtain ⟨kt, hkt⟩ : ∃ kt, kindTo ch j = kt := ⟨_, rfl⟩
                    rw [hkt] at HK ⊢; clear hkt
                    rcases (by omega : j = 0 ∨ j = 1 ∨ j = 2 ∨ j = 3 ∨ j = 4 ∨ j = 5 ∨ j = 6 ∨ j = 7) with rfl | rfl | rfl | rfl | rfl | rfl | rfl | rfl
                    · have hix : (⟨#[70, 77, 66, 90, 83, 68, 72, 87]⟩ : ByteArray)[0]'(by decide) = 70 := rfl
                      have hcm : ((70 : Int) == (ch.toNat : Int)) = false := hcn
                      clear hcn
                      go_wp2_with fail
                      go_quiet ((go_at_call 183; exact l3Letters_quiet _ _))
                      go_wp2
                      exact ⟨⟨1, _, by omega, by go_num, by rw [HK.out], by rw [HW.out, World.drewN_drewN]⟩, by simp [intOf]⟩
                    · have hix : (⟨#[70, 77, 66, 90, 83, 68, 72, 87]⟩ : ByteArray)[1]'(by decide) = 77 := rfl
                      have hcm : ((77 : Int) == (ch.toNat : Int)) = false := hcn
                      clear hcn
                      go_wp2_with fail
                      go_quiet ((go_at_call 183; exact l3Letters_quiet _ _))
                      go_wp2
                      exact ⟨⟨2, _, by omega, by go_num, by rw [HK.out], by rw [HW.out, World.drewN_drewN]⟩, by simp [intOf]⟩
                    · have hix : (⟨#[70, 77, 66, 90, 83, 68, 72, 87]⟩ : ByteArray)[2]'(by decide) = 66 := rfl
                      have hcm : ((66 : Int) == (ch.toNat : Int)) = false := hcn
                      clear hcn
                      go_wp2_with fail
                      go_quiet ((go_at_call 183; exact l3Letters_quiet _ _))
                      go_wp2
                      exact ⟨⟨3, _, by omega, by go_num, by rw [HK.out], by rw [HW.out, World.drewN_drewN]⟩, by simp [intOf]⟩
                    · have hix : (⟨#[70, 77, 66, 90, 83, 68, 72, 87]⟩ : ByteArray)[3]'(by decide) = 90 := rfl
                      have hcm : ((90 : Int) == (ch.toNat : Int)) = false := hcn
                      clear hcn
                      go_wp2_with fail
                      go_quiet ((go_at_call 183; exact l3Letters_quiet _ _))
                      go_wp2
                      exact ⟨⟨4, _, by omega, by go_num, by rw [HK.out], by rw [HW.out, World.drewN_drewN]⟩, by simp [intOf]⟩
                    · have hix : (⟨#[70, 77, 66, 90, 83, 68, 72, 87]⟩ : ByteArray)[4]'(by decide) = 83 := rfl
                      have hcm : ((83 : Int) == (ch.toNat : Int)) = false := hcn
                      clear hcn
                      go_wp2_with fail
                      go_quiet ((go_at_call 183; exact l3Letters_quiet _ _))
                      go_wp2
                      exact ⟨⟨5, _, by omega, by go_num, by rw [HK.out], by rw [HW.out, World.drewN_drewN]⟩, by simp [intOf]⟩
                    · have hix : (⟨#[70, 77, 66, 90, 83, 68, 72, 87]⟩ : ByteArray)[5]'(by decide) = 68 := rfl
                      have hcm : ((68 : Int) == (ch.toNat : Int)) = false := hcn
                      clear hcn
                      go_wp2_with fail
                      go_quiet ((go_at_call 183; exact l3Letters_quiet _ _))
                      go_wp2
                      exact ⟨⟨6, _, by omega, by go_num, by rw [HK.out], by rw [HW.out, World.drewN_drewN]⟩, by simp [intOf]⟩
                    · have hix : (⟨#[70, 77, 66, 90, 83, 68, 72, 87]⟩ : ByteArray)[6]'(by decide) = 72 := rfl
                      have hcm : ((72 : Int) == (ch.toNat : Int)) = false := hcn
                      clear hcn
                      go_wp2_with fail
                      go_quiet ((go_at_call 183; exact l3Letters_quiet _ _))
                      go_wp2
                      exact ⟨⟨7, _, by omega, by go_num, by rw [HK.out], by rw [HW.out, World.drewN_drewN]⟩, by simp [intOf]⟩
                    · have hix : (⟨#[70, 77, 66, 90, 83, 68, 72, 87]⟩ : ByteArray)[7]'(by decide) = 87 := rfl
                      have hcm : ((87 : Int) == (ch.toNat : Int)) = false := hcn
                      clear hcn
                      go_wp2_with fail
                      go_quiet ((go_at_call 183; exact l3Letters_quiet _ _))
                      go_wp2
                      exact ⟨⟨8, _, by omega, by go_num, by rw [HK.out], by rw [HW.out, World.drewN_drewN]⟩, by simp [intOf]⟩
                · obtain rfl : j = 8 := by omega
                  have hw := HW.out
                  subst hw
                  have HK8 := Lib.hid (kindTo_eight ch)
                  have hkin := kindOf_in ch
                  obtain ⟨kd, hkd⟩ : ∃ kd, kindOf ch = kd := ⟨_, rfl⟩
                  rw [hkd] at HK8 HY hkin
                  clear hkd
                  rw [HK8.out]
                  have hod := ho.same (Same.drewN (Same.refl w.heap.size wo.heap.size wo) n)
                  have hbd := below_drewN hb n
                  have zd : (wo.drewN n).heap.size = wo.heap.size := rfl
                  go_wp2_with (at_builtin; refine wpList_app1 tyStepS A xs ⟨kd, age⟩ [.int .i64 kd, .int .i64 age] ⟨(wo.drewN n).heap.size, 0, none⟩ 1 (lo := w.heap.size) (hi := wo.heap.size) (hod.same (by (with_reducible repeat' first | exact Same.refl _ _ _ | assumption | (refine Same.setCell ?_ (by first | omega | (simp; omega) | (simp; done) | (dsimp only; omega)) _) | (refine Same.alloc ?_ (by first | omega | (simp; omega) | (simp; done) | (dsimp only; omega)) _) | (refine Same.drewN ?_ _) | (refine Same.drew ?_)))) rfl (by simp) z rfl _ _ rfl rfl rfl rfl (cell_row_at _ #[.int .i64 kd, .int .i64 age] _ _ rfl) (by simp; exact ⟨rfl, rfl⟩) (by omega) (by decide) (fun A' c' w1 ho1 hg1 hc1 hm1 => ?_))
                  refine ⟨⟨k + 1, A', c', xs ++ [⟨kd, age⟩], 0, by simp; omega, by go_num, rfl, by simp, by simpa using ho1, by simp; omega, HY.out, ?_⟩, by simp [intOf]; omega⟩
                  exact Below.grown (w := (wo.drewN n).alloc _) (by (with_reducible repeat' first | exact Below.refl _ _ | assumption | (refine Below.setCell ?_ (by first | omega | (simp; omega) | (simp; done) | (dsimp only; omega)) _) | (refine Below.alloc ?_ (by first | omega | (simp; omega) | (simp; done) | (dsimp only; omega)) _) | (refine below_drewN ?_ _) | (refine Below.drew ?_) | (refine Below.trans ?_ (hbd.mono (by first | omega | (simp; omega) | (simp; done) | (dsimp only; omega)))))) hg1 (by simp; omega) (fun k hk => (ho.blkv k hk).1)
        · have hx' : xs.length = 20 := by omega
          have nx : ¬ (xs.length : Int) < 20 := by omega
          have HE := Lib.hid (show xs = readS 0 0 s.data.toList by rw [← HRE.out, readS_full (by omega)]; simp)
          clear hx'
          go_wp2
          go_ret
          exact ⟨A, c, by rw [← HE.out]; rfl, by rw [← HE.out]; exact ho, hb⟩
      · obtain rfl : k = s.size := by omega
        have HE := Lib.hid (show xs = readS 0 0 s.data.toList by rw [← HRE.out, List.drop_eq_nil_of_le (by simp)]; simp [readS])
        go_wp2
        go_ret
        exact ⟨A, c, by rw [← HE.out]; rfl, by rw [← HE.out]; exact ho, hb⟩

theorem parseS_not {s : ByteArray} {eg : Int} {xs : List Step} (h1 : (cutM s).1 = eg) (h2 : stepsM (cutM s).2.data.toList = xs) (h : typeOk ⟨eg, xs⟩ = false) : parseM s = (zeroTyp, false) := by
  rw [← parseS_eq, h1, h2, if_neg]; rintro ⟨k, _⟩; rw [h] at k; cases k
theorem parseS_text {s : ByteArray} {eg : Int} {xs : List Step} (h1 : (cutM s).1 = eg) (h2 : stepsM (cutM s).2.data.toList = xs) (h : textT ⟨eg, xs⟩ ≠ s) : parseM s = (zeroTyp, false) := by
  rw [← parseS_eq, h1, h2, if_neg]; rintro ⟨_, k⟩; exact h k
theorem parseS_good {s : ByteArray} {eg : Int} {xs : List Step} (h1 : (cutM s).1 = eg) (h2 : stepsM (cutM s).2.data.toList = xs) (h : typeOk ⟨eg, xs⟩ = true) (h' : textT ⟨eg, xs⟩ = s) : parseM s = (⟨eg, xs⟩, true) := by
  rw [← parseS_eq, h1, h2, if_pos ⟨h, h'⟩]

set_option maxHeartbeats 4000000 in
theorem specParseType_any (s : ByteArray) (w : World) (hs : s.size ≤ 1048576) : Calls Try.prog 37 #[.string s] w (RetTypB w (parseM s)) := by
  obtain ⟨eg, heg⟩ : ∃ eg, (cutM s).1 = eg := ⟨_, rfl⟩
  obtain ⟨r, hr⟩ : ∃ r, (cutM s).2 = r := ⟨_, rfl⟩
  have hrs : r.size ≤ 1048576 := by
    rw [← hr]; unfold cutM
    split
    · simp; omega
    · split
      · simp; omega
      · exact hs
  have HC := Lib.hid (show cutM s = (eg, r) by rw [← heg, ← hr])
  obtain ⟨xs, hxs⟩ : ∃ xs, stepsM r.data.toList = xs := ⟨_, rfl⟩
  have HX := Lib.hid hxs
  rw [← hr] at hxs
  go_enter Try.func37, Try.ntmps37
  go_upto_region 3 with (first
    | (go_at_call 117; refine (l3Cut_any _ _).mono ?_; rintro e w1 ⟨rfl, n, rfl⟩; rw [HC.out])
    | (go_at_call 118; (have H := l3Read_any r ((w.alloc (.cells #[.int .i64 0, .slice none 0 0] 30)).drewN n) hrs); rw [HX.out] at H; refine H.mono ?_; rintro e w2 ⟨A2, c2, rfl, o2, hb2⟩))
  simp only [World.size_drewN, szs] at o2 hb2
  have r0 : Blk ((w.alloc (.cells #[.int .i64 0, .slice none 0 0] 30)).drewN n) w.heap.size 30 #[.int .i64 0, .slice none 0 0] := Blk.new w rfl
  have r2 := r0.below hb2 (by simp)
  have hbw : Below w.heap.size w w2 := (below_drewN ((Below.refl _ _).alloc (Nat.le_refl _) _) n).trans (hb2.mono (by omega))
  have z2 := hb2.size
  simp only [World.size_drewN, szs] at z2
  generalize hW : w2.alloc (.cells #[.int .i64 eg, .slice A2 xs.length c2] 30) = W
  have r3 : Blk W w2.heap.size 30 #[.int .i64 eg, .slice A2 xs.length c2] := by subst hW; exact Blk.new _ rfl
  have q2 : Blk W w.heap.size 30 #[.int .i64 0, .slice none 0 0] := by subst hW; exact r2.alloc _
  have o3 : EStep.OS W (w.heap.size + 1) w2.heap.size (.slice A2 xs.length c2) xs := by subst hW; exact o2.same (by (with_reducible repeat' first | exact Same.refl _ _ _ | assumption | (refine Same.setCell ?_ (by first | omega | (simp; omega) | (simp; done) | (dsimp only; omega)) _) | (refine Same.alloc ?_ (by first | omega | (simp; omega) | (simp; done) | (dsimp only; omega)) _) | (refine Same.drewN ?_ _) | (refine Same.drew ?_)))
  have hb3 : Below w.heap.size w W := by subst hW; (with_reducible repeat' first | exact Below.refl _ _ | assumption | (refine Below.setCell ?_ (by first | omega | (simp; omega) | (simp; done) | (dsimp only; omega)) _) | (refine Below.alloc ?_ (by first | omega | (simp; omega) | (simp; done) | (dsimp only; omega)) _) | (refine below_drewN ?_ _) | (refine Below.drew ?_) | (refine Below.trans ?_ (hbw.mono (by first | omega | (simp; omega) | (simp; done) | (dsimp only; omega)))))
  have z3 : w2.heap.size + 1 = W.heap.size := by subst hW; simp
  clear hW r0 r2 o2 hb2 hbw
  have a0 := r3.cell (i := 0) rfl; have a1 := r3.cell (i := 1) rfl
  have lW : w2.heap.size < W.heap.size := by omega
  cases ht : typeOk ⟨eg, xs⟩ with
  | false =>
    have HT := Lib.hid ht
    have HN := Lib.hid (parseS_not heg hxs ht)
    clear ht heg hr hxs
    go_wp2_with (go_at_call 85; (with_reducible refine (specIsType_any eg A2 c2 _ _ xs _ o3.read.as (by omega)).mono ?_); rintro e w4 ⟨rfl, hb4⟩; simp only [HT.out]; (have q4 := q2.below hb4 q2.lt); (have g0 := q4.cell (i := 0) rfl); (have g1 := q4.cell (i := 1) rfl); (have f0 := q4.free 0); (have f1 := q4.free 1))
    have R := (q4.set 0 (.int .i64 0)).set 1 (.slice none 0 0)
    rw [HN.out]
    exact bodyPost_ret (v := .tuple #[.agg #[.int .i64 0, .slice none 0 0], .bool false]) (by simp [results, Try.results37, go_sem, R.cell (i := 0) rfl, R.cell (i := 1) rfl]) rfl ⟨none, 0, rfl, Elem.OS.nil, by (with_reducible repeat' first | exact Below.refl _ _ | assumption | (refine Below.setCell ?_ (by first | omega | (simp; omega) | (simp; done) | (dsimp only; omega)) _) | (refine Below.alloc ?_ (by first | omega | (simp; omega) | (simp; done) | (dsimp only; omega)) _) | (refine below_drewN ?_ _) | (refine Below.drew ?_) | (refine Below.trans ?_ (hb4.mono (by first | omega | (simp; omega) | (simp; done) | (dsimp only; omega)))) | (refine Below.trans ?_ (hb3.mono (by first | omega | (simp; omega) | (simp; done) | (dsimp only; omega)))))⟩
  | true =>
    have HT := Lib.hid ht
    have htl : (textT ⟨eg, xs⟩).toList = (textT ⟨eg, xs⟩).data.toList := by rw [ByteArray.toList_eq]
    have hsl : s.toList = s.data.toList := by rw [ByteArray.toList_eq]
    obtain ⟨tx, htx⟩ : ∃ tx, textT ⟨eg, xs⟩ = tx := ⟨_, rfl⟩
    rw [htx] at htl
    have HTX := Lib.hid htx
    by_cases he : tx = s
    · have HN := Lib.hid (parseS_good heg hxs ht (by rw [htx]; exact he))
      have n1 : (!(tx.toList == s.toList)) = false := by rw [he]; simp
      clear ht heg hr hxs he htx htl hsl
      go_wp2_with (first
        | (go_at_call 85; (with_reducible refine (specIsType_any eg A2 c2 _ _ xs _ o3.read.as (by omega)).mono ?_); rintro e w4 ⟨rfl, hb4⟩; simp only [HT.out]; (have q4 := q2.below hb4 q2.lt); (have s4 := r3.below hb4 lW); (have o4 := o3.same (Same.of_below hb4 (by omega))); (have a0 := s4.cell (i := 0) rfl); (have a1 := s4.cell (i := 1) rfl); (have z4 := hb4.size); (have l4 : w2.heap.size < w4.heap.size := by omega))
        | (go_at_call 119; (with_reducible refine (specFormatType_any eg A2 c2 _ _ xs _ o4.read.as (by omega)).mono ?_); rintro e w5 ⟨rfl, hb5⟩; rw [HTX.out]; (have q5 := q4.below hb5 q4.lt); (have s5 := s4.below hb5 l4); (have o5 := o4.same (Same.of_below hb5 (by omega))); (have a0 := s5.cell (i := 0) rfl); (have a1 := s5.cell (i := 1) rfl); (have g0 := q5.cell (i := 0) rfl); (have g1 := q5.cell (i := 1) rfl); (have f0 := q5.free 0); (have f1 := q5.free 1); (have z5 := hb5.size)))
      have R := (q5.set 0 (.int .i64 eg)).set 1 (.slice A2 xs.length c2)
      rw [HN.out]
      exact bodyPost_ret (v := .tuple #[.agg #[.int .i64 eg, .slice A2 xs.length c2], .bool true]) (by simp [results, Try.results37, go_sem, R.cell (i := 0) rfl, R.cell (i := 1) rfl]) rfl ⟨A2, c2, rfl, (o5.same (by (with_reducible repeat' first | exact Same.refl _ _ _ | assumption | (refine Same.setCell ?_ (by first | omega | (simp; omega) | (simp; done) | (dsimp only; omega)) _) | (refine Same.alloc ?_ (by first | omega | (simp; omega) | (simp; done) | (dsimp only; omega)) _) | (refine Same.drewN ?_ _) | (refine Same.drew ?_)))).mono (by first | omega | (simp; omega) | (simp; done) | (dsimp only; omega)) (by first | omega | (simp; omega) | (simp; done) | (dsimp only; omega)), by (with_reducible repeat' first | exact Below.refl _ _ | assumption | (refine Below.setCell ?_ (by first | omega | (simp; omega) | (simp; done) | (dsimp only; omega)) _) | (refine Below.alloc ?_ (by first | omega | (simp; omega) | (simp; done) | (dsimp only; omega)) _) | (refine below_drewN ?_ _) | (refine Below.drew ?_) | (refine Below.trans ?_ (hb5.mono (by first | omega | (simp; omega) | (simp; done) | (dsimp only; omega)))) | (refine Below.trans ?_ (hb4.mono (by first | omega | (simp; omega) | (simp; done) | (dsimp only; omega)))) | (refine Below.trans ?_ (hb3.mono (by first | omega | (simp; omega) | (simp; done) | (dsimp only; omega)))))⟩
    · have HN := Lib.hid (parseS_text heg hxs (by rw [htx]; exact he))
      have n1 : (!(tx.toList == s.toList)) = true := by
        have : (tx.toList == s.toList) = false := by
          rw [beq_eq_false_iff_ne, htl, hsl]
          exact fun e => he (list_inj e)
        rw [this]; rfl
      clear ht heg hr hxs he htx htl hsl
      go_wp2_with (first
        | (go_at_call 85; (with_reducible refine (specIsType_any eg A2 c2 _ _ xs _ o3.read.as (by omega)).mono ?_); rintro e w4 ⟨rfl, hb4⟩; simp only [HT.out]; (have q4 := q2.below hb4 q2.lt); (have s4 := r3.below hb4 lW); (have o4 := o3.same (Same.of_below hb4 (by omega))); (have a0 := s4.cell (i := 0) rfl); (have a1 := s4.cell (i := 1) rfl); (have z4 := hb4.size); (have l4 : w2.heap.size < w4.heap.size := by omega))
        | (go_at_call 119; (with_reducible refine (specFormatType_any eg A2 c2 _ _ xs _ o4.read.as (by omega)).mono ?_); rintro e w5 ⟨rfl, hb5⟩; rw [HTX.out]; (have q5 := q4.below hb5 q4.lt); (have g0 := q5.cell (i := 0) rfl); (have g1 := q5.cell (i := 1) rfl); (have f0 := q5.free 0); (have f1 := q5.free 1); (have z5 := hb5.size)))
      have R := (q5.set 0 (.int .i64 0)).set 1 (.slice none 0 0)
      rw [HN.out]
      exact bodyPost_ret (v := .tuple #[.agg #[.int .i64 0, .slice none 0 0], .bool false]) (by simp [results, Try.results37, go_sem, R.cell (i := 0) rfl, R.cell (i := 1) rfl]) rfl ⟨none, 0, rfl, Elem.OS.nil, by (with_reducible repeat' first | exact Below.refl _ _ | assumption | (refine Below.setCell ?_ (by first | omega | (simp; omega) | (simp; done) | (dsimp only; omega)) _) | (refine Below.alloc ?_ (by first | omega | (simp; omega) | (simp; done) | (dsimp only; omega)) _) | (refine below_drewN ?_ _) | (refine Below.drew ?_) | (refine Below.trans ?_ (hb5.mono (by first | omega | (simp; omega) | (simp; done) | (dsimp only; omega)))) | (refine Below.trans ?_ (hb4.mono (by first | omega | (simp; omega) | (simp; done) | (dsimp only; omega)))) | (refine Below.trans ?_ (hb3.mono (by first | omega | (simp; omega) | (simp; done) | (dsimp only; omega)))))⟩
end Go.Proofs.Ytnnjilkjjdiblaa
