/-
  Families read from text, line by line: the reference's model and the program's agree.
-/
import Derived.Test.YthpcippgifmabaaGreatDoorReadM
namespace Go.Proofs.YthpcippgifmabaaGreatDoor
set_option maxRecDepth 100000
open Go.RowKit

def wUnion : ByteArray := ⟨#[117, 110, 105, 111, 110]⟩
def wMan : ByteArray := ⟨#[109, 97, 110]⟩
def wWoman : ByteArray := ⟨#[119, 111, 109, 97, 110]⟩
def idxM (s : ByteArray) (xs : List Person) : Int × Bool := if s = ⟨#[45]⟩ then (-1, true) else findFrom s xs 0
def sexNo (g : ByteArray) : Int := if g = wWoman then 2 else 1
def lineU (rd ro : ByteArray → Option Int) (f : Family) (a b c d : ByteArray) : Option Family :=
  if (findFrom a f.people 0).2 = true ∧ (findFrom b f.people 0).2 = true then
    match rd c, ro d with
    | some y, some z => some ⟨f.people, f.unions ++ [⟨(findFrom a f.people 0).1, (findFrom b f.people 0).1, y, z⟩]⟩
    | _, _ => none
  else none
def lineH (rd ro : ByteArray → Option Int) (f : Family) (g n a b c d : ByteArray) : Option Family :=
  if (idxM a f.people).2 = true ∧ (idxM b f.people).2 = true then
    match rd c, ro d with
    | some y, some z => some ⟨f.people ++ [⟨n, sexNo g, (idxM a f.people).1, (idxM b f.people).1, y, z⟩], f.unions⟩
    | _, _ => none
  else none
def lineM (rd ro : ByteArray → Option Int) (f : Family) : List ByteArray → Option Family
  | [u, a, b, c, d] => if u = wUnion then lineU rd ro f a b c d else none
  | [g, n, a, b, c, d] => if g = wMan ∨ g = wWoman then lineH rd ro f g n a b c d else none
  | _ => none
def words (l : List UInt8) : List ByteArray := (cut 32 l).map mkT
def linesM (rd ro : ByteArray → Option Int) : Family → List (List UInt8) → Option Family
  | f, [] => some f
  | f, l :: r => match lineM rd ro f (words l) with
    | none => none
    | some g => linesM rd ro g r
def rdS (s : ByteArray) : Option Int := some (readS s)
def doneM (s : ByteArray) : Option Family → Family × Bool
  | none => (⟨[], []⟩, false)
  | some f => if famOk f.people f.unions = true ∧ familyT f.people f.unions = s then (f, true) else (⟨[], []⟩, false)
/-- What the reference answers. -/
def parseS (s : ByteArray) : Family × Bool :=
  if 101 < (cut 10 s.data.toList).length then (⟨[], []⟩, false) else doneM s (linesM rdS rdS ⟨[], []⟩ (cut 10 s.data.toList).dropLast)
/-- What the program answers. -/
def parseP (s : ByteArray) : Family × Bool :=
  if s.data.toList = [] then doneM s (some ⟨[], []⟩) else if s.data.toList.getLast? ≠ some 10 then (⟨[], []⟩, false) else
    if 100 < (cut 10 s.data.toList.dropLast).length then (⟨[], []⟩, false) else doneM s (linesM readP openP ⟨[], []⟩ (cut 10 s.data.toList.dropLast))

theorem lineM_S {f g : Family} {ws : List ByteArray} (h : lineM readP openP f ws = some g) : lineM rdS rdS f ws = some g := by
  unfold lineM at h ⊢
  split at h
  · split at h
    · rename_i hu
      rw [if_pos hu]
      unfold lineU at h ⊢
      split at h
      · rename_i hq
        rw [if_pos hq]
        split at h
        · rename_i y z hy hz
          rw [rdS, rdS, readP_S hy, openP_S hz]
          exact h
        · cases h
      · cases h
    · cases h
  · split at h
    · rename_i hu
      rw [if_pos hu]
      unfold lineH at h ⊢
      split at h
      · rename_i hq
        rw [if_pos hq]
        split at h
        · rename_i y z hy hz
          rw [rdS, rdS, readP_S hy, openP_S hz]
          exact h
        · cases h
      · cases h
    · cases h
  · cases h
theorem linesM_S : ∀ {ls : List (List UInt8)} {f g : Family}, linesM readP openP f ls = some g → linesM rdS rdS f ls = some g := by
  intro ls
  induction ls with
  | nil => intro f g h; exact h
  | cons l r ih =>
    intro f g h
    rw [linesM] at h ⊢
    cases hl : lineM readP openP f (words l) with
    | none => rw [hl] at h; cases h
    | some f' =>
      rw [hl] at h
      rw [lineM_S hl]
      exact ih h
/-- A line as it is written. -/
structure Written (l : List UInt8) : Prop where
  same : ∀ f : Family, lineM readP openP f (words l) = lineM rdS rdS f (words l)
  clean : ∀ x ∈ l, x ≠ 10
theorem linesM_same : ∀ {ls : List (List UInt8)}, (∀ l ∈ ls, Written l) → ∀ f : Family, linesM readP openP f ls = linesM rdS rdS f ls := by
  intro ls
  induction ls with
  | nil => intro _ f; rfl
  | cons l r ih =>
    intro h f
    rw [linesM, linesM, (h l (by simp)).same f]
    cases lineM rdS rdS f (words l) with
    | none => rfl
    | some g => exact ih (fun y hy => h y (by simp [hy])) g

/-- Bytes that a field may hold. -/
def Plain (s : ByteArray) : Prop := ∀ x ∈ s.data.toList, x ≠ 32 ∧ x ≠ 10
theorem plain_name {s : ByteArray} (h : nameOk s = true) : Plain s := by
  intro x hx
  simp only [nameOk, Bool.and_eq_true, List.all_eq_true] at h
  have := h.2 x hx
  simp only [lower, decide_eq_true_eq] at this
  constructor
  · intro e; subst e; simp at this
  · intro e; subst e; simp at this
theorem plain_dash : Plain ⟨#[45]⟩ := by
  intro x hx
  have : x = 45 := by simpa using hx
  subst this; decide
theorem plain_year (n : Int) : Plain (yearT n) := by
  unfold yearT; split
  · exact plain_dash
  · rename_i h
    obtain ⟨u, rfl⟩ := Int.eq_ofNat_of_zero_le (by omega : 0 ≤ n)
    intro x hx
    have h2 := dec_dig u x (by rw [Lib.itoa_nonneg] at hx; exact hx)
    unfold isDig at h2
    constructor
    · intro e; subst e; simp at h2
    · intro e; subst e; simp at h2
theorem plain_nameT {xs : List Person} {ys : List Union} (h : famOk xs ys = true) (p : Int) : Plain (nameT xs p) := by
  unfold nameT; split
  · exact plain_dash
  · unfold personName; split
    · rename_i x hx
      exact plain_name (famOk_person h hx).name
    · intro x hx; cases hx
theorem plain_sex (s : Int) : Plain (sexT s) := by
  unfold sexT; split
  · intro x hx
    have : x = 109 ∨ x = 97 ∨ x = 110 := by simpa using hx
    rcases this with rfl | rfl | rfl <;> decide
  · intro x hx
    have : x = 119 ∨ x = 111 ∨ x = 109 ∨ x = 97 ∨ x = 110 := by simpa using hx
    rcases this with rfl | rfl | rfl | rfl | rfl <;> decide
theorem plain_union : Plain ⟨#[117, 110, 105, 111, 110]⟩ := by
  intro x hx
  have : x = 117 ∨ x = 110 ∨ x = 105 ∨ x = 111 ∨ x = 110 := by simpa using hx
  rcases this with rfl | rfl | rfl | rfl | rfl <;> decide
theorem words_six {a b c d e f : ByteArray} (ha : Plain a) (hb : Plain b) (hc : Plain c) (hd : Plain d) (he : Plain e) (hf : Plain f) : words (joinF [a, b, c, d, e, f]) = [a, b, c, d, e, f] := by
  rw [words, joinF_six, cut, cutL_clean fun x hx => (ha x hx).1, cutL_clean fun x hx => (hb x hx).1, cutL_clean fun x hx => (hc x hx).1, cutL_clean fun x hx => (hd x hx).1, cutL_clean fun x hx => (he x hx).1, cutL_last fun x hx => (hf x hx).1]
  rfl
theorem words_five {a b c d e : ByteArray} (ha : Plain a) (hb : Plain b) (hc : Plain c) (hd : Plain d) (he : Plain e) : words (joinF [a, b, c, d, e]) = [a, b, c, d, e] := by
  rw [words, joinF_five, cut, cutL_clean fun x hx => (ha x hx).1, cutL_clean fun x hx => (hb x hx).1, cutL_clean fun x hx => (hc x hx).1, cutL_clean fun x hx => (hd x hx).1, cutL_last fun x hx => (he x hx).1]
  rfl
theorem clean_six {a b c d e f : ByteArray} (ha : Plain a) (hb : Plain b) (hc : Plain c) (hd : Plain d) (he : Plain e) (hf : Plain f) : ∀ x ∈ joinF [a, b, c, d, e, f], x ≠ 10 := by
  intro x hx
  rw [joinF_six] at hx
  simp only [List.mem_append, List.mem_cons] at hx
  rcases hx with h | rfl | h | rfl | h | rfl | h | rfl | h | rfl | h
  · exact (ha x h).2
  · decide
  · exact (hb x h).2
  · decide
  · exact (hc x h).2
  · decide
  · exact (hd x h).2
  · decide
  · exact (he x h).2
  · decide
  · exact (hf x h).2
theorem clean_five {a b c d e : ByteArray} (ha : Plain a) (hb : Plain b) (hc : Plain c) (hd : Plain d) (he : Plain e) : ∀ x ∈ joinF [a, b, c, d, e], x ≠ 10 := by
  intro x hx
  rw [joinF_five] at hx
  simp only [List.mem_append, List.mem_cons] at hx
  rcases hx with h | rfl | h | rfl | h | rfl | h | rfl | h
  · exact (ha x h).2
  · decide
  · exact (hb x h).2
  · decide
  · exact (hc x h).2
  · decide
  · exact (hd x h).2
  · decide
  · exact (he x h).2
theorem years_readS {n : Int} (h0 : -1 ≤ n) (h1 : n ≤ 9999) : readS (yearT n) = n := openP_S (openP_year h0 h1)
theorem written_person {xs : List Person} {ys : List Union} {k : Nat} {x : Person} (h : famOk xs ys = true) (hk : xs[k]? = some x) : Written (joinF (fieldsP xs x)) := by
  have hp := famOk_person h hk
  have a := aliveOk_parts hp.alive
  have p1 := plain_sex x.sex
  have p2 := plain_name hp.name
  have p3 := plain_nameT h x.father
  have p4 := plain_nameT h x.mother
  have p5 := plain_year x.born
  have p6 := plain_year x.died
  refine ⟨fun f => ?_, clean_six p1 p2 p3 p4 p5 p6⟩
  rw [fieldsP, words_six p1 p2 p3 p4 p5 p6]
  simp only [lineM, lineH, rdS, readP_year a.2.1 a.2.2.1, openP_year (by omega : -1 ≤ x.died) (by omega), years_readS (by omega : -1 ≤ x.born) a.2.2.1, years_readS (by omega : -1 ≤ x.died) (by omega)]
theorem written_union {xs : List Person} {ys : List Union} {k : Nat} {y : Union} (h : famOk xs ys = true) (hk : ys[k]? = some y) : Written (joinF (fieldsU xs y)) := by
  obtain ⟨_, _, _, _, _, _, _, _, _, _, s0, s1, t1, _⟩ := famOk_union h hk
  have p1 := plain_union
  have p2 := plain_nameT h y.man
  have p3 := plain_nameT h y.woman
  have p4 := plain_year y.since
  have p5 := plain_year y.till
  refine ⟨fun f => ?_, clean_five p1 p2 p3 p4 p5⟩
  rw [fieldsU, words_five p1 p2 p3 p4 p5]
  simp only [lineM, lineU, rdS, readP_year s0 s1, openP_year (by omega : -1 ≤ y.till) (by omega), years_readS (by omega : -1 ≤ y.since) s1, years_readS (by omega : -1 ≤ y.till) (by omega)]
/-- The lines of a family's text. -/
def famLines (xs : List Person) (ys : List Union) : List (List UInt8) := xs.map (fun x => joinF (fieldsP xs x)) ++ ys.map fun y => joinF (fieldsU xs y)
theorem famLines_text (xs : List Person) (ys : List Union) : unionsL xs ys ys.length = (famLines xs ys).flatMap fun l => l ++ [10] := by
  rw [unionsL, peopleL, List.take_length, List.take_length, famLines, List.flatMap_append, List.flatMap_map, List.flatMap_map]
theorem famLines_written {xs : List Person} {ys : List Union} (h : famOk xs ys = true) : ∀ l ∈ famLines xs ys, Written l := by
  intro l hl
  rw [famLines, List.mem_append] at hl
  rcases hl with hl | hl
  · obtain ⟨x, hx, rfl⟩ := List.mem_map.1 hl
    obtain ⟨i, hi, rfl⟩ := List.getElem_of_mem hx
    exact written_person h (List.getElem?_eq_getElem hi)
  · obtain ⟨x, hx, rfl⟩ := List.mem_map.1 hl
    obtain ⟨i, hi, rfl⟩ := List.getElem_of_mem hx
    exact written_union h (List.getElem?_eq_getElem hi)
theorem familyT_data {xs : List Person} {ys : List Union} (h : famOk xs ys = true) : (familyT xs ys).data.toList = (famLines xs ys).flatMap fun l => l ++ [10] := by
  rw [familyT, if_pos h, ← famLines_text]
theorem flat_end : ∀ (ls : List (List UInt8)), (ls.flatMap fun l => l ++ [10]) = [] ∨ (ls.flatMap fun l => l ++ [10]).getLast? = some 10 := by
  intro ls
  induction ls with
  | nil => exact .inl rfl
  | cons l r ih =>
    right
    rw [List.flatMap_cons]
    rcases ih with h | h
    · rw [h]; simp
    · rw [List.getLast?_append, h]; rfl
theorem doneM_fail {s : ByteArray} {r : Option Family} (h : ∀ f, r = some f → famOk f.people f.unions = true → familyT f.people f.unions ≠ s) : doneM s r = (⟨[], []⟩, false) := by
  cases r with
  | none => rfl
  | some f =>
    rw [doneM, if_neg]
    rintro ⟨h1, h2⟩
    exact h f rfl h1 h2
/-- THE LAW: both answer alike. -/
theorem parse_same (s : ByteArray) : parseP s = parseS s := by
  by_cases h0 : s.data.toList = []
  · rw [parseP, if_pos h0, parseS, h0]; rfl
  rw [parseP, if_neg h0, parseS]
  by_cases h1 : s.data.toList.getLast? = some 10
  · rw [if_neg (by simpa using h1)]
    obtain ⟨t, ht⟩ : ∃ t, s.data.toList = t ++ [10] := by
      refine ⟨s.data.toList.dropLast, ?_⟩
      have := List.dropLast_concat_getLast h0
      rw [List.getLast?_eq_some_getLast h0] at h1
      injection h1 with h1
      rw [h1] at this
      exact this.symm
    rw [ht, List.dropLast_concat, cut_end, List.length_append, List.length_singleton]
    by_cases hl : 100 < (cut 10 t).length
    · rw [if_pos hl, if_pos (by omega)]
    rw [if_neg hl, if_neg (by omega), List.dropLast_concat]
    cases hP : linesM readP openP ⟨[], []⟩ (cut 10 t) with
    | some g => rw [linesM_S hP]
    | none =>
      refine (doneM_fail fun f hf hok he => ?_).symm
      have h2 := familyT_data hok
      rw [he, ht] at h2
      have hw := famLines_written hok
      have h3 := cut_lines (c := 10) fun l hl => (hw l hl).clean
      rw [← h2, cut_end] at h3
      have h4 : cut 10 t = famLines f.people f.unions := List.append_cancel_right h3
      rw [h4, linesM_same hw, ← h4, hf] at hP
      cases hP
  · rw [if_pos (by simpa using h1)]
    split
    · rfl
    · refine (doneM_fail fun f _ hok he => ?_).symm
      have h2 := familyT_data hok
      rw [he] at h2
      rcases flat_end (famLines f.people f.unions) with h3 | h3
      · rw [← h2] at h3; exact h0 h3
      · rw [← h2] at h3; exact h1 h3
end Go.Proofs.YthpcippgifmabaaGreatDoor
