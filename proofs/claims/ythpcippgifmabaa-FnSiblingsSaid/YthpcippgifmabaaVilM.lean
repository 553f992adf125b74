/-
  A family in the making: what keeps it valid.
-/
import Derived.Test.YthpcippgifmabaaGFam
namespace Go.Proofs.Ythpcippgifmabaa
set_option maxRecDepth 100000
open Go.RowKit

/-- The name of the i-th person drawn. -/
def called (i : Nat) : ByteArray := ⟨#[(#[97, 98, 99, 100, 101, 102, 103, 104, 105, 106, 107, 108, 109, 110, 111, 112, 113, 114, 115, 116, 117, 118, 119, 120, 121, 122] : Array UInt8).getD (i % 26) 0, (#[97, 101, 105, 111, 117] : Array UInt8).getD (i / 26 % 5) 0]⟩
def calledB (i : Nat) : UInt8 × UInt8 := ((#[97, 98, 99, 100, 101, 102, 103, 104, 105, 106, 107, 108, 109, 110, 111, 112, 113, 114, 115, 116, 117, 118, 119, 120, 121, 122] : Array UInt8).getD (i % 26) 0, (#[97, 101, 105, 111, 117] : Array UInt8).getD (i / 26 % 5) 0)
theorem called_inj {i j : Nat} (hi : i < 40) (hj : j < 40) (h : called i = called j) : i = j := by
  have h1 : calledB i = calledB j := by
    have h2 := congrArg (fun s => s.data.toList) h
    simp only [called, List.cons.injEq] at h2
    exact Prod.ext h2.1 h2.2.1
  have hall : ∀ a < 40, ∀ b < 40, calledB a = calledB b → a = b := by decide +kernel
  exact hall i hi j hj h1
theorem called_ok {i : Nat} (hi : i < 40) : nameOk (called i) = true := by
  have hall : ∀ a < 40, (lower (calledB a).1 && lower (calledB a).2) = true := by decide +kernel
  have h := hall i hi
  unfold nameOk
  rw [Bool.and_eq_true] at h
  show (decide (1 ≤ 2 ∧ 2 ≤ 12) && [(calledB i).1, (calledB i).2].all lower) = true
  simp [h.1, h.2]
/-- Person k is right. -/
structure Fit (xs : List Person) (k : Nat) (x : Person) : Prop where
  name : nameOk x.name = true
  alive : aliveOk x = true
  new : ∀ j y, j < k → xs[j]? = some y → y.name ≠ x.name
  dad : parentOk xs k x.father 1 1 = true
  mum : parentOk xs k x.mother 2 0 = true
theorem newName_iff {xs : List Person} {k : Nat} {s : ByteArray} : newName xs k s = true ↔ ∀ j y, j < k → xs[j]? = some y → y.name ≠ s := by
  unfold newName
  rw [List.all_eq_true]
  constructor
  · intro h j y hj hy e
    have hm : y ∈ xs.take k := by
      apply List.mem_of_getElem? (i := j)
      rw [List.getElem?_take, if_pos hj]; exact hy
    have := h y hm
    rw [e] at this
    simp [eqB] at this
  · intro h y hy
    obtain ⟨j, hj⟩ := List.getElem?_of_mem hy
    rw [List.getElem?_take] at hj
    split at hj
    · rename_i hjk
      have := h j y hjk hj
      simpa [eqB] using this
    · cases hj
theorem personOf_iff {xs : List Person} {k : Nat} {x : Person} : personOf xs k x = true ↔ Fit xs k x := by
  unfold personOf
  simp only [Bool.and_eq_true, newName_iff]
  constructor
  · rintro ⟨⟨⟨⟨a, b⟩, c⟩, d⟩, e⟩; exact ⟨a, b, c, d, e⟩
  · rintro ⟨a, b, c, d, e⟩; exact ⟨⟨⟨⟨a, b⟩, c⟩, d⟩, e⟩
theorem famOk_iff {xs : List Person} : famOk xs [] = true ↔ xs.length ≤ 40 ∧ (∀ k x, xs[k]? = some x → Fit xs k x) ∧ ∀ d ∈ depL xs xs.length, d ≤ 10 := by
  simp only [famOk, Bool.and_eq_true, decide_eq_true_eq, List.length_nil]
  have hf : flatOk (depL xs xs.length) xs.length = true ↔ ∀ d ∈ depL xs xs.length, d ≤ 10 := by
    unfold flatOk
    rw [List.take_of_length_le (by rw [depL_len]; exact Nat.le_refl _), List.all_eq_true]
    simp
  have hu : unionsOk xs [] 0 = true := rfl
  have hp : peopleOk xs xs.length = true ↔ ∀ k x, xs[k]? = some x → Fit xs k x := by
    unfold peopleOk
    rw [List.all_eq_true]
    constructor
    · intro h k x hk
      have := h k (List.mem_range.2 (List.getElem?_eq_some_iff.1 hk).1)
      rw [personOk_of hk] at this
      exact personOf_iff.1 this
    · intro h k hk
      have hk := List.mem_range.1 hk
      rw [personOk_of (List.getElem?_eq_getElem hk)]
      exact personOf_iff.2 (h k _ (List.getElem?_eq_getElem hk))
  rw [hf, hp]
  constructor
  · rintro ⟨⟨⟨⟨a, _⟩, b⟩, c⟩, _⟩; exact ⟨a, b, c⟩
  · rintro ⟨a, b, c⟩; exact ⟨⟨⟨⟨a, Nat.zero_le _⟩, b⟩, c⟩, hu⟩
theorem depL_same {xs zs : List Person} : ∀ (n : Nat), (∀ k, k < n → ∃ x z, xs[k]? = some x ∧ zs[k]? = some z ∧ x.father = z.father ∧ x.mother = z.mother) → depL xs n = depL zs n := by
  intro n
  induction n with
  | zero => intro _; rfl
  | succ n ih =>
    intro h
    obtain ⟨x, z, hx, hz, e1, e2⟩ := h n (Nat.lt_succ_self _)
    rw [depL_succ hx, depL_succ hz, ih fun k hk => h k (by omega), depOf, depOf, e1, e2]
theorem parentOk_push {xs : List Person} {x : Person} {k : Nat} {q s l : Int} (hk : k < xs.length) : parentOk (xs ++ [x]) k q s l = parentOk xs k q s l := by
  unfold parentOk
  split
  · rfl
  split
  · rfl
  · rename_i h1 h2
    rw [List.getElem?_append_left (by omega), List.getElem?_append_left hk]
/-- A parent as the drawing picks one. -/
def Par (xs : List Person) (q sex born : Int) : Prop := q = -1 ∨ ∃ (i : Nat) (y : Person), q = i ∧ xs[i]? = some y ∧ y.sex = sex ∧ y.born < born ∧ (depL xs xs.length).getD i 0 < 10
/-- .. with years of birth that grow slowly. -/
structure Grown (b : Int) (xs : List Person) : Prop where
  ok : famOk xs [] = true
  at_ : ∀ (k : Nat) (x : Person), xs[k]? = some x → x.name = called k ∧ x.born ≤ b + 30 * (k : Int) ∧ x.died = -1
theorem Grown.nil (b : Int) : Grown b [] := ⟨by decide +kernel, fun k x h => by simp at h⟩
theorem par_ok {xs : List Person} {x : Person} {b q s l : Int} (hg : Grown b xs) (h : Par xs q s x.born) : parentOk (xs ++ [x]) xs.length q s l = true := by
  rcases h with rfl | ⟨i, y, rfl, hy, hs, hb, _⟩
  · exact parentOk_none _ _ _ _
  · have hi := (List.getElem?_eq_some_iff.1 hy).1
    rw [parentOk_in (x := y) (y := x) hi (by rw [List.getElem?_append_left hi]; exact hy) (by simp)]
    have hd := (hg.at_ i y hy).2.2
    simp [parentIs, hs, hb, hd]
theorem par_dep {xs : List Person} {q s b : Int} (h : Par xs q s b) : upTo (depL xs xs.length) q ≤ 10 := by
  rcases h with rfl | ⟨i, y, rfl, _, _, _, hd⟩
  · simp [upTo]
  · unfold upTo
    rw [if_pos (by omega), Int.toNat_natCast]
    omega
theorem Grown.push {xs : List Person} {x : Person} {b : Int} (hB : b ≤ 400) (hg : Grown b xs) (hl : xs.length < 40) (hn : x.name = called xs.length) (hs : x.sex = 1 ∨ x.sex = 2) (hb : 0 ≤ x.born ∧ x.born ≤ b + 30 * (xs.length : Int)) (hd : x.died = -1) (h1 : Par xs x.father 1 x.born) (h2 : Par xs x.mother 2 x.born) : Grown b (xs ++ [x]) := by
  obtain ⟨_, g2, g3⟩ := famOk_iff.1 hg.ok
  have hnew : ∀ k z, (xs ++ [x])[k]? = some z → k < xs.length ∧ xs[k]? = some z ∨ k = xs.length ∧ z = x := by
    intro k z hk
    rcases Nat.lt_trichotomy k xs.length with hlt | rfl | hgt
    · rw [List.getElem?_append_left hlt] at hk; exact .inl ⟨hlt, hk⟩
    · simp at hk; exact .inr ⟨rfl, hk.symm⟩
    · rw [List.getElem?_append_right (by omega)] at hk
      rw [List.getElem?_eq_none (by simp; omega)] at hk
      cases hk
  refine ⟨famOk_iff.2 ⟨by simp; omega, fun k z hk => ?_, fun d hd' => ?_⟩, fun k z hk => ?_⟩
  · rcases hnew k z hk with ⟨hlt, hz⟩ | ⟨rfl, rfl⟩
    · have f := g2 k z hz
      exact ⟨f.name, f.alive, fun j y hj hy => f.new j y hj (by rwa [List.getElem?_append_left (by omega)] at hy), by rw [parentOk_push hlt]; exact f.dad, by rw [parentOk_push hlt]; exact f.mum⟩
    · refine ⟨by rw [hn]; exact called_ok hl, ?_, fun j y hj hy => ?_, par_ok hg h1, par_ok hg h2⟩
      · unfold aliveOk
        rw [decide_eq_true_eq]
        exact ⟨hs, hb.1, by omega, .inl hd⟩
      · rw [List.getElem?_append_left hj] at hy
        rw [(hg.at_ j y hy).1, hn]
        intro e
        have := called_inj (by omega) hl e
        omega
  · rw [show (xs ++ [x]).length = xs.length + 1 by simp, depL_succ (x := x) (by simp)] at hd'
    have hsame : depL (xs ++ [x]) xs.length = depL xs xs.length := depL_same _ fun k hk => ⟨xs[k], xs[k], by rw [List.getElem?_append_left hk]; exact List.getElem?_eq_getElem hk, List.getElem?_eq_getElem hk, rfl, rfl⟩
    rw [hsame] at hd'
    rcases List.mem_append.1 hd' with hd' | hd'
    · exact g3 d hd'
    · rw [List.mem_singleton] at hd'
      subst hd'
      unfold depOf
      have := par_dep h1; have := par_dep h2
      omega
  · rcases hnew k z hk with ⟨_, hz⟩ | ⟨rfl, rfl⟩
    · exact hg.at_ k z hz
    · exact ⟨hn, hb.2, hd⟩
/-- A person who died. -/
def dead (x : Person) (v : Int) : Person := ⟨x.name, x.sex, x.father, x.mother, x.born, v⟩
theorem famOk_dead {xs : List Person} {i : Nat} {x : Person} {v : Int} (h : famOk xs [] = true) (hx : xs[i]? = some x) (h1 : x.born ≤ v) (h2 : v ≤ 9999) (hc : ∀ (k : Nat) (y : Person), xs[k]? = some y → y.father = i ∨ y.mother = i → y.born ≤ v) : famOk (xs.set i (dead x v)) [] = true := by
  obtain ⟨g1, g2, g3⟩ := famOk_iff.1 h
  have hi := (List.getElem?_eq_some_iff.1 hx).1
  have hat : ∀ k z, (xs.set i (dead x v))[k]? = some z → ∃ y, xs[k]? = some y ∧ z.name = y.name ∧ z.sex = y.sex ∧ z.father = y.father ∧ z.mother = y.mother ∧ z.born = y.born ∧ (k ≠ i ∧ z = y ∨ k = i ∧ z = dead x v ∧ y = x) := by
    intro k z hk
    by_cases e : k = i
    · subst e
      rw [List.getElem?_set_self hi] at hk
      injection hk with hk
      subst hk
      exact ⟨x, hx, rfl, rfl, rfl, rfl, rfl, .inr ⟨rfl, rfl, rfl⟩⟩
    · rw [List.getElem?_set_ne (fun e' => e e'.symm)] at hk
      exact ⟨z, hk, rfl, rfl, rfl, rfl, rfl, .inl ⟨e, rfl⟩⟩
  have hback : ∀ k y, xs[k]? = some y → (xs.set i (dead x v))[k]? = some (if k = i then dead x v else y) := by
    intro k y hk
    by_cases e : k = i
    · subst e; rw [List.getElem?_set_self hi, if_pos rfl]
    · rw [List.getElem?_set_ne (fun e' => e e'.symm), if_neg e]; exact hk
  have hpar : ∀ k y q s l, xs[k]? = some y → parentOk xs k q s l = true → (q = i → y.born ≤ v) → 0 ≤ l → parentOk (xs.set i (dead x v)) k q s l = true := by
    intro k y q s l hk hp hq hl
    by_cases hq1 : q = -1
    · subst hq1; exact parentOk_none _ _ _ _
    by_cases hq2 : q < 0 ∨ (k : Int) ≤ q
    · rw [parentOk_out hq1 hq2] at hp; cases hp
    obtain ⟨m, rfl⟩ := Int.eq_ofNat_of_zero_le (by omega : 0 ≤ q)
    have hmk : m < k := by omega
    have hkl := (List.getElem?_eq_some_iff.1 hk).1
    have hm : xs[m]? = some xs[m] := List.getElem?_eq_getElem (by omega)
    rw [parentOk_in hmk hm hk] at hp
    rw [parentOk_in hmk (hback m _ hm) (hback k y hk)]
    have hborn : (if k = i then dead x v else y).born = y.born := by
      split
      · rename_i e; subst e; rw [hx] at hk; injection hk with hk; subst hk; rfl
      · rfl
    by_cases e : m = i
    · subst e
      rw [hx] at hm
      injection hm with hm
      rw [if_pos rfl]
      unfold parentIs at hp ⊢
      rw [hborn]
      rw [← hm] at hp
      simp only [Bool.and_eq_true, Bool.or_eq_true, decide_eq_true_eq, beq_iff_eq] at hp ⊢
      refine ⟨hp.1, .inr ?_⟩
      have := hq rfl
      show y.born ≤ v + l
      omega
    · rw [if_neg e]
      unfold parentIs at hp ⊢
      rw [hborn]; exact hp
  refine famOk_iff.2 ⟨by simpa using g1, fun k z hk => ?_, fun d hd => ?_⟩
  · obtain ⟨y, hy, e1, e2, e3, e4, e5, e6⟩ := hat k z hk
    have f := g2 k y hy
    refine ⟨by rw [e1]; exact f.name, ?_, fun j u hj hu => ?_, ?_, ?_⟩
    · rcases e6 with ⟨_, rfl⟩ | ⟨_, rfl, rfl⟩
      · exact f.alive
      · have := f.alive
        unfold aliveOk at this ⊢
        rw [decide_eq_true_eq] at this ⊢
        exact ⟨this.1, this.2.1, this.2.2.1, .inr ⟨h1, h2⟩⟩
    · obtain ⟨y', hy', e1', _⟩ := hat j u hu
      rw [e1', e1]
      exact f.new j y' hj hy'
    · rw [e3]; exact hpar k y _ _ _ hy f.dad (fun e => hc k y hy (.inl e)) (by omega)
    · rw [e4]; exact hpar k y _ _ _ hy f.mum (fun e => hc k y hy (.inr e)) (by omega)
  · rw [List.length_set, depL_same (zs := xs) xs.length fun k hk => ?_] at hd
    · exact g3 d hd
    · have hk' : xs[k]? = some xs[k] := List.getElem?_eq_getElem hk
      refine ⟨_, _, hback k _ hk', hk', ?_, ?_⟩
      · split
        · rename_i e; subst e; rw [hx] at hk'; injection hk' with hk'; rw [← hk']; rfl
        · rfl
      · split
        · rename_i e; subst e; rw [hx] at hk'; injection hk' with hk'; rw [← hk']; rfl
        · rfl
end Go.Proofs.Ythpcippgifmabaa
