/-
  Rows of numbers that are overwritten one by one; who is reached in a round.
-/
import Derived.Test.YtnnjilkjjdiblaaVGShort
import Derived.Test.YtnnjilkjjdiblaaVGRel
namespace Go.Proofs.Ytnnjilkjjdiblaa
set_option maxRecDepth 100000
open Go.RowKit

def rowI (n : Nat) (F : Nat → Int) : List Int := (List.range n).map F
def updI (F : Nat → Int) (b : Nat) (x : Int) : Nat → Int := fun j => if j = b then x else F j
theorem rowI_len (n : Nat) (F : Nat → Int) : (rowI n F).length = n := by simp [rowI]
theorem rowI_succ (n : Nat) (F : Nat → Int) : rowI (n + 1) F = rowI n F ++ [F n] := by simp [rowI, List.range_succ]
theorem rowI_congr {n : Nat} {F G : Nat → Int} (h : ∀ b, b < n → F b = G b) : rowI n F = rowI n G := List.map_congr_left fun b hb => h b (List.mem_range.1 hb)
theorem rowI_set {n b : Nat} {F : Nat → Int} {x : Int} : (rowI n F).set b x = rowI n (updI F b x) := by
  apply List.ext_getElem
  · simp [rowI]
  · intro i h1 h2
    simp only [rowI, List.getElem_set, List.getElem_map, List.getElem_range, updI]
    by_cases hb : b = i
    · rw [if_pos hb, if_pos hb.symm]
    · rw [if_neg hb, if_neg (fun e => hb e.symm)]
theorem rowI_at {n b : Nat} {F : Nat → Int} (hb : b < n) : (rowI n F)[b]? = some (F b) := by simp [rowI, hb]
theorem rowI_own {w : World} {lo hi n b : Nat} {v : Value} {F : Nat → Int} (h : EInt.OS w lo hi v (rowI n F)) (hb : b < n) : ∃ g c, v = .slice (some ⟨g, 0, none⟩) n c ∧ lo ≤ g ∧ g < hi ∧
    w.cell? ⟨g, b, none⟩ = some (.int .i64 (F b)) ∧ w.frozen? ⟨g, b, none⟩ = false ∧ ∀ x : Int, EInt.OS (w.setCell ⟨g, b, none⟩ (.int .i64 x)) lo hi v (rowI n (updI F b x)) := by
  have ho := EInt_os.1 h
  rw [rowI_len] at ho
  obtain ⟨g, c, rfl, g1, g2, g3⟩ := ho.form (by omega)
  have hrow : (ints (rowI n F))[b]? = some (.int .i64 (F b)) := by rw [ints_at, rowI_at hb]; rfl
  obtain ⟨k1, k2⟩ := ho.cell hrow
  refine ⟨g, c, rfl, g1, g2, k1, k2, fun x => ?_⟩
  refine EInt_os.2 ?_
  have h3 := ho.set (j := b) (u := .int .i64 x) (by rw [ints_len, rowI_len]; exact hb)
  rw [ints_set, rowI_set] at h3
  rw [rowI_len]
  exact h3
theorem rowI_read {w : World} {lo hi n b : Nat} {A : Option Addr} {F : Nat → Int} (h : EInt.AS w lo hi A (rowI n F)) (hb : b < n) : ∃ g o, A = some ⟨g, o, none⟩ ∧ lo ≤ g ∧ g < hi ∧ w.cell? ⟨g, o + b, none⟩ = some (.int .i64 (F b)) := by
  obtain ⟨g, o, x, rfl, h1, h2, _, hy, hc⟩ := AInt.at_ (k := b) h (by rw [rowI_len]; exact hb)
  rw [rowI_at hb] at hy
  injection hy with hy
  subst hy
  exact ⟨g, o, rfl, h1, h2, hc⟩
/-- What is owned lies in one block. -/
theorem OSl.narrow {w : World} {lo hi e sz n g c : Nat} {vs : List Value} (h : OSl w lo hi e sz (.slice (some ⟨g, 0, none⟩) n c) n vs) : OSl w g (g + 1) e sz (.slice (some ⟨g, 0, none⟩) n c) n vs := by
  obtain ⟨⟨hl, ho⟩, hh, hb⟩ := h
  refine ⟨⟨hl, ?_⟩, fun k hk => by simp [Value.ownBlock] at hk; omega, hb⟩
  rcases ho with ⟨hv, _⟩ | ⟨g', cap, cur, hv, hg, r⟩
  · injection hv with hv; cases hv
  · injection hv with hv h2 h3
    injection hv with hv
    injection hv with hv _ _
    subst hv
    exact .inr ⟨g, cap, cur, by rw [h3], Nat.le_refl _, r⟩
theorem rowI_narrow {w : World} {lo hi n : Nat} {v : Value} {F : Nat → Int} (h : EInt.OS w lo hi v (rowI n F)) (hn : 0 < n) : ∃ g c, v = .slice (some ⟨g, 0, none⟩) n c ∧ lo ≤ g ∧ g < hi ∧ g < w.heap.size ∧ EInt.OS w g (g + 1) v (rowI n F) := by
  have ho := EInt_os.1 h
  rw [rowI_len] at ho
  obtain ⟨g, c, rfl, g1, g2, g3⟩ := ho.form hn
  refine ⟨g, c, rfl, g1, g2, g3, EInt_os.2 ?_⟩
  rw [rowI_len]; exact ho.narrow

/-! ### A round -/
section
variable {F : Nat → Int} {d : Nat} {h : Nat → Bool} {x y : Nat}
theorem gOf_neg {D : Int} (hx : gOf F D h x < 0) (hD : 0 ≤ D) : F x < 0 ∧ h x = false := by
  unfold gOf at hx
  split at hx
  · omega
  · rename_i hc
    refine ⟨hx, ?_⟩
    cases hh : h x with
    | false => rfl
    | true => exact absurd ⟨hx, hh⟩ hc
theorem gOf_eq : gOf F ((d : Int) + 1) h y = (d : Int) ↔ F y = (d : Int) := by
  unfold gOf
  split
  · rename_i hc
    constructor
    · intro e; omega
    · intro e; omega
  · exact Iff.rfl
theorem gOf_keep {D : Int} (hx : ¬ gOf F D h x < 0) : gOf F D (upd1 h x true) = gOf F D h := by
  funext j
  unfold gOf upd1
  by_cases hj : j = x
  · subst hj
    rw [if_pos rfl]
    unfold gOf at hx
    by_cases hf : F j < 0
    · cases hh : h j with
      | true => rfl
      | false => exfalso; rw [if_neg (by rw [hh]; simp)] at hx; exact hx hf
    · rw [if_neg (fun k => hf k.1), if_neg (fun k => hf k.1)]
  · rw [if_neg hj]
theorem gOf_put {D : Int} (hx : F x < 0) : updI (gOf F D h) x D = gOf F D (upd1 h x true) := by
  funext j
  unfold gOf upd1 updI
  by_cases hj : j = x
  · subst hj; rw [if_pos rfl, if_pos rfl, if_pos ⟨hx, rfl⟩]
  · rw [if_neg hj, if_neg hj]
theorem gOf_congr {n : Nat} {D : Int} {h' : Nat → Bool} (hh : ∀ j, j < n → h j = h' j) : rowI n (gOf F D h) = rowI n (gOf F D h') := rowI_congr fun j hj => by
  unfold gOf; rw [hh j hj]
theorem gOf_none (D : Int) : gOf F D (fun _ => false) = F := by
  funext j; unfold gOf; rw [if_neg]; simp
end
/-- In the reference's order: kinds, persons, persons. -/
def hitY (M : Nat → Nat → Nat → Bool) (i x : Nat) (h : Nat → Bool) : Nat → (Nat → Bool)
  | 0 => h
  | y + 1 => if M i x y = true then upd1 (hitY M i x h y) x true else hitY M i x h y
def hitX (n : Nat) (M : Nat → Nat → Nat → Bool) (i : Nat) (h : Nat → Bool) : Nat → (Nat → Bool)
  | 0 => h
  | x + 1 => hitY M i x (hitX n M i h x) n
def hitK (n : Nat) (M : Nat → Nat → Nat → Bool) : Nat → (Nat → Bool)
  | 0 => fun _ => false
  | i + 1 => hitX n M i (hitK n M i) n
theorem hitY_at (M : Nat → Nat → Nat → Bool) (i x : Nat) (h : Nat → Bool) (j : Nat) : ∀ y, hitY M i x h y j = (h j || (decide (j = x) && (List.range y).any (M i x))) := by
  intro y
  induction y with
  | zero => simp [hitY]
  | succ y ih =>
    simp only [hitY, List.range_succ, List.any_append, List.any_cons, List.any_nil, Bool.or_false]
    by_cases hm : M i x y = true
    · rw [if_pos hm]
      unfold upd1
      by_cases hj : j = x
      · rw [if_pos hj, hm]; simp [hj]
      · rw [if_neg hj, ih]; simp [hj]
    · rw [if_neg hm, ih]
      have hm' : M i x y = false := by simpa using hm
      rw [hm']; simp
theorem hitX_at (n : Nat) (M : Nat → Nat → Nat → Bool) (i : Nat) (h : Nat → Bool) (j : Nat) : ∀ x, hitX n M i h x j = (h j || (decide (j < x) && (List.range n).any (M i j))) := by
  intro x
  induction x with
  | zero => simp [hitX]
  | succ x ih =>
    simp only [hitX]
    rw [hitY_at, ih]
    by_cases hj : j = x
    · subst hj; simp
    · have e1 : decide (j = x) = false := decide_eq_false hj
      rw [e1]
      have e2 : decide (j < x + 1) = decide (j < x) := by rw [decide_eq_decide]; omega
      rw [e2]; simp
theorem hitK_at (n : Nat) (M : Nat → Nat → Nat → Bool) {j : Nat} (hj : j < n) : ∀ i, hitK n M i j = (List.range i).any fun k => (List.range n).any (M k j) := by
  intro i
  induction i with
  | zero => rfl
  | succ i ih =>
    simp only [hitK]
    rw [hitX_at, ih, List.range_succ, List.any_append]; simp [hj]
theorem away_round (n : Nat) (L : Nat → Nat → Nat → Bool) (b d : Nat) : rowI n (gOf (farM n L b d) ((d : Int) + 1) (hitK n (fun i x y => decide (farM n L b d y = (d : Int)) && L i x y) 8)) = rowI n (farM n L b (d + 1)) :=
  gOf_congr fun _j hj => hitK_at n _ hj 8
/-- In the program's order: persons, kinds, the persons of a row. -/
def hitR (F : Nat → Int) (d : Int) (p : Nat) (row : List Int) (h : Nat → Bool) : Nat → (Nat → Bool)
  | 0 => h
  | j + 1 => if F (row.getD j 0).toNat = d then upd1 (hitR F d p row h j) p true else hitR F d p row h j
def hitKi (n : Nat) (L : Nat → Nat → Nat → Bool) (F : Nat → Int) (d : Int) (p : Nat) (h : Nat → Bool) : Nat → (Nat → Bool)
  | 0 => h
  | i + 1 => hitR F d p (idxTo (L i p) n) (hitKi n L F d p h i) (idxTo (L i p) n).length
def hitP (n : Nat) (L : Nat → Nat → Nat → Bool) (F : Nat → Int) (d : Int) : Nat → (Nat → Bool)
  | 0 => fun _ => false
  | p + 1 => hitKi n L F d p (hitP n L F d p) 8
theorem hitR_at (F : Nat → Int) (d : Int) (p : Nat) (row : List Int) (h : Nat → Bool) (x : Nat) : ∀ j, j ≤ row.length → hitR F d p row h j x = (h x || (decide (x = p) && (row.take j).any fun y => decide (F y.toNat = d))) := by
  intro j
  induction j with
  | zero => intro _; simp [hitR]
  | succ j ih =>
    intro hj
    have hg : row[j]? = some (row.getD j 0) := by rw [List.getD_eq_getElem?_getD, List.getElem?_eq_getElem (by omega)]; rfl
    rw [List.take_add_one, hg]
    simp only [hitR, List.any_append, Option.toList, List.any_cons, List.any_nil, Bool.or_false]
    by_cases hm : F (row.getD j 0).toNat = d
    · rw [if_pos hm]
      unfold upd1
      by_cases hx : x = p
      · rw [if_pos hx, decide_eq_true hm]; simp [hx]
      · rw [if_neg hx, ih (by omega)]; simp [hx]
    · rw [if_neg hm, ih (by omega), decide_eq_false hm]; simp
theorem hitKi_at (n : Nat) (L : Nat → Nat → Nat → Bool) (F : Nat → Int) (d : Int) (p : Nat) (h : Nat → Bool) (x : Nat) : ∀ i, hitKi n L F d p h i x = (h x || (decide (x = p) && (List.range i).any fun k => (List.range n).any fun y => decide (F y = d) && L k p y)) := by
  intro i
  induction i with
  | zero => simp [hitKi]
  | succ i ih =>
    simp only [hitKi]
    rw [hitR_at _ _ _ _ _ _ _ (Nat.le_refl _), ih, List.take_length, List.range_succ, List.any_append]
    have e : ((idxTo (L i p) n).any fun y => decide (F y.toNat = d)) = (List.range n).any fun y => decide (F y = d) && L i p y := by
      rw [Bool.eq_iff_iff]
      simp only [List.any_eq_true, mem_idxTo, List.mem_range, Bool.and_eq_true, decide_eq_true_eq]
      constructor
      · rintro ⟨z, ⟨b, hb, hl, rfl⟩, hf⟩; exact ⟨b, hb, by simpa using hf, hl⟩
      · rintro ⟨b, hb, hf, hl⟩; exact ⟨b, ⟨b, hb, hl, rfl⟩, by simpa using hf⟩
    rw [e]
    simp only [List.any_cons, List.any_nil, Bool.or_false]
    rw [Bool.or_assoc, ← Bool.and_or_distrib_left]
theorem hitP_at (n : Nat) (L : Nat → Nat → Nat → Bool) (F : Nat → Int) (d : Int) (x : Nat) : ∀ p, hitP n L F d p x = (decide (x < p) && hitAny n L F d x) := by
  intro p
  induction p with
  | zero => simp [hitP]
  | succ p ih =>
    simp only [hitP]
    rw [hitKi_at, ih]
    by_cases hx : x = p
    · subst hx; simp [hitAny]
    · have e2 : decide (x < p + 1) = decide (x < p) := by rw [decide_eq_decide]; omega
      rw [e2]; simp [hx]
theorem far_round (n : Nat) (L : Nat → Nat → Nat → Bool) (b d : Nat) : rowI n (gOf (farM n L b d) ((d : Int) + 1) (hitP n L (farM n L b d) d n)) = rowI n (farM n L b (d + 1)) :=
  gOf_congr fun j hj => by rw [hitP_at, decide_eq_true hj]; rfl
end Go.Proofs.Ytnnjilkjjdiblaa
