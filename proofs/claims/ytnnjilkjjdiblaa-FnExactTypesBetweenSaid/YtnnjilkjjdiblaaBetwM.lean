/-
  The kin types that lead from one person to another: models; a list whose elements are those of another list.
-/
import Derived.Test.YtnnjilkjjdiblaaWalker
import Derived.Test.YtnnjilkjjdiblaaGFamS
import Derived.Deep.Cut
import Derived.Deep.DeepCutAuto
namespace Go.Proofs.Ytnnjilkjjdiblaa
set_option maxRecDepth 100000
open Go.RowKit

theorem lastM_kinds {ego : Int} : ∀ {k : Nat} {t : KinType}, t ∈ lastM ego k → ∀ s ∈ t.steps, ∃ i, i < 8 ∧ s = kindS i := by
  intro k
  induction k with
  | zero => intro t h s hs; simp [lastM] at h; subst h; simp at hs
  | succ k ih =>
    intro t h s hs
    simp only [lastM, List.mem_flatMap] at h
    obtain ⟨u, hu, ht⟩ := h
    obtain ⟨i, hi, _, rfl⟩ := moreTo_mem ht
    rcases List.mem_append.1 hs with hs | hs
    · exact ih hu s hs
    · simp at hs; exact ⟨i, hi, hs⟩
theorem outM_kinds {ego : Int} : ∀ {k : Nat} {t : KinType}, t ∈ outM ego k → ∀ s ∈ t.steps, ∃ i, i < 8 ∧ s = kindS i := by
  intro k
  induction k with
  | zero => intro t h; cases h
  | succ k ih =>
    intro t h
    rcases List.mem_append.1 h with h | h
    · exact ih h
    · exact lastM_kinds h
theorem fromM_mem {ego n : Int} {t : KinType} (h : t ∈ fromM ego n) : typeOk t = true ∧ t.ego = ego ∧ (∀ s ∈ t.steps, ∃ i, i < 8 ∧ s = kindS i) ∧ 1 ≤ t.steps.length ∧ (t.steps.length : Int) ≤ n := by
  unfold fromM at h
  split at h
  · rename_i hc
    obtain ⟨he, h1, h3⟩ := hc
    obtain ⟨a, b, c, d⟩ := outM_mem he (by omega) h
    exact ⟨a, d, outM_kinds h, b, by omega⟩
  · cases h
def betwP (xs : List Person) (ys : List Union) (a b : Nat) (t : KinType) : Bool := waysP xs ys t t.steps.length a b
def betwM (xs : List Person) (ys : List Union) (a b n : Int) : List KinType := if (hasOk xs ys a && hasOk xs ys b) = true then (fromM (sexAt xs a.toNat) n).filter (betwP xs ys a.toNat b.toNat) else []
theorem betwM_out {xs : List Person} {ys : List Union} {a b n : Int} (h : (hasOk xs ys a && hasOk xs ys b) = false) : betwM xs ys a b n = [] := by rw [betwM, h]; rfl
theorem betwM_in {xs : List Person} {ys : List Union} {a b : Nat} {n : Int} {x : Person} (h : (hasOk xs ys a && hasOk xs ys b) = true) (hx : xs[a]? = some x) : betwM xs ys a b n = (fromM x.sex n).filter (betwP xs ys a b) := by
  rw [betwM, if_pos h]; simp only [Int.toNat_natCast]; rw [sexAt_of hx]
theorem mkT_filter (P : KinType → Bool) (ts : List KinType) : mkT (ts.filter P) ≤ mkT ts := by
  induction ts with
  | nil => exact Nat.le_refl _
  | cons t r ih =>
    rw [List.filter_cons]; split
    · simp only [mkT]; omega
    · simp only [mkT]; omega
theorem betwM_bounds (xs : List Person) (ys : List Union) (a b n : Int) : (betwM xs ys a b n).length ≤ 1536 ∧ mkT (betwM xs ys a b n) ≤ 10752 := by
  unfold betwM; split
  · have h := fromM_bounds (sexAt xs a.toNat) n
    have h1 := List.length_filter_le (betwP xs ys a.toNat b.toNat) (fromM (sexAt xs a.toNat) n)
    have h2 := mkT_filter (betwP xs ys a.toNat b.toNat) (fromM (sexAt xs a.toNat) n)
    omega
  · simp [mkT]
/-- A type that is listed for a person leads where its steps lead. -/
theorem betw_walk {xs : List Person} {ys : List Union} {a b : Nat} {t : KinType} {x : Person} (hx : xs[a]? = some x) (hb : b < xs.length) (he : t.ego = x.sex) : betwP xs ys a b t = walkP xs.length (leadM xs ys) sameP t.steps a b := by
  rw [Bool.eq_iff_iff, betwP, ways_iff hx hb]
  constructor
  · exact And.right
  · exact fun h => ⟨by rw [he]; simp [egoIs], h⟩
theorem filter_yes {α : Type} {P : α → Bool} {ts : List α} {j : Nat} {t : α} (h : ts[j]? = some t) (hp : P t = true) : (ts.take (j + 1)).filter P = (ts.take j).filter P ++ [t] := by
  rw [List.take_add_one, h, List.filter_append]; simp [hp]
theorem filter_no {α : Type} {P : α → Bool} {ts : List α} {j : Nat} {t : α} (h : ts[j]? = some t) (hp : P t = false) : (ts.take (j + 1)).filter P = (ts.take j).filter P := by
  rw [List.take_add_one, h, List.filter_append]; simp [hp]

/-! ### A list of elements of another list -/
section
variable {α : Type} {E : Elem α}
theorem Elem.OL.snoc2 {w : World} {lo hi : Nat} {oss : List (List Value)} {xs : List α} {cs : List Value} {x : α} (h : E.OL w lo hi oss xs) (hx : E.O w lo hi cs x) (hap : ∀ c ∈ oss, ∀ b ∈ blocks c, b ∉ blocks cs) : E.OL w lo hi (oss ++ [cs]) (xs ++ [x]) := by
  have old : ∀ (i : Nat) (c : List Value), (oss ++ [cs])[i]? = some c → (i < oss.length ∧ oss[i]? = some c) ∨ (i = oss.length ∧ c = cs) := by
    intro i c hc
    rcases Nat.lt_trichotomy i oss.length with hlt | rfl | hgt
    · rw [List.getElem?_append_left hlt] at hc; exact .inl ⟨hlt, hc⟩
    · rw [List.getElem?_append_right (Nat.le_refl _)] at hc; simp at hc; exact .inr ⟨rfl, hc.symm⟩
    · rw [List.getElem?_eq_none (by simp; omega)] at hc; cases hc
  refine ⟨by simp [h.len], fun i y hy => ?_, fun i j c c' b hij hc hc' hb hb' => ?_⟩
  · rcases Nat.lt_trichotomy i xs.length with hlt | rfl | hgt
    · rw [List.getElem?_append_left hlt] at hy
      obtain ⟨c, a, d⟩ := h.at_ i y hy
      exact ⟨c, by rw [List.getElem?_append_left (by rw [h.len]; exact hlt)]; exact a, d⟩
    · rw [List.getElem?_append_right (Nat.le_refl _)] at hy
      simp at hy; subst hy
      exact ⟨cs, by rw [List.getElem?_append_right (by rw [h.len]; exact Nat.le_refl _), h.len]; simp, hx⟩
    · rw [List.getElem?_eq_none (by simp; omega)] at hy; cases hy
  · rcases old i c hc with ⟨hi1, hci⟩ | ⟨hi1, rfl⟩ <;> rcases old j c' hc' with ⟨hj1, hcj⟩ | ⟨hj1, rfl⟩
    · exact h.apart i j c c' b hij hci hcj hb hb'
    · exact hap c (List.mem_of_getElem? hci) b hb hb'
    · exact hap c' (List.mem_of_getElem? hcj) b hb' hb
    · omega
/-- append(out, x), where only the cells are looked at. -/
theorem wpList_appShare {w : World} {t bytes lo hv n c0 : Nat} {oss : List (List Value)} {ops : Array Oper} {rest : List Oper} {o : Oper} {a : Act} {Q : Exit → Act → World → Prop} (T : SlTy E t bytes) (A0 : Option Addr) (cs : List Value) (ad : Addr) (c : Nat)
    (hown : OSl w lo hv E.e E.sz (.slice A0 n c0) n oss.flatten) (hlo : lo ≤ w.heap.size) (hcl : cs.length = E.sz) (s y : Operand)
    (ho : o.op = .call { callee := .builtin .append, args := #[s, y], argTypes := #[t, t] }) (hgd : o.guard = none) (hs : a.eval s = .slice A0 n c0) (hy : a.eval y = .slice (some ad) 1 c)
    (hcs : ∀ (j : Nat) (u : Value), cs[j]? = some u → w.cell? (ad.add j) = some u) (h1 : ∀ u ∈ cs, u.oneCell' = true) (hb : n + 1 ≤ 1048576) (hby : bytes ≤ 128)
    (h : ∀ A' c' w', OSl w' lo w'.heap.size E.e E.sz (.slice A' (n + 1) c') (n + 1) (oss ++ [cs]).flatten → w.grownBy w' (Value.slice A0 n c0).ownBlock → ((Value.slice A' (n + 1) c').ownBlock = (Value.slice A0 n c0).ownBlock ∨ (Value.slice A' (n + 1) c').ownBlock = some w.heap.size) → wpList Try.prog ops Q rest (a.put o.dst (.slice A' (n + 1) c')) w') :
    wpList Try.prog ops Q (o :: rest) a w := by
  obtain ⟨i, z, i1, i2, i3, i4, i5⟩ := T.hi
  have hmul : (n + 1) * bytes ≤ 1048576 * 128 := Nat.mul_le_mul hb hby
  refine wpList_append_own_at _ hgd s y t ho lo E.e i z E.sz bytes T.ht i1 i2 i3 i4 i5 T.pos _ _ oss.flatten hs hown.1 ad 1 c cs hy (by rw [hcl, Nat.one_mul]) hcs h1 (by simp only [maxLen]; omega) (by omega) hlo ?_
  intro v' w' p1 p2 p3 p4
  have hos : OSl w' lo w'.heap.size E.e E.sz v' (n + 1) (oss ++ [cs]).flatten := by
    rw [List.flatten_append, List.flatten_singleton]
    exact OSl.of_own p1 (by unfold BIG; omega)
  obtain ⟨A', c', e1, e2, e3, _⟩ := hos.read
  subst e1
  exact h A' c' w' hos p2 p4
end
/-- A list out whose elements are the first ones of ts that satisfy P: their cells are those of ts. -/
structure Chosen (ts : List KinType) (css : List (List Value)) (P : KinType → Bool) (lo0 lo hi : Nat) (W : World) (j : Nat) (v : Value) (wr : World) : Prop where
  own : ∃ (A : Option Addr) (c : Nat) (oss : List (List Value)), v = .slice A ((ts.take j).filter P).length c ∧ OSl wr lo0 wr.heap.size EKin.e EKin.sz v ((ts.take j).filter P).length oss.flatten ∧
    EKin.OL wr lo hi oss ((ts.take j).filter P) ∧ ∀ cs ∈ oss, ∃ i, i < j ∧ css[i]? = some cs
  far : ∀ b, v.ownBlock = some b → b < lo ∨ hi ≤ b
  same : Same lo hi W wr
  below : Below lo0 W wr
theorem Chosen.os {ts : List KinType} {css : List (List Value)} {P : KinType → Bool} {lo0 lo hi j B : Nat} {W wr : World} {v : Value} (h : Chosen ts css P lo0 lo hi W j v wr) (h1 : B ≤ lo0) (h2 : B ≤ lo) (h3 : hi ≤ wr.heap.size) : EKin.OS wr B wr.heap.size v ((ts.take j).filter P) := by
  obtain ⟨A, c, oss, _, a2, a3, _⟩ := h.own
  refine ⟨oss, a2.mono h1 (Nat.le_refl _), a3.mono h2 h3, fun cs hcs b hb hv => ?_⟩
  have := a3.blk cs hcs b hb
  have := h.far b hv
  omega
theorem Chosen.skip {ts : List KinType} {css : List (List Value)} {P : KinType → Bool} {lo0 lo hi j : Nat} {W wr w' : World} {v : Value} {t : KinType} (h : Chosen ts css P lo0 lo hi W j v wr) (ht : ts[j]? = some t) (hp : P t = false) (hb : Below wr.heap.size wr w') (h3 : hi ≤ wr.heap.size) (h4 : lo0 ≤ wr.heap.size) : Chosen ts css P lo0 lo hi W (j + 1) v w' := by
  obtain ⟨A, c, oss, a1, a2, a3, a4⟩ := h.own
  refine ⟨⟨A, c, oss, ?_⟩, h.far, h.same.trans (Same.of_below hb h3), h.below.trans (hb.mono h4)⟩
  rw [filter_no ht hp]
  exact ⟨a1, (a2.same (Same.of_below hb (Nat.le_refl _))).mono (Nat.le_refl _) hb.size, a3.same (Same.of_below hb h3), fun cs hcs => let ⟨i, hi, e⟩ := a4 cs hcs; ⟨i, by omega, e⟩⟩
end Go.Proofs.Ytnnjilkjjdiblaa
