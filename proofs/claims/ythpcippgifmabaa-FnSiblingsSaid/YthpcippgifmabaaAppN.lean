/-
  append of a whole slice of flat elements to what is owned.
-/
import Derived.Test.YthpcippgifmabaaFlat
import Derived.Laws.OwnMore
import Derived.Deep.AppendLies
import Derived.Deep.RegionLaw
namespace Go.Proofs.Ythpcippgifmabaa
set_option maxRecDepth 100000
open Go.RowKit

theorem run_append_none_any {P : Program} {w : World} (base : Nat) (t ty e : TypeId) (i : TypeInfo) (size d : Nat) (ht : P.underlying t = some (.slice e)) (hi : P.info? e = some i)
    (v : Value) (n : Nat) (xs : List Value) (hown : w.ownsRow base e size v n xs) :
    (Builtin.append_ #[t, t] ty #[v, .slice none 0 d]).run P w = .ok v w := by
  rcases hown.2 with ⟨rfl, rfl⟩ | ⟨g, cap, cur, rfl, _, _, hnc, _⟩
  · simp [Builtin.append_, run_underlying ht, sizeOf, typeInfo, hi, Builtin.lenOf, Builtin.firstCells]
  · simp [Builtin.append_, run_underlying ht, sizeOf, typeInfo, hi, Builtin.lenOf, Builtin.firstCells, hnc, storeCells]

/-- Flat elements: the cells are written out, and none of them leads to memory. -/
structure FlatE {α : Type} (E : Elem α) (f : α → List Value) : Prop where
  os : ∀ {w lo hi v xs}, E.OS w lo hi v xs ↔ OSl w lo hi E.e E.sz v xs.length (xs.flatMap f)
  rd : ∀ {w lo hi cs x}, E.R w lo hi cs x → cs = f x
  len : ∀ x, (f x).length = E.sz
  one : ∀ x, ∀ u ∈ f x, u.oneCell' = true
theorem FlatE.mk' {α : Type} {e sz : Nat} {f : α → List Value} {hl : ∀ x, (f x).length = sz} {hb : ∀ x, blocks (f x) = []} (h1 : ∀ x, ∀ u ∈ f x, u.oneCell' = true) : FlatE (Elem.flat e sz f hl hb) f :=
  ⟨flat_os, fun h => h, hl, h1⟩
theorem flatMap_len {α : Type} {f : α → List Value} {sz : Nat} (h : ∀ x, (f x).length = sz) (xs : List α) : (xs.flatMap f).length = xs.length * sz := by
  induction xs with
  | nil => simp
  | cons x r ih => rw [List.flatMap_cons, List.length_append, ih, h, List.length_cons, Nat.succ_mul]; omega

section
variable {α : Type} {E : Elem α} {f : α → List Value} {w : World} {lo hi : Nat} {B : Option Addr} {ys : List α}
/-- All cells of a flat slice that is read. -/
theorem FlatE.cells (F : FlatE E f) (h : E.AS w lo hi B ys) (hn : 0 < ys.length) : ∃ b off, B = some ⟨b, off, none⟩ ∧ ∀ (j : Nat) (u : Value), (ys.flatMap f)[j]? = some u → w.cell? ((⟨b, off, none⟩ : Addr).add j) = some u := by
  obtain ⟨_, css, h1, h2⟩ := h
  obtain ⟨b, off, rfl, _, _, hc⟩ := h1 (by rw [h2.len]; exact hn)
  refine ⟨b, off, rfl, fun j u hu => ?_⟩
  have hj : j < ys.length * E.sz := by
    have := (List.getElem?_eq_some_iff.1 hu).1
    rwa [flatMap_len F.len] at this
  have hpos : 0 < E.sz := by
    rcases Nat.eq_zero_or_pos E.sz with h0 | h0
    · rw [h0, Nat.mul_zero] at hj; omega
    · exact h0
  have hi : j / E.sz < ys.length := (Nat.div_lt_iff_lt_mul hpos).2 hj
  have hr : j % E.sz < E.sz := Nat.mod_lt _ hpos
  have hdm : j / E.sz * E.sz + j % E.sz = j := by rw [Nat.mul_comm]; exact Nat.div_add_mod j E.sz
  obtain ⟨cs, hcs, hR⟩ := h2.at_ (j / E.sz) ys[j / E.sz] (List.getElem?_eq_getElem hi)
  have he := F.rd hR
  subst he
  have hrow : (f ys[j / E.sz])[j % E.sz]? = some ((f ys[j / E.sz])[j % E.sz]'(by rw [F.len]; exact hr)) := List.getElem?_eq_getElem _
  have hcell := hc _ _ hcs _ _ hrow
  have hfl := flatten_at (css := ys.map f) (sz := E.sz) (fun cs hcs => by obtain ⟨x, _, rfl⟩ := List.mem_map.1 hcs; exact F.len x) (i := j / E.sz) (j := j % E.sz) (cs := f ys[j / E.sz]) (by simp [hi]) hrow
  rw [hdm, ← List.flatMap_def] at hfl
  rw [hdm] at hcell
  rw [hfl] at hu
  injection hu with hu
  rw [← hu]
  have hadd : (⟨b, off, none⟩ : Addr).add j = ⟨b, off + j, none⟩ := by unfold Addr.add; split <;> simp_all
  rw [hadd]; exact hcell

/-- append(s, t...): the run. -/
theorem FlatE.append (F : FlatE E f) {t bytes lo' hi' c0 d ty : Nat} {A0 : Option Addr} {xs : List α} (T : SlTy E t bytes) (hs : E.OS w lo' hi' (.slice A0 xs.length c0) xs) (hr : E.AS w lo hi B ys) (hb : xs.length + ys.length ≤ 1048576) (hby : bytes ≤ 128) (hlo : lo' ≤ w.heap.size) :
    ∃ A' c' w', (Builtin.append_ #[t, t] ty #[.slice A0 xs.length c0, .slice B ys.length d]).run Try.prog w = .ok (.slice A' (xs ++ ys).length c') w' ∧ E.OS w' lo' w'.heap.size (.slice A' (xs ++ ys).length c') (xs ++ ys) ∧
      w.grownBy w' (Value.slice A0 xs.length c0).ownBlock := by
  obtain ⟨i, z, i1, i2, i3, i4, i5⟩ := T.hi
  have hown := (F.os.1 hs).1
  have hmul : (xs.length + ys.length) * bytes ≤ 1048576 * 128 := Nat.mul_le_mul hb hby
  have fin : ∀ (v' : Value) (w' : World), w'.ownsRow lo' E.e E.sz v' (xs.length + ys.length) (xs.flatMap f ++ ys.flatMap f) → ∃ A' c', v' = .slice A' (xs ++ ys).length c' ∧ E.OS w' lo' w'.heap.size (.slice A' (xs ++ ys).length c') (xs ++ ys) := by
    intro v' w' h
    have ho : E.OS w' lo' w'.heap.size v' (xs ++ ys) := F.os.2 (by rw [List.length_append, List.flatMap_append]; exact OSl.of_own h (by unfold BIG; omega))
    obtain ⟨A', c', e1, _⟩ := ho.read.open_
    subst e1
    exact ⟨A', c', rfl, ho⟩
  have go : ∀ ad : Addr, B = some ad → (∀ (j : Nat) (u : Value), (ys.flatMap f)[j]? = some u → w.cell? (ad.add j) = some u) → ∃ A' c' w', (Builtin.append_ #[t, t] ty #[.slice A0 xs.length c0, .slice B ys.length d]).run Try.prog w = .ok (.slice A' (xs ++ ys).length c') w' ∧ E.OS w' lo' w'.heap.size (.slice A' (xs ++ ys).length c') (xs ++ ys) ∧
      w.grownBy w' (Value.slice A0 xs.length c0).ownBlock := by
    intro ad hB hcells
    subst hB
    obtain ⟨v', w', hrun, h2, h3, _, _⟩ := run_append_own_at (P := Try.prog) w lo' t ty E.e i z E.sz bytes T.ht i1 i2 i3 i4 i5 T.pos _ _ _ hown ad ys.length d (ys.flatMap f) (flatMap_len F.len ys) hcells
      (fun u hu => by obtain ⟨x, _, hx⟩ := List.mem_flatMap.1 hu; exact F.one x u hx) (by simp only [maxLen]; omega) (by omega) hlo
    obtain ⟨A', c', rfl, ho⟩ := fin v' w' h2
    exact ⟨A', c', w', hrun, ho, h3⟩
  rcases Nat.eq_zero_or_pos ys.length with h0 | hpos
  · have hy : ys = [] := List.eq_nil_of_length_eq_zero h0
    subst hy
    cases B with
    | none =>
      have hrun := run_append_none_any (P := Try.prog) (w := w) lo' t ty E.e i E.sz d T.ht i1 _ _ _ hown
      refine ⟨A0, c0, w, by simpa using hrun, ?_, ⟨rfl, rfl, rfl, Nat.le_refl _, fun _ _ _ => rfl⟩⟩
      obtain ⟨A', c', e1, ho⟩ := fin _ w (by simpa using hown)
      simp only [List.append_nil] at e1 ho ⊢
      injection e1 with e1 _ e2
      subst e1; subst e2
      exact ho
    | some ad => exact go ad rfl (fun j u hu => by simp at hu)
  · obtain ⟨b, off, rfl, hc⟩ := F.cells hr hpos
    exact go _ rfl hc

/-- .. at the operation. -/
theorem wpList_appN (F : FlatE E f) {t bytes lo' hi' c0 n : Nat} {ops : Array Oper} {rest : List Oper} {o : Oper} {a : Act} {Q : Exit → Act → World → Prop} (T : SlTy E t bytes) (A0 : Option Addr) (xs : List α) (d : Nat)
    (hs : E.OS w lo' hi' (.slice A0 n c0) xs) (hn : xs.length = n) (hr : E.AS w lo hi B ys) (s y : Operand)
    (ho : o.op = .call { callee := .builtin .append, args := #[s, y], argTypes := #[t, t] }) (hgd : o.guard = none) (hs' : a.eval s = .slice A0 n c0) (hy : a.eval y = .slice B ys.length d)
    (hb : n + ys.length ≤ 1048576) (hby : bytes ≤ 128) (hlo : lo' ≤ w.heap.size)
    (h : ∀ A' c' w', E.OS w' lo' w'.heap.size (.slice A' (xs ++ ys).length c') (xs ++ ys) → w.grownBy w' (Value.slice A0 n c0).ownBlock → wpList Try.prog ops Q rest (a.put o.dst (.slice A' (xs ++ ys).length c')) w') :
    wpList Try.prog ops Q (o :: rest) a w := by
  subst hn
  refine wpList_plain hgd fun K hK => ?_
  obtain ⟨A', c', w', hrun, h2, h3⟩ := F.append (ty := o.type) (d := d) T hs hr hb hby hlo
  unfold Oper.wp execOp
  simp only [ho, resolve, invoke, builtin, Sem.run_bind, Sem.run_pure, Result.andThen_ok, List.map_toArray, List.map_cons, List.map_nil, hs', hy, hrun]
  exact hK _ _ (h A' c' w' h2 h3)
theorem step_appN (F : FlatE E f) {t bytes lo' hi' c0 n : Nat} {ops : Array Oper} {o : Oper} {a : Act} {K : Act → World → Prop} {Q : Exit → Act → World → Prop} {X : Prop} (T : SlTy E t bytes) (A0 : Option Addr) (xs : List α) (d : Nat)
    (hs : E.OS w lo' hi' (.slice A0 n c0) xs) (hn : xs.length = n) (hr : E.AS w lo hi B ys) (s y : Operand)
    (ho : o.op = .call { callee := .builtin .append, args := #[s, y], argTypes := #[t, t] }) (hgd : o.guard = none) (hs' : a.eval s = .slice A0 n c0) (hy : a.eval y = .slice B ys.length d)
    (hb : n + ys.length ≤ 1048576) (hby : bytes ≤ 128) (hlo : lo' ≤ w.heap.size)
    (h : ∀ A' c' w', E.OS w' lo' w'.heap.size (.slice A' (xs ++ ys).length c') (xs ++ ys) → w.grownBy w' (Value.slice A0 n c0).ownBlock → K (a.put o.dst (.slice A' (xs ++ ys).length c')) w') :
    if Region.wanted o (yielded ops a.tmps) = true then Oper.wp Try.prog o a w K Q else X := by
  subst hn
  have hw : Region.wanted o (yielded ops a.tmps) = true := by simp [Region.wanted, hgd]
  rw [if_pos hw]
  obtain ⟨A', c', w', hrun, h2, h3⟩ := F.append (ty := o.type) (d := d) T hs hr hb hby hlo
  unfold Oper.wp execOp
  simp only [ho, resolve, invoke, builtin, Sem.run_bind, Sem.run_pure, Result.andThen_ok, List.map_toArray, List.map_cons, List.map_nil, hs', hy, hrun]
  exact h A' c' w' h2 h3
end
end Go.Proofs.Ythpcippgifmabaa
