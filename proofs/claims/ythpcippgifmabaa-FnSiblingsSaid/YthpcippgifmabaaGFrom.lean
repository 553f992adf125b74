/-
  What is owned, while one of its elements is being changed.
  Lists of kin types, each of which owns its steps: equality, marks, append of a whole list.
  Kin types of a few steps: models.
  Kin types of a few steps, in the reference.
  Kin types of a few steps, in the program.
-/
import Derived.Test.YthpcippgifmabaaBase
import Derived.Test.YthpcippgifmabaaMarkTyp
import Derived.Test.YthpcippgifmabaaAppN
import Derived.Deep.RegionHeld3
import Derived.Test.YthpcippgifmabaaTyp2
import Derived.Test.YthpcippgifmabaaJoinT
import Derived.Deep.Cut
import Derived.Deep.DeepCutAuto

/-! ## OSx -/
namespace Go.Proofs.Ythpcippgifmabaa
set_option maxRecDepth 100000
open Go.RowKit

/-- What is owned, of which nothing is said about the i-th element but its cells. -/
structure Elem.OSx {α : Type} (E : Elem α) (w : World) (lo hi : Nat) (v : Value) (css : List (List Value)) (xs : List α) (i : Nat) : Prop where
  own : OSl w lo hi E.e E.sz v xs.length css.flatten
  len : css.length = xs.length
  sizes : ∀ cs ∈ css, cs.length = E.sz
  at_ : ∀ (k : Nat) (x : α), k ≠ i → xs[k]? = some x → ∃ cs, css[k]? = some cs ∧ E.O w lo hi cs x
  apart : ∀ (i j : Nat) (cs cs' : List Value) (b : Nat), i ≠ j → css[i]? = some cs → css[j]? = some cs' → b ∈ blocks cs → b ∉ blocks cs'
  far : ∀ cs ∈ css, ∀ b ∈ blocks cs, v.ownBlock ≠ some b
section
variable {α : Type} {E : Elem α} {w w' : World} {lo hi i g c n : Nat} {v : Value} {xs : List α} {css : List (List Value)} {cs : List Value}
theorem Elem.OS.openx (h : E.OS w lo hi v xs) (hlt : i < xs.length) : ∃ g c x cs css, v = .slice (some ⟨g, 0, none⟩) xs.length c ∧ lo ≤ g ∧ g < hi ∧ g < w.heap.size ∧ xs[i]? = some x ∧ css[i]? = some cs ∧ E.O w lo hi cs x ∧ E.OSx w lo hi v css xs i := by
  obtain ⟨css, h1, h2, h3⟩ := h
  obtain ⟨x, hx⟩ : ∃ x, xs[i]? = some x := ⟨xs[i], List.getElem?_eq_getElem hlt⟩
  obtain ⟨cs, hcs, hO⟩ := h2.at_ i x hx
  obtain ⟨g, c, rfl, g1, g2, g3⟩ := h1.form (by omega)
  exact ⟨g, c, x, cs, css, rfl, g1, g2, g3, hx, hcs, hO, h1, h2.len, h2.read.sizes, fun k x _ hk => h2.at_ k x hk, h2.apart, h3⟩
theorem Elem.OSx.same (h : E.OSx w lo hi v css xs i) (k : Same lo hi w w') : E.OSx w' lo hi v css xs i :=
  ⟨h.own.same k, h.len, h.sizes, fun j x hj hx => let ⟨cs, a, b⟩ := h.at_ j x hj hx; ⟨cs, a, E.sameO b k⟩, h.apart, h.far⟩
theorem Elem.OSx.cell {j : Nat} {u : Value} (h : E.OSx w lo hi (.slice (some ⟨g, 0, none⟩) n c) css xs i) (hn : n = xs.length) (hci : css[i]? = some cs) (hu : cs[j]? = some u) : w.cell? ⟨g, i * E.sz + j, none⟩ = some u ∧ w.frozen? ⟨g, i * E.sz + j, none⟩ = false := by
  subst hn
  exact h.own.cell (flatten_at h.sizes hci hu)
theorem Elem.OSx.put {j : Nat} {u u0 : Value} (h : E.OSx w lo hi (.slice (some ⟨g, 0, none⟩) n c) css xs i) (hn : n = xs.length) (hci : css[i]? = some cs) (hu0 : cs[j]? = some u0) (hu : ∀ b, u.ownBlock = some b → u0.ownBlock = some b) :
    E.OSx (w.setCell ⟨g, i * E.sz + j, none⟩ u) lo hi (.slice (some ⟨g, 0, none⟩) n c) (css.set i (cs.set j u)) xs i := by
  subst hn
  have hj : j < cs.length := (List.getElem?_eq_some_iff.1 hu0).1
  have hmem := List.mem_of_getElem? hci
  have hlt' := (List.getElem?_eq_some_iff.1 hci).1
  have hbl : ∀ b ∈ blocks (cs.set j u), b ∈ blocks cs := by
    intro b hb
    obtain ⟨a, ha, hab⟩ := List.mem_filterMap.1 hb
    rcases List.mem_or_eq_of_mem_set ha with ha | rfl
    · exact List.mem_filterMap.2 ⟨a, ha, hab⟩
    · exact List.mem_filterMap.2 ⟨u0, List.mem_of_getElem? hu0, hu b hab⟩
  have old : ∀ (b k : Nat) (c : List Value), (css.set i (cs.set j u))[k]? = some c → b ∈ blocks c → ∃ c0, css[k]? = some c0 ∧ b ∈ blocks c0 := by
    intro b k c hc hbb
    by_cases hik : i = k
    · subst hik
      rw [List.getElem?_set_self hlt'] at hc
      injection hc with hc
      subst hc
      exact ⟨cs, hci, hbl b hbb⟩
    · rw [List.getElem?_set_ne hik] at hc
      exact ⟨c, hc, hbb⟩
  refine ⟨?_, by simp [h.len], ?_, ?_, ?_, ?_⟩
  · rw [← flatten_set h.sizes hci hj]
    exact h.own.set (by have := (List.getElem?_eq_some_iff.1 (flatten_at h.sizes hci hu0)).1; exact this)
  · intro c' hc'
    rcases List.mem_or_eq_of_mem_set hc' with hc' | rfl
    · exact h.sizes c' hc'
    · simp [h.sizes cs hmem]
  · intro k y hk hy
    obtain ⟨ck, a, b⟩ := h.at_ k y hk hy
    refine ⟨ck, by rw [List.getElem?_set_ne (Ne.symm hk)]; exact a, E.loc b fun b' hb' => Below.heap_setCell _ _ _ _ ?_⟩
    intro e
    exact h.far ck (List.mem_of_getElem? a) b' hb' (by simp [Value.ownBlock]; exact e.symm)
  · intro k l c1 c2 b hkl hc1 hc2 hb1 hb2
    obtain ⟨c0, a0, b0⟩ := old b k c1 hc1 hb1
    obtain ⟨c1', a1, b1⟩ := old b l c2 hc2 hb2
    exact h.apart k l c0 c1' b hkl a0 a1 b0 b1
  · intro c' hc' b hb
    rcases List.mem_or_eq_of_mem_set hc' with hc' | rfl
    · exact h.far c' hc' b hb
    · exact h.far cs hmem b (hbl b hb)
theorem Elem.OSx.inner (h : E.OSx w lo hi v css xs i) (hci : css[i]? = some cs) (ho : Only (fun b => b ∈ blocks cs) w w') (hsz : hi ≤ w.heap.size) : E.OSx w' lo hi v css xs i := by
  have hmem := List.mem_of_getElem? hci
  refine ⟨h.own.loc fun b hb => ho.block b ?_ (fun hbb => h.far cs hmem b hbb hb), h.len, h.sizes, fun k x hk hx => ?_, h.apart, h.far⟩
  · have := h.own.2.1 b hb; omega
  · obtain ⟨ck, a, b⟩ := h.at_ k x hk hx
    exact ⟨ck, a, E.loc b fun b' hb' => ho.block b' (by have := (E.blk b b' hb').2; omega) (fun hbb => h.apart i k cs ck b' (Ne.symm hk) hci a hbb hb')⟩
theorem Elem.OSx.close {x' : α} (h : E.OSx w lo hi v css xs i) (hci : css[i]? = some cs) (hO : E.O w lo hi cs x') : E.OS w lo hi v (xs.set i x') := by
  have hlt' := (List.getElem?_eq_some_iff.1 hci).1
  refine ⟨css, by rw [List.length_set]; exact h.own, ⟨by simp [h.len], fun k x hx => ?_, h.apart⟩, h.far⟩
  by_cases hik : i = k
  · subst hik
    rw [List.getElem?_set_self (by rw [← h.len]; exact hlt')] at hx
    injection hx with hx
    subst hx
    exact ⟨cs, hci, hO⟩
  · rw [List.getElem?_set_ne hik] at hx
    exact h.at_ k x (Ne.symm hik) hx
end
end Go.Proofs.Ythpcippgifmabaa

/-! ## TypEl -/
namespace Go.Proofs.Ythpcippgifmabaa
set_option maxRecDepth 100000
open Go.RowKit

def vsTyp (x : KinType) (v : Value) : List Value := [.int .i64 x.ego, v]
theorem blocks_typ {x : KinType} {v : Value} {b : Nat} : b ∈ blocks (vsTyp x v) ↔ v.ownBlock = some b := by
  simp only [blocks, vsTyp, List.mem_filterMap, List.mem_cons, List.not_mem_nil, or_false]
  constructor
  · rintro ⟨a, rfl | rfl, h⟩
    · simp [Value.ownBlock] at h
    · exact h
  · exact fun h => ⟨v, by simp, h⟩
section
variable {w : World} {lo hi : Nat} {A : Option Addr} {k : Nat}
end

/-! ### Marks -/
def wT (x : KinType) : Nat := 1 + 2 * x.steps.length
def mkT : List KinType → Nat
  | [] => 0
  | x :: r => wT x + mkT r
theorem mkT_succ {xs : List KinType} : ∀ {j : Nat} {x : KinType}, xs[j]? = some x → mkT (xs.take (j + 1)) = mkT (xs.take j) + wT x := by
  induction xs with
  | nil => intro j x h; simp at h
  | cons y r ih =>
    intro j x h
    cases j with
    | zero => simp at h; subst h; simp [mkT]
    | succ j => simp at h; simp only [List.take_succ_cons, mkT, ih h]; omega
theorem mkT_take_le (xs : List KinType) : ∀ j, mkT (xs.take j) ≤ mkT xs := by
  induction xs with
  | nil => intro j; simp [mkT]
  | cons y r ih =>
    intro j
    cases j with
    | zero => simp [mkT]
    | succ j => simp only [List.take_succ_cons, mkT]; have := ih j; omega
def marksT (k : Int) : List KinType → List KinType
  | [] => []
  | x :: r => ⟨k, mkTo (markStep (k + 1)) x.steps.length⟩ :: marksT (k + wT x) r
theorem marksT_len (xs : List KinType) : ∀ k, (marksT k xs).length = xs.length := by induction xs <;> simp_all [marksT]
theorem marksT_at {xs : List KinType} : ∀ {k : Int} {j : Nat} {x : KinType}, xs[j]? = some x → (marksT k xs)[j]? = some ⟨k + mkT (xs.take j), mkTo (markStep (k + mkT (xs.take j) + 1)) x.steps.length⟩ := by
  induction xs with
  | nil => intro k j x h; simp at h
  | cons y r ih =>
    intro k j x h
    cases j with
    | zero => simp at h; subst h; simp [marksT, mkT]
    | succ j =>
      simp at h
      simp only [marksT, List.getElem?_cons_succ, ih h, List.take_succ_cons, mkT]
      rw [show k + (wT y : Int) + (mkT (r.take j) : Int) = k + ((wT y + mkT (r.take j) : Nat) : Int) by omega]
def MarkedT (k : Int) (xs ys : List KinType) (j : Nat) : Prop := ys.length = xs.length ∧ (∀ i, i < j → ys[i]? = (marksT k xs)[i]?) ∧ ∀ i, j ≤ i → ys[i]? = xs[i]?
theorem MarkedT.step {k : Int} {xs ys : List KinType} {j : Nat} {x : KinType} (h : MarkedT k xs ys j) (hx : xs[j]? = some x) : MarkedT k xs (ys.set j ⟨k + mkT (xs.take j), mkTo (markStep (k + mkT (xs.take j) + 1)) x.steps.length⟩) (j + 1) := by
  obtain ⟨h1, h2, h3⟩ := h
  have hj : j < ys.length := by rw [h1]; exact (List.getElem?_eq_some_iff.1 hx).1
  refine ⟨by simpa using h1, fun i hi => ?_, fun i hi => ?_⟩
  · by_cases hij : j = i
    · subst hij; rw [List.getElem?_set_self hj, marksT_at hx]
    · rw [List.getElem?_set_ne hij]; exact h2 i (by omega)
  · rw [List.getElem?_set_ne (by omega)]; exact h3 i (by omega)
theorem MarkedT.done {k : Int} {xs ys : List KinType} {j : Nat} (h : MarkedT k xs ys j) (hj : xs.length ≤ j) : ys = marksT k xs := by
  obtain ⟨h1, h2, h3⟩ := h
  apply List.ext_getElem?
  intro i
  by_cases hi : i < xs.length
  · exact h2 i (by omega)
  · rw [List.getElem?_eq_none (by omega), List.getElem?_eq_none (by rw [marksT_len]; omega)]
def HeldTSRel (xs : List KinType) (k : Int) (kk i : Value) (w wr : World) : Prop := ∃ j : Nat, j ≤ xs.length ∧ i = .int .i64 j ∧ kk = .int .i64 (k + mkT (xs.take j)) ∧ w = wr
/-! ### append(out, more...) -/
section
variable {α : Type} {E : Elem α}
theorem flatten_of {css : List (List Value)} {sz : Nat} (h : ∀ cs ∈ css, cs.length = sz) (hp : 0 < sz) {j : Nat} {u : Value} (hu : css.flatten[j]? = some u) : ∃ cs, css[j / sz]? = some cs ∧ cs[j % sz]? = some u ∧ j / sz * sz + j % sz = j := by
  have hj : j < css.length * sz := by
    have := (List.getElem?_eq_some_iff.1 hu).1
    rwa [flatten_len h] at this
  have hi : j / sz < css.length := (Nat.div_lt_iff_lt_mul hp).2 hj
  have hr : j % sz < sz := Nat.mod_lt _ hp
  have hdm : j / sz * sz + j % sz = j := by rw [Nat.mul_comm]; exact Nat.div_add_mod j sz
  have hcs : css[j / sz]? = some css[j / sz] := List.getElem?_eq_getElem hi
  have hl := h _ (List.mem_of_getElem? hcs)
  have hrow : (css[j / sz])[j % sz]? = some ((css[j / sz])[j % sz]'(by rw [hl]; exact hr)) := List.getElem?_eq_getElem _
  have hfl := flatten_at h hcs hrow
  rw [hdm, hu] at hfl
  injection hfl with hfl
  exact ⟨_, hcs, by rw [hrow, ← hfl], hdm⟩
theorem Elem.OL.cat {w : World} {lo mid hi : Nat} {css css' : List (List Value)} {xs ys : List α} (h : E.OL w lo mid css xs) (h' : E.OL w mid hi css' ys) (h1 : lo ≤ mid) (h2 : mid ≤ hi) : E.OL w lo hi (css ++ css') (xs ++ ys) := by
  have old : ∀ (i : Nat) (c : List Value), (css ++ css')[i]? = some c → (i < css.length ∧ css[i]? = some c) ∨ (css.length ≤ i ∧ css'[i - css.length]? = some c) := by
    intro i c hc
    rcases Nat.lt_or_ge i css.length with hlt | hge
    · rw [List.getElem?_append_left hlt] at hc; exact .inl ⟨hlt, hc⟩
    · rw [List.getElem?_append_right hge] at hc; exact .inr ⟨hge, hc⟩
  refine ⟨by simp [h.len, h'.len], fun i y hy => ?_, fun i j c c' b hij hc hc' hb hb' => ?_⟩
  · rcases Nat.lt_or_ge i xs.length with hlt | hge
    · rw [List.getElem?_append_left hlt] at hy
      obtain ⟨c, a, d⟩ := h.at_ i y hy
      exact ⟨c, by rw [List.getElem?_append_left (by rw [h.len]; exact hlt)]; exact a, E.monoO d (Nat.le_refl _) h2⟩
    · rw [List.getElem?_append_right hge] at hy
      obtain ⟨c, a, d⟩ := h'.at_ _ y hy
      exact ⟨c, by rw [List.getElem?_append_right (by rw [h.len]; exact hge), h.len]; exact a, E.monoO d h1 (Nat.le_refl _)⟩
  · rcases old i c hc with ⟨hi1, hci⟩ | ⟨hi1, hci⟩ <;> rcases old j c' hc' with ⟨hj1, hcj⟩ | ⟨hj1, hcj⟩
    · exact h.apart i j c c' b hij hci hcj hb hb'
    · have a1 := (h.blk c (List.mem_of_getElem? hci) b hb).2
      have a2 := (h'.blk c' (List.mem_of_getElem? hcj) b hb').1
      omega
    · have a1 := (h.blk c' (List.mem_of_getElem? hcj) b hb').2
      have a2 := (h'.blk c (List.mem_of_getElem? hci) b hb).1
      omega
    · exact h'.apart _ _ c c' b (by omega) hci hcj hb hb'
/-- append(s, t...), where t owns its elements, which are newer than those of s. -/
theorem Elem.OS.appAll {w : World} {t bytes lo mid hi c0 d ty : Nat} {A0 B : Option Addr} {xs ys : List α} (T : SlTy E t bytes) (hone : ∀ {w lo hi cs x}, E.R w lo hi cs x → ∀ u ∈ cs, u.oneCell' = true)
    (hs : E.OS w lo mid (.slice A0 xs.length c0) xs) (hr : E.OS w mid hi (.slice B ys.length d) ys) (hlm : lo ≤ mid) (hmh : mid ≤ hi) (hhw : hi ≤ w.heap.size) (hb : xs.length + ys.length ≤ 1048576) (hby : bytes ≤ 128) :
    ∃ A' c' w', (Builtin.append_ #[t, t] ty #[.slice A0 xs.length c0, .slice B ys.length d]).run Try.prog w = .ok (.slice A' (xs ++ ys).length c') w' ∧ E.OS w' lo w'.heap.size (.slice A' (xs ++ ys).length c') (xs ++ ys) ∧
      w.grownBy w' (Value.slice A0 xs.length c0).ownBlock ∧ E.AS w' mid hi B ys := by
  obtain ⟨i, z, i1, i2, i3, i4, i5⟩ := T.hi
  have hmul : (xs.length + ys.length) * bytes ≤ 1048576 * 128 := Nat.mul_le_mul hb hby
  have hblk0 := hs.blkv
  have hrd := hr.read.as
  obtain ⟨css, k1, k2, k3⟩ := hs
  obtain ⟨css', j1, j2, j3⟩ := hr
  have hsz' := j2.read.sizes
  have hlen' : css'.flatten.length = ys.length * E.sz := by rw [flatten_len hsz', j2.len]
  have fin : ∀ (v' : Value) (w' : World), w'.ownsRow lo E.e E.sz v' (xs.length + ys.length) (css.flatten ++ css'.flatten) → w.grownBy w' (Value.slice A0 xs.length c0).ownBlock → (v'.ownBlock = (Value.slice A0 xs.length c0).ownBlock ∨ v'.ownBlock = some w.heap.size) →
      ∃ A' c', v' = .slice A' (xs ++ ys).length c' ∧ E.OS w' lo w'.heap.size (.slice A' (xs ++ ys).length c') (xs ++ ys) ∧ E.AS w' mid hi B ys := by
    intro v' w' how hg hv
    have hsm : Same mid hi w w' := Same.of_grown hg hhw fun b hb => .inl (hblk0 b hb).2
    have e1 : E.OL w' lo mid css xs := ⟨k2.len, fun i y hy => by
      obtain ⟨c, a, b⟩ := k2.at_ i y hy
      exact ⟨c, a, E.loc b fun k hk => hg.block k (by have := (E.blk b k hk).2; omega) (fun e => k3 c (List.mem_of_getElem? a) k hk e.symm)⟩, k2.apart⟩
    have e2 : E.OL w' mid hi css' ys := j2.same hsm
    have hos : E.OS w' lo w'.heap.size v' (xs ++ ys) := by
      refine ⟨css ++ css', ?_, (e1.cat e2 hlm hmh).mono (Nat.le_refl _) (Nat.le_trans hhw hg.size), fun c hc b hbb hvv => ?_⟩
      · rw [List.flatten_append, List.length_append]
        exact OSl.of_own how (by unfold BIG; omega)
      · rcases List.mem_append.1 hc with hc | hc
        · have hbl := k2.blk c hc b hbb
          rcases hv with hv | hv
          · exact k3 c hc b hbb (hv ▸ hvv)
          · rw [hv] at hvv; injection hvv with hvv; omega
        · have hbl := j2.blk c hc b hbb
          rcases hv with hv | hv
          · rw [hv] at hvv; have := hblk0 b hvv; omega
          · rw [hv] at hvv; injection hvv with hvv; omega
    obtain ⟨A', c', q1, _⟩ := hos.read.open_
    subst q1
    exact ⟨A', c', rfl, hos, hrd.same hsm⟩
  have go : ∀ ad : Addr, B = some ad → (∀ (j : Nat) (u : Value), css'.flatten[j]? = some u → w.cell? (ad.add j) = some u) → ∃ A' c' w', (Builtin.append_ #[t, t] ty #[.slice A0 xs.length c0, .slice B ys.length d]).run Try.prog w = .ok (.slice A' (xs ++ ys).length c') w' ∧ E.OS w' lo w'.heap.size (.slice A' (xs ++ ys).length c') (xs ++ ys) ∧
      w.grownBy w' (Value.slice A0 xs.length c0).ownBlock ∧ E.AS w' mid hi B ys := by
    intro ad hB hcells
    have hone' : ∀ u ∈ css'.flatten, u.oneCell' = true := by
      intro u hu
      obtain ⟨cs, hcs, hu'⟩ := List.mem_flatten.1 hu
      obtain ⟨k, hk, rfl⟩ := List.mem_iff_getElem.1 hcs
      obtain ⟨x, hx⟩ : ∃ x, ys[k]? = some x := ⟨_, List.getElem?_eq_getElem (by rw [← j2.len]; exact hk)⟩
      obtain ⟨cs', hcs', hR⟩ := j2.read.at_ k x hx
      rw [List.getElem?_eq_getElem hk] at hcs'
      injection hcs' with hcs'
      rw [hcs'] at hu'
      exact hone hR u hu'
    subst hB
    obtain ⟨v', w', hrun, h2, h3, _, h5⟩ := run_append_own_at (P := Try.prog) w lo t ty E.e i z E.sz bytes T.ht i1 i2 i3 i4 i5 T.pos _ _ _ k1.1 ad ys.length d css'.flatten hlen' hcells hone' (by simp only [maxLen]; omega) (by omega) (by omega)
    obtain ⟨A', c', rfl, ho, hr'⟩ := fin v' w' h2 h3 h5
    exact ⟨A', c', w', hrun, ho, h3, hr'⟩
  rcases Nat.eq_zero_or_pos ys.length with h0 | hpos
  · have hy : ys = [] := List.eq_nil_of_length_eq_zero h0
    subst hy
    have hc0 : css'.flatten = [] := List.eq_nil_of_length_eq_zero (by rw [hlen']; simp)
    cases B with
    | none =>
      have hrun := run_append_none_any (P := Try.prog) (w := w) lo t ty E.e i E.sz d T.ht i1 _ _ _ k1.1
      have hg : w.grownBy w (Value.slice A0 xs.length c0).ownBlock := ⟨rfl, rfl, rfl, Nat.le_refl _, fun _ _ _ => rfl⟩
      obtain ⟨A', c', e1, ho, hr'⟩ := fin (.slice A0 xs.length c0) w (by simpa [hc0] using k1.1) hg (.inl rfl)
      refine ⟨A', c', w, ?_, ho, hg, hr'⟩
      rw [← e1]; simpa using hrun
    | some ad => exact go ad rfl (fun j u hu => by rw [hc0] at hu; simp at hu)
  · have hform := j1.form hpos
    obtain ⟨g, c, hv, _⟩ := hform
    injection hv with hv _ hc
    subst hv; subst hc
    refine go _ rfl fun j u hu => ?_
    have hadd : (⟨g, 0, none⟩ : Addr).add j = ⟨g, j, none⟩ := by unfold Addr.add; split <;> simp_all
    rw [hadd]
    exact (j1.cell hu).1
/-- .. at the operation. -/
theorem wpList_appAll {w : World} {t bytes lo mid hi c0 d n m : Nat} {B : Option Addr} {ys : List α} {ops : Array Oper} {rest : List Oper} {o : Oper} {a : Act} {Q : Exit → Act → World → Prop} (T : SlTy E t bytes) (hone : ∀ {w lo hi cs x}, E.R w lo hi cs x → ∀ u ∈ cs, u.oneCell' = true) (A0 : Option Addr) (xs : List α)
    (hs : E.OS w lo mid (.slice A0 n c0) xs) (hn : xs.length = n) (hr : E.OS w mid hi (.slice B m d) ys) (hm : ys.length = m) (hlm : lo ≤ mid) (hmh : mid ≤ hi) (hhw : hi ≤ w.heap.size) (s y : Operand)
    (ho : o.op = .call { callee := .builtin .append, args := #[s, y], argTypes := #[t, t] }) (hgd : o.guard = none) (hs' : a.eval s = .slice A0 n c0) (hy : a.eval y = .slice B m d)
    (hb : n + m ≤ 1048576) (hby : bytes ≤ 128)
    (h : ∀ A' c' w', E.OS w' lo w'.heap.size (.slice A' (n + m) c') (xs ++ ys) → w.grownBy w' (Value.slice A0 n c0).ownBlock → E.AS w' mid hi B ys → wpList Try.prog ops Q rest (a.put o.dst (.slice A' (n + m) c')) w') :
    wpList Try.prog ops Q (o :: rest) a w := by
  subst hn; subst hm
  refine wpList_plain hgd fun K hK => ?_
  obtain ⟨A', c', w', hrun, h2, h3, h4⟩ := Elem.OS.appAll (ty := o.type) T hone hs hr hlm hmh hhw hb hby
  unfold Oper.wp execOp
  simp only [ho, resolve, invoke, builtin, Sem.run_bind, Sem.run_pure, Result.andThen_ok, List.map_toArray, List.map_cons, List.map_nil, hs', hy, hrun]
  rw [List.length_append] at h2 ⊢
  exact hK _ _ (h A' c' w' h2 h3 h4)
end
end Go.Proofs.Ythpcippgifmabaa

/-! ## FromM -/
namespace Go.Proofs.Ythpcippgifmabaa
set_option maxRecDepth 100000
open Go.RowKit

def addS (t : KinType) (s : Step) : KinType := ⟨t.ego, t.steps ++ [s]⟩
def kindS (i : Nat) : Step := ⟨(i : Int) + 1, 0⟩
/-- The type with each of the first k kinds of steps appended that can be made. -/
def moreTo (t : KinType) : Nat → List KinType
  | 0 => []
  | k + 1 => if stepOk (kindS k) (sexM t) = true then moreTo t k ++ [addS t (kindS k)] else moreTo t k
def moreM (t : KinType) : List KinType := moreTo t 8
theorem moreTo_succ (t : KinType) (k : Nat) : moreTo t (k + 1) = if stepOk (kindS k) (sexM t) = true then moreTo t k ++ [addS t (kindS k)] else moreTo t k := rfl
theorem moreTo_yes {t : KinType} {k : Nat} (h : stepOk (kindS k) (sexM t) = true) : moreTo t (k + 1) = moreTo t k ++ [addS t (kindS k)] := if_pos h
theorem moreTo_no {t : KinType} {k : Nat} (h : stepOk (kindS k) (sexM t) = false) : moreTo t (k + 1) = moreTo t k := if_neg (by rw [h]; simp)
theorem moreTo_len (t : KinType) : ∀ k, (moreTo t k).length ≤ k := by
  intro k
  induction k with
  | zero => exact Nat.le_refl _
  | succ k ih =>
    rw [moreTo_succ]; split
    · simp; exact ih
    · omega
theorem moreTo_mem {t u : KinType} : ∀ {k : Nat}, u ∈ moreTo t k → ∃ i, i < k ∧ stepOk (kindS i) (sexM t) = true ∧ u = addS t (kindS i) := by
  intro k
  induction k with
  | zero => intro h; cases h
  | succ k ih =>
    intro h
    rw [moreTo_succ] at h
    split at h
    · rename_i hk
      rcases List.mem_append.1 h with h | h
      · obtain ⟨i, h1, h2⟩ := ih h; exact ⟨i, by omega, h2⟩
      · simp at h; exact ⟨k, by omega, hk, h⟩
    · obtain ⟨i, h1, h2⟩ := ih h; exact ⟨i, by omega, h2⟩
theorem stepsOk_snoc {xs : List Step} {s : Step} : ∀ {sex : Int}, stepsOk sex (xs ++ [s]) = (stepsOk sex xs && stepOk s (sexM ⟨sex, xs⟩)) := by
  induction xs with
  | nil => intro sex; simp [stepsOk, sexM]
  | cons x r ih =>
    intro sex
    rw [List.cons_append, stepsOk_cons, ih, stepsOk_cons, Bool.and_assoc]
    congr 2
    cases r with
    | nil => simp [sexM]
    | cons y r => simp [sexM]
theorem addS_ok {t : KinType} (h : typeOk t = true) (hl : t.steps.length < 8) (s : Step) : typeOk (addS t s) = stepOk s (sexM t) := by
  have h2 := typeOk_ego h
  simp only [typeOk, Bool.and_eq_true] at h
  have h3 := h.2
  obtain ⟨eg, st⟩ := t
  show (decide (0 ≤ eg ∧ eg ≤ 2 ∧ (st ++ [s]).length ≤ 8) && stepsOk eg (st ++ [s])) = stepOk s (sexM ⟨eg, st⟩)
  simp only at h2 h3 hl
  rw [stepsOk_snoc, h3, decide_eq_true (by simp; omega)]
  rfl
/-- A step to the father can always be made. -/
theorem kind_father (sex : Int) : stepOk (kindS 0) sex = true := by simp [stepOk, kindS]
theorem moreM_ne (t : KinType) : 0 < (moreM t).length := by
  have h : ∀ k, 0 < (moreTo t (k + 1)).length := by
    intro k
    induction k with
    | zero => rw [moreTo_yes (kind_father _)]; simp
    | succ k ih =>
      rw [moreTo_succ]; split
      · simp
      · exact ih
  exact h 7
/-- The types of k steps. -/
def lastM (ego : Int) : Nat → List KinType
  | 0 => [⟨ego, []⟩]
  | k + 1 => (lastM ego k).flatMap moreM
def outM (ego : Int) : Nat → List KinType
  | 0 => []
  | k + 1 => outM ego k ++ lastM ego (k + 1)
def fromM (ego n : Int) : List KinType := if (ego = 1 ∨ ego = 2) ∧ 1 ≤ n ∧ n ≤ 3 then outM ego n.toNat else []
theorem fromM_out {ego n : Int} (h : ¬ ((ego = 1 ∨ ego = 2) ∧ 1 ≤ n ∧ n ≤ 3)) : fromM ego n = [] := if_neg h
theorem fromM_in {ego : Int} {n : Nat} (h : ego = 1 ∨ ego = 2) (h1 : 1 ≤ n) (h3 : n ≤ 3) : fromM ego n = outM ego n := by rw [fromM, if_pos ⟨h, by omega, by omega⟩]; rfl
theorem lastM_mem {ego : Int} (he : ego = 1 ∨ ego = 2) : ∀ {k : Nat} {t : KinType}, k ≤ 8 → t ∈ lastM ego k → typeOk t = true ∧ t.steps.length = k ∧ t.ego = ego := by
  intro k
  induction k with
  | zero =>
    intro t _ h
    simp [lastM] at h
    subst h
    refine ⟨?_, rfl, rfl⟩
    simp [typeOk, stepsOk]; omega
  | succ k ih =>
    intro t hk h
    simp only [lastM, List.mem_flatMap] at h
    obtain ⟨u, hu, ht⟩ := h
    obtain ⟨h1, h2, h3⟩ := ih (by omega) hu
    obtain ⟨i, _, hi, rfl⟩ := moreTo_mem ht
    exact ⟨by rw [addS_ok h1 (by omega)]; exact hi, by simp [addS, h2], h3⟩
theorem outM_mem {ego : Int} (he : ego = 1 ∨ ego = 2) : ∀ {k : Nat} {t : KinType}, k ≤ 8 → t ∈ outM ego k → typeOk t = true ∧ 1 ≤ t.steps.length ∧ t.steps.length ≤ k ∧ t.ego = ego := by
  intro k
  induction k with
  | zero => intro t _ h; cases h
  | succ k ih =>
    intro t hk h
    rcases List.mem_append.1 h with h | h
    · obtain ⟨h1, h2, h3, h4⟩ := ih (by omega) h; exact ⟨h1, h2, by omega, h4⟩
    · obtain ⟨h1, h2, h3⟩ := lastM_mem he hk h; exact ⟨h1, by omega, by omega, h3⟩
theorem flatMore_len (ts : List KinType) : (ts.flatMap moreM).length ≤ 8 * ts.length := by
  induction ts with
  | nil => simp
  | cons t r ih =>
    rw [List.flatMap_cons, List.length_append, List.length_cons]
    have := moreTo_len t 8
    unfold moreM at ih ⊢; omega
theorem flatMore_succ {ts : List KinType} {j : Nat} {t : KinType} (h : ts[j]? = some t) : (ts.take (j + 1)).flatMap moreM = (ts.take j).flatMap moreM ++ moreM t := by
  rw [List.take_add_one, h, List.flatMap_append]; simp
theorem lastM_len (ego : Int) : (lastM ego 0).length = 1 ∧ (lastM ego 1).length ≤ 8 ∧ (lastM ego 2).length ≤ 64 ∧ (lastM ego 3).length ≤ 512 := by
  have h1 := flatMore_len (lastM ego 0)
  have h2 := flatMore_len (lastM ego 1)
  have h3 := flatMore_len (lastM ego 2)
  have h0 : (lastM ego 0).length = 1 := rfl
  refine ⟨h0, ?_, ?_, ?_⟩
  · show ((lastM ego 0).flatMap moreM).length ≤ 8; omega
  · show ((lastM ego 1).flatMap moreM).length ≤ 64
    have : (lastM ego 1).length = ((lastM ego 0).flatMap moreM).length := rfl
    omega
  · show ((lastM ego 2).flatMap moreM).length ≤ 512
    have e1 : (lastM ego 1).length = ((lastM ego 0).flatMap moreM).length := rfl
    have e2 : (lastM ego 2).length = ((lastM ego 1).flatMap moreM).length := rfl
    omega
theorem lastM_le {ego : Int} {k : Nat} (h : k ≤ 3) : (lastM ego k).length ≤ 512 := by
  have := lastM_len ego
  rcases (by omega : k = 0 ∨ k = 1 ∨ k = 2 ∨ k = 3) with rfl | rfl | rfl | rfl <;> omega
theorem outM_le {ego : Int} : ∀ {k : Nat}, k ≤ 3 → (outM ego k).length ≤ 512 * k := by
  intro k
  induction k with
  | zero => intro _; exact Nat.le_refl _
  | succ k ih =>
    intro hk
    have h1 := ih (by omega)
    have h2 := lastM_le (ego := ego) hk
    simp only [outM, List.length_append]; omega
theorem mkT_le {c : Nat} {xs : List KinType} (h : ∀ x ∈ xs, x.steps.length ≤ c) : mkT xs ≤ xs.length * (1 + 2 * c) := by
  induction xs with
  | nil => simp [mkT]
  | cons x r ih =>
    have h1 := ih fun y hy => h y (by simp [hy])
    have h2 := h x (by simp)
    simp only [mkT, wT, List.length_cons]
    rw [Nat.add_mul r.length 1, Nat.one_mul]; omega
theorem fromM_bounds (ego n : Int) : (fromM ego n).length ≤ 1536 ∧ mkT (fromM ego n) ≤ 10752 := by
  unfold fromM; split
  · rename_i h
    obtain ⟨he, h1, h3⟩ := h
    have h4 := outM_le (ego := ego) (k := n.toNat) (by omega)
    have h5 := mkT_le (c := 3) (xs := outM ego n.toNat) fun x hx => by have := (outM_mem he (by omega) hx).2.2.1; omega
    omega
  · simp [mkT]
end Go.Proofs.Ythpcippgifmabaa

/-! ## FromS -/
namespace Go.Proofs.Ythpcippgifmabaa
set_option maxRecDepth 100000
open Go.RowKit

end Go.Proofs.Ythpcippgifmabaa

/-! ## FromI -/
namespace Go.Proofs.Ythpcippgifmabaa
set_option maxRecDepth 100000
open Go.RowKit

/-- append(out, x), as wpList_app1; it is told too where the new slice lies. -/
theorem wpList_app1b {α : Type} {E : Elem α} {t bytes lo hi n c0 : Nat} {w : World} {ops : Array Oper} {rest : List Oper} {o : Oper} {a : Act} {Q : Exit → Act → World → Prop} (T : SlTy E t bytes) (A0 : Option Addr) (xs : List α) (x : α) (cs : List Value) (ad : Addr) (c : Nat)
    (hown : E.OS w lo hi (.slice A0 n c0) xs) (hn : xs.length = n) (hhi : hi ≤ w.heap.size) (hlo : lo ≤ hi) (hx : E.O w hi w.heap.size cs x) (s y : Operand)
    (ho : o.op = .call { callee := .builtin .append, args := #[s, y], argTypes := #[t, t] }) (hgd : o.guard = none) (hs : a.eval s = .slice A0 n c0) (hy : a.eval y = .slice (some ad) 1 c)
    (hcs : ∀ (j : Nat) (u : Value), cs[j]? = some u → w.cell? (ad.add j) = some u) (h1 : ∀ u ∈ cs, u.oneCell' = true) (hb : n + 1 ≤ 1048576) (hby : bytes ≤ 128)
    (h : ∀ A' c' w', E.OS w' lo w'.heap.size (.slice A' (n + 1) c') (xs ++ [x]) → w.grownBy w' (Value.slice A0 n c0).ownBlock → ((Value.slice A' (n + 1) c').ownBlock = (Value.slice A0 n c0).ownBlock ∨ (Value.slice A' (n + 1) c').ownBlock = some w.heap.size) → wpList Try.prog ops Q rest (a.put o.dst (.slice A' (n + 1) c')) w') :
    wpList Try.prog ops Q (o :: rest) a w := by
  subst hn
  obtain ⟨css, k1, k2, k3⟩ := hown
  obtain ⟨i, z, i1, i2, i3, i4, i5⟩ := T.hi
  have hmul : (xs.length + 1) * bytes ≤ 1048576 * 128 := Nat.mul_le_mul hb hby
  have hcl : cs.length = E.sz := E.len (E.read hx)
  refine wpList_append_own_at _ hgd s y t ho lo E.e i z E.sz bytes T.ht i1 i2 i3 i4 i5 T.pos _ _ css.flatten hs k1.1 ad 1 c cs hy (by rw [hcl, Nat.one_mul]) hcs h1 (by simp only [maxLen]; omega) (by omega) (by omega) ?_
  intro v' w' p1 p2 p3 p4
  have hos : E.OS w' lo w'.heap.size v' (xs ++ [x]) := Elem.OS.app k1 k2 k3 hhi hlo hx p1 p2 p4 (by unfold BIG; omega)
  obtain ⟨A', c', e1, e2, e3, _⟩ := hos.read.open_
  subst e1
  simp only [List.length_append, List.length_singleton] at hos p4 h ⊢
  exact h A' c' w' hos p2 p4

end Go.Proofs.Ythpcippgifmabaa
