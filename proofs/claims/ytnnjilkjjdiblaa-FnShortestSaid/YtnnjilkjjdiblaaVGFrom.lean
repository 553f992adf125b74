/-
  What is owned, while one of its elements is being changed.
  Lists of kin types, each of which owns its steps: equality, marks, append of a whole list.
  Kin types of a few steps: models.
  Kin types of a few steps, in the reference.
  Kin types of a few steps, in the program.
-/
import Derived.Test.YtnnjilkjjdiblaaBase
import Derived.Test.YtnnjilkjjdiblaaMarkTyp
import Derived.Test.YtnnjilkjjdiblaaAppN
import Derived.Deep.RegionHeld3
import Derived.Test.YtnnjilkjjdiblaaTyp2
import Derived.Test.YtnnjilkjjdiblaaJoinT
import Derived.Deep.Cut
import Derived.Deep.DeepCutAuto

/-! ## OSx -/
namespace Go.Proofs.Ytnnjilkjjdiblaa
set_option maxRecDepth 100000
open Go.RowKit

/-- What is owned, of which nothing is said about the i-th element but its cells. -/
structure Elem.OSx {α : Type} (E : Elem α) (w : World) (lo hi : Nat) (v : Value) (css : List (List Value)) (xs : List α) (i : Nat) : Prop where
  own : OSl w lo hi E.e E.sz v xs.length css.flatten
  len : css.length = xs.length
  sizes : ∀ cs ∈ css, cs.length = E.sz
  at_ : ∀ (k : Nat) (x : α), k ≠ i → xs[k]? = some x → ∃ cs, css[k]? = some cs ∧ E.O w lo hi cs x
  apart : ∀ (i j : Nat) (cs cs' : List Value) (b : Nat), i ≠ j → css[i]? = some cs → css[j]? = some cs' → b ∈ blocks cs → b ∉ blocks cs'
  far : ∀ cs ∈ css, ∀ b ∈ blocks cs, v.ownBlock ≠ some b
section
variable {α : Type} {E : Elem α} {w w' : World} {lo hi i g c n : Nat} {v : Value} {xs : List α} {css : List (List Value)} {cs : List Value}
theorem Elem.OSx.same (h : E.OSx w lo hi v css xs i) (k : Same lo hi w w') : E.OSx w' lo hi v css xs i :=
  ⟨h.own.same k, h.len, h.sizes, fun j x hj hx => let ⟨cs, a, b⟩ := h.at_ j x hj hx; ⟨cs, a, E.sameO b k⟩, h.apart, h.far⟩
theorem Elem.OSx.cell {j : Nat} {u : Value} (h : E.OSx w lo hi (.slice (some ⟨g, 0, none⟩) n c) css xs i) (hn : n = xs.length) (hci : css[i]? = some cs) (hu : cs[j]? = some u) : w.cell? ⟨g, i * E.sz + j, none⟩ = some u ∧ w.frozen? ⟨g, i * E.sz + j, none⟩ = false := by
  subst hn
  exact h.own.cell (flatten_at h.sizes hci hu)
theorem Elem.OSx.put {j : Nat} {u u0 : Value} (h : E.OSx w lo hi (.slice (some ⟨g, 0, none⟩) n c) css xs i) (hn : n = xs.length) (hci : css[i]? = some cs) (hu0 : cs[j]? = some u0) (hu : ∀ b, u.ownBlock = some b → u0.ownBlock = some b) :
    E.OSx (w.setCell ⟨g, i * E.sz + j, none⟩ u) lo hi (.slice (some ⟨g, 0, none⟩) n c) (css.set i (cs.set j u)) xs i := by
  subst hn
  have hj : j < cs.length := (List.getElem?_eq_some_iff.1 hu0).1
  have hmem := List.mem_of_getElem? hci
  have hlt' := (List.getElem?_eq_some_iff.1 hci).1
  have hbl : ∀ b ∈ blocks (cs.set j u), b ∈ blocks cs := by
    intro b hb
    obtain ⟨a, ha, hab⟩ := List.mem_filterMap.1 hb
    rcases List.mem_or_eq_of_mem_set ha with ha | rfl
    · exact List.mem_filterMap.2 ⟨a, ha, hab⟩
    · exact List.mem_filterMap.2 ⟨u0, List.mem_of_getElem? hu0, hu b hab⟩
  have old : ∀ (b k : Nat) (c : List Value), (css.set i (cs.set j u))[k]? = some c → b ∈ blocks c → ∃ c0, css[k]? = some c0 ∧ b ∈ blocks c0 := by
    intro b k c hc hbb
    by_cases hik : i = k
    · subst hik
      rw [List.getElem?_set_self hlt'] at hc
      injection hc with hc
      subst hc
      exact ⟨cs, hci, hbl b hbb⟩
    · rw [List.getElem?_set_ne hik] at hc
      exact ⟨c, hc, hbb⟩
  refine ⟨?_, by simp [h.len], ?_, ?_, ?_, ?_⟩
  · rw [← flatten_set h.sizes hci hj]
    exact h.own.set (by have := (List.getElem?_eq_some_iff.1 (flatten_at h.sizes hci hu0)).1; exact this)
  · intro c' hc'
    rcases List.mem_or_eq_of_mem_set hc' with hc' | rfl
    · exact h.sizes c' hc'
    · simp [h.sizes cs hmem]
  · intro k y hk hy
    obtain ⟨ck, a, b⟩ := h.at_ k y hk hy
    refine ⟨ck, by rw [List.getElem?_set_ne (Ne.symm hk)]; exact a, E.loc b fun b' hb' => Below.heap_setCell _ _ _ _ ?_⟩
    intro e
    exact h.far ck (List.mem_of_getElem? a) b' hb' (by simp [Value.ownBlock]; exact e.symm)
  · intro k l c1 c2 b hkl hc1 hc2 hb1 hb2
    obtain ⟨c0, a0, b0⟩ := old b k c1 hc1 hb1
    obtain ⟨c1', a1, b1⟩ := old b l c2 hc2 hb2
    exact h.apart k l c0 c1' b hkl a0 a1 b0 b1
  · intro c' hc' b hb
    rcases List.mem_or_eq_of_mem_set hc' with hc' | rfl
    · exact h.far c' hc' b hb
    · exact h.far cs hmem b (hbl b hb)
theorem Elem.OSx.inner (h : E.OSx w lo hi v css xs i) (hci : css[i]? = some cs) (ho : Only (fun b => b ∈ blocks cs) w w') (hsz : hi ≤ w.heap.size) : E.OSx w' lo hi v css xs i := by
  have hmem := List.mem_of_getElem? hci
  refine ⟨h.own.loc fun b hb => ho.block b ?_ (fun hbb => h.far cs hmem b hbb hb), h.len, h.sizes, fun k x hk hx => ?_, h.apart, h.far⟩
  · have := h.own.2.1 b hb; omega
  · obtain ⟨ck, a, b⟩ := h.at_ k x hk hx
    exact ⟨ck, a, E.loc b fun b' hb' => ho.block b' (by have := (E.blk b b' hb').2; omega) (fun hbb => h.apart i k cs ck b' (Ne.symm hk) hci a hbb hb')⟩
end
end Go.Proofs.Ytnnjilkjjdiblaa

/-! ## TypEl -/
namespace Go.Proofs.Ytnnjilkjjdiblaa
set_option maxRecDepth 100000
open Go.RowKit

def vsTyp (x : KinType) (v : Value) : List Value := [.int .i64 x.ego, v]
theorem blocks_typ {x : KinType} {v : Value} {b : Nat} : b ∈ blocks (vsTyp x v) ↔ v.ownBlock = some b := by
  simp only [blocks, vsTyp, List.mem_filterMap, List.mem_cons, List.not_mem_nil, or_false]
  constructor
  · rintro ⟨a, rfl | rfl, h⟩
    · simp [Value.ownBlock] at h
    · exact h
  · exact fun h => ⟨v, by simp, h⟩
def EKin : Elem KinType where
  e := 30
  sz := 2
  O := fun w lo hi cs x => ∃ v, cs = vsTyp x v ∧ EStep.OS w lo hi v x.steps
  R := fun w lo hi cs x => ∃ v, cs = vsTyp x v ∧ EStep.RS w lo hi v x.steps
  len := fun ⟨_, h, _⟩ => by rw [h]; rfl
  read := fun ⟨v, h, a⟩ => ⟨v, h, a.read⟩
  sameO := fun ⟨v, h, a⟩ s => ⟨v, h, a.same s⟩
  sameR := fun ⟨v, h, a⟩ s => ⟨v, h, a.same s⟩
  monoO := fun ⟨v, h, a⟩ p q => ⟨v, h, a.mono p q⟩
  monoR := fun ⟨v, h, a⟩ p q => ⟨v, h, a.mono p q⟩
  blk := fun ⟨v, h, a⟩ k hk => by
    rw [h] at hk
    exact a.blkv _ (blocks_typ.1 hk)
  loc := fun {w w' lo hi cs x} ⟨v, h, a⟩ hb => by
    refine ⟨v, h, a.loc (fun k hk => hb k ?_) (fun h => h)⟩
    rw [h]; exact blocks_typ.2 hk
theorem kin_info : (Try.prog.info? 30).map (fun i => (i.zero, i.size, i.bytes)) = some (some (.agg #[.int .i64 0, .slice none 0 0]), 2, 32) := by kernel_rfl
theorem tyKinS : SlTy EKin 44 32 := SlTy.mk' Try.underlying44 kin_info rfl (by decide)
theorem EKin_one {w : World} {lo hi : Nat} {cs : List Value} {x : KinType} (h : EKin.R w lo hi cs x) : ∀ u ∈ cs, u.oneCell' = true := by
  obtain ⟨v, rfl, A, c, rfl, _⟩ := h
  intro u hu
  simp [vsTyp] at hu
  rcases hu with rfl | rfl <;> rfl
section
variable {w : World} {lo hi : Nat} {A : Option Addr} {k : Nat}
theorem AKin.at_ {xs : List KinType} (h : EKin.AS w lo hi A xs) (hk : k < xs.length) : ∃ b off x A1 c1, A = some ⟨b, off, none⟩ ∧ lo ≤ b ∧ b < hi ∧ xs.drop k = x :: xs.drop (k + 1) ∧ xs[k]? = some x ∧
    w.cell? ⟨b, off + k * 2, none⟩ = some (.int .i64 x.ego) ∧ w.cell? ⟨b, off + k * 2 + 1, none⟩ = some (.slice A1 x.steps.length c1) ∧ EStep.AS w lo hi A1 x.steps := by
  obtain ⟨b, off, x, cs, rfl, h1, h2, h3, h4, ⟨v1, rfl, ⟨A1, c1, rfl, _, _, q1⟩⟩, hc⟩ := h.at_ hk
  exact ⟨b, off, x, A1, c1, rfl, h1, h2, h3, h4, by simpa [EKin, Nat.add_assoc] using hc 0 _ rfl, by simpa [EKin, Nat.add_assoc] using hc 1 _ rfl, q1⟩
end

/-! ### Marks -/
def wT (x : KinType) : Nat := 1 + 2 * x.steps.length
def mkT : List KinType → Nat
  | [] => 0
  | x :: r => wT x + mkT r
def marksT (k : Int) : List KinType → List KinType
  | [] => []
  | x :: r => ⟨k, mkTo (markStep (k + 1)) x.steps.length⟩ :: marksT (k + wT x) r
theorem marksT_len (xs : List KinType) : ∀ k, (marksT k xs).length = xs.length := by induction xs <;> simp_all [marksT]
theorem marksT_at {xs : List KinType} : ∀ {k : Int} {j : Nat} {x : KinType}, xs[j]? = some x → (marksT k xs)[j]? = some ⟨k + mkT (xs.take j), mkTo (markStep (k + mkT (xs.take j) + 1)) x.steps.length⟩ := by
  induction xs with
  | nil => intro k j x h; simp at h
  | cons y r ih =>
    intro k j x h
    cases j with
    | zero => simp at h; subst h; simp [marksT, mkT]
    | succ j =>
      simp at h
      simp only [marksT, List.getElem?_cons_succ, ih h, List.take_succ_cons, mkT]
      rw [show k + (wT y : Int) + (mkT (r.take j) : Int) = k + ((wT y + mkT (r.take j) : Nat) : Int) by omega]
def MarkedT (k : Int) (xs ys : List KinType) (j : Nat) : Prop := ys.length = xs.length ∧ (∀ i, i < j → ys[i]? = (marksT k xs)[i]?) ∧ ∀ i, j ≤ i → ys[i]? = xs[i]?
theorem MarkedT.step {k : Int} {xs ys : List KinType} {j : Nat} {x : KinType} (h : MarkedT k xs ys j) (hx : xs[j]? = some x) : MarkedT k xs (ys.set j ⟨k + mkT (xs.take j), mkTo (markStep (k + mkT (xs.take j) + 1)) x.steps.length⟩) (j + 1) := by
  obtain ⟨h1, h2, h3⟩ := h
  have hj : j < ys.length := by rw [h1]; exact (List.getElem?_eq_some_iff.1 hx).1
  refine ⟨by simpa using h1, fun i hi => ?_, fun i hi => ?_⟩
  · by_cases hij : j = i
    · subst hij; rw [List.getElem?_set_self hj, marksT_at hx]
    · rw [List.getElem?_set_ne hij]; exact h2 i (by omega)
  · rw [List.getElem?_set_ne (by omega)]; exact h3 i (by omega)
theorem MarkedT.done {k : Int} {xs ys : List KinType} {j : Nat} (h : MarkedT k xs ys j) (hj : xs.length ≤ j) : ys = marksT k xs := by
  obtain ⟨h1, h2, h3⟩ := h
  apply List.ext_getElem?
  intro i
  by_cases hi : i < xs.length
  · exact h2 i (by omega)
  · rw [List.getElem?_eq_none (by omega), List.getElem?_eq_none (by rw [marksT_len]; omega)]

/-! ### append(out, more...) -/
section
variable {α : Type} {E : Elem α}
theorem Elem.OL.cat {w : World} {lo mid hi : Nat} {css css' : List (List Value)} {xs ys : List α} (h : E.OL w lo mid css xs) (h' : E.OL w mid hi css' ys) (h1 : lo ≤ mid) (h2 : mid ≤ hi) : E.OL w lo hi (css ++ css') (xs ++ ys) := by
  have old : ∀ (i : Nat) (c : List Value), (css ++ css')[i]? = some c → (i < css.length ∧ css[i]? = some c) ∨ (css.length ≤ i ∧ css'[i - css.length]? = some c) := by
    intro i c hc
    rcases Nat.lt_or_ge i css.length with hlt | hge
    · rw [List.getElem?_append_left hlt] at hc; exact .inl ⟨hlt, hc⟩
    · rw [List.getElem?_append_right hge] at hc; exact .inr ⟨hge, hc⟩
  refine ⟨by simp [h.len, h'.len], fun i y hy => ?_, fun i j c c' b hij hc hc' hb hb' => ?_⟩
  · rcases Nat.lt_or_ge i xs.length with hlt | hge
    · rw [List.getElem?_append_left hlt] at hy
      obtain ⟨c, a, d⟩ := h.at_ i y hy
      exact ⟨c, by rw [List.getElem?_append_left (by rw [h.len]; exact hlt)]; exact a, E.monoO d (Nat.le_refl _) h2⟩
    · rw [List.getElem?_append_right hge] at hy
      obtain ⟨c, a, d⟩ := h'.at_ _ y hy
      exact ⟨c, by rw [List.getElem?_append_right (by rw [h.len]; exact hge), h.len]; exact a, E.monoO d h1 (Nat.le_refl _)⟩
  · rcases old i c hc with ⟨hi1, hci⟩ | ⟨hi1, hci⟩ <;> rcases old j c' hc' with ⟨hj1, hcj⟩ | ⟨hj1, hcj⟩
    · exact h.apart i j c c' b hij hci hcj hb hb'
    · have a1 := (h.blk c (List.mem_of_getElem? hci) b hb).2
      have a2 := (h'.blk c' (List.mem_of_getElem? hcj) b hb').1
      omega
    · have a1 := (h.blk c' (List.mem_of_getElem? hcj) b hb').2
      have a2 := (h'.blk c (List.mem_of_getElem? hci) b hb).1
      omega
    · exact h'.apart _ _ c c' b (by omega) hci hcj hb hb'
/-- append(s, t...), where t owns its elements, which are newer than those of s. -/
theorem Elem.OS.appAll {w : World} {t bytes lo mid hi c0 d ty : Nat} {A0 B : Option Addr} {xs ys : List α} (T : SlTy E t bytes) (hone : ∀ {w lo hi cs x}, E.R w lo hi cs x → ∀ u ∈ cs, u.oneCell' = true)
    (hs : E.OS w lo mid (.slice A0 xs.length c0) xs) (hr : E.OS w mid hi (.slice B ys.length d) ys) (hlm : lo ≤ mid) (hmh : mid ≤ hi) (hhw : hi ≤ w.heap.size) (hb : xs.length + ys.length ≤ 1048576) (hby : bytes ≤ 128) :
    ∃ A' c' w', (Builtin.append_ #[t, t] ty #[.slice A0 xs.length c0, .slice B ys.length d]).run Try.prog w = .ok (.slice A' (xs ++ ys).length c') w' ∧ E.OS w' lo w'.heap.size (.slice A' (xs ++ ys).length c') (xs ++ ys) ∧
      w.grownBy w' (Value.slice A0 xs.length c0).ownBlock ∧ E.AS w' mid hi B ys := by
  obtain ⟨i, z, i1, i2, i3, i4, i5⟩ := T.hi
  have hmul : (xs.length + ys.length) * bytes ≤ 1048576 * 128 := Nat.mul_le_mul hb hby
  have hblk0 := hs.blkv
  have hrd := hr.read.as
  obtain ⟨css, k1, k2, k3⟩ := hs
  obtain ⟨css', j1, j2, j3⟩ := hr
  have hsz' := j2.read.sizes
  have hlen' : css'.flatten.length = ys.length * E.sz := by rw [flatten_len hsz', j2.len]
  have fin : ∀ (v' : Value) (w' : World), w'.ownsRow lo E.e E.sz v' (xs.length + ys.length) (css.flatten ++ css'.flatten) → w.grownBy w' (Value.slice A0 xs.length c0).ownBlock → (v'.ownBlock = (Value.slice A0 xs.length c0).ownBlock ∨ v'.ownBlock = some w.heap.size) →
      ∃ A' c', v' = .slice A' (xs ++ ys).length c' ∧ E.OS w' lo w'.heap.size (.slice A' (xs ++ ys).length c') (xs ++ ys) ∧ E.AS w' mid hi B ys := by
    intro v' w' how hg hv
    have hsm : Same mid hi w w' := Same.of_grown hg hhw fun b hb => .inl (hblk0 b hb).2
    have e1 : E.OL w' lo mid css xs := ⟨k2.len, fun i y hy => by
      obtain ⟨c, a, b⟩ := k2.at_ i y hy
      exact ⟨c, a, E.loc b fun k hk => hg.block k (by have := (E.blk b k hk).2; omega) (fun e => k3 c (List.mem_of_getElem? a) k hk e.symm)⟩, k2.apart⟩
    have e2 : E.OL w' mid hi css' ys := j2.same hsm
    have hos : E.OS w' lo w'.heap.size v' (xs ++ ys) := by
      refine ⟨css ++ css', ?_, (e1.cat e2 hlm hmh).mono (Nat.le_refl _) (Nat.le_trans hhw hg.size), fun c hc b hbb hvv => ?_⟩
      · rw [List.flatten_append, List.length_append]
        exact OSl.of_own how (by unfold BIG; omega)
      · rcases List.mem_append.1 hc with hc | hc
        · have hbl := k2.blk c hc b hbb
          rcases hv with hv | hv
          · exact k3 c hc b hbb (hv ▸ hvv)
          · rw [hv] at hvv; injection hvv with hvv; omega
        · have hbl := j2.blk c hc b hbb
          rcases hv with hv | hv
          · rw [hv] at hvv; have := hblk0 b hvv; omega
          · rw [hv] at hvv; injection hvv with hvv; omega
    obtain ⟨A', c', q1, _⟩ := hos.read.open_
    subst q1
    exact ⟨A', c', rfl, hos, hrd.same hsm⟩
  have go : ∀ ad : Addr, B = some ad → (∀ (j : Nat) (u : Value), css'.flatten[j]? = some u → w.cell? (ad.add j) = some u) → ∃ A' c' w', (Builtin.append_ #[t, t] ty #[.slice A0 xs.length c0, .slice B ys.length d]).run Try.prog w = .ok (.slice A' (xs ++ ys).length c') w' ∧ E.OS w' lo w'.heap.size (.slice A' (xs ++ ys).length c') (xs ++ ys) ∧
      w.grownBy w' (Value.slice A0 xs.length c0).ownBlock ∧ E.AS w' mid hi B ys := by
    intro ad hB hcells
    have hone' : ∀ u ∈ css'.flatten, u.oneCell' = true := by
      intro u hu
      obtain ⟨cs, hcs, hu'⟩ := List.mem_flatten.1 hu
      obtain ⟨k, hk, rfl⟩ := List.mem_iff_getElem.1 hcs
      obtain ⟨x, hx⟩ : ∃ x, ys[k]? = some x := ⟨_, List.getElem?_eq_getElem (by rw [← j2.len]; exact hk)⟩
      obtain ⟨cs', hcs', hR⟩ := j2.read.at_ k x hx
      rw [List.getElem?_eq_getElem hk] at hcs'
      injection hcs' with hcs'
      rw [hcs'] at hu'
      exact hone hR u hu'
    subst hB
    obtain ⟨v', w', hrun, h2, h3, _, h5⟩ := run_append_own_at (P := Try.prog) w lo t ty E.e i z E.sz bytes T.ht i1 i2 i3 i4 i5 T.pos _ _ _ k1.1 ad ys.length d css'.flatten hlen' hcells hone' (by simp only [maxLen]; omega) (by omega) (by omega)
    obtain ⟨A', c', rfl, ho, hr'⟩ := fin v' w' h2 h3 h5
    exact ⟨A', c', w', hrun, ho, h3, hr'⟩
  rcases Nat.eq_zero_or_pos ys.length with h0 | hpos
  · have hy : ys = [] := List.eq_nil_of_length_eq_zero h0
    subst hy
    have hc0 : css'.flatten = [] := List.eq_nil_of_length_eq_zero (by rw [hlen']; simp)
    cases B with
    | none =>
      have hrun := run_append_none_any (P := Try.prog) (w := w) lo t ty E.e i E.sz d T.ht i1 _ _ _ k1.1
      have hg : w.grownBy w (Value.slice A0 xs.length c0).ownBlock := ⟨rfl, rfl, rfl, Nat.le_refl _, fun _ _ _ => rfl⟩
      obtain ⟨A', c', e1, ho, hr'⟩ := fin (.slice A0 xs.length c0) w (by simpa [hc0] using k1.1) hg (.inl rfl)
      refine ⟨A', c', w, ?_, ho, hg, hr'⟩
      rw [← e1]; simpa using hrun
    | some ad => exact go ad rfl (fun j u hu => by rw [hc0] at hu; simp at hu)
  · have hform := j1.form hpos
    obtain ⟨g, c, hv, _⟩ := hform
    injection hv with hv _ hc
    subst hv; subst hc
    refine go _ rfl fun j u hu => ?_
    have hadd : (⟨g, 0, none⟩ : Addr).add j = ⟨g, j, none⟩ := by unfold Addr.add; split <;> simp_all
    rw [hadd]
    exact (j1.cell hu).1
/-- .. at the operation. -/
theorem wpList_appAll {w : World} {t bytes lo mid hi c0 d n m : Nat} {B : Option Addr} {ys : List α} {ops : Array Oper} {rest : List Oper} {o : Oper} {a : Act} {Q : Exit → Act → World → Prop} (T : SlTy E t bytes) (hone : ∀ {w lo hi cs x}, E.R w lo hi cs x → ∀ u ∈ cs, u.oneCell' = true) (A0 : Option Addr) (xs : List α)
    (hs : E.OS w lo mid (.slice A0 n c0) xs) (hn : xs.length = n) (hr : E.OS w mid hi (.slice B m d) ys) (hm : ys.length = m) (hlm : lo ≤ mid) (hmh : mid ≤ hi) (hhw : hi ≤ w.heap.size) (s y : Operand)
    (ho : o.op = .call { callee := .builtin .append, args := #[s, y], argTypes := #[t, t] }) (hgd : o.guard = none) (hs' : a.eval s = .slice A0 n c0) (hy : a.eval y = .slice B m d)
    (hb : n + m ≤ 1048576) (hby : bytes ≤ 128)
    (h : ∀ A' c' w', E.OS w' lo w'.heap.size (.slice A' (n + m) c') (xs ++ ys) → w.grownBy w' (Value.slice A0 n c0).ownBlock → E.AS w' mid hi B ys → wpList Try.prog ops Q rest (a.put o.dst (.slice A' (n + m) c')) w') :
    wpList Try.prog ops Q (o :: rest) a w := by
  subst hn; subst hm
  refine wpList_plain hgd fun K hK => ?_
  obtain ⟨A', c', w', hrun, h2, h3, h4⟩ := Elem.OS.appAll (ty := o.type) T hone hs hr hlm hmh hhw hb hby
  unfold Oper.wp execOp
  simp only [ho, resolve, invoke, builtin, Sem.run_bind, Sem.run_pure, Result.andThen_ok, List.map_toArray, List.map_cons, List.map_nil, hs', hy, hrun]
  rw [List.length_append] at h2 ⊢
  exact hK _ _ (h A' c' w' h2 h3 h4)
end
end Go.Proofs.Ytnnjilkjjdiblaa

/-! ## FromM -/
namespace Go.Proofs.Ytnnjilkjjdiblaa
set_option maxRecDepth 100000
open Go.RowKit

def addS (t : KinType) (s : Step) : KinType := ⟨t.ego, t.steps ++ [s]⟩
def kindS (i : Nat) : Step := ⟨(i : Int) + 1, 0⟩
/-- The type with each of the first k kinds of steps appended that can be made. -/
def moreTo (t : KinType) : Nat → List KinType
  | 0 => []
  | k + 1 => if stepOk (kindS k) (sexM t) = true then moreTo t k ++ [addS t (kindS k)] else moreTo t k
def moreM (t : KinType) : List KinType := moreTo t 8
theorem moreTo_succ (t : KinType) (k : Nat) : moreTo t (k + 1) = if stepOk (kindS k) (sexM t) = true then moreTo t k ++ [addS t (kindS k)] else moreTo t k := rfl
theorem moreTo_yes {t : KinType} {k : Nat} (h : stepOk (kindS k) (sexM t) = true) : moreTo t (k + 1) = moreTo t k ++ [addS t (kindS k)] := if_pos h
theorem moreTo_no {t : KinType} {k : Nat} (h : stepOk (kindS k) (sexM t) = false) : moreTo t (k + 1) = moreTo t k := if_neg (by rw [h]; simp)
theorem moreTo_len (t : KinType) : ∀ k, (moreTo t k).length ≤ k := by
  intro k
  induction k with
  | zero => exact Nat.le_refl _
  | succ k ih =>
    rw [moreTo_succ]; split
    · simp; exact ih
    · omega
theorem moreTo_mem {t u : KinType} : ∀ {k : Nat}, u ∈ moreTo t k → ∃ i, i < k ∧ stepOk (kindS i) (sexM t) = true ∧ u = addS t (kindS i) := by
  intro k
  induction k with
  | zero => intro h; cases h
  | succ k ih =>
    intro h
    rw [moreTo_succ] at h
    split at h
    · rename_i hk
      rcases List.mem_append.1 h with h | h
      · obtain ⟨i, h1, h2⟩ := ih h; exact ⟨i, by omega, h2⟩
      · simp at h; exact ⟨k, by omega, hk, h⟩
    · obtain ⟨i, h1, h2⟩ := ih h; exact ⟨i, by omega, h2⟩
theorem stepsOk_snoc {xs : List Step} {s : Step} : ∀ {sex : Int}, stepsOk sex (xs ++ [s]) = (stepsOk sex xs && stepOk s (sexM ⟨sex, xs⟩)) := by
  induction xs with
  | nil => intro sex; simp [stepsOk, sexM]
  | cons x r ih =>
    intro sex
    rw [List.cons_append, stepsOk_cons, ih, stepsOk_cons, Bool.and_assoc]
    congr 2
    cases r with
    | nil => simp [sexM]
    | cons y r => simp [sexM]
theorem addS_ok {t : KinType} (h : typeOk t = true) (hl : t.steps.length < 8) (s : Step) : typeOk (addS t s) = stepOk s (sexM t) := by
  have h2 := typeOk_ego h
  simp only [typeOk, Bool.and_eq_true] at h
  have h3 := h.2
  obtain ⟨eg, st⟩ := t
  show (decide (0 ≤ eg ∧ eg ≤ 2 ∧ (st ++ [s]).length ≤ 8) && stepsOk eg (st ++ [s])) = stepOk s (sexM ⟨eg, st⟩)
  simp only at h2 h3 hl
  rw [stepsOk_snoc, h3, decide_eq_true (by simp; omega)]
  rfl
/-- The types of k steps. -/
def lastM (ego : Int) : Nat → List KinType
  | 0 => [⟨ego, []⟩]
  | k + 1 => (lastM ego k).flatMap moreM
def outM (ego : Int) : Nat → List KinType
  | 0 => []
  | k + 1 => outM ego k ++ lastM ego (k + 1)
def fromM (ego n : Int) : List KinType := if (ego = 1 ∨ ego = 2) ∧ 1 ≤ n ∧ n ≤ 3 then outM ego n.toNat else []
theorem fromM_out {ego n : Int} (h : ¬ ((ego = 1 ∨ ego = 2) ∧ 1 ≤ n ∧ n ≤ 3)) : fromM ego n = [] := if_neg h
theorem fromM_in {ego : Int} {n : Nat} (h : ego = 1 ∨ ego = 2) (h1 : 1 ≤ n) (h3 : n ≤ 3) : fromM ego n = outM ego n := by rw [fromM, if_pos ⟨h, by omega, by omega⟩]; rfl
theorem lastM_mem {ego : Int} (he : ego = 1 ∨ ego = 2) : ∀ {k : Nat} {t : KinType}, k ≤ 8 → t ∈ lastM ego k → typeOk t = true ∧ t.steps.length = k ∧ t.ego = ego := by
  intro k
  induction k with
  | zero =>
    intro t _ h
    simp [lastM] at h
    subst h
    refine ⟨?_, rfl, rfl⟩
    simp [typeOk, stepsOk]; omega
  | succ k ih =>
    intro t hk h
    simp only [lastM, List.mem_flatMap] at h
    obtain ⟨u, hu, ht⟩ := h
    obtain ⟨h1, h2, h3⟩ := ih (by omega) hu
    obtain ⟨i, _, hi, rfl⟩ := moreTo_mem ht
    exact ⟨by rw [addS_ok h1 (by omega)]; exact hi, by simp [addS, h2], h3⟩
theorem outM_mem {ego : Int} (he : ego = 1 ∨ ego = 2) : ∀ {k : Nat} {t : KinType}, k ≤ 8 → t ∈ outM ego k → typeOk t = true ∧ 1 ≤ t.steps.length ∧ t.steps.length ≤ k ∧ t.ego = ego := by
  intro k
  induction k with
  | zero => intro t _ h; cases h
  | succ k ih =>
    intro t hk h
    rcases List.mem_append.1 h with h | h
    · obtain ⟨h1, h2, h3, h4⟩ := ih (by omega) h; exact ⟨h1, h2, by omega, h4⟩
    · obtain ⟨h1, h2, h3⟩ := lastM_mem he hk h; exact ⟨h1, by omega, by omega, h3⟩
theorem flatMore_len (ts : List KinType) : (ts.flatMap moreM).length ≤ 8 * ts.length := by
  induction ts with
  | nil => simp
  | cons t r ih =>
    rw [List.flatMap_cons, List.length_append, List.length_cons]
    have := moreTo_len t 8
    unfold moreM at ih ⊢; omega
theorem flatMore_succ {ts : List KinType} {j : Nat} {t : KinType} (h : ts[j]? = some t) : (ts.take (j + 1)).flatMap moreM = (ts.take j).flatMap moreM ++ moreM t := by
  rw [List.take_add_one, h, List.flatMap_append]; simp
theorem lastM_len (ego : Int) : (lastM ego 0).length = 1 ∧ (lastM ego 1).length ≤ 8 ∧ (lastM ego 2).length ≤ 64 ∧ (lastM ego 3).length ≤ 512 := by
  have h1 := flatMore_len (lastM ego 0)
  have h2 := flatMore_len (lastM ego 1)
  have h3 := flatMore_len (lastM ego 2)
  have h0 : (lastM ego 0).length = 1 := rfl
  refine ⟨h0, ?_, ?_, ?_⟩
  · show ((lastM ego 0).flatMap moreM).length ≤ 8; omega
  · show ((lastM ego 1).flatMap moreM).length ≤ 64
    have : (lastM ego 1).length = ((lastM ego 0).flatMap moreM).length := rfl
    omega
  · show ((lastM ego 2).flatMap moreM).length ≤ 512
    have e1 : (lastM ego 1).length = ((lastM ego 0).flatMap moreM).length := rfl
    have e2 : (lastM ego 2).length = ((lastM ego 1).flatMap moreM).length := rfl
    omega
theorem lastM_le {ego : Int} {k : Nat} (h : k ≤ 3) : (lastM ego k).length ≤ 512 := by
  have := lastM_len ego
  rcases (by omega : k = 0 ∨ k = 1 ∨ k = 2 ∨ k = 3) with rfl | rfl | rfl | rfl <;> omega
theorem outM_le {ego : Int} : ∀ {k : Nat}, k ≤ 3 → (outM ego k).length ≤ 512 * k := by
  intro k
  induction k with
  | zero => intro _; exact Nat.le_refl _
  | succ k ih =>
    intro hk
    have h1 := ih (by omega)
    have h2 := lastM_le (ego := ego) hk
    simp only [outM, List.length_append]; omega
theorem mkT_le {c : Nat} {xs : List KinType} (h : ∀ x ∈ xs, x.steps.length ≤ c) : mkT xs ≤ xs.length * (1 + 2 * c) := by
  induction xs with
  | nil => simp [mkT]
  | cons x r ih =>
    have h1 := ih fun y hy => h y (by simp [hy])
    have h2 := h x (by simp)
    simp only [mkT, wT, List.length_cons]
    rw [Nat.add_mul r.length 1, Nat.one_mul]; omega
theorem fromM_bounds (ego n : Int) : (fromM ego n).length ≤ 1536 ∧ mkT (fromM ego n) ≤ 10752 := by
  unfold fromM; split
  · rename_i h
    obtain ⟨he, h1, h3⟩ := h
    have h4 := outM_le (ego := ego) (k := n.toNat) (by omega)
    have h5 := mkT_le (c := 3) (xs := outM ego n.toNat) fun x hx => by have := (outM_mem he (by omega) hx).2.2.1; omega
    omega
  · simp [mkT]
end Go.Proofs.Ytnnjilkjjdiblaa

/-! ## FromS -/
namespace Go.Proofs.Ytnnjilkjjdiblaa
set_option maxRecDepth 100000
open Go.RowKit

def RetKins (w : World) (m : List KinType) (e : Ending) (w' : World) : Prop :=
  ∃ (A : Option Addr) (c : Nat), e = .returned (.slice A m.length c) ∧ EKin.OS w' w.heap.size w'.heap.size (.slice A m.length c) m ∧ Below w.heap.size w w'

def FromRel (ego : Int) (n B : Nat) (W : World) (v5 v6 v7 : Value) (wr : World) : Prop :=
  ∃ (k : Nat) (A : Option Addr) (c : Nat) (A2 : Option Addr) (c2 : Nat), k ≤ n ∧ v7 = .int .i64 k ∧ v5 = .slice A (outM ego k).length c ∧ v6 = .slice A2 (lastM ego k).length c2 ∧
    EKin.OS wr B wr.heap.size (.slice A (outM ego k).length c) (outM ego k) ∧ EKin.AS wr B wr.heap.size A2 (lastM ego k) ∧ Below B W wr ∧ B ≤ wr.heap.size
def NextRel (ts : List KinType) (W : World) (v i : Value) (wr : World) : Prop :=
  ∃ (j : Nat) (A : Option Addr) (c : Nat), j ≤ ts.length ∧ i = .int .i64 j ∧ v = .slice A ((ts.take j).flatMap moreM).length c ∧
    EKin.OS wr W.heap.size wr.heap.size (.slice A ((ts.take j).flatMap moreM).length c) ((ts.take j).flatMap moreM) ∧ Below W.heap.size W wr
theorem one_kin (w : World) (ego : Int) : EKin.OS (w.alloc (.cells #[.int .i64 ego, .slice none 0 0] 30)) w.heap.size (w.alloc (.cells #[.int .i64 ego, .slice none 0 0] 30)).heap.size (.slice (some ⟨w.heap.size, 0, none⟩) 1 1) [⟨ego, []⟩] := by
  have hf : Fill (w.alloc (.cells #[.int .i64 ego, .slice none 0 0] 30)) w.heap.size EKin.e 2 [.int .i64 ego, .slice none 0 0] 2 := ⟨_, heap_alloc_new w _, rfl, fun i hi => by
    rcases (by omega : i = 0 ∨ i = 1) with rfl | rfl <;> rfl⟩
  refine ⟨[[.int .i64 ego, .slice none 0 0]], hf.own (n := 1) (sz := 2) rfl rfl (Nat.le_refl _) (by simp [BIG]), ⟨rfl, fun i x hx => ?_, fun i j cs cs' b hij hi hj => ?_⟩, fun cs hcs b hb => ?_⟩
  · cases i with
    | zero => simp at hx; subst hx; exact ⟨_, rfl, .slice none 0 0, rfl, Elem.OS.nil⟩
    | succ i => simp at hx
  · cases i with
    | zero =>
      cases j with
      | zero => omega
      | succ j => simp at hj
    | succ i => simp at hi
  · simp at hcs; subst hcs
    have := blocks_typ (x := ⟨ego, []⟩) (v := .slice none 0 0) (b := b)
    simp only [vsTyp] at this
    rw [this] at hb
    simp [Value.ownBlock] at hb
theorem RetKins.nil {w w' : World} (h : Below w.heap.size w w') : RetKins w [] (.returned (.slice none 0 0)) w' := ⟨none, 0, rfl, Elem.OS.nil, h⟩

end Go.Proofs.Ytnnjilkjjdiblaa

/-! ## FromI -/
namespace Go.Proofs.Ytnnjilkjjdiblaa
set_option maxRecDepth 100000
open Go.RowKit

/-- append(out, x), as wpList_app1; it is told too where the new slice lies. -/
theorem wpList_app1b {α : Type} {E : Elem α} {t bytes lo hi n c0 : Nat} {w : World} {ops : Array Oper} {rest : List Oper} {o : Oper} {a : Act} {Q : Exit → Act → World → Prop} (T : SlTy E t bytes) (A0 : Option Addr) (xs : List α) (x : α) (cs : List Value) (ad : Addr) (c : Nat)
    (hown : E.OS w lo hi (.slice A0 n c0) xs) (hn : xs.length = n) (hhi : hi ≤ w.heap.size) (hlo : lo ≤ hi) (hx : E.O w hi w.heap.size cs x) (s y : Operand)
    (ho : o.op = .call { callee := .builtin .append, args := #[s, y], argTypes := #[t, t] }) (hgd : o.guard = none) (hs : a.eval s = .slice A0 n c0) (hy : a.eval y = .slice (some ad) 1 c)
    (hcs : ∀ (j : Nat) (u : Value), cs[j]? = some u → w.cell? (ad.add j) = some u) (h1 : ∀ u ∈ cs, u.oneCell' = true) (hb : n + 1 ≤ 1048576) (hby : bytes ≤ 128)
    (h : ∀ A' c' w', E.OS w' lo w'.heap.size (.slice A' (n + 1) c') (xs ++ [x]) → w.grownBy w' (Value.slice A0 n c0).ownBlock → ((Value.slice A' (n + 1) c').ownBlock = (Value.slice A0 n c0).ownBlock ∨ (Value.slice A' (n + 1) c').ownBlock = some w.heap.size) → wpList Try.prog ops Q rest (a.put o.dst (.slice A' (n + 1) c')) w') :
    wpList Try.prog ops Q (o :: rest) a w := by
  subst hn
  obtain ⟨css, k1, k2, k3⟩ := hown
  obtain ⟨i, z, i1, i2, i3, i4, i5⟩ := T.hi
  have hmul : (xs.length + 1) * bytes ≤ 1048576 * 128 := Nat.mul_le_mul hb hby
  have hcl : cs.length = E.sz := E.len (E.read hx)
  refine wpList_append_own_at _ hgd s y t ho lo E.e i z E.sz bytes T.ht i1 i2 i3 i4 i5 T.pos _ _ css.flatten hs k1.1 ad 1 c cs hy (by rw [hcl, Nat.one_mul]) hcs h1 (by simp only [maxLen]; omega) (by omega) (by omega) ?_
  intro v' w' p1 p2 p3 p4
  have hos : E.OS w' lo w'.heap.size v' (xs ++ [x]) := Elem.OS.app k1 k2 k3 hhi hlo hx p1 p2 p4 (by unfold BIG; omega)
  obtain ⟨A', c', e1, e2, e3, _⟩ := hos.read.open_
  subst e1
  simp only [List.length_append, List.length_singleton] at hos p4 h ⊢
  exact h A' c' w' hos p2 p4

def MoreRelI (ns : List KinType) (t : KinType) (lo bt : Nat) (D : Value) (W : World) (v i : Value) (wr : World) : Prop :=
  ∃ (k : Nat) (A : Option Addr) (c : Nat), k ≤ 8 ∧ i = .int .i64 ((k : Int) + 1) ∧ v = .slice A (ns ++ moreTo t k).length c ∧ EKin.OS wr lo wr.heap.size (.slice A (ns ++ moreTo t k).length c) (ns ++ moreTo t k) ∧
    (Value.slice A (ns ++ moreTo t k).length c).ownBlock ≠ some bt ∧ Blk wr bt 30 #[.int .i64 t.ego, D] ∧ Below lo W wr ∧ lo ≤ wr.heap.size

set_option maxHeartbeats 8000000 in
theorem implTypesFrom_in (ego : Int) (n : Nat) (w : World) (he : ego = 1 ∨ ego = 2) (h1 : 1 ≤ n) (hn3 : n ≤ 3) : Calls Try.prog 33 #[.int .i64 ego, .int .i64 n] w (RetKins w (outM ego n)) := by
  have HE := Lib.hid he
  have hreg : ∃ b1 b2 : Bool, (ego != 1) = b1 ∧ (ego != 2) = b2 ∧ (b1 = false ∨ b2 = false) := ⟨_, _, rfl, rfl, by rcases he with rfl | rfl <;> simp⟩
  clear he
  obtain ⟨b1, b2, e1, e2, hb12⟩ := hreg
  cases b1 <;> cases b2
  all_goals first | (exfalso; simp at hb12; done) | skip
  all_goals
    clear hb12
    go_enter Try.func33, Try.ntmps33
    go_upto_region 3 with fail
    go_upto_region 6 with fail
    generalize hW : (w.alloc (.cells #[.int .i64 ego, .slice none 0 0] 30)) = W
    have hl0 : EKin.AS W w.heap.size W.heap.size (some ⟨w.heap.size, 0, none⟩) [⟨ego, []⟩] := by
      subst hW; exact (one_kin w ego).read.as
    have hb0 : Below w.heap.size w W := by subst hW; (with_reducible repeat' first | exact Below.refl _ _ | assumption | (refine Below.setCell ?_ (by first | omega | (simp; omega) | (simp; done) | (dsimp only; omega)) _) | (refine Below.alloc ?_ (by first | omega | (simp; omega) | (simp; done) | (dsimp only; omega)) _) | (refine below_drewN ?_ _) | (refine Below.drew ?_))
    have z0 : w.heap.size + 1 = W.heap.size := by subst hW; simp
    clear hW
    go_loopw [5, 6, 30] (fun v5 v6 v7 wr => FromRel ego n w.heap.size W v5 v6 v7 wr) (fun _ _ i _ => n - (intOf i).toNat)
    case atStart => exact ⟨0, _, _, _, _, Nat.zero_le _, rfl, rfl, rfl, Elem.OS.nil, hl0, Below.refl _ _, by omega⟩
    case round =>
      obtain ⟨k, A, c, A2, c2, hk, rfl, rfl, rfl, ho, hla, hbr, hsz⟩ := hrel
      by_cases hlt : k < n
      · have hl1 := lastM_le (ego := ego) (k := k) (by omega)
        have hl2 := lastM_le (ego := ego) (k := k + 1) (by omega)
        have hl3 := outM_le (ego := ego) (k := k) (by omega)
        have HT := Lib.hid (fun (t : KinType) (h : t ∈ lastM ego k) => lastM_mem HE.out (k := k) (by omega) h)
        have HLS := Lib.hid (show (lastM ego k).flatMap moreM = lastM ego (k + 1) from rfl)
        have HOS := Lib.hid (show outM ego (k + 1) = outM ego k ++ lastM ego (k + 1) from rfl)
        obtain ⟨ts, hts⟩ : ∃ ts, lastM ego k = ts := ⟨_, rfl⟩
        rw [hts] at hl1 hla HT HLS ⊢
        clear hts
        go_upto_region 9 with fail
        obtain ⟨wo, rfl⟩ : ∃ wo : World, wo = wr := ⟨_, rfl⟩
        go_loopw [7, 34] (fun v i w2 => NextRel ts wo v i w2) (fun _ i _ => ts.length - (intOf i).toNat)
        case atStart => exact ⟨0, _, _, Nat.zero_le _, rfl, rfl, Elem.OS.nil, Below.refl _ _⟩
        case round =>
          obtain ⟨j, B, d, hj, rfl, rfl, hn, hbn⟩ := hrel
          have hfl := flatMore_len (ts.take j)
          rw [List.length_take] at hfl
          obtain ⟨ns, hns⟩ : ∃ ns, (ts.take j).flatMap moreM = ns := ⟨_, rfl⟩
          rw [hns] at hn hfl ⊢
          have HNS := Lib.hid hns
          clear hns
          have zn := hbn.size
          by_cases hlt2 : j < ts.length
          · obtain ⟨b, off, ⟨t0, t1⟩, A1, c1, rfl, g1, g2, _, htj, hc0, hc1, hst⟩ := AKin.at_ (hla.same (Same.of_below hbn (Nat.le_refl _))) hlt2
            obtain ⟨m1, m2, -⟩ := HT.out _ (List.mem_of_getElem? htj)
            simp only at hc0 hc1 hst m2
            have hfs := flatMore_succ htj
            rw [HNS.out] at hfs
            have HFS := Lib.hid hfs
            clear hfs
            have lb : b < wr.heap.size := by omega
            have i1 : (0 : Int) ≤ (j : Int) ∧ (j : Int) < (ts.length : Int) := by omega
            have HM1 := Lib.hid m1
            have m8 : t1.length < 8 := by omega
            clear htj m1 m2
            go_upto_region 12 with fail
            generalize hW3 : wr.alloc (.cells #[.int .i64 t0, .slice A1 t1.length c1] 30) = W3
            have r3 : Blk W3 wr.heap.size 30 #[.int .i64 t0, .slice A1 t1.length c1] := by subst hW3; exact Blk.new _ rfl
            have hn3' : EKin.OS W3 wo.heap.size W3.heap.size (.slice B ns.length d) ns := by subst hW3; exact (hn.same (by (with_reducible repeat' first | exact Same.refl _ _ _ | assumption | (refine Same.setCell ?_ (by first | omega | (simp; omega) | (simp; done) | (dsimp only; omega)) _) | (refine Same.alloc ?_ (by first | omega | (simp; omega) | (simp; done) | (dsimp only; omega)) _) | (refine Same.drewN ?_ _) | (refine Same.drew ?_)))).mono (Nat.le_refl _) (by simp)
            have hne0 : (Value.slice B ns.length d).ownBlock ≠ some wr.heap.size := fun e => by have := (hn.blkv _ e).2; omega
            have hb3 : Below wo.heap.size wo W3 := by subst hW3; (with_reducible repeat' first | exact Below.refl _ _ | assumption | (refine Below.setCell ?_ (by first | omega | (simp; omega) | (simp; done) | (dsimp only; omega)) _) | (refine Below.alloc ?_ (by first | omega | (simp; omega) | (simp; done) | (dsimp only; omega)) _) | (refine below_drewN ?_ _) | (refine Below.drew ?_) | (refine Below.trans ?_ (hbn.mono (by first | omega | (simp; omega) | (simp; done) | (dsimp only; omega)))))
            have z3 : wr.heap.size + 1 = W3.heap.size := by subst hW3; simp
            have hst3 := hst.same (Same.of_below (show Below wo.heap.size wr W3 by subst hW3; (with_reducible repeat' first | exact Below.refl _ _ | assumption | (refine Below.setCell ?_ (by first | omega | (simp; omega) | (simp; done) | (dsimp only; omega)) _) | (refine Below.alloc ?_ (by first | omega | (simp; omega) | (simp; done) | (dsimp only; omega)) _) | (refine below_drewN ?_ _) | (refine Below.drew ?_))) (Nat.le_refl _))
            clear hW3 hc0 hc1 hst
            obtain ⟨w2, rfl⟩ : ∃ w2 : World, w2 = wr := ⟨_, rfl⟩
            go_loopw [7, 10] (fun v i wr => MoreRelI ns ⟨t0, t1⟩ wo.heap.size w2.heap.size (.slice A1 t1.length c1) W3 v i wr) (fun _ i _ => 9 - (intOf i).toNat)
            case atStart => exact ⟨0, B, d, Nat.zero_le _, rfl, by simp [moreTo], by simpa [moreTo] using hn3', by simpa [moreTo] using hne0, r3, Below.refl _ _, by omega⟩
            case round =>
              obtain ⟨i, C, f, hi, rfl, rfl, hq, hne, r4, hb4, z4⟩ := hrel
              have hml := moreTo_len ⟨t0, t1⟩ i
              have HMS := Lib.hid (show ∀ i, ns ++ moreTo ⟨t0, t1⟩ i = ns ++ moreTo ⟨t0, t1⟩ i from fun _ => rfl)
              clear HMS
              obtain ⟨ms, hms⟩ : ∃ ms, ns ++ moreTo ⟨t0, t1⟩ i = ms := ⟨_, rfl⟩
              have hmsl : ms.length ≤ ns.length + 8 := by rw [← hms, List.length_append]; omega
              rw [hms] at hq hne ⊢
              have HMS := Lib.hid hms
              clear hms hml
              have q0 := r4.cell (i := 0) rfl; have q1 := r4.cell (i := 1) rfl
              have lr4 := r4.lt
              have hst4 := hst3.same (Same.of_below hb4 (Nat.le_refl _))
              by_cases hlt3 : i < 8
              · cases hok : stepOk (kindS i) (sexM ⟨t0, t1⟩) with
                | false =>
                  have HT3 := Lib.hid hok
                  have HM := Lib.hid (show ns ++ moreTo ⟨t0, t1⟩ (i + 1) = ms by rw [moreTo_no hok]; exact HMS.out)
                  clear hok
                  go_wp2_with (first
                    | (go_at_call 88; (with_reducible refine (sexOf_any t0 A1 c1 _ _ t1 _ (hst4.same (by (with_reducible repeat' first | exact Same.refl _ _ _ | assumption | (refine Same.setCell ?_ (by first | omega | (simp; omega) | (simp; done) | (dsimp only; omega)) _) | (refine Same.alloc ?_ (by first | omega | (simp; omega) | (simp; done) | (dsimp only; omega)) _) | (refine Same.drewN ?_ _) | (refine Same.drew ?_)))) (by first | omega | (simp; omega) | (simp; done) | (dsimp only; omega)) HM1.out).mono ?_); rintro e w5 ⟨rfl, hb5⟩; (obtain ⟨hb5c, hb5f⟩ := bcell hb5); (have hb5z := hb5.size); (try simp only [szs] at hb5c hb5f hb5z))
                    | (go_at_call 113; (with_reducible refine (stepFits_any _ 0 _ _).mono ?_); rintro e w6 ⟨rfl, hb6⟩; rw [show stepOk ⟨(i : Int) + 1, 0⟩ (sexM ⟨t0, t1⟩) = false from HT3.out]; (obtain ⟨hb6c, hb6f⟩ := bcell hb6); (have hb6z := hb6.size); (try simp only [szs] at hb6c hb6f hb6z)))
                  have hbb : Below wr.heap.size wr w6 := by (with_reducible repeat' first | exact Below.refl _ _ | assumption | (refine Below.setCell ?_ (by first | omega | (simp; omega) | (simp; done) | (dsimp only; omega)) _) | (refine Below.alloc ?_ (by first | omega | (simp; omega) | (simp; done) | (dsimp only; omega)) _) | (refine below_drewN ?_ _) | (refine Below.drew ?_) | (refine Below.trans ?_ (hb6.mono (by first | omega | (simp; omega) | (simp; done) | (dsimp only; omega)))) | (refine Below.trans ?_ (hb5.mono (by first | omega | (simp; omega) | (simp; done) | (dsimp only; omega)))))
                  exact ⟨⟨i + 1, C, f, by omega, by go_num, by rw [HM.out], by rw [HM.out]; exact (hq.same (Same.of_below hbb (Nat.le_refl _))).mono (Nat.le_refl _) hbb.size, by rw [HM.out]; exact hne, r4.below hbb lr4, hb4.trans (hbb.mono z4), Nat.le_trans z4 hbb.size⟩, by simp [intOf]; omega⟩
                | true =>
                  have HT3 := Lib.hid hok
                  have HM := Lib.hid (show ns ++ moreTo ⟨t0, t1⟩ (i + 1) = ms ++ [addS ⟨t0, t1⟩ (kindS i)] by rw [moreTo_yes hok, ← List.append_assoc, HMS.out])
                  clear hok
                  go_upto_region 15 with (first
                    | (go_at_call 88; (with_reducible refine (sexOf_any t0 A1 c1 _ _ t1 _ (hst4.same (by (with_reducible repeat' first | exact Same.refl _ _ _ | assumption | (refine Same.setCell ?_ (by first | omega | (simp; omega) | (simp; done) | (dsimp only; omega)) _) | (refine Same.alloc ?_ (by first | omega | (simp; omega) | (simp; done) | (dsimp only; omega)) _) | (refine Same.drewN ?_ _) | (refine Same.drew ?_)))) (by first | omega | (simp; omega) | (simp; done) | (dsimp only; omega)) HM1.out).mono ?_); rintro e w5 ⟨rfl, hb5⟩; (obtain ⟨hb5c, hb5f⟩ := bcell hb5); (have hb5z := hb5.size); (try simp only [szs] at hb5c hb5f hb5z))
                    | (go_at_call 113; (with_reducible refine (stepFits_any _ 0 _ _).mono ?_); rintro e w6 ⟨rfl, hb6⟩; rw [show stepOk ⟨(i : Int) + 1, 0⟩ (sexM ⟨t0, t1⟩) = true from HT3.out]; (obtain ⟨hb6c, hb6f⟩ := bcell hb6); (have hb6z := hb6.size); (try simp only [szs] at hb6c hb6f hb6z)))
                  have hbb : Below wr.heap.size wr w6 := by (with_reducible repeat' first | exact Below.refl _ _ | assumption | (refine Below.setCell ?_ (by first | omega | (simp; omega) | (simp; done) | (dsimp only; omega)) _) | (refine Below.alloc ?_ (by first | omega | (simp; omega) | (simp; done) | (dsimp only; omega)) _) | (refine below_drewN ?_ _) | (refine Below.drew ?_) | (refine Below.trans ?_ (hb6.mono (by first | omega | (simp; omega) | (simp; done) | (dsimp only; omega)))) | (refine Below.trans ?_ (hb5.mono (by first | omega | (simp; omega) | (simp; done) | (dsimp only; omega)))))
                  have r6 := r4.below hbb lr4
                  have hq6 := (hq.same (Same.of_below hbb (Nat.le_refl _))).mono (Nat.le_refl _) hbb.size
                  have hst6 := hst4.same (Same.of_below hbb z4)
                  have z6 := hbb.size
                  have hb46 := hb4.trans (hbb.mono z4)
                  clear hb5 hb5c hb5f hb6 hb6c hb6f hbb hq hst4 r4 q0 q1
                  have q0 := r6.cell (i := 0) rfl; have q1 := r6.cell (i := 1) rfl
                  have lr6 := r6.lt
                  go_upto_region 16 with (go_at_call 114; (with_reducible refine (copyType_any t0 A1 c1 _ _ t1 _ hst6 (by first | omega | (simp; omega) | (simp; done) | (dsimp only; omega)) (by omega)).mono ?_); rintro e w7 ⟨A7, c7, rfl, o7, hb7⟩)
                  have z7 := hb7.size
                  generalize hW8 : w7.alloc (.cells #[.int .i64 t0, .slice A7 t1.length c7] 30) = W8
                  have r8 : Blk W8 w7.heap.size 30 #[.int .i64 t0, .slice A7 t1.length c7] := by subst hW8; exact Blk.new _ rfl
                  have hb78 : Below w6.heap.size w6 W8 := by subst hW8; (with_reducible repeat' first | exact Below.refl _ _ | assumption | (refine Below.setCell ?_ (by first | omega | (simp; omega) | (simp; done) | (dsimp only; omega)) _) | (refine Below.alloc ?_ (by first | omega | (simp; omega) | (simp; done) | (dsimp only; omega)) _) | (refine below_drewN ?_ _) | (refine Below.drew ?_) | (refine Below.trans ?_ (hb7.mono (by first | omega | (simp; omega) | (simp; done) | (dsimp only; omega)))))
                  have o8 : EStep.OS W8 w6.heap.size w7.heap.size (.slice A7 t1.length c7) t1 := by subst hW8; exact o7.same (by (with_reducible repeat' first | exact Same.refl _ _ _ | assumption | (refine Same.setCell ?_ (by first | omega | (simp; omega) | (simp; done) | (dsimp only; omega)) _) | (refine Same.alloc ?_ (by first | omega | (simp; omega) | (simp; done) | (dsimp only; omega)) _) | (refine Same.drewN ?_ _) | (refine Same.drew ?_)))
                  have z8 : w7.heap.size + 1 = W8.heap.size := by subst hW8; simp
                  clear hW8 o7 hb7 q0 q1
                  have p1 := r8.cell (i := 1) rfl
                  have lr8 : w7.heap.size < W8.heap.size := by omega
                  obtain ⟨us, hus⟩ : ∃ us, t1 ++ [kindS i] = us := ⟨_, rfl⟩
                  have HUS := Lib.hid hus
                  have HUL := Lib.hid (show us.length = t1.length + 1 by rw [← hus]; simp)
                  clear hus
                  go_upto_region 17 with (at_builtin; refine wpList_app1b tyStepS A7 t1 (kindS i) [.int .i64 ((i : Int) + 1), .int .i64 0] ⟨W8.heap.size, 0, none⟩ 1 (lo := w6.heap.size) (hi := w7.heap.size) (o8.same (by (with_reducible repeat' first | exact Same.refl _ _ _ | assumption | (refine Same.setCell ?_ (by first | omega | (simp; omega) | (simp; done) | (dsimp only; omega)) _) | (refine Same.alloc ?_ (by first | omega | (simp; omega) | (simp; done) | (dsimp only; omega)) _) | (refine Same.drewN ?_ _) | (refine Same.drew ?_)))) rfl (by first | omega | (simp; omega) | (simp; done) | (dsimp only; omega)) z7 rfl _ _ rfl rfl rfl rfl (cell_row_at _ #[.int .i64 ((i : Int) + 1), .int .i64 0] _ _ rfl) (by simp; exact ⟨rfl, rfl⟩) (by omega) (by decide) (fun A9 c9 w9 o9 hg9 hv9 => ?_); rw [HUS.out] at o9; rw [← HUL.out]; (have hb9 : Below w6.heap.size w6 w9 := Below.grown (by (with_reducible repeat' first | exact Below.refl _ _ | assumption | (refine Below.setCell ?_ (by first | omega | (simp; omega) | (simp; done) | (dsimp only; omega)) _) | (refine Below.alloc ?_ (by first | omega | (simp; omega) | (simp; done) | (dsimp only; omega)) _) | (refine below_drewN ?_ _) | (refine Below.drew ?_) | (refine Below.trans ?_ (hb78.mono (by first | omega | (simp; omega) | (simp; done) | (dsimp only; omega)))))) hg9 (by simp; omega) (fun k hk => by have := (o8.blkv k hk).1; omega)); (have r9 := (r8.alloc (.cells #[.int .i64 ((i : Int) + 1), .int .i64 0] 72)).grown hg9 (fun e => by have := (o8.blkv _ e.symm).2; omega)); (have f9 := r9.free 1); (have q9 := r9.cell (i := 1) rfl); (have z9 := hg9.size); (have lr9 : w7.heap.size < w9.heap.size := r9.lt); (have hnv : (Value.slice A9 (t1.length + 1) c9).ownBlock ≠ some w7.heap.size := fun e => by rcases hv9 with h | h; (· rw [h] at e; have := (o8.blkv _ e).2; omega); (· rw [h] at e; simp at e; omega)); simp only [szs] at z9)
                  generalize hW10 : w9.setCell ⟨w7.heap.size, 1, none⟩ (.slice A9 us.length c9) = W10
                  have r10 : Blk W10 w7.heap.size 30 #[.int .i64 t0, .slice A9 us.length c9] := by subst hW10; exact r9.set 1 _
                  have o10 : EStep.OS W10 w6.heap.size W10.heap.size (.slice A9 us.length c9) us := by
                    rw [← HUL.out] at o9 hnv; subst hW10
                    exact (flat_os.2 ((flat_os.1 o9).loc fun b hb => Below.heap_setCell _ _ _ _ fun e => hnv (by rw [hb, e]))).mono (Nat.le_refl _) (by simp [World.setCell])
                  have hb10 : Below w6.heap.size w6 W10 := by subst hW10; (with_reducible repeat' first | exact Below.refl _ _ | assumption | (refine Below.setCell ?_ (by first | omega | (simp; omega) | (simp; done) | (dsimp only; omega)) _) | (refine Below.alloc ?_ (by first | omega | (simp; omega) | (simp; done) | (dsimp only; omega)) _) | (refine below_drewN ?_ _) | (refine Below.drew ?_) | (refine Below.trans ?_ (hb9.mono (by first | omega | (simp; omega) | (simp; done) | (dsimp only; omega)))))
                  have z10 : w9.heap.size = W10.heap.size := by subst hW10; simp [World.setCell]
                  clear hW10 r9 o9 hb9 hg9 q9 f9 hv9 hnv hb78 o8 r8 p1
                  have s0 := r10.cell (i := 0) rfl; have s1 := r10.cell (i := 1) rfl
                  have lr10 : w7.heap.size < W10.heap.size := by omega
                  have z6' : w6.heap.size ≤ W10.heap.size := hb10.size
                  have hq10 := hq6.same (Same.of_below hb10 (Nat.le_refl _))
                  have HX9 := Lib.hid (show EKin.O (W10.alloc (.cells #[.int .i64 t0, .slice A9 us.length c9] 30)) w6.heap.size (W10.alloc (.cells #[.int .i64 t0, .slice A9 us.length c9] 30)).heap.size [.int .i64 t0, .slice A9 us.length c9] (addS ⟨t0, t1⟩ (kindS i)) from
                    ⟨_, rfl, by rw [show (addS ⟨t0, t1⟩ (kindS i)).steps = us from HUS.out]; exact (o10.same (by (with_reducible repeat' first | exact Same.refl _ _ _ | assumption | (refine Same.setCell ?_ (by first | omega | (simp; omega) | (simp; done) | (dsimp only; omega)) _) | (refine Same.alloc ?_ (by first | omega | (simp; omega) | (simp; done) | (dsimp only; omega)) _) | (refine Same.drewN ?_ _) | (refine Same.drew ?_)))).mono (Nat.le_refl _) (by simp)⟩)
                  have HB10 := Lib.hid hb10
                  clear hb10 z10
                  go_wp2_with (at_builtin; refine wpList_app1b tyKinS C ms (addS ⟨t0, t1⟩ (kindS i)) [.int .i64 t0, .slice A9 us.length c9] ⟨W10.heap.size, 0, none⟩ 1 (lo := wo.heap.size) (hi := w6.heap.size) (hq10.same (by (with_reducible repeat' first | exact Same.refl _ _ _ | assumption | (refine Same.setCell ?_ (by first | omega | (simp; omega) | (simp; done) | (dsimp only; omega)) _) | (refine Same.alloc ?_ (by first | omega | (simp; omega) | (simp; done) | (dsimp only; omega)) _) | (refine Same.drewN ?_ _) | (refine Same.drew ?_)))) rfl (by first | omega | (simp; omega) | (simp; done) | (dsimp only; omega)) (by omega) HX9.out _ _ rfl rfl rfl rfl (cell_row_at _ #[.int .i64 t0, .slice A9 us.length c9] _ _ rfl) (by simp; exact ⟨rfl, rfl⟩) (by omega) (by decide) (fun A' c' wz oz hgz hvz => ?_))
                  have hml1 : (ns ++ moreTo ⟨t0, t1⟩ (i + 1)).length = ms.length + 1 := by rw [HM.out]; simp
                  refine ⟨⟨i + 1, A', c', by omega, by go_num, by rw [hml1], by rw [hml1, HM.out]; exact oz, ?_, ?_, ?_, ?_⟩, by simp [intOf]; omega⟩
                  · rw [hml1]; intro e
                    rcases hvz with h | h
                    · rw [h] at e; exact hne e
                    · rw [h] at e; simp at e; omega
                  · exact ((r6.below HB10.out lr6).alloc _).grown hgz (fun e => hne e.symm)
                  · exact Below.grown (w := W10.alloc _) (by have hq := HB10.out; (with_reducible repeat' first | exact Below.refl _ _ | assumption | (refine Below.setCell ?_ (by first | omega | (simp; omega) | (simp; done) | (dsimp only; omega)) _) | (refine Below.alloc ?_ (by first | omega | (simp; omega) | (simp; done) | (dsimp only; omega)) _) | (refine below_drewN ?_ _) | (refine Below.drew ?_) | (refine Below.trans ?_ (hq.mono (by first | omega | (simp; omega) | (simp; done) | (dsimp only; omega)))) | (refine Below.trans ?_ (hb46.mono (by first | omega | (simp; omega) | (simp; done) | (dsimp only; omega)))))) hgz (by simp; omega) (fun k hk => (hq10.blkv k hk).1)
                  · have := hgz.size; simp at this; omega
              · obtain rfl : i = 8 := by omega
                have hfs := HFS.out
                rw [show moreM ⟨t0, t1⟩ = moreTo ⟨t0, t1⟩ 8 from rfl, HMS.out] at hfs
                have HFS2 := Lib.hid hfs
                clear hfs
                go_wp2
                exact ⟨⟨j + 1, C, f, by omega, by go_num, by rw [HFS2.out], by rw [HFS2.out]; exact hq, hb3.trans hb4⟩, by simp [intOf]; omega⟩
          · obtain rfl : j = ts.length := by omega
            have hns := HNS.out
            rw [List.take_length, HLS.out] at hns
            subst hns
            have hoo := ho.same (Same.of_below hbn (Nat.le_refl _))
            go_wp2_with (at_builtin; refine wpList_appAll tyKinS EKin_one A (outM ego k) hoo rfl hn rfl hsz zn (Nat.le_refl _) _ _ rfl rfl rfl rfl (by omega) (by decide) ?_; intro A5 c5 w5 ho5 hg5 hr5)
            have z5 := hg5.size
            refine ⟨⟨k + 1, A5, c5, B, d, by omega, by go_num, by rw [HOS.out, List.length_append], rfl, by rw [HOS.out, List.length_append]; exact ho5, hr5.mono (by omega) (by omega), ?_, by omega⟩, by simp [intOf]; omega⟩
            exact Below.grown (hbr.trans (hbn.mono (by omega))) hg5 (by omega) (fun k hk => (ho.blkv k hk).1)
      · obtain rfl : k = n := by omega
        go_wp2
        go_ret
        exact ⟨A, c, rfl, ho, hb0.trans hbr⟩
theorem implTypesFrom_any (ego n : Int) (w : World) : Calls Try.prog 33 #[.int .i64 ego, .int .i64 n] w (RetKins w (fromM ego n)) := by
  by_cases hok : (ego = 1 ∨ ego = 2) ∧ 1 ≤ n ∧ n ≤ 3
  · obtain ⟨he, h1, h3⟩ := hok
    obtain ⟨n, rfl⟩ := Int.eq_ofNat_of_zero_le (by omega : 0 ≤ n)
    rw [fromM_in he (by omega) (by omega)]
    exact implTypesFrom_in ego n w he (by omega) (by omega)
  · rw [fromM_out hok]
    by_cases he : ego = 1 ∨ ego = 2
    · have hn : n < 1 ∨ 3 < n := by
        rcases Int.lt_or_le n 1 with h | h
        · exact .inl h
        · right; rcases Int.lt_or_le 3 n with h' | h'
          · exact h'
          · exact absurd ⟨he, h, h'⟩ hok
      have hreg : ∃ b1 b2 : Bool, (ego != 1) = b1 ∧ (ego != 2) = b2 ∧ (b1 = false ∨ b2 = false) := ⟨_, _, rfl, rfl, by rcases he with rfl | rfl <;> simp⟩
      clear he hok
      obtain ⟨b1, b2, e1, e2, hb12⟩ := hreg
      cases b1 <;> cases b2
      all_goals first | (exfalso; simp at hb12; done) | skip
      all_goals
        clear hb12
        go_enter Try.func33, Try.ntmps33
        rcases hn with hn | hn
        · go_wp2
          go_ret
          exact RetKins.nil (Below.refl _ _)
        · have hn1 : ¬ n < 1 := by omega
          go_wp2
          go_ret
          exact RetKins.nil (Below.refl _ _)
    · have n1 : (ego != 1) = true := by simp; omega
      have n2 : (ego != 2) = true := by simp; omega
      clear he hok
      go_enter Try.func33, Try.ntmps33
      go_wp2
      go_ret
      exact RetKins.nil (Below.refl _ _)
end Go.Proofs.Ytnnjilkjjdiblaa
