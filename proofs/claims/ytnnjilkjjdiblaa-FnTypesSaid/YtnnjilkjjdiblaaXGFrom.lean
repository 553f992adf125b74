/-
  What is owned, while one of its elements is being changed.
  Lists of kin types, each of which owns its steps: equality, marks, append of a whole list.
  Kin types of a few steps: models.
  Kin types of a few steps, in the reference.
  Kin types of a few steps, in the program.
-/
import Derived.Test.YtnnjilkjjdiblaaBase
import Derived.Test.YtnnjilkjjdiblaaMarkTyp
import Derived.Test.YtnnjilkjjdiblaaAppN
import Derived.Deep.RegionHeld3
import Derived.Test.YtnnjilkjjdiblaaTyp2
import Derived.Test.YtnnjilkjjdiblaaJoinT
import Derived.Deep.Cut
import Derived.Deep.DeepCutAuto

/-! ## OSx -/
namespace Go.Proofs.Ytnnjilkjjdiblaa
set_option maxRecDepth 100000
open Go.RowKit

/-- What is owned, of which nothing is said about the i-th element but its cells. -/
structure Elem.OSx {α : Type} (E : Elem α) (w : World) (lo hi : Nat) (v : Value) (css : List (List Value)) (xs : List α) (i : Nat) : Prop where
  own : OSl w lo hi E.e E.sz v xs.length css.flatten
  len : css.length = xs.length
  sizes : ∀ cs ∈ css, cs.length = E.sz
  at_ : ∀ (k : Nat) (x : α), k ≠ i → xs[k]? = some x → ∃ cs, css[k]? = some cs ∧ E.O w lo hi cs x
  apart : ∀ (i j : Nat) (cs cs' : List Value) (b : Nat), i ≠ j → css[i]? = some cs → css[j]? = some cs' → b ∈ blocks cs → b ∉ blocks cs'
  far : ∀ cs ∈ css, ∀ b ∈ blocks cs, v.ownBlock ≠ some b
section
variable {α : Type} {E : Elem α} {w w' : World} {lo hi i g c n : Nat} {v : Value} {xs : List α} {css : List (List Value)} {cs : List Value}
theorem Elem.OSx.same (h : E.OSx w lo hi v css xs i) (k : Same lo hi w w') : E.OSx w' lo hi v css xs i :=
  ⟨h.own.same k, h.len, h.sizes, fun j x hj hx => let ⟨cs, a, b⟩ := h.at_ j x hj hx; ⟨cs, a, E.sameO b k⟩, h.apart, h.far⟩
theorem Elem.OSx.cell {j : Nat} {u : Value} (h : E.OSx w lo hi (.slice (some ⟨g, 0, none⟩) n c) css xs i) (hn : n = xs.length) (hci : css[i]? = some cs) (hu : cs[j]? = some u) : w.cell? ⟨g, i * E.sz + j, none⟩ = some u ∧ w.frozen? ⟨g, i * E.sz + j, none⟩ = false := by
  subst hn
  exact h.own.cell (flatten_at h.sizes hci hu)
theorem Elem.OSx.put {j : Nat} {u u0 : Value} (h : E.OSx w lo hi (.slice (some ⟨g, 0, none⟩) n c) css xs i) (hn : n = xs.length) (hci : css[i]? = some cs) (hu0 : cs[j]? = some u0) (hu : ∀ b, u.ownBlock = some b → u0.ownBlock = some b) :
    E.OSx (w.setCell ⟨g, i * E.sz + j, none⟩ u) lo hi (.slice (some ⟨g, 0, none⟩) n c) (css.set i (cs.set j u)) xs i := by
  subst hn
  have hj : j < cs.length := (List.getElem?_eq_some_iff.1 hu0).1
  have hmem := List.mem_of_getElem? hci
  have hlt' := (List.getElem?_eq_some_iff.1 hci).1
  have hbl : ∀ b ∈ blocks (cs.set j u), b ∈ blocks cs := by
    intro b hb
    obtain ⟨a, ha, hab⟩ := List.mem_filterMap.1 hb
    rcases List.mem_or_eq_of_mem_set ha with ha | rfl
    · exact List.mem_filterMap.2 ⟨a, ha, hab⟩
    · exact List.mem_filterMap.2 ⟨u0, List.mem_of_getElem? hu0, hu b hab⟩
  have old : ∀ (b k : Nat) (c : List Value), (css.set i (cs.set j u))[k]? = some c → b ∈ blocks c → ∃ c0, css[k]? = some c0 ∧ b ∈ blocks c0 := by
    intro b k c hc hbb
    by_cases hik : i = k
    · subst hik
      rw [List.getElem?_set_self hlt'] at hc
      injection hc with hc
      subst hc
      exact ⟨cs, hci, hbl b hbb⟩
    · rw [List.getElem?_set_ne hik] at hc
      exact ⟨c, hc, hbb⟩
  refine ⟨?_, by simp [h.len], ?_, ?_, ?_, ?_⟩
  · rw [← flatten_set h.sizes hci hj]
    exact h.own.set (by have := (List.getElem?_eq_some_iff.1 (flatten_at h.sizes hci hu0)).1; exact this)
  · intro c' hc'
    rcases List.mem_or_eq_of_mem_set hc' with hc' | rfl
    · exact h.sizes c' hc'
    · simp [h.sizes cs hmem]
  · intro k y hk hy
    obtain ⟨ck, a, b⟩ := h.at_ k y hk hy
    refine ⟨ck, by rw [List.getElem?_set_ne (Ne.symm hk)]; exact a, E.loc b fun b' hb' => Below.heap_setCell _ _ _ _ ?_⟩
    intro e
    exact h.far ck (List.mem_of_getElem? a) b' hb' (by simp [Value.ownBlock]; exact e.symm)
  · intro k l c1 c2 b hkl hc1 hc2 hb1 hb2
    obtain ⟨c0, a0, b0⟩ := old b k c1 hc1 hb1
    obtain ⟨c1', a1, b1⟩ := old b l c2 hc2 hb2
    exact h.apart k l c0 c1' b hkl a0 a1 b0 b1
  · intro c' hc' b hb
    rcases List.mem_or_eq_of_mem_set hc' with hc' | rfl
    · exact h.far c' hc' b hb
    · exact h.far cs hmem b (hbl b hb)
theorem Elem.OSx.inner (h : E.OSx w lo hi v css xs i) (hci : css[i]? = some cs) (ho : Only (fun b => b ∈ blocks cs) w w') (hsz : hi ≤ w.heap.size) : E.OSx w' lo hi v css xs i := by
  have hmem := List.mem_of_getElem? hci
  refine ⟨h.own.loc fun b hb => ho.block b ?_ (fun hbb => h.far cs hmem b hbb hb), h.len, h.sizes, fun k x hk hx => ?_, h.apart, h.far⟩
  · have := h.own.2.1 b hb; omega
  · obtain ⟨ck, a, b⟩ := h.at_ k x hk hx
    exact ⟨ck, a, E.loc b fun b' hb' => ho.block b' (by have := (E.blk b b' hb').2; omega) (fun hbb => h.apart i k cs ck b' (Ne.symm hk) hci a hbb hb')⟩
end
end Go.Proofs.Ytnnjilkjjdiblaa

/-! ## TypEl -/
namespace Go.Proofs.Ytnnjilkjjdiblaa
set_option maxRecDepth 100000
open Go.RowKit

def vsTyp (x : KinType) (v : Value) : List Value := [.int .i64 x.ego, v]
theorem blocks_typ {x : KinType} {v : Value} {b : Nat} : b ∈ blocks (vsTyp x v) ↔ v.ownBlock = some b := by
  simp only [blocks, vsTyp, List.mem_filterMap, List.mem_cons, List.not_mem_nil, or_false]
  constructor
  · rintro ⟨a, rfl | rfl, h⟩
    · simp [Value.ownBlock] at h
    · exact h
  · exact fun h => ⟨v, by simp, h⟩
def EKin : Elem KinType where
  e := 30
  sz := 2
  O := fun w lo hi cs x => ∃ v, cs = vsTyp x v ∧ EStep.OS w lo hi v x.steps
  R := fun w lo hi cs x => ∃ v, cs = vsTyp x v ∧ EStep.RS w lo hi v x.steps
  len := fun ⟨_, h, _⟩ => by rw [h]; rfl
  read := fun ⟨v, h, a⟩ => ⟨v, h, a.read⟩
  sameO := fun ⟨v, h, a⟩ s => ⟨v, h, a.same s⟩
  sameR := fun ⟨v, h, a⟩ s => ⟨v, h, a.same s⟩
  monoO := fun ⟨v, h, a⟩ p q => ⟨v, h, a.mono p q⟩
  monoR := fun ⟨v, h, a⟩ p q => ⟨v, h, a.mono p q⟩
  blk := fun ⟨v, h, a⟩ k hk => by
    rw [h] at hk
    exact a.blkv _ (blocks_typ.1 hk)
  loc := fun {w w' lo hi cs x} ⟨v, h, a⟩ hb => by
    refine ⟨v, h, a.loc (fun k hk => hb k ?_) (fun h => h)⟩
    rw [h]; exact blocks_typ.2 hk
theorem kin_info : (Try.prog.info? 30).map (fun i => (i.zero, i.size, i.bytes)) = some (some (.agg #[.int .i64 0, .slice none 0 0]), 2, 32) := by kernel_rfl
theorem tyKinS : SlTy EKin 44 32 := SlTy.mk' Try.underlying44 kin_info rfl (by decide)
section
variable {w : World} {lo hi : Nat} {A : Option Addr} {k : Nat}
theorem AKin.at_ {xs : List KinType} (h : EKin.AS w lo hi A xs) (hk : k < xs.length) : ∃ b off x A1 c1, A = some ⟨b, off, none⟩ ∧ lo ≤ b ∧ b < hi ∧ xs.drop k = x :: xs.drop (k + 1) ∧ xs[k]? = some x ∧
    w.cell? ⟨b, off + k * 2, none⟩ = some (.int .i64 x.ego) ∧ w.cell? ⟨b, off + k * 2 + 1, none⟩ = some (.slice A1 x.steps.length c1) ∧ EStep.AS w lo hi A1 x.steps := by
  obtain ⟨b, off, x, cs, rfl, h1, h2, h3, h4, ⟨v1, rfl, ⟨A1, c1, rfl, _, _, q1⟩⟩, hc⟩ := h.at_ hk
  exact ⟨b, off, x, A1, c1, rfl, h1, h2, h3, h4, by simpa [EKin, Nat.add_assoc] using hc 0 _ rfl, by simpa [EKin, Nat.add_assoc] using hc 1 _ rfl, q1⟩
end

/-! ### Marks -/
def wT (x : KinType) : Nat := 1 + 2 * x.steps.length
def mkT : List KinType → Nat
  | [] => 0
  | x :: r => wT x + mkT r
def marksT (k : Int) : List KinType → List KinType
  | [] => []
  | x :: r => ⟨k, mkTo (markStep (k + 1)) x.steps.length⟩ :: marksT (k + wT x) r
theorem marksT_len (xs : List KinType) : ∀ k, (marksT k xs).length = xs.length := by induction xs <;> simp_all [marksT]
theorem marksT_at {xs : List KinType} : ∀ {k : Int} {j : Nat} {x : KinType}, xs[j]? = some x → (marksT k xs)[j]? = some ⟨k + mkT (xs.take j), mkTo (markStep (k + mkT (xs.take j) + 1)) x.steps.length⟩ := by
  induction xs with
  | nil => intro k j x h; simp at h
  | cons y r ih =>
    intro k j x h
    cases j with
    | zero => simp at h; subst h; simp [marksT, mkT]
    | succ j =>
      simp at h
      simp only [marksT, List.getElem?_cons_succ, ih h, List.take_succ_cons, mkT]
      rw [show k + (wT y : Int) + (mkT (r.take j) : Int) = k + ((wT y + mkT (r.take j) : Nat) : Int) by omega]
def MarkedT (k : Int) (xs ys : List KinType) (j : Nat) : Prop := ys.length = xs.length ∧ (∀ i, i < j → ys[i]? = (marksT k xs)[i]?) ∧ ∀ i, j ≤ i → ys[i]? = xs[i]?
theorem MarkedT.step {k : Int} {xs ys : List KinType} {j : Nat} {x : KinType} (h : MarkedT k xs ys j) (hx : xs[j]? = some x) : MarkedT k xs (ys.set j ⟨k + mkT (xs.take j), mkTo (markStep (k + mkT (xs.take j) + 1)) x.steps.length⟩) (j + 1) := by
  obtain ⟨h1, h2, h3⟩ := h
  have hj : j < ys.length := by rw [h1]; exact (List.getElem?_eq_some_iff.1 hx).1
  refine ⟨by simpa using h1, fun i hi => ?_, fun i hi => ?_⟩
  · by_cases hij : j = i
    · subst hij; rw [List.getElem?_set_self hj, marksT_at hx]
    · rw [List.getElem?_set_ne hij]; exact h2 i (by omega)
  · rw [List.getElem?_set_ne (by omega)]; exact h3 i (by omega)
theorem MarkedT.done {k : Int} {xs ys : List KinType} {j : Nat} (h : MarkedT k xs ys j) (hj : xs.length ≤ j) : ys = marksT k xs := by
  obtain ⟨h1, h2, h3⟩ := h
  apply List.ext_getElem?
  intro i
  by_cases hi : i < xs.length
  · exact h2 i (by omega)
  · rw [List.getElem?_eq_none (by omega), List.getElem?_eq_none (by rw [marksT_len]; omega)]

/-! ### append(out, more...) -/
section
variable {α : Type} {E : Elem α}
end
end Go.Proofs.Ytnnjilkjjdiblaa

/-! ## FromM -/
namespace Go.Proofs.Ytnnjilkjjdiblaa
set_option maxRecDepth 100000
open Go.RowKit

def addS (t : KinType) (s : Step) : KinType := ⟨t.ego, t.steps ++ [s]⟩
def kindS (i : Nat) : Step := ⟨(i : Int) + 1, 0⟩
/-- The type with each of the first k kinds of steps appended that can be made. -/
def moreTo (t : KinType) : Nat → List KinType
  | 0 => []
  | k + 1 => if stepOk (kindS k) (sexM t) = true then moreTo t k ++ [addS t (kindS k)] else moreTo t k
def moreM (t : KinType) : List KinType := moreTo t 8
theorem moreTo_succ (t : KinType) (k : Nat) : moreTo t (k + 1) = if stepOk (kindS k) (sexM t) = true then moreTo t k ++ [addS t (kindS k)] else moreTo t k := rfl
theorem moreTo_yes {t : KinType} {k : Nat} (h : stepOk (kindS k) (sexM t) = true) : moreTo t (k + 1) = moreTo t k ++ [addS t (kindS k)] := if_pos h
theorem moreTo_no {t : KinType} {k : Nat} (h : stepOk (kindS k) (sexM t) = false) : moreTo t (k + 1) = moreTo t k := if_neg (by rw [h]; simp)
theorem moreTo_len (t : KinType) : ∀ k, (moreTo t k).length ≤ k := by
  intro k
  induction k with
  | zero => exact Nat.le_refl _
  | succ k ih =>
    rw [moreTo_succ]; split
    · simp; exact ih
    · omega
theorem moreTo_mem {t u : KinType} : ∀ {k : Nat}, u ∈ moreTo t k → ∃ i, i < k ∧ stepOk (kindS i) (sexM t) = true ∧ u = addS t (kindS i) := by
  intro k
  induction k with
  | zero => intro h; cases h
  | succ k ih =>
    intro h
    rw [moreTo_succ] at h
    split at h
    · rename_i hk
      rcases List.mem_append.1 h with h | h
      · obtain ⟨i, h1, h2⟩ := ih h; exact ⟨i, by omega, h2⟩
      · simp at h; exact ⟨k, by omega, hk, h⟩
    · obtain ⟨i, h1, h2⟩ := ih h; exact ⟨i, by omega, h2⟩
theorem stepsOk_snoc {xs : List Step} {s : Step} : ∀ {sex : Int}, stepsOk sex (xs ++ [s]) = (stepsOk sex xs && stepOk s (sexM ⟨sex, xs⟩)) := by
  induction xs with
  | nil => intro sex; simp [stepsOk, sexM]
  | cons x r ih =>
    intro sex
    rw [List.cons_append, stepsOk_cons, ih, stepsOk_cons, Bool.and_assoc]
    congr 2
    cases r with
    | nil => simp [sexM]
    | cons y r => simp [sexM]
theorem addS_ok {t : KinType} (h : typeOk t = true) (hl : t.steps.length < 8) (s : Step) : typeOk (addS t s) = stepOk s (sexM t) := by
  have h2 := typeOk_ego h
  simp only [typeOk, Bool.and_eq_true] at h
  have h3 := h.2
  obtain ⟨eg, st⟩ := t
  show (decide (0 ≤ eg ∧ eg ≤ 2 ∧ (st ++ [s]).length ≤ 8) && stepsOk eg (st ++ [s])) = stepOk s (sexM ⟨eg, st⟩)
  simp only at h2 h3 hl
  rw [stepsOk_snoc, h3, decide_eq_true (by simp; omega)]
  rfl
/-- A step to the father can always be made. -/
theorem kind_father (sex : Int) : stepOk (kindS 0) sex = true := by simp [stepOk, kindS]
theorem moreM_ne (t : KinType) : 0 < (moreM t).length := by
  have h : ∀ k, 0 < (moreTo t (k + 1)).length := by
    intro k
    induction k with
    | zero => rw [moreTo_yes (kind_father _)]; simp
    | succ k ih =>
      rw [moreTo_succ]; split
      · simp
      · exact ih
  exact h 7
end Go.Proofs.Ytnnjilkjjdiblaa

/-! ## FromS -/
namespace Go.Proofs.Ytnnjilkjjdiblaa
set_option maxRecDepth 100000
open Go.RowKit

def RetKins (w : World) (m : List KinType) (e : Ending) (w' : World) : Prop :=
  ∃ (A : Option Addr) (c : Nat), e = .returned (.slice A m.length c) ∧ EKin.OS w' w.heap.size w'.heap.size (.slice A m.length c) m ∧ Below w.heap.size w w'
def MoreRel (t : KinType) (lo : Nat) (W : World) (v i : Value) (wr : World) : Prop :=
  ∃ (k : Nat) (A : Option Addr) (c : Nat), k ≤ 8 ∧ i = .int .i64 ((k : Int) + 1) ∧ v = .slice A (moreTo t k).length c ∧ EKin.OS wr lo wr.heap.size (.slice A (moreTo t k).length c) (moreTo t k) ∧ Below lo W wr ∧ lo ≤ wr.heap.size

set_option maxHeartbeats 4000000 in
theorem l3More_any (D : Option Addr) (e lo hi : Nat) (ego : Int) (zs : List Step) (w : World) (h : EStep.AS w lo hi D zs) (hh : hi ≤ w.heap.size) (ht : typeOk ⟨ego, zs⟩ = true) (hl : zs.length < 8) :
    Calls Try.prog 112 #[.agg #[.int .i64 ego, .slice D zs.length e]] w (RetKins w (moreM ⟨ego, zs⟩)) := by
  have HAD := Lib.hid (addS_ok ht hl)
  clear ht
  have HH := Lib.hid h; clear h
  go_enter Try.func112, Try.ntmps112
  go_wp2_with fail
  have ho0 : EKin.OS ((w.alloc (.cells #[.int .i64 ego, .slice D zs.length e] 30)).alloc (.cells #[] EKin.e)) _ _ _ [] := Elem.OS.made0 (E := EKin) (w.alloc (.cells #[.int .i64 ego, .slice D zs.length e] 30))
  simp only [szs] at ho0
  generalize hW : (w.alloc (.cells #[.int .i64 ego, .slice D zs.length e] 30)).alloc (.cells #[] EKin.e) = W at ho0
  have a0 : W.cell? ⟨w.heap.size, 0, none⟩ = some (.int .i64 ego) := by subst hW; simp [go_sem]
  have a1 : W.cell? ⟨w.heap.size, 1, none⟩ = some (.slice D zs.length e) := by subst hW; simp [go_sem]
  have hb : Below w.heap.size w W := by subst hW; (with_reducible repeat' first | exact Below.refl _ _ | assumption | (refine Below.setCell ?_ (by first | omega | (simp; omega) | (simp; done) | (dsimp only; omega)) _) | (refine Below.alloc ?_ (by first | omega | (simp; omega) | (simp; done) | (dsimp only; omega)) _) | (refine below_drewN ?_ _) | (refine Below.drew ?_))
  have z0 : w.heap.size + 1 + 1 = W.heap.size := by subst hW; simp
  have hW' : (w.alloc (.cells #[.int .i64 ego, .slice D zs.length e] 30)).alloc (.cells #[] 30) = W := hW
  rw [hW']
  clear hW hW'
  go_loopw [3, 4] (fun v i wr => MoreRel ⟨ego, zs⟩ (w.heap.size + 1) W v i wr) (fun _ i _ => 9 - (intOf i).toNat)
  case atStart => exact ⟨0, _, _, Nat.zero_le _, rfl, rfl, by rw [← z0]; exact ho0, Below.refl _ _, by omega⟩
  case round =>
    obtain ⟨k, A, c, hk, rfl, rfl, ho, hbr, hsz⟩ := hrel
    replace a0 := (hbr.cell (p := ⟨w.heap.size, 0, none⟩) (by simp)).trans a0
    replace a1 := (hbr.cell (p := ⟨w.heap.size, 1, none⟩) (by simp)).trans a1
    have hbw := hb.trans (hbr.mono (by omega))
    by_cases hlt : k < 8
    · have hlen := moreTo_len ⟨ego, zs⟩ k
      have lw : w.heap.size < wr.heap.size := by omega
      go_upto_region 6 with fail
      generalize hW5 : wr.alloc (.cells #[.int .i64 ego, .slice none 0 0] 30) = W5
      have r5 : Blk W5 wr.heap.size 30 #[.int .i64 ego, .slice none 0 0] := by subst hW5; exact Blk.new _ rfl
      have hb5 : Below wr.heap.size wr W5 := by subst hW5; (with_reducible repeat' first | exact Below.refl _ _ | assumption | (refine Below.setCell ?_ (by first | omega | (simp; omega) | (simp; done) | (dsimp only; omega)) _) | (refine Below.alloc ?_ (by first | omega | (simp; omega) | (simp; done) | (dsimp only; omega)) _) | (refine below_drewN ?_ _) | (refine Below.drew ?_))
      have z5 : wr.heap.size + 1 = W5.heap.size := by subst hW5; simp
      clear hW5
      have h5 := HH.out.same (Same.of_below (hbw.trans (hb5.mono (by omega))) hh)
      have b1 := (hb5.cell (p := ⟨w.heap.size, 1, none⟩) (by simp; omega)).trans a1
      have q1 := r5.cell (i := 1) rfl
      have lw5 : w.heap.size < W5.heap.size := by omega
      have lr5 : wr.heap.size < W5.heap.size := by omega
      go_upto_region 7 with (at_builtin; refine wpList_appN flatStep tyStepS none [] e (Elem.OS.nil (lo := W5.heap.size) (hi := W5.heap.size)) rfl h5 _ _ rfl rfl rfl rfl (by simp; omega) (by decide) (Nat.le_refl _) ?_; intro A4 c4 w4 o4 hg4; simp only [List.nil_append] at o4 ⊢; (have hb4 : Below W5.heap.size W5 w4 := Below.grown (Below.refl _ _) hg4 (Nat.le_refl _) (fun k hk => by simp [Value.ownBlock] at hk)); (have z4 := hb4.size); (have r4 := r5.below hb4 lr5); (have f1 := r4.free 1); (have q4 := r4.cell (i := 1) rfl))
      generalize hW6 : w4.setCell ⟨wr.heap.size, 1, none⟩ (.slice A4 zs.length c4) = W6
      have r6 : Blk W6 wr.heap.size 30 #[.int .i64 ego, .slice A4 zs.length c4] := by subst hW6; exact r4.set 1 _
      have o6 : EStep.OS W6 W5.heap.size W6.heap.size (.slice A4 zs.length c4) zs := by subst hW6; exact (o4.same (by (with_reducible repeat' first | exact Same.refl _ _ _ | assumption | (refine Same.setCell ?_ (by first | omega | (simp; omega) | (simp; done) | (dsimp only; omega)) _) | (refine Same.alloc ?_ (by first | omega | (simp; omega) | (simp; done) | (dsimp only; omega)) _) | (refine Same.drewN ?_ _) | (refine Same.drew ?_)))).mono (Nat.le_refl _) (by simp [World.setCell])
      have hb6 : Below wr.heap.size wr W6 := by subst hW6; (with_reducible repeat' first | exact Below.refl _ _ | assumption | (refine Below.setCell ?_ (by first | omega | (simp; omega) | (simp; done) | (dsimp only; omega)) _) | (refine Below.alloc ?_ (by first | omega | (simp; omega) | (simp; done) | (dsimp only; omega)) _) | (refine below_drewN ?_ _) | (refine Below.drew ?_) | (refine Below.trans ?_ (hb4.mono (by first | omega | (simp; omega) | (simp; done) | (dsimp only; omega)))) | (refine Below.trans ?_ (hb5.mono (by first | omega | (simp; omega) | (simp; done) | (dsimp only; omega)))))
      have z6 : W5.heap.size ≤ W6.heap.size := by subst hW6; simpa [World.setCell] using z4
      clear hW6 r4 o4 hb4 hg4 q4 f1 z4 q1 b1
      have q6 := r6.cell (i := 1) rfl
      have lr6 : wr.heap.size < W6.heap.size := by omega
      obtain ⟨us, hus⟩ : ∃ us, zs ++ [kindS k] = us := ⟨_, rfl⟩
      have HUS := Lib.hid hus
      have HUL := Lib.hid (show us.length = zs.length + 1 by rw [← hus]; simp)
      clear hus
      go_upto_region 8 with (at_builtin; refine wpList_app1 tyStepS A4 zs (kindS k) [.int .i64 ((k : Int) + 1), .int .i64 0] ⟨W6.heap.size, 0, none⟩ 1 (lo := W5.heap.size) (hi := W6.heap.size) (o6.same (by (with_reducible repeat' first | exact Same.refl _ _ _ | assumption | (refine Same.setCell ?_ (by first | omega | (simp; omega) | (simp; done) | (dsimp only; omega)) _) | (refine Same.alloc ?_ (by first | omega | (simp; omega) | (simp; done) | (dsimp only; omega)) _) | (refine Same.drewN ?_ _) | (refine Same.drew ?_)))) rfl (by first | omega | (simp; omega) | (simp; done) | (dsimp only; omega)) z6 rfl _ _ rfl rfl rfl rfl (cell_row_at _ #[.int .i64 ((k : Int) + 1), .int .i64 0] _ _ rfl) (by simp; exact ⟨rfl, rfl⟩) (by omega) (by decide) (fun A7 c7 w7 o7 hg7 hc7 hm7 => ?_); rw [HUS.out] at o7; rw [← HUL.out]; (have hb7 : Below wr.heap.size wr w7 := Below.grown (by (with_reducible repeat' first | exact Below.refl _ _ | assumption | (refine Below.setCell ?_ (by first | omega | (simp; omega) | (simp; done) | (dsimp only; omega)) _) | (refine Below.alloc ?_ (by first | omega | (simp; omega) | (simp; done) | (dsimp only; omega)) _) | (refine below_drewN ?_ _) | (refine Below.drew ?_) | (refine Below.trans ?_ (hb6.mono (by first | omega | (simp; omega) | (simp; done) | (dsimp only; omega)))))) hg7 (by simp; omega) (fun k hk => by have := (o6.blkv k hk).1; omega)); (have r7 := (r6.alloc (.cells #[.int .i64 ((k : Int) + 1), .int .i64 0] 72)).grown hg7 (fun e => by have := (o6.blkv _ e.symm).1; omega)); (have f7 := r7.free 1); (have q7 := r7.cell (i := 1) rfl); (have z7 := hg7.size); (have lr7 : wr.heap.size < w7.heap.size := r7.lt); simp only [szs] at z7)
      generalize hW8 : w7.setCell ⟨wr.heap.size, 1, none⟩ (.slice A7 us.length c7) = W8
      have r8 : Blk W8 wr.heap.size 30 #[.int .i64 ego, .slice A7 us.length c7] := by subst hW8; exact r7.set 1 _
      have o8 : EStep.OS W8 W5.heap.size W8.heap.size (.slice A7 us.length c7) us := by rw [← HUL.out] at o7; subst hW8; exact (o7.same (by (with_reducible repeat' first | exact Same.refl _ _ _ | assumption | (refine Same.setCell ?_ (by first | omega | (simp; omega) | (simp; done) | (dsimp only; omega)) _) | (refine Same.alloc ?_ (by first | omega | (simp; omega) | (simp; done) | (dsimp only; omega)) _) | (refine Same.drewN ?_ _) | (refine Same.drew ?_)))).mono (Nat.le_refl _) (by simp [World.setCell])
      have hb8 : Below wr.heap.size wr W8 := by subst hW8; (with_reducible repeat' first | exact Below.refl _ _ | assumption | (refine Below.setCell ?_ (by first | omega | (simp; omega) | (simp; done) | (dsimp only; omega)) _) | (refine Below.alloc ?_ (by first | omega | (simp; omega) | (simp; done) | (dsimp only; omega)) _) | (refine below_drewN ?_ _) | (refine Below.drew ?_) | (refine Below.trans ?_ (hb7.mono (by first | omega | (simp; omega) | (simp; done) | (dsimp only; omega)))))
      have z8 : W5.heap.size ≤ W8.heap.size := by subst hW8; simp [World.setCell]; omega
      clear hW8 r7 o7 hb7 hg7 q7 f7 z7 hb6 o6 r6 q6 hc7 hm7 lr7
      have p0 := r8.cell (i := 0) rfl; have p1 := r8.cell (i := 1) rfl
      have lr8 : wr.heap.size < W8.heap.size := by omega
      have HB8 := Lib.hid hb8; clear hb8
      cases hok : stepOk (kindS k) (sexM ⟨ego, zs⟩) with
      | false =>
        have HT := Lib.hid (show typeOk ⟨ego, us⟩ = false by rw [← HUS.out, ← hok, ← HAD.out]; rfl)
        have HM := Lib.hid (moreTo_no hok)
        clear hok
        go_wp2_with (go_at_call 85; (with_reducible refine (specIsType_any ego A7 c7 _ _ us _ o8.read.as (Nat.le_refl _)).mono ?_); rintro e w9 ⟨rfl, hb9⟩; simp only [HT.out])
        refine ⟨⟨k + 1, A, c, by omega, by go_num, by rw [HM.out], ?_, ?_, ?_⟩, by simp [intOf]; omega⟩
        · rw [HM.out]; exact (ho.same ((Same.of_below HB8.out (Nat.le_refl _)).trans (Same.of_below hb9 (by omega)))).mono (Nat.le_refl _) (Nat.le_trans HB8.out.size hb9.size)
        · exact hbr.trans ((HB8.out.mono (by omega)).trans (hb9.mono (by omega)))
        · exact Nat.le_trans (by omega) hb9.size
      | true =>
        have HT := Lib.hid (show typeOk ⟨ego, us⟩ = true by rw [← HUS.out, ← hok, ← HAD.out]; rfl)
        have HM := Lib.hid (moreTo_yes hok)
        clear hok
        go_upto_region 9 with (go_at_call 85; (with_reducible refine (specIsType_any ego A7 c7 _ _ us _ o8.read.as (Nat.le_refl _)).mono ?_); rintro e w9 ⟨rfl, hb9⟩; simp only [HT.out])
        have r9 := r8.below hb9 lr8
        have s0 := r9.cell (i := 0) rfl; have s1 := r9.cell (i := 1) rfl
        have o9 := o8.same (Same.of_below hb9 (Nat.le_refl _))
        have hb19 : Below wr.heap.size wr w9 := HB8.out.trans (hb9.mono (by omega))
        have ho9 := ho.same (Same.of_below hb19 (Nat.le_refl _))
        have z9 := hb9.size
        have lr9 : wr.heap.size < w9.heap.size := by omega
        have HB19 := Lib.hid hb19
        clear hb19 hb9 p0 p1
        have hx9 : EKin.O (w9.alloc (.cells #[.int .i64 ego, .slice A7 us.length c7] 30)) wr.heap.size (w9.alloc (.cells #[.int .i64 ego, .slice A7 us.length c7] 30)).heap.size [.int .i64 ego, .slice A7 us.length c7] (addS ⟨ego, zs⟩ (kindS k)) :=
          ⟨_, rfl, by rw [show (addS ⟨ego, zs⟩ (kindS k)).steps = us from HUS.out]; exact (o9.same (by (with_reducible repeat' first | exact Same.refl _ _ _ | assumption | (refine Same.setCell ?_ (by first | omega | (simp; omega) | (simp; done) | (dsimp only; omega)) _) | (refine Same.alloc ?_ (by first | omega | (simp; omega) | (simp; done) | (dsimp only; omega)) _) | (refine Same.drewN ?_ _) | (refine Same.drew ?_)))).mono (by omega) (by simp; omega)⟩
        have HX9 := Lib.hid hx9; clear hx9
        go_wp2_with (at_builtin; refine wpList_app1 tyKinS A (moreTo ⟨ego, zs⟩ k) (addS ⟨ego, zs⟩ (kindS k)) [.int .i64 ego, .slice A7 us.length c7] ⟨w9.heap.size, 0, none⟩ 1 (lo := w.heap.size + 1) (hi := wr.heap.size) (ho9.same (by (with_reducible repeat' first | exact Same.refl _ _ _ | assumption | (refine Same.setCell ?_ (by first | omega | (simp; omega) | (simp; done) | (dsimp only; omega)) _) | (refine Same.alloc ?_ (by first | omega | (simp; omega) | (simp; done) | (dsimp only; omega)) _) | (refine Same.drewN ?_ _) | (refine Same.drew ?_)))) rfl (by first | omega | (simp; omega) | (simp; done) | (dsimp only; omega)) hsz HX9.out _ _ rfl rfl rfl rfl (cell_row_at _ #[.int .i64 ego, .slice A7 us.length c7] _ _ rfl) (by simp; exact ⟨rfl, rfl⟩) (by omega) (by decide) (fun A' c' w1 ho1 hg1 hc1 hm1 => ?_))
        refine ⟨⟨k + 1, A', c', by omega, by go_num, by rw [HM.out]; simp, by rw [HM.out]; simpa using ho1, ?_, ?_⟩, by simp [intOf]; omega⟩
        · exact Below.grown (w := w9.alloc _) (by have hq := HB19.out; (with_reducible repeat' first | exact Below.refl _ _ | assumption | (refine Below.setCell ?_ (by first | omega | (simp; omega) | (simp; done) | (dsimp only; omega)) _) | (refine Below.alloc ?_ (by first | omega | (simp; omega) | (simp; done) | (dsimp only; omega)) _) | (refine below_drewN ?_ _) | (refine Below.drew ?_) | (refine Below.trans ?_ (hq.mono (by first | omega | (simp; omega) | (simp; done) | (dsimp only; omega)))) | (refine Below.trans ?_ (hbr.mono (by first | omega | (simp; omega) | (simp; done) | (dsimp only; omega)))))) hg1 (by simp; omega) (fun k hk => (ho.blkv k hk).1)
        · have := hg1.size; simp at this; omega
    · obtain rfl : k = 8 := by omega
      go_wp2
      go_ret
      exact ⟨A, c, rfl, ho.mono (by omega) (Nat.le_refl _), hbw⟩
theorem RetKins.nil {w w' : World} (h : Below w.heap.size w w') : RetKins w [] (.returned (.slice none 0 0)) w' := ⟨none, 0, rfl, Elem.OS.nil, h⟩

end Go.Proofs.Ytnnjilkjjdiblaa

/-! ## FromI -/
namespace Go.Proofs.Ytnnjilkjjdiblaa
set_option maxRecDepth 100000
open Go.RowKit

end Go.Proofs.Ytnnjilkjjdiblaa
