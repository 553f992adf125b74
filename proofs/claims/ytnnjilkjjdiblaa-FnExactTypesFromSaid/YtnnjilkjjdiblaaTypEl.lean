/-
  Lists of kin types, each of which owns its steps: equality, marks, append of a whole list.
-/
import Derived.Test.YtnnjilkjjdiblaaMarkTyp
import Derived.Test.YtnnjilkjjdiblaaAppN
import Derived.Test.YtnnjilkjjdiblaaOSx
import Derived.Deep.RegionHeld3
namespace Go.Proofs.Ytnnjilkjjdiblaa
set_option maxRecDepth 100000
open Go.RowKit

def vsTyp (x : KinType) (v : Value) : List Value := [.int .i64 x.ego, v]
theorem blocks_typ {x : KinType} {v : Value} {b : Nat} : b ∈ blocks (vsTyp x v) ↔ v.ownBlock = some b := by
  simp only [blocks, vsTyp, List.mem_filterMap, List.mem_cons, List.not_mem_nil, or_false]
  constructor
  · rintro ⟨a, rfl | rfl, h⟩
    · simp [Value.ownBlock] at h
    · exact h
  · exact fun h => ⟨v, by simp, h⟩
def EKin : Elem KinType where
  e := 30
  sz := 2
  O := fun w lo hi cs x => ∃ v, cs = vsTyp x v ∧ EStep.OS w lo hi v x.steps
  R := fun w lo hi cs x => ∃ v, cs = vsTyp x v ∧ EStep.RS w lo hi v x.steps
  len := fun ⟨_, h, _⟩ => by rw [h]; rfl
  read := fun ⟨v, h, a⟩ => ⟨v, h, a.read⟩
  sameO := fun ⟨v, h, a⟩ s => ⟨v, h, a.same s⟩
  sameR := fun ⟨v, h, a⟩ s => ⟨v, h, a.same s⟩
  monoO := fun ⟨v, h, a⟩ p q => ⟨v, h, a.mono p q⟩
  monoR := fun ⟨v, h, a⟩ p q => ⟨v, h, a.mono p q⟩
  blk := fun ⟨v, h, a⟩ k hk => by
    rw [h] at hk
    exact a.blkv _ (blocks_typ.1 hk)
  loc := fun {w w' lo hi cs x} ⟨v, h, a⟩ hb => by
    refine ⟨v, h, a.loc (fun k hk => hb k ?_) (fun h => h)⟩
    rw [h]; exact blocks_typ.2 hk
theorem kin_info : (Try.prog.info? 30).map (fun i => (i.zero, i.size, i.bytes)) = some (some (.agg #[.int .i64 0, .slice none 0 0]), 2, 32) := by kernel_rfl
theorem tyKinS : SlTy EKin 44 32 := SlTy.mk' Try.underlying44 kin_info rfl (by decide)
theorem EKin_one {w : World} {lo hi : Nat} {cs : List Value} {x : KinType} (h : EKin.R w lo hi cs x) : ∀ u ∈ cs, u.oneCell' = true := by
  obtain ⟨v, rfl, A, c, rfl, _⟩ := h
  intro u hu
  simp [vsTyp] at hu
  rcases hu with rfl | rfl <;> rfl
section
variable {w : World} {lo hi : Nat} {A : Option Addr} {k : Nat}
theorem AKin.at_ {xs : List KinType} (h : EKin.AS w lo hi A xs) (hk : k < xs.length) : ∃ b off x A1 c1, A = some ⟨b, off, none⟩ ∧ lo ≤ b ∧ b < hi ∧ xs.drop k = x :: xs.drop (k + 1) ∧ xs[k]? = some x ∧
    w.cell? ⟨b, off + k * 2, none⟩ = some (.int .i64 x.ego) ∧ w.cell? ⟨b, off + k * 2 + 1, none⟩ = some (.slice A1 x.steps.length c1) ∧ EStep.AS w lo hi A1 x.steps := by
  obtain ⟨b, off, x, cs, rfl, h1, h2, h3, h4, ⟨v1, rfl, ⟨A1, c1, rfl, _, _, q1⟩⟩, hc⟩ := h.at_ hk
  exact ⟨b, off, x, A1, c1, rfl, h1, h2, h3, h4, by simpa [EKin, Nat.add_assoc] using hc 0 _ rfl, by simpa [EKin, Nat.add_assoc] using hc 1 _ rfl, q1⟩
end

set_option maxHeartbeats 4000000 in
theorem eqKinTypeS_any (A B : Option Addr) (c d lo hi lo' hi' : Nat) (xs ys : List KinType) (w : World) (h : EKin.AS w lo hi A xs) (h' : EKin.AS w lo' hi' B ys) (hh : hi ≤ w.heap.size) (hh' : hi' ≤ w.heap.size) :
    Calls Try.prog 34 #[.slice A xs.length c, .slice B ys.length d] w fun e w' => e = .returned (.bool (eqB xs ys)) ∧ Below w.heap.size w w' := by
  have hx := h.le
  unfold BIG at hx
  by_cases hn : xs.length = ys.length
  · have n1 : xs.length ≤ ys.length := by omega
    have n2 : ys.length ≤ xs.length := by omega
    clear hn
    have nb : ((xs.length : Int) != (ys.length : Int)) = false := by simp; omega
    go_enter Try.func34, Try.ntmps34
    go_wp2
    go_loopw [5] (fun i wr => EqRelB xs ys w i wr) (fun i _ => xs.length - (intOf i).toNat)
    case atStart => exact ⟨0, Nat.zero_le _, rfl, Below.refl _ _, by simp⟩
    case round =>
      obtain ⟨k, hk, rfl, hw, he⟩ := hrel
      have HE := Lib.hid he; clear he
      have h := h.same (Same.of_below hw hh); have h' := h'.same (Same.of_below hw hh')
      have hz := hw.size
      by_cases hlt : k < xs.length
      · obtain ⟨b1, o1, ⟨x0, x1⟩, A1, c1, rfl, l1, m1, hdx, _, hc0, hc1, s1⟩ := AKin.at_ h hlt
        obtain ⟨b2, o2, ⟨y0, y1⟩, B1, d1, rfl, l2, m2, hdy, _, hd0, hd1, t1⟩ := AKin.at_ h' (by omega : k < ys.length)
        have HD1 := Lib.hid hdx; have HD2 := Lib.hid hdy; clear hdx hdy
        simp only at hc0 hc1 s1 hd0 hd1 t1
        have q1 : (0 : Int) ≤ (k : Int) := by omega
        have q2 : (k : Int) < (xs.length : Int) := by omega
        have q3 : (k : Int) < (ys.length : Int) := by omega
        have r1 : hi ≤ wr.heap.size := by omega
        have r2 : hi' ≤ wr.heap.size := by omega
        have r1' : hi ≤ wr.drew.heap.size := r1
        have r2' : hi' ≤ wr.drew.heap.size := r2
        go_wp2
        go_region_held3 (fun w' => w'.cell? ⟨b1, o1 + k * 2, none⟩ = some (.int .i64 x0) ∧ w'.cell? ⟨b1, o1 + k * 2 + 1, none⟩ = some (.slice A1 x1.length c1) ∧ w'.cell? ⟨b2, o2 + k * 2, none⟩ = some (.int .i64 y0) ∧ w'.cell? ⟨b2, o2 + k * 2 + 1, none⟩ = some (.slice B1 y1.length d1)) (first | exact ⟨hc0, hc1, hd0, hd1⟩ | exact ⟨(hb1.cell (by simp; omega)).trans hc0, (hb1.cell (by simp; omega)).trans hc1, (hb1.cell (by simp; omega)).trans hd0, (hb1.cell (by simp; omega)).trans hd1⟩)
          (first | (go_at_call 39; (with_reducible refine (eqKinType_any A1 B1 c1 d1 lo hi lo' hi' x0 y0 x1 y1 _ s1.drew t1.drew r1' r2').mono ?_); rintro e w1 ⟨rfl, hb1⟩))
        have hw1 := hw.trans (((Below.refl _ _).drew.trans hb1).mono hz)
        go_wp2
        · have hxy : (!eqB (⟨x0, x1⟩ : KinType) ⟨y0, y1⟩) = true := by assumption
          go_ret
          exact ⟨ret_bool (eqB_no HE.out HD1.out HD2.out (not_true hxy)), hw1⟩
        · have hxy : (!eqB (⟨x0, x1⟩ : KinType) ⟨y0, y1⟩) = false := by assumption
          exact ⟨⟨k + 1, by omega, by go_num, hw1, eqB_yes HE.out HD1.out HD2.out (not_false hxy)⟩, by simp [intOf]; omega⟩
      · go_wp2
        go_ret
        exact ⟨ret_bool (eqB_end HE.out (by omega) (by omega)), hw⟩
  · go_enter Try.func34, Try.ntmps34
    go_wp2
    go_ret
    exact ⟨ret_bool (eqB_len hn).symm, Below.refl _ _⟩

/-! ### Marks -/
def wT (x : KinType) : Nat := 1 + 2 * x.steps.length
def mkT : List KinType → Nat
  | [] => 0
  | x :: r => wT x + mkT r
theorem mkT_succ {xs : List KinType} : ∀ {j : Nat} {x : KinType}, xs[j]? = some x → mkT (xs.take (j + 1)) = mkT (xs.take j) + wT x := by
  induction xs with
  | nil => intro j x h; simp at h
  | cons y r ih =>
    intro j x h
    cases j with
    | zero => simp at h; subst h; simp [mkT]
    | succ j => simp at h; simp only [List.take_succ_cons, mkT, ih h]; omega
theorem mkT_take_le (xs : List KinType) : ∀ j, mkT (xs.take j) ≤ mkT xs := by
  induction xs with
  | nil => intro j; simp [mkT]
  | cons y r ih =>
    intro j
    cases j with
    | zero => simp [mkT]
    | succ j => simp only [List.take_succ_cons, mkT]; have := ih j; omega
def marksT (k : Int) : List KinType → List KinType
  | [] => []
  | x :: r => ⟨k, mkTo (markStep (k + 1)) x.steps.length⟩ :: marksT (k + wT x) r
theorem marksT_len (xs : List KinType) : ∀ k, (marksT k xs).length = xs.length := by induction xs <;> simp_all [marksT]
theorem marksT_at {xs : List KinType} : ∀ {k : Int} {j : Nat} {x : KinType}, xs[j]? = some x → (marksT k xs)[j]? = some ⟨k + mkT (xs.take j), mkTo (markStep (k + mkT (xs.take j) + 1)) x.steps.length⟩ := by
  induction xs with
  | nil => intro k j x h; simp at h
  | cons y r ih =>
    intro k j x h
    cases j with
    | zero => simp at h; subst h; simp [marksT, mkT]
    | succ j =>
      simp at h
      simp only [marksT, List.getElem?_cons_succ, ih h, List.take_succ_cons, mkT]
      rw [show k + (wT y : Int) + (mkT (r.take j) : Int) = k + ((wT y + mkT (r.take j) : Nat) : Int) by omega]
def MarkedT (k : Int) (xs ys : List KinType) (j : Nat) : Prop := ys.length = xs.length ∧ (∀ i, i < j → ys[i]? = (marksT k xs)[i]?) ∧ ∀ i, j ≤ i → ys[i]? = xs[i]?
theorem MarkedT.step {k : Int} {xs ys : List KinType} {j : Nat} {x : KinType} (h : MarkedT k xs ys j) (hx : xs[j]? = some x) : MarkedT k xs (ys.set j ⟨k + mkT (xs.take j), mkTo (markStep (k + mkT (xs.take j) + 1)) x.steps.length⟩) (j + 1) := by
  obtain ⟨h1, h2, h3⟩ := h
  have hj : j < ys.length := by rw [h1]; exact (List.getElem?_eq_some_iff.1 hx).1
  refine ⟨by simpa using h1, fun i hi => ?_, fun i hi => ?_⟩
  · by_cases hij : j = i
    · subst hij; rw [List.getElem?_set_self hj, marksT_at hx]
    · rw [List.getElem?_set_ne hij]; exact h2 i (by omega)
  · rw [List.getElem?_set_ne (by omega)]; exact h3 i (by omega)
theorem MarkedT.done {k : Int} {xs ys : List KinType} {j : Nat} (h : MarkedT k xs ys j) (hj : xs.length ≤ j) : ys = marksT k xs := by
  obtain ⟨h1, h2, h3⟩ := h
  apply List.ext_getElem?
  intro i
  by_cases hi : i < xs.length
  · exact h2 i (by omega)
  · rw [List.getElem?_eq_none (by omega), List.getElem?_eq_none (by rw [marksT_len]; omega)]
def MarkTSRel (w : World) (lo hi : Nat) (v : Value) (xs : List KinType) (k : Int) (kk i : Value) (wr : World) : Prop :=
  ∃ (j : Nat) (ys : List KinType), j ≤ xs.length ∧ i = .int .i64 j ∧ kk = .int .i64 (k + mkT (xs.take j)) ∧ EKin.OS wr lo hi v ys ∧ MarkedT k xs ys j ∧ Chg lo hi w wr ∧ hi ≤ wr.heap.size

set_option maxHeartbeats 8000000 in
theorem markKinTypeS_any (A : Option Addr) (c lo hi : Nat) (xs : List KinType) (k : Int) (w : World) (h : EKin.OS w lo hi (.slice A xs.length c) xs) (hh : hi ≤ w.heap.size) (h0 : 0 ≤ k) (h1 : k + mkT xs ≤ 4611686018427387904) :
    Calls Try.prog 35 #[.slice A xs.length c, .int .i64 k] w fun e w' => e = .returned (.int .i64 (k + mkT xs)) ∧ EKin.OS w' lo hi (.slice A xs.length c) (marksT k xs) ∧ Chg lo hi w w' := by
  have hx := h.read.as.le
  unfold BIG at hx
  go_enter Try.func35, Try.ntmps35
  go_wp2
  go_loopw [1, 5] (fun kk i wr => MarkTSRel w lo hi (.slice A xs.length c) xs k kk i wr) (fun _ i _ => xs.length - (intOf i).toNat)
  case atStart => exact ⟨0, xs, Nat.zero_le _, rfl, by simp [mkT], h, ⟨rfl, fun i hi => absurd hi (Nat.not_lt_zero _), fun _ _ => rfl⟩, Chg.refl _ _ _, hh⟩
  case round =>
    obtain ⟨j, ys, hj, rfl, rfl, ho, hm0, hch, hhr⟩ := hrel
    by_cases hlt : j < xs.length
    · have hyl := hm0.1
      obtain ⟨g, c', y, cs, css, hv, g1, g2, g3, hy, hci, ⟨v1, rfl, hu1⟩, hox⟩ := ho.openx (i := j) (by rw [hyl]; exact hlt)
      rw [hyl] at hv
      injection hv with hv _ hc
      subst hv; subst hc
      obtain ⟨B1, d1, rfl, _, _, _⟩ := hu1.read.open_
      have hyx : xs[j]? = some y := by rw [← hm0.2.2 j (Nat.le_refl _)]; exact hy
      have t1 := mkT_succ hyx
      have t2 := mkT_take_le xs (j + 1)
      unfold wT at t1
      have HM0 := Lib.hid (hm0.step hyx)
      obtain ⟨m, hm⟩ : ∃ m : Nat, mkT (xs.take j) = m := ⟨_, rfl⟩
      obtain ⟨m', hm'⟩ : ∃ m : Nat, mkT (xs.take (j + 1)) = m := ⟨_, rfl⟩
      rw [hm, hm'] at t1
      rw [hm'] at t2
      rw [hm]
      have HM := Lib.hid hm; have HM' := Lib.hid hm'; have HT := Lib.hid t1; have HYL := Lib.hid hyl
      have t3 : m + 1 + 2 * y.steps.length ≤ mkT xs := by omega
      have HCI := Lib.hid hci
      clear hm hm' t1 t2 hy hyx hyl hci hm0
      obtain ⟨e0, f0⟩ := hox.cell HYL.out.symm HCI.out (j := 0) rfl
      obtain ⟨e1, f1⟩ := hox.cell HYL.out.symm HCI.out (j := 1) rfl
      simp only [EKin, Nat.add_zero] at e0 f0 e1 f1
      clear ho
      go_wp2_with fail
      generalize hW : wr.setCell ⟨g, j * 2, none⟩ (.int .i64 (k + m)) = W3
      have hjl : j < css.length := (List.getElem?_eq_some_iff.1 HCI.out).1
      have hci3 : (css.set j (vsTyp ⟨k + m, y.steps⟩ (.slice B1 y.steps.length d1)))[j]? = some (vsTyp ⟨k + m, y.steps⟩ (.slice B1 y.steps.length d1)) := List.getElem?_set_self hjl
      have x3 : EKin.OSx W3 lo hi (.slice (some ⟨g, 0, none⟩) xs.length c) (css.set j (vsTyp ⟨k + m, y.steps⟩ (.slice B1 y.steps.length d1))) ys j := by
        have p1 := hox.put HYL.out.symm HCI.out (j := 0) (u := .int .i64 (k + m)) rfl (by intro b hb; cases hb)
        subst hW
        exact p1
      have hgB1 : ∀ b, (Value.slice B1 y.steps.length d1).ownBlock = some b → b ≠ g := fun b hb e => by
        have := hox.far _ (List.mem_of_getElem? HCI.out) b (blocks_typ.2 hb)
        simp [Value.ownBlock] at this; omega
      have hblk : ∀ b, b ≠ g → W3.heap[b]? = wr.heap[b]? := by
        intro b hb; subst hW
        rw [Below.heap_setCell _ _ _ _ hb]
      have u13 : EStep.OS W3 lo hi (.slice B1 y.steps.length d1) y.steps := flat_os.2 ((flat_os.1 hu1).loc fun b hb => hblk b (hgB1 b hb))
      have hch3 : Chg lo hi w W3 := by subst hW; exact hch.setCell (p := ⟨g, j * 2, none⟩) ⟨g1, g2⟩ _
      have hsz3 : W3.heap.size = wr.heap.size := by subst hW; simp [World.setCell]
      clear hW hox hu1 e0 f0 e1 f1 hblk
      refine (markStepS_own B1 d1 lo hi y.steps _ W3 u13 (by omega) (by omega) (by omega)).mono ?_
      rintro e w4 ⟨rfl, o4, hc4, hs4⟩
      have x4 := x3.inner hci3 (hc4.mono fun b hb => blocks_typ.2 hb) (by omega)
      have hch4 := hch3.trans (hc4.chg fun b hb => u13.blkv b hb)
      go_wp2_with fail
      have hfin := x4.close (x' := ⟨k + m, mkTo (markStep (k + m + 1)) y.steps.length⟩) hci3 ⟨_, rfl, by simpa [mkTo_len] using o4⟩
      have HM2 := HM0.out
      rw [HM.out] at HM2
      refine ⟨⟨j + 1, _, by omega, by go_num, ?_, hfin, HM2, hch4, by omega⟩, by simp [intOf]; omega⟩
      rw [HM'.out, HT.out]; congr 1; omega
    · obtain rfl : j = xs.length := by omega
      have hd := hm0.done (Nat.le_refl _)
      subst hd
      go_wp2
      go_ret
      exact ⟨by first | rfl | simp, ho, hch⟩

def HeldTSRel (xs : List KinType) (k : Int) (kk i : Value) (w wr : World) : Prop := ∃ j : Nat, j ≤ xs.length ∧ i = .int .i64 j ∧ kk = .int .i64 (k + mkT (xs.take j)) ∧ w = wr
theorem heldKinTypeS_any (A : Option Addr) (c lo hi : Nat) (xs : List KinType) (k : Int) (w : World) (h : EKin.AS w lo hi A (marksT k xs)) (h0 : 0 ≤ k) (h1 : k + mkT xs ≤ 4611686018427387904) :
    Calls Try.prog 36 #[.slice A xs.length c, .int .i64 k] w fun e w' => e = .returned (.int .i64 (k + mkT xs)) ∧ w = w' := by
  have hx := h.le
  rw [marksT_len] at hx
  unfold BIG at hx
  go_enter Try.func36, Try.ntmps36
  go_wp2
  go_loopw [1, 5] (fun kk i wr => HeldTSRel xs k kk i w wr) (fun _ i _ => xs.length - (intOf i).toNat)
  case atStart => exact ⟨0, Nat.zero_le _, rfl, by simp [mkT], rfl⟩
  case round =>
    obtain ⟨j, hj, rfl, rfl, rfl⟩ := hrel
    by_cases hlt : j < xs.length
    · obtain ⟨b, off, x, B, cx, rfl, _, _, _, hxk, hc0, hc1, hr⟩ := AKin.at_ h (by rw [marksT_len]; exact hlt)
      have hy : xs[j]? = some xs[j] := List.getElem?_eq_getElem hlt
      generalize xs[j] = y at hy
      rw [marksT_at hy] at hxk
      injection hxk with hxk
      subst hxk
      simp only [mkTo_len] at hc0 hc1 hr
      have t1 := mkT_succ hy
      have t2 := mkT_take_le xs (j + 1)
      unfold wT at t1
      obtain ⟨m, hm⟩ : ∃ m : Nat, mkT (xs.take j) = m := ⟨_, rfl⟩
      obtain ⟨m', hm'⟩ : ∃ m : Nat, mkT (xs.take (j + 1)) = m := ⟨_, rfl⟩
      rw [hm, hm'] at t1
      rw [hm'] at t2
      rw [hm] at hc0 hr ⊢
      have t3 : m + 1 + 2 * y.steps.length ≤ mkT xs := by omega
      have HT := Lib.hid t1; have HM' := Lib.hid hm'; clear t1 t2 hy hm hm'
      go_wp2_with (go_at_call 116; refine (heldStepS_own B cx lo hi y.steps.length _ w hr (by omega) (by omega)).mono ?_; rintro e w1 ⟨rfl, rfl⟩)
      refine ⟨⟨j + 1, by omega, by go_num, ?_, rfl⟩, by simp [intOf]; omega⟩
      rw [HM'.out, HT.out]; congr 1; omega
    · obtain rfl : j = xs.length := by omega
      go_wp2
      go_ret
      exact ⟨by first | rfl | simp, rfl⟩

/-! ### append(out, more...) -/
section
variable {α : Type} {E : Elem α}
theorem flatten_of {css : List (List Value)} {sz : Nat} (h : ∀ cs ∈ css, cs.length = sz) (hp : 0 < sz) {j : Nat} {u : Value} (hu : css.flatten[j]? = some u) : ∃ cs, css[j / sz]? = some cs ∧ cs[j % sz]? = some u ∧ j / sz * sz + j % sz = j := by
  have hj : j < css.length * sz := by
    have := (List.getElem?_eq_some_iff.1 hu).1
    rwa [flatten_len h] at this
  have hi : j / sz < css.length := (Nat.div_lt_iff_lt_mul hp).2 hj
  have hr : j % sz < sz := Nat.mod_lt _ hp
  have hdm : j / sz * sz + j % sz = j := by rw [Nat.mul_comm]; exact Nat.div_add_mod j sz
  have hcs : css[j / sz]? = some css[j / sz] := List.getElem?_eq_getElem hi
  have hl := h _ (List.mem_of_getElem? hcs)
  have hrow : (css[j / sz])[j % sz]? = some ((css[j / sz])[j % sz]'(by rw [hl]; exact hr)) := List.getElem?_eq_getElem _
  have hfl := flatten_at h hcs hrow
  rw [hdm, hu] at hfl
  injection hfl with hfl
  exact ⟨_, hcs, by rw [hrow, ← hfl], hdm⟩
theorem Elem.OL.cat {w : World} {lo mid hi : Nat} {css css' : List (List Value)} {xs ys : List α} (h : E.OL w lo mid css xs) (h' : E.OL w mid hi css' ys) (h1 : lo ≤ mid) (h2 : mid ≤ hi) : E.OL w lo hi (css ++ css') (xs ++ ys) := by
  have old : ∀ (i : Nat) (c : List Value), (css ++ css')[i]? = some c → (i < css.length ∧ css[i]? = some c) ∨ (css.length ≤ i ∧ css'[i - css.length]? = some c) := by
    intro i c hc
    rcases Nat.lt_or_ge i css.length with hlt | hge
    · rw [List.getElem?_append_left hlt] at hc; exact .inl ⟨hlt, hc⟩
    · rw [List.getElem?_append_right hge] at hc; exact .inr ⟨hge, hc⟩
  refine ⟨by simp [h.len, h'.len], fun i y hy => ?_, fun i j c c' b hij hc hc' hb hb' => ?_⟩
  · rcases Nat.lt_or_ge i xs.length with hlt | hge
    · rw [List.getElem?_append_left hlt] at hy
      obtain ⟨c, a, d⟩ := h.at_ i y hy
      exact ⟨c, by rw [List.getElem?_append_left (by rw [h.len]; exact hlt)]; exact a, E.monoO d (Nat.le_refl _) h2⟩
    · rw [List.getElem?_append_right hge] at hy
      obtain ⟨c, a, d⟩ := h'.at_ _ y hy
      exact ⟨c, by rw [List.getElem?_append_right (by rw [h.len]; exact hge), h.len]; exact a, E.monoO d h1 (Nat.le_refl _)⟩
  · rcases old i c hc with ⟨hi1, hci⟩ | ⟨hi1, hci⟩ <;> rcases old j c' hc' with ⟨hj1, hcj⟩ | ⟨hj1, hcj⟩
    · exact h.apart i j c c' b hij hci hcj hb hb'
    · have a1 := (h.blk c (List.mem_of_getElem? hci) b hb).2
      have a2 := (h'.blk c' (List.mem_of_getElem? hcj) b hb').1
      omega
    · have a1 := (h.blk c' (List.mem_of_getElem? hcj) b hb').2
      have a2 := (h'.blk c (List.mem_of_getElem? hci) b hb).1
      omega
    · exact h'.apart _ _ c c' b (by omega) hci hcj hb hb'
/-- append(s, t...), where t owns its elements, which are newer than those of s. -/
theorem Elem.OS.appAll {w : World} {t bytes lo mid hi c0 d ty : Nat} {A0 B : Option Addr} {xs ys : List α} (T : SlTy E t bytes) (hone : ∀ {w lo hi cs x}, E.R w lo hi cs x → ∀ u ∈ cs, u.oneCell' = true)
    (hs : E.OS w lo mid (.slice A0 xs.length c0) xs) (hr : E.OS w mid hi (.slice B ys.length d) ys) (hlm : lo ≤ mid) (hmh : mid ≤ hi) (hhw : hi ≤ w.heap.size) (hb : xs.length + ys.length ≤ 1048576) (hby : bytes ≤ 128) :
    ∃ A' c' w', (Builtin.append_ #[t, t] ty #[.slice A0 xs.length c0, .slice B ys.length d]).run Try.prog w = .ok (.slice A' (xs ++ ys).length c') w' ∧ E.OS w' lo w'.heap.size (.slice A' (xs ++ ys).length c') (xs ++ ys) ∧
      w.grownBy w' (Value.slice A0 xs.length c0).ownBlock ∧ E.AS w' mid hi B ys := by
  obtain ⟨i, z, i1, i2, i3, i4, i5⟩ := T.hi
  have hmul : (xs.length + ys.length) * bytes ≤ 1048576 * 128 := Nat.mul_le_mul hb hby
  have hblk0 := hs.blkv
  have hrd := hr.read.as
  obtain ⟨css, k1, k2, k3⟩ := hs
  obtain ⟨css', j1, j2, j3⟩ := hr
  have hsz' := j2.read.sizes
  have hlen' : css'.flatten.length = ys.length * E.sz := by rw [flatten_len hsz', j2.len]
  have fin : ∀ (v' : Value) (w' : World), w'.ownsRow lo E.e E.sz v' (xs.length + ys.length) (css.flatten ++ css'.flatten) → w.grownBy w' (Value.slice A0 xs.length c0).ownBlock → (v'.ownBlock = (Value.slice A0 xs.length c0).ownBlock ∨ v'.ownBlock = some w.heap.size) →
      ∃ A' c', v' = .slice A' (xs ++ ys).length c' ∧ E.OS w' lo w'.heap.size (.slice A' (xs ++ ys).length c') (xs ++ ys) ∧ E.AS w' mid hi B ys := by
    intro v' w' how hg hv
    have hsm : Same mid hi w w' := Same.of_grown hg hhw fun b hb => .inl (hblk0 b hb).2
    have e1 : E.OL w' lo mid css xs := ⟨k2.len, fun i y hy => by
      obtain ⟨c, a, b⟩ := k2.at_ i y hy
      exact ⟨c, a, E.loc b fun k hk => hg.block k (by have := (E.blk b k hk).2; omega) (fun e => k3 c (List.mem_of_getElem? a) k hk e.symm)⟩, k2.apart⟩
    have e2 : E.OL w' mid hi css' ys := j2.same hsm
    have hos : E.OS w' lo w'.heap.size v' (xs ++ ys) := by
      refine ⟨css ++ css', ?_, (e1.cat e2 hlm hmh).mono (Nat.le_refl _) (Nat.le_trans hhw hg.size), fun c hc b hbb hvv => ?_⟩
      · rw [List.flatten_append, List.length_append]
        exact OSl.of_own how (by unfold BIG; omega)
      · rcases List.mem_append.1 hc with hc | hc
        · have hbl := k2.blk c hc b hbb
          rcases hv with hv | hv
          · exact k3 c hc b hbb (hv ▸ hvv)
          · rw [hv] at hvv; injection hvv with hvv; omega
        · have hbl := j2.blk c hc b hbb
          rcases hv with hv | hv
          · rw [hv] at hvv; have := hblk0 b hvv; omega
          · rw [hv] at hvv; injection hvv with hvv; omega
    obtain ⟨A', c', q1, _⟩ := hos.read.open_
    subst q1
    exact ⟨A', c', rfl, hos, hrd.same hsm⟩
  have go : ∀ ad : Addr, B = some ad → (∀ (j : Nat) (u : Value), css'.flatten[j]? = some u → w.cell? (ad.add j) = some u) → ∃ A' c' w', (Builtin.append_ #[t, t] ty #[.slice A0 xs.length c0, .slice B ys.length d]).run Try.prog w = .ok (.slice A' (xs ++ ys).length c') w' ∧ E.OS w' lo w'.heap.size (.slice A' (xs ++ ys).length c') (xs ++ ys) ∧
      w.grownBy w' (Value.slice A0 xs.length c0).ownBlock ∧ E.AS w' mid hi B ys := by
    intro ad hB hcells
    have hone' : ∀ u ∈ css'.flatten, u.oneCell' = true := by
      intro u hu
      obtain ⟨cs, hcs, hu'⟩ := List.mem_flatten.1 hu
      obtain ⟨k, hk, rfl⟩ := List.mem_iff_getElem.1 hcs
      obtain ⟨x, hx⟩ : ∃ x, ys[k]? = some x := ⟨_, List.getElem?_eq_getElem (by rw [← j2.len]; exact hk)⟩
      obtain ⟨cs', hcs', hR⟩ := j2.read.at_ k x hx
      rw [List.getElem?_eq_getElem hk] at hcs'
      injection hcs' with hcs'
      rw [hcs'] at hu'
      exact hone hR u hu'
    subst hB
    obtain ⟨v', w', hrun, h2, h3, _, h5⟩ := run_append_own_at (P := Try.prog) w lo t ty E.e i z E.sz bytes T.ht i1 i2 i3 i4 i5 T.pos _ _ _ k1.1 ad ys.length d css'.flatten hlen' hcells hone' (by simp only [maxLen]; omega) (by omega) (by omega)
    obtain ⟨A', c', rfl, ho, hr'⟩ := fin v' w' h2 h3 h5
    exact ⟨A', c', w', hrun, ho, h3, hr'⟩
  rcases Nat.eq_zero_or_pos ys.length with h0 | hpos
  · have hy : ys = [] := List.eq_nil_of_length_eq_zero h0
    subst hy
    have hc0 : css'.flatten = [] := List.eq_nil_of_length_eq_zero (by rw [hlen']; simp)
    cases B with
    | none =>
      have hrun := run_append_none_any (P := Try.prog) (w := w) lo t ty E.e i E.sz d T.ht i1 _ _ _ k1.1
      have hg : w.grownBy w (Value.slice A0 xs.length c0).ownBlock := ⟨rfl, rfl, rfl, Nat.le_refl _, fun _ _ _ => rfl⟩
      obtain ⟨A', c', e1, ho, hr'⟩ := fin (.slice A0 xs.length c0) w (by simpa [hc0] using k1.1) hg (.inl rfl)
      refine ⟨A', c', w, ?_, ho, hg, hr'⟩
      rw [← e1]; simpa using hrun
    | some ad => exact go ad rfl (fun j u hu => by rw [hc0] at hu; simp at hu)
  · have hform := j1.form hpos
    obtain ⟨g, c, hv, _⟩ := hform
    injection hv with hv _ hc
    subst hv; subst hc
    refine go _ rfl fun j u hu => ?_
    have hadd : (⟨g, 0, none⟩ : Addr).add j = ⟨g, j, none⟩ := by unfold Addr.add; split <;> simp_all
    rw [hadd]
    exact (j1.cell hu).1
/-- .. at the operation. -/
theorem wpList_appAll {w : World} {t bytes lo mid hi c0 d n m : Nat} {B : Option Addr} {ys : List α} {ops : Array Oper} {rest : List Oper} {o : Oper} {a : Act} {Q : Exit → Act → World → Prop} (T : SlTy E t bytes) (hone : ∀ {w lo hi cs x}, E.R w lo hi cs x → ∀ u ∈ cs, u.oneCell' = true) (A0 : Option Addr) (xs : List α)
    (hs : E.OS w lo mid (.slice A0 n c0) xs) (hn : xs.length = n) (hr : E.OS w mid hi (.slice B m d) ys) (hm : ys.length = m) (hlm : lo ≤ mid) (hmh : mid ≤ hi) (hhw : hi ≤ w.heap.size) (s y : Operand)
    (ho : o.op = .call { callee := .builtin .append, args := #[s, y], argTypes := #[t, t] }) (hgd : o.guard = none) (hs' : a.eval s = .slice A0 n c0) (hy : a.eval y = .slice B m d)
    (hb : n + m ≤ 1048576) (hby : bytes ≤ 128)
    (h : ∀ A' c' w', E.OS w' lo w'.heap.size (.slice A' (n + m) c') (xs ++ ys) → w.grownBy w' (Value.slice A0 n c0).ownBlock → E.AS w' mid hi B ys → wpList Try.prog ops Q rest (a.put o.dst (.slice A' (n + m) c')) w') :
    wpList Try.prog ops Q (o :: rest) a w := by
  subst hn; subst hm
  refine wpList_plain hgd fun K hK => ?_
  obtain ⟨A', c', w', hrun, h2, h3, h4⟩ := Elem.OS.appAll (ty := o.type) T hone hs hr hlm hmh hhw hb hby
  unfold Oper.wp execOp
  simp only [ho, resolve, invoke, builtin, Sem.run_bind, Sem.run_pure, Result.andThen_ok, List.map_toArray, List.map_cons, List.map_nil, hs', hy, hrun]
  rw [List.length_append] at h2 ⊢
  exact hK _ _ (h A' c' w' h2 h3 h4)
end
end Go.Proofs.Ytnnjilkjjdiblaa
