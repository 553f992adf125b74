/-
  The kin types that lead from one person to another, in the program.
-/
import Derived.Test.YtnnjilkjjdiblaaVWalker
import Derived.Test.YtnnjilkjjdiblaaVGFamS
import Derived.Deep.Cut
import Derived.Deep.DeepCutAuto
namespace Go.Proofs.Ytnnjilkjjdiblaa
set_option maxRecDepth 100000
open Go.RowKit

theorem lastM_kinds {ego : Int} : ∀ {k : Nat} {t : KinType}, t ∈ lastM ego k → ∀ s ∈ t.steps, ∃ i, i < 8 ∧ s = kindS i := by
  intro k
  induction k with
  | zero => intro t h s hs; simp [lastM] at h; subst h; simp at hs
  | succ k ih =>
    intro t h s hs
    simp only [lastM, List.mem_flatMap] at h
    obtain ⟨u, hu, ht⟩ := h
    obtain ⟨i, hi, _, rfl⟩ := moreTo_mem ht
    rcases List.mem_append.1 hs with hs | hs
    · exact ih hu s hs
    · simp at hs; exact ⟨i, hi, hs⟩
theorem outM_kinds {ego : Int} : ∀ {k : Nat} {t : KinType}, t ∈ outM ego k → ∀ s ∈ t.steps, ∃ i, i < 8 ∧ s = kindS i := by
  intro k
  induction k with
  | zero => intro t h; cases h
  | succ k ih =>
    intro t h
    rcases List.mem_append.1 h with h | h
    · exact ih h
    · exact lastM_kinds h
theorem fromM_mem {ego n : Int} {t : KinType} (h : t ∈ fromM ego n) : typeOk t = true ∧ t.ego = ego ∧ (∀ s ∈ t.steps, ∃ i, i < 8 ∧ s = kindS i) ∧ 1 ≤ t.steps.length ∧ (t.steps.length : Int) ≤ n := by
  unfold fromM at h
  split at h
  · rename_i hc
    obtain ⟨he, h1, h3⟩ := hc
    obtain ⟨a, b, c, d⟩ := outM_mem he (by omega) h
    exact ⟨a, d, outM_kinds h, b, by omega⟩
  · cases h
def betwP (xs : List Person) (ys : List Union) (a b : Nat) (t : KinType) : Bool := waysP xs ys t t.steps.length a b
def betwM (xs : List Person) (ys : List Union) (a b n : Int) : List KinType := if (hasOk xs ys a && hasOk xs ys b) = true then (fromM (sexAt xs a.toNat) n).filter (betwP xs ys a.toNat b.toNat) else []
theorem betwM_out {xs : List Person} {ys : List Union} {a b n : Int} (h : (hasOk xs ys a && hasOk xs ys b) = false) : betwM xs ys a b n = [] := by rw [betwM, h]; rfl
theorem betwM_in {xs : List Person} {ys : List Union} {a b : Nat} {n : Int} {x : Person} (h : (hasOk xs ys a && hasOk xs ys b) = true) (hx : xs[a]? = some x) : betwM xs ys a b n = (fromM x.sex n).filter (betwP xs ys a b) := by
  rw [betwM, if_pos h]; simp only [Int.toNat_natCast]; rw [sexAt_of hx]
theorem mkT_filter (P : KinType → Bool) (ts : List KinType) : mkT (ts.filter P) ≤ mkT ts := by
  induction ts with
  | nil => exact Nat.le_refl _
  | cons t r ih =>
    rw [List.filter_cons]; split
    · simp only [mkT]; omega
    · simp only [mkT]; omega
theorem betwM_bounds (xs : List Person) (ys : List Union) (a b n : Int) : (betwM xs ys a b n).length ≤ 1536 ∧ mkT (betwM xs ys a b n) ≤ 10752 := by
  unfold betwM; split
  · have h := fromM_bounds (sexAt xs a.toNat) n
    have h1 := List.length_filter_le (betwP xs ys a.toNat b.toNat) (fromM (sexAt xs a.toNat) n)
    have h2 := mkT_filter (betwP xs ys a.toNat b.toNat) (fromM (sexAt xs a.toNat) n)
    omega
  · simp [mkT]
/-- A type that is listed for a person leads where its steps lead. -/
theorem betw_walk {xs : List Person} {ys : List Union} {a b : Nat} {t : KinType} {x : Person} (hx : xs[a]? = some x) (hb : b < xs.length) (he : t.ego = x.sex) : betwP xs ys a b t = walkP xs.length (leadM xs ys) sameP t.steps a b := by
  rw [Bool.eq_iff_iff, betwP, ways_iff hx hb]
  constructor
  · exact And.right
  · exact fun h => ⟨by rw [he]; simp [egoIs], h⟩
theorem filter_yes {α : Type} {P : α → Bool} {ts : List α} {j : Nat} {t : α} (h : ts[j]? = some t) (hp : P t = true) : (ts.take (j + 1)).filter P = (ts.take j).filter P ++ [t] := by
  rw [List.take_add_one, h, List.filter_append]; simp [hp]
theorem filter_no {α : Type} {P : α → Bool} {ts : List α} {j : Nat} {t : α} (h : ts[j]? = some t) (hp : P t = false) : (ts.take (j + 1)).filter P = (ts.take j).filter P := by
  rw [List.take_add_one, h, List.filter_append]; simp [hp]

/-! ### A list of elements of another list -/
section
variable {α : Type} {E : Elem α}
theorem Elem.OL.snoc2 {w : World} {lo hi : Nat} {oss : List (List Value)} {xs : List α} {cs : List Value} {x : α} (h : E.OL w lo hi oss xs) (hx : E.O w lo hi cs x) (hap : ∀ c ∈ oss, ∀ b ∈ blocks c, b ∉ blocks cs) : E.OL w lo hi (oss ++ [cs]) (xs ++ [x]) := by
  have old : ∀ (i : Nat) (c : List Value), (oss ++ [cs])[i]? = some c → (i < oss.length ∧ oss[i]? = some c) ∨ (i = oss.length ∧ c = cs) := by
    intro i c hc
    rcases Nat.lt_trichotomy i oss.length with hlt | rfl | hgt
    · rw [List.getElem?_append_left hlt] at hc; exact .inl ⟨hlt, hc⟩
    · rw [List.getElem?_append_right (Nat.le_refl _)] at hc; simp at hc; exact .inr ⟨rfl, hc.symm⟩
    · rw [List.getElem?_eq_none (by simp; omega)] at hc; cases hc
  refine ⟨by simp [h.len], fun i y hy => ?_, fun i j c c' b hij hc hc' hb hb' => ?_⟩
  · rcases Nat.lt_trichotomy i xs.length with hlt | rfl | hgt
    · rw [List.getElem?_append_left hlt] at hy
      obtain ⟨c, a, d⟩ := h.at_ i y hy
      exact ⟨c, by rw [List.getElem?_append_left (by rw [h.len]; exact hlt)]; exact a, d⟩
    · rw [List.getElem?_append_right (Nat.le_refl _)] at hy
      simp at hy; subst hy
      exact ⟨cs, by rw [List.getElem?_append_right (by rw [h.len]; exact Nat.le_refl _), h.len]; simp, hx⟩
    · rw [List.getElem?_eq_none (by simp; omega)] at hy; cases hy
  · rcases old i c hc with ⟨hi1, hci⟩ | ⟨hi1, rfl⟩ <;> rcases old j c' hc' with ⟨hj1, hcj⟩ | ⟨hj1, rfl⟩
    · exact h.apart i j c c' b hij hci hcj hb hb'
    · exact hap c (List.mem_of_getElem? hci) b hb hb'
    · exact hap c' (List.mem_of_getElem? hcj) b hb' hb
    · omega
/-- append(out, x), where only the cells are looked at. -/
theorem wpList_appShare {w : World} {t bytes lo hv n c0 : Nat} {oss : List (List Value)} {ops : Array Oper} {rest : List Oper} {o : Oper} {a : Act} {Q : Exit → Act → World → Prop} (T : SlTy E t bytes) (A0 : Option Addr) (cs : List Value) (ad : Addr) (c : Nat)
    (hown : OSl w lo hv E.e E.sz (.slice A0 n c0) n oss.flatten) (hlo : lo ≤ w.heap.size) (hcl : cs.length = E.sz) (s y : Operand)
    (ho : o.op = .call { callee := .builtin .append, args := #[s, y], argTypes := #[t, t] }) (hgd : o.guard = none) (hs : a.eval s = .slice A0 n c0) (hy : a.eval y = .slice (some ad) 1 c)
    (hcs : ∀ (j : Nat) (u : Value), cs[j]? = some u → w.cell? (ad.add j) = some u) (h1 : ∀ u ∈ cs, u.oneCell' = true) (hb : n + 1 ≤ 1048576) (hby : bytes ≤ 128)
    (h : ∀ A' c' w', OSl w' lo w'.heap.size E.e E.sz (.slice A' (n + 1) c') (n + 1) (oss ++ [cs]).flatten → w.grownBy w' (Value.slice A0 n c0).ownBlock → ((Value.slice A' (n + 1) c').ownBlock = (Value.slice A0 n c0).ownBlock ∨ (Value.slice A' (n + 1) c').ownBlock = some w.heap.size) → wpList Try.prog ops Q rest (a.put o.dst (.slice A' (n + 1) c')) w') :
    wpList Try.prog ops Q (o :: rest) a w := by
  obtain ⟨i, z, i1, i2, i3, i4, i5⟩ := T.hi
  have hmul : (n + 1) * bytes ≤ 1048576 * 128 := Nat.mul_le_mul hb hby
  refine wpList_append_own_at _ hgd s y t ho lo E.e i z E.sz bytes T.ht i1 i2 i3 i4 i5 T.pos _ _ oss.flatten hs hown.1 ad 1 c cs hy (by rw [hcl, Nat.one_mul]) hcs h1 (by simp only [maxLen]; omega) (by omega) hlo ?_
  intro v' w' p1 p2 p3 p4
  have hos : OSl w' lo w'.heap.size E.e E.sz v' (n + 1) (oss ++ [cs]).flatten := by
    rw [List.flatten_append, List.flatten_singleton]
    exact OSl.of_own p1 (by unfold BIG; omega)
  obtain ⟨A', c', e1, e2, e3, _⟩ := hos.read
  subst e1
  exact h A' c' w' hos p2 p4
end
/-- A list out whose elements are the first ones of ts that satisfy P: their cells are those of ts. -/
structure Chosen (ts : List KinType) (css : List (List Value)) (P : KinType → Bool) (lo0 lo hi : Nat) (W : World) (j : Nat) (v : Value) (wr : World) : Prop where
  own : ∃ (A : Option Addr) (c : Nat) (oss : List (List Value)), v = .slice A ((ts.take j).filter P).length c ∧ OSl wr lo0 wr.heap.size EKin.e EKin.sz v ((ts.take j).filter P).length oss.flatten ∧
    EKin.OL wr lo hi oss ((ts.take j).filter P) ∧ ∀ cs ∈ oss, ∃ i, i < j ∧ css[i]? = some cs
  far : ∀ b, v.ownBlock = some b → b < lo ∨ hi ≤ b
  same : Same lo hi W wr
  below : Below lo0 W wr
theorem Chosen.os {ts : List KinType} {css : List (List Value)} {P : KinType → Bool} {lo0 lo hi j B : Nat} {W wr : World} {v : Value} (h : Chosen ts css P lo0 lo hi W j v wr) (h1 : B ≤ lo0) (h2 : B ≤ lo) (h3 : hi ≤ wr.heap.size) : EKin.OS wr B wr.heap.size v ((ts.take j).filter P) := by
  obtain ⟨A, c, oss, _, a2, a3, _⟩ := h.own
  refine ⟨oss, a2.mono h1 (Nat.le_refl _), a3.mono h2 h3, fun cs hcs b hb hv => ?_⟩
  have := a3.blk cs hcs b hb
  have := h.far b hv
  omega
theorem Chosen.skip {ts : List KinType} {css : List (List Value)} {P : KinType → Bool} {lo0 lo hi j : Nat} {W wr w' : World} {v : Value} {t : KinType} (h : Chosen ts css P lo0 lo hi W j v wr) (ht : ts[j]? = some t) (hp : P t = false) (hb : Below wr.heap.size wr w') (h3 : hi ≤ wr.heap.size) (h4 : lo0 ≤ wr.heap.size) : Chosen ts css P lo0 lo hi W (j + 1) v w' := by
  obtain ⟨A, c, oss, a1, a2, a3, a4⟩ := h.own
  refine ⟨⟨A, c, oss, ?_⟩, h.far, h.same.trans (Same.of_below hb h3), h.below.trans (hb.mono h4)⟩
  rw [filter_no ht hp]
  exact ⟨a1, (a2.same (Same.of_below hb (Nat.le_refl _))).mono (Nat.le_refl _) hb.size, a3.same (Same.of_below hb h3), fun cs hcs => let ⟨i, hi, e⟩ := a4 cs hcs; ⟨i, by omega, e⟩⟩
end Go.Proofs.Ytnnjilkjjdiblaa

namespace Go.Proofs.Ytnnjilkjjdiblaa
set_option maxRecDepth 100000
open Go.RowKit

set_option maxHeartbeats 8000000 in
theorem implTypesBetween_any (A B : Option Addr) (c d lo hi : Nat) (xs : List Person) (ys : List Union) (a b n : Int) (w : World) (h : EPerson.AS w lo hi A xs) (h' : EUnion.AS w lo hi B ys) (hh : hi ≤ w.heap.size) (hdc : ys.length ≤ d ∧ d ≤ maxLen) (hs : totP xs ≤ 1048576) :
    Calls Try.prog 28 #[.agg #[.slice A xs.length c, .slice B ys.length d], .int .i64 a, .int .i64 b, .int .i64 n] w (RetKins w (betwM xs ys a b n)) := by
  cases ho : (hasOk xs ys a && hasOk xs ys b) with
  | false =>
    have HO := Lib.hid ho
    have HN := Lib.hid (betwM_out (n := n) ho)
    clear ho
    rw [HN.out]
    go_enter Try.func28, Try.ntmps28
    go_wp2_with (go_at_call 101; refine (has_any _ _ _ _ lo hi xs ys (some ⟨w.heap.size + 1, 0, none⟩) _ _ _ [a, b] _ (h.same (by (with_reducible repeat' first | exact Same.refl _ _ _ | assumption | (refine Same.setCell ?_ (by first | omega | (simp; omega) | (simp; done) | (dsimp only; omega)) _) | (refine Same.alloc ?_ (by first | omega | (simp; omega) | (simp; done) | (dsimp only; omega)) _) | (refine Same.drewN ?_ _) | (refine Same.drew ?_)))) (h'.same (by (with_reducible repeat' first | exact Same.refl _ _ _ | assumption | (refine Same.setCell ?_ (by first | omega | (simp; omega) | (simp; done) | (dsimp only; omega)) _) | (refine Same.alloc ?_ (by first | omega | (simp; omega) | (simp; done) | (dsimp only; omega)) _) | (refine Same.drewN ?_ _) | (refine Same.drew ?_)))) (by first | omega | (simp; omega) | (simp; done) | (dsimp only; omega)) hdc hs (ints_as' _ _ [a, b] rfl (by simp [BIG]) _ (by simp)) (by first | omega | (simp; omega) | (simp; done) | (dsimp only; omega))).mono ?_; rintro e w1 ⟨rfl, hb1⟩; simp only [hasOk_all2, HO.out]; (obtain ⟨hb1c, hb1f⟩ := bcell hb1); (have hb1z := hb1.size); (try simp only [szs] at hb1c hb1f hb1z); have lt1 : w.heap.size < w1.heap.size := (by omega))
    go_ret
    exact RetKins.nil (by (with_reducible repeat' first | exact Below.refl _ _ | assumption | (refine Below.setCell ?_ (by first | omega | (simp; omega) | (simp; done) | (dsimp only; omega)) _) | (refine Below.alloc ?_ (by first | omega | (simp; omega) | (simp; done) | (dsimp only; omega)) _) | (refine below_drewN ?_ _) | (refine Below.drew ?_) | (refine Below.trans ?_ (hb1.mono (by first | omega | (simp; omega) | (simp; done) | (dsimp only; omega))))))
  | true =>
    have HO := Lib.hid ho
    obtain ⟨hfam, p1, p2⟩ := hasOk_fam (Bool.and_eq_true _ _ ▸ ho : hasOk xs ys a = true ∧ hasOk xs ys b = true).1
    obtain ⟨_, p3, p4⟩ := hasOk_fam (Bool.and_eq_true _ _ ▸ ho : hasOk xs ys a = true ∧ hasOk xs ys b = true).2
    obtain ⟨a, rfl⟩ := Int.eq_ofNat_of_zero_le p1
    obtain ⟨b, rfl⟩ := Int.eq_ofNat_of_zero_le p3
    have ha : a < xs.length := by omega
    have hb : b < xs.length := by omega
    have hn := (famOk_parts hfam).1
    obtain ⟨ba, off, ⟨x0, x1, x2, x3, x4, x5⟩, rfl, f1, f2, _, hxk, hc0, hc1, hc2, hc3, hc4, hc5⟩ := APerson.at_ h ha
    simp only at hc1
    have HFM := Lib.hid hfam
    have HN := Lib.hid (betwM_in (n := n) ho hxk)
    have HP := Lib.hid (fun (t : KinType) (he : t.ego = x1) => betw_walk (xs := xs) (ys := ys) (a := a) (b := b) (t := t) hxk hb he)
    clear ho hfam hxk hc0 hc2 hc3 hc4 hc5
    have hPX := Lib.hid h; have hPY := Lib.hid h'
    simp only at HN HP
    rw [HN.out]
    go_enter Try.func28, Try.ntmps28
    go_upto_region 3 with (go_at_call 101; refine (has_any _ _ _ _ lo hi xs ys (some ⟨w.heap.size + 1, 0, none⟩) _ _ _ [(a : Int), (b : Int)] _ (h.same (by (with_reducible repeat' first | exact Same.refl _ _ _ | assumption | (refine Same.setCell ?_ (by first | omega | (simp; omega) | (simp; done) | (dsimp only; omega)) _) | (refine Same.alloc ?_ (by first | omega | (simp; omega) | (simp; done) | (dsimp only; omega)) _) | (refine Same.drewN ?_ _) | (refine Same.drew ?_)))) (h'.same (by (with_reducible repeat' first | exact Same.refl _ _ _ | assumption | (refine Same.setCell ?_ (by first | omega | (simp; omega) | (simp; done) | (dsimp only; omega)) _) | (refine Same.alloc ?_ (by first | omega | (simp; omega) | (simp; done) | (dsimp only; omega)) _) | (refine Same.drewN ?_ _) | (refine Same.drew ?_)))) (by first | omega | (simp; omega) | (simp; done) | (dsimp only; omega)) hdc hs (ints_as' _ _ [(a : Int), (b : Int)] rfl (by simp [BIG]) _ (by simp)) (by first | omega | (simp; omega) | (simp; done) | (dsimp only; omega))).mono ?_; rintro e w1 ⟨rfl, hb1⟩; simp only [hasOk_all2, HO.out])
    have r1 : Blk w1 w.heap.size 26 #[.slice (some ⟨ba, off, none⟩) xs.length c, .slice B ys.length d] := (((Blk.new w rfl).alloc _).below hb1 (by simp; omega))
    have hbw : Below w.heap.size w w1 := by (with_reducible repeat' first | exact Below.refl _ _ | assumption | (refine Below.setCell ?_ (by first | omega | (simp; omega) | (simp; done) | (dsimp only; omega)) _) | (refine Below.alloc ?_ (by first | omega | (simp; omega) | (simp; done) | (dsimp only; omega)) _) | (refine below_drewN ?_ _) | (refine Below.drew ?_) | (refine Below.trans ?_ (hb1.mono (by first | omega | (simp; omega) | (simp; done) | (dsimp only; omega)))))
    have z1 : w.heap.size + 1 + 1 ≤ w1.heap.size := by have := hb1.size; simpa using this
    have hX1 := hPX.out.same (Same.of_below hbw hh)
    have hY1 := hPY.out.same (Same.of_below hbw hh)
    have u0 := r1.cell (i := 0) rfl; have u1 := r1.cell (i := 1) rfl
    have hc1' := (hbw.cell (p := ⟨ba, off + a * 6 + 1, none⟩) (by simp; omega)).trans hc1
    have lr1 := r1.lt
    clear hb1 hc1 h h'
    go_upto_region 4 with (go_at_call 102; (with_reducible refine (newWalker_any _ _ _ _ lo hi xs ys _ hX1 hY1 (by omega) HFM.out).mono ?_); rintro e w2 ⟨g, rfl, hg, hwk, hb2⟩)
    have z2 := hb2.size
    have r2 := r1.below hb2 lr1
    have hbw2 := hbw.trans (hb2.mono (by omega))
    replace u0 := r2.cell (i := 0) rfl; replace u1 := r2.cell (i := 1) rfl
    have hc2' := (hb2.cell (p := ⟨ba, off + a * 6 + 1, none⟩) (by simp; omega)).trans hc1'
    have lr2 := r2.lt
    have lb2 : ba < w2.heap.size := by omega
    have i1 : (0 : Int) ≤ (a : Int) ∧ (a : Int) < (xs.length : Int) := by omega
    have lg2 := hwk.lt
    clear hb2 hc1'
    go_upto_region 6 with (go_at_call 33; (with_reducible refine (implTypesFrom_any x1 n _).mono ?_); rintro e w3 ⟨T, ct, rfl, hts, hb3⟩)
    have z3 := hb3.size
    have hbw3 := hbw2.trans (hb3.mono (by omega))
    have hwk3 := hwk.below hb3 lg2 (Nat.le_refl _)
    have HM := Lib.hid (fun (t : KinType) (h : t ∈ fromM x1 n) => fromM_mem h)
    have hbd := (fromM_bounds x1 n).1
    clear hc2' u0 u1 r2 r1 lr1 lr2 hb3 hwk
    obtain ⟨ts, htse⟩ : ∃ ts, fromM x1 n = ts := ⟨_, rfl⟩
    rw [htse] at hts HM hbd ⊢
    have HTE := Lib.hid htse
    clear htse
    obtain ⟨css, k1, k2, k3⟩ := hts
    have HK2 := Lib.hid k2
    have hTS : EKin.AS w3 w2.heap.size w3.heap.size T ts := (Elem.OS.read ⟨css, k1, k2, k3⟩).as
    go_loopw [10, 30] (fun v i wr => ∃ j : Nat, j ≤ ts.length ∧ i = .int .i64 j ∧ Chosen ts css (betwP xs ys a b) w3.heap.size w2.heap.size w3.heap.size w3 j v wr) (fun _ i _ => ts.length - (intOf i).toNat)
    case atStart => exact ⟨0, Nat.zero_le _, rfl, ⟨⟨none, 0, [], by simp, (⟨World.ownsRow_nil w3 _ _ _, fun k hk => by simp [Value.ownBlock] at hk, by simp⟩ : OSl w3 w3.heap.size w3.heap.size EKin.e EKin.sz (.slice none 0 0) 0 []), by simpa using Elem.OL.nil, by simp⟩, fun b hb => by simp [Value.ownBlock] at hb, Same.refl _ _ _, Below.refl _ _⟩⟩
    case round =>
      obtain ⟨j, hj, rfl, hch⟩ := hrel
      have zr := hch.below.size
      have hflt := List.length_filter_le (betwP xs ys a b) (ts.take j)
      rw [List.length_take] at hflt
      obtain ⟨A0, c0, oss, hv0, hO, hL, hI⟩ := hch.own
      obtain ⟨fs, hfs⟩ : ∃ fs, (ts.take j).filter (betwP xs ys a b) = fs := ⟨_, rfl⟩
      rw [hfs] at hv0 hO hL hflt
      have HFS := Lib.hid hfs
      subst hv0
      clear hfs
      by_cases hlt : j < ts.length
      · obtain ⟨⟨t0, t1⟩, htj⟩ := getSome hlt
        obtain ⟨cs, hcs, v1, hcse, hv1⟩ := HK2.out.at_ j _ htj
        obtain ⟨A1, c1, rfl, _, _, hst⟩ := hv1.read.open_
        subst hcse
        obtain ⟨gT, cT, hv, g1, g2, g3⟩ := k1.form (by omega)
        injection hv with hv _ hcT
        subst hv; subst hcT
        have hd0 := (k1.cell (flatten_at HK2.out.read.sizes hcs (j := 0) (u := .int .i64 t0) rfl)).1
        have hd1 := (k1.cell (flatten_at HK2.out.read.sizes hcs (j := 1) (u := .slice A1 t1.length c1) rfl)).1
        simp only [EKin, Nat.add_zero] at hd0 hd1
        replace hd0 := (hch.below.cell (p := ⟨gT, j * 2, none⟩) g2).trans hd0
        replace hd1 := (hch.below.cell (p := ⟨gT, j * 2 + 1, none⟩) g2).trans hd1
        obtain ⟨m1, m2, m3, _, _⟩ := HM.out _ (List.mem_of_getElem? htj)
        simp only at m2 m3 hst
        have lT : gT < wr.heap.size := by omega
        have i2 : (0 : Int) ≤ (j : Int) ∧ (j : Int) < (ts.length : Int) := by omega
        have hwkr := hwk3.below hch.below (by omega) (by omega)
        have hstr := hst.same hch.same
        have HPj := Lib.hid (HP.out ⟨t0, t1⟩ m2)
        have HCS := Lib.hid hcs
        have HTJ := Lib.hid htj
        have HM3 := Lib.hid m3
        clear m1 m2 m3 hcs htj
        cases hp : betwP xs ys a b ⟨t0, t1⟩ with
        | false =>
          have HW := Lib.hid (HPj.out.symm.trans hp)
          have HPF := Lib.hid hp
          clear hp
          simp only at HW
          go_wp2_with (go_at_call 109; (with_reducible refine (walkerLeads_any g w1.heap.size w2.heap.size xs ys A1 c1 w2.heap.size w3.heap.size t0 t1 a b _ (hwkr.same (by (with_reducible repeat' first | exact Same.refl _ _ _ | assumption | (refine Same.setCell ?_ (by first | omega | (simp; omega) | (simp; done) | (dsimp only; omega)) _) | (refine Same.alloc ?_ (by first | omega | (simp; omega) | (simp; done) | (dsimp only; omega)) _) | (refine Same.drewN ?_ _) | (refine Same.drew ?_))) (by (with_reducible repeat' first | exact Same.refl _ _ _ | assumption | (refine Same.setCell ?_ (by first | omega | (simp; omega) | (simp; done) | (dsimp only; omega)) _) | (refine Same.alloc ?_ (by first | omega | (simp; omega) | (simp; done) | (dsimp only; omega)) _) | (refine Same.drewN ?_ _) | (refine Same.drew ?_)))) (by first | omega | (simp; omega) | (simp; done) | (dsimp only; omega)) (by first | omega | (simp; omega) | (simp; done) | (dsimp only; omega)) (hstr.same (by (with_reducible repeat' first | exact Same.refl _ _ _ | assumption | (refine Same.setCell ?_ (by first | omega | (simp; omega) | (simp; done) | (dsimp only; omega)) _) | (refine Same.alloc ?_ (by first | omega | (simp; omega) | (simp; done) | (dsimp only; omega)) _) | (refine Same.drewN ?_ _) | (refine Same.drew ?_)))) (by first | omega | (simp; omega) | (simp; done) | (dsimp only; omega)) HM3.out ha hb hn).mono ?_); rintro e w5 ⟨rfl, hb5⟩; rw [HW.out]; (have hb5' : Below wr.heap.size wr w5 := by (with_reducible repeat' first | exact Below.refl _ _ | assumption | (refine Below.setCell ?_ (by first | omega | (simp; omega) | (simp; done) | (dsimp only; omega)) _) | (refine Below.alloc ?_ (by first | omega | (simp; omega) | (simp; done) | (dsimp only; omega)) _) | (refine below_drewN ?_ _) | (refine Below.drew ?_) | (refine Below.trans ?_ (hb5.mono (by first | omega | (simp; omega) | (simp; done) | (dsimp only; omega)))))))
          exact ⟨⟨j + 1, by omega, by go_num, hch.skip HTJ.out HPF.out hb5' (by omega) (by omega)⟩, by simp [intOf]; omega⟩
        | true =>
          have HW := Lib.hid (HPj.out.symm.trans hp)
          have HPT := Lib.hid hp
          clear hp
          simp only at HW
          have HF := Lib.hid (filter_yes HTJ.out HPT.out)
          go_upto_region 9 with (go_at_call 109; (with_reducible refine (walkerLeads_any g w1.heap.size w2.heap.size xs ys A1 c1 w2.heap.size w3.heap.size t0 t1 a b _ (hwkr.same (by (with_reducible repeat' first | exact Same.refl _ _ _ | assumption | (refine Same.setCell ?_ (by first | omega | (simp; omega) | (simp; done) | (dsimp only; omega)) _) | (refine Same.alloc ?_ (by first | omega | (simp; omega) | (simp; done) | (dsimp only; omega)) _) | (refine Same.drewN ?_ _) | (refine Same.drew ?_))) (by (with_reducible repeat' first | exact Same.refl _ _ _ | assumption | (refine Same.setCell ?_ (by first | omega | (simp; omega) | (simp; done) | (dsimp only; omega)) _) | (refine Same.alloc ?_ (by first | omega | (simp; omega) | (simp; done) | (dsimp only; omega)) _) | (refine Same.drewN ?_ _) | (refine Same.drew ?_)))) (by first | omega | (simp; omega) | (simp; done) | (dsimp only; omega)) (by first | omega | (simp; omega) | (simp; done) | (dsimp only; omega)) (hstr.same (by (with_reducible repeat' first | exact Same.refl _ _ _ | assumption | (refine Same.setCell ?_ (by first | omega | (simp; omega) | (simp; done) | (dsimp only; omega)) _) | (refine Same.alloc ?_ (by first | omega | (simp; omega) | (simp; done) | (dsimp only; omega)) _) | (refine Same.drewN ?_ _) | (refine Same.drew ?_)))) (by first | omega | (simp; omega) | (simp; done) | (dsimp only; omega)) HM3.out ha hb hn).mono ?_); rintro e w5 ⟨rfl, hb5⟩; rw [HW.out])
          have hb5' : Below wr.heap.size wr w5 := by (with_reducible repeat' first | exact Below.refl _ _ | assumption | (refine Below.setCell ?_ (by first | omega | (simp; omega) | (simp; done) | (dsimp only; omega)) _) | (refine Below.alloc ?_ (by first | omega | (simp; omega) | (simp; done) | (dsimp only; omega)) _) | (refine below_drewN ?_ _) | (refine Below.drew ?_) | (refine Below.trans ?_ (hb5.mono (by first | omega | (simp; omega) | (simp; done) | (dsimp only; omega)))))
          have r5 : Blk w5 wr.heap.size 30 #[.int .i64 t0, .slice A1 t1.length c1] := (Blk.new wr rfl).below hb5 (by simp)
          have s0 := r5.cell (i := 0) rfl; have s1 := r5.cell (i := 1) rfl
          have lr5 := r5.lt
          have z5 := hb5'.size
          have hO5 := (hO.same (Same.of_below hb5' (Nat.le_refl _)))
          have HB5 := Lib.hid hb5'
          clear hb5 hb5' hd0 hd1
          go_wp2_with (at_builtin; refine wpList_appShare tyKinS A0 [.int .i64 t0, .slice A1 t1.length c1] ⟨w5.heap.size, 0, none⟩ 1 (lo := w3.heap.size) (hv := wr.heap.size) (oss := oss) (hO5.same (by (with_reducible repeat' first | exact Same.refl _ _ _ | assumption | (refine Same.setCell ?_ (by first | omega | (simp; omega) | (simp; done) | (dsimp only; omega)) _) | (refine Same.alloc ?_ (by first | omega | (simp; omega) | (simp; done) | (dsimp only; omega)) _) | (refine Same.drewN ?_ _) | (refine Same.drew ?_)))) (by simp; omega) rfl _ _ rfl rfl rfl rfl (cell_row_at _ #[.int .i64 t0, .slice A1 t1.length c1] _ _ rfl) (by simp; exact ⟨rfl, rfl⟩) (by omega) (by decide) (fun A' c' w6 ho6 hg6 hv6 => ?_))
          have hsm : Same w2.heap.size w3.heap.size wr w6 := ((Same.of_below HB5.out zr).alloc (by omega) _).trans (Same.of_grown hg6 (by simp; omega) (fun k hk => hch.far k hk))
          have hlen : ((ts.take (j + 1)).filter (betwP xs ys a b)).length = fs.length + 1 := by rw [HF.out, HFS.out]; simp
          have hfe : (ts.take (j + 1)).filter (betwP xs ys a b) = fs ++ [⟨t0, t1⟩] := by rw [HF.out, HFS.out]
          refine ⟨⟨j + 1, by omega, by go_num, ⟨⟨A', c', oss ++ [vsTyp ⟨t0, t1⟩ (.slice A1 t1.length c1)], by rw [hlen], by rw [hlen]; exact ho6, ?_, fun cs hcs => ?_⟩, fun k hk => ?_, hch.same.trans hsm, ?_⟩⟩, by simp [intOf]; omega⟩
          · rw [hfe]
            refine (hL.same hsm).snoc2 (EKin.sameO ⟨_, rfl, hv1⟩ (hch.same.trans hsm)) fun c hc k hk => ?_
            obtain ⟨i, hi, he⟩ := hI c hc
            exact HK2.out.apart i j c _ k (by omega) he HCS.out hk
          · rcases List.mem_append.1 hcs with hcs | hcs
            · obtain ⟨i, hi, he⟩ := hI cs hcs; exact ⟨i, by omega, he⟩
            · simp at hcs; subst hcs; exact ⟨j, by omega, HCS.out⟩
          · rcases hv6 with e | e
            · rw [e] at hk; exact hch.far k hk
            · rw [e] at hk; simp at hk; omega
          · exact Below.grown (w := w5.alloc _) (by have hq := HB5.out; have hq2 := hch.below; (with_reducible repeat' first | exact Below.refl _ _ | assumption | (refine Below.setCell ?_ (by first | omega | (simp; omega) | (simp; done) | (dsimp only; omega)) _) | (refine Below.alloc ?_ (by first | omega | (simp; omega) | (simp; done) | (dsimp only; omega)) _) | (refine below_drewN ?_ _) | (refine Below.drew ?_) | (refine Below.trans ?_ (hq.mono (by first | omega | (simp; omega) | (simp; done) | (dsimp only; omega)))) | (refine Below.trans ?_ (hq2.mono (by first | omega | (simp; omega) | (simp; done) | (dsimp only; omega)))))) hg6 (by simp; omega) (fun k hk => (hO.1.lt k hk).1)
      · obtain rfl : j = ts.length := by omega
        have hos := hch.os (B := w.heap.size) (by omega) (by omega) (by omega)
        have hfs := HFS.out
        rw [List.take_length] at hos hfs
        rw [hfs] at hos
        have HF := Lib.hid hfs
        clear hfs
        go_wp2
        go_ret
        exact ⟨A0, c0, by rw [HTE.out, HF.out]; rfl, by rw [HTE.out, HF.out]; exact hos, hbw3.trans (hch.below.mono (by omega))⟩
end Go.Proofs.Ytnnjilkjjdiblaa
