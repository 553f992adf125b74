/-
  Lists of rules: sizes, copies, equality.
-/
import Derived.Test.YtnanlbglgflecaaConvRule
import Derived.Deep.RegionHeld3
namespace Go.Proofs.Ytnanlbglgflecaa
set_option maxRecDepth 100000
open Go.RowKit

def wtR (x : Rule) : Nat := x.name.size + x.src.length + x.dst.length
def totR : List Rule → Nat
  | [] => 0
  | x :: r => wtR x + totR r
theorem totR_take {xs : List Rule} : ∀ {k : Nat} {x : Rule}, xs[k]? = some x → totR (xs.take (k + 1)) = totR (xs.take k) + wtR x := by
  induction xs with
  | nil => intro k x h; simp at h
  | cons y r ih =>
    intro k x h
    cases k with
    | zero => simp at h; subst h; simp [totR]
    | succ k => simp at h; simp only [List.take_succ_cons, totR, ih h]; omega
theorem totR_le (xs : List Rule) : ∀ k, totR (xs.take k) ≤ totR xs := by
  induction xs with
  | nil => intro k; simp [totR]
  | cons y r ih => intro k; cases k with
    | zero => simp [totR]
    | succ k => simp only [List.take_succ_cons, totR]; have := ih k; omega
theorem totR_at {xs : List Rule} {k : Nat} {x : Rule} (h : xs[k]? = some x) : wtR x ≤ totR xs := by
  have h1 := totR_take h; have h2 := totR_le xs (k + 1); omega
def SzRRel (xs : List Rule) (left : Int) (w : World) (l i : Value) (wr : World) : Prop :=
  ∃ (k : Nat) (r : Int), k ≤ xs.length ∧ i = .int .i64 k ∧ l = .int .i64 r ∧ Below w.heap.size w wr ∧ 0 ≤ r ∧ r = left - xs.length - totR (xs.take k)
set_option maxHeartbeats 1000000 in
theorem szRuleS_any (A : Option Addr) (c lo hi : Nat) (xs : List Rule) (left : Int) (w : World) (h : ERule.AS w lo hi A xs) (h0 : 0 ≤ left) (h1 : left ≤ 1048576) (hh : hi ≤ w.heap.size) :
    Calls Try.prog 27 #[.slice A xs.length c, .int .i64 left] w fun e w' => ∃ r, e = .returned (.int .i64 r) ∧ Below w.heap.size w w' ∧ Sz r left (xs.length + totR xs) := by
  have hx := h.le
  unfold BIG at hx
  go_enter Try.func27, Try.ntmps27
  go_wp2
  · go_ret; exact ⟨_, rfl, Below.refl _ _, .inl ⟨rfl, by omega⟩⟩
  go_loopw [1, 5] (fun l i wr => SzRRel xs left w l i wr) (fun _ i _ => xs.length - (intOf i).toNat)
  case atStart => exact ⟨0, _, Nat.zero_le _, rfl, rfl, Below.refl _ _, by omega, by simp [totR]⟩
  case round =>
    obtain ⟨k, r, hk, rfl, rfl, hb, hr0, hr⟩ := hrel
    have hz := hb.size
    have ht := totR_le xs k
    have hr1 : r ≤ 1048576 := by omega
    have HR := Lib.hid hr; clear hr
    by_cases hlt : k < xs.length
    · obtain ⟨b, off, ⟨x0, x1, x2, xs1, xs2⟩, A1, c1, A2, c2, rfl, hb1, hb2, hdr, hxk, hc0, hc1, hc2, hc3, hc4, hs1, hs2, hsx⟩ := ARule.at_ (h.same (Same.of_below hb hh)) hlt
      have HT := Lib.hid (totR_take hxk); have HL := Lib.hid (totR_le xs (k + 1)); clear hxk hdr
      simp only at hc0 hc1 hc2 hc3 hc4 hsx hs1 hs2
      go_wp2_with (go_at_call 101; (refine (szRule_any x0 x1 x2 A1 A2 c1 c2 lo hi xs1 xs2 _ _ (hs1.same (by (with_reducible repeat' first | exact Same.refl _ _ _ | assumption | (refine Same.setCell ?_ (by first | omega | (simp; omega) | (simp; done) | (dsimp only; omega)) _) | (refine Same.alloc ?_ (by first | omega | (simp; omega) | (simp; done) | (dsimp only; omega)) _) | (refine Same.drewN ?_ _) | (refine Same.drew ?_)))) (hs2.same (by (with_reducible repeat' first | exact Same.refl _ _ _ | assumption | (refine Same.setCell ?_ (by first | omega | (simp; omega) | (simp; done) | (dsimp only; omega)) _) | (refine Same.alloc ?_ (by first | omega | (simp; omega) | (simp; done) | (dsimp only; omega)) _) | (refine Same.drewN ?_ _) | (refine Same.drew ?_)))) hr0 hr1 (by first | omega | (simp; omega) | (simp; done) | (dsimp only; omega)) hsx).mono ?_); rintro e w1 ⟨r1, rfl, hb1', hs1'⟩; have hz1 := hb1'.size)
      · go_ret
        refine ⟨_, rfl, by (with_reducible repeat' first | exact Below.refl _ _ | assumption | (refine Below.setCell ?_ (by first | omega | (simp; omega) | (simp; done) | (dsimp only; omega)) _) | (refine Below.alloc ?_ (by first | omega | (simp; omega) | (simp; done) | (dsimp only; omega)) _) | (refine below_drewN ?_ _) | (refine Below.drew ?_) | (refine Below.trans ?_ (hb1'.mono (by first | omega | (simp; omega) | (simp; done) | (dsimp only; omega)))) | (refine Below.trans ?_ (hb.mono (by first | omega | (simp; omega) | (simp; done) | (dsimp only; omega))))), .inl ⟨rfl, ?_⟩⟩
        have h2 := HT.out; have h3 := HL.out; have h4 := HR.out
        simp only [wtR] at h2
        rcases hs1' with ⟨_, hs1'⟩ | ⟨hs1', _⟩ <;> omega
      · refine ⟨⟨k + 1, r1, by omega, by go_num, rfl, by (with_reducible repeat' first | exact Below.refl _ _ | assumption | (refine Below.setCell ?_ (by first | omega | (simp; omega) | (simp; done) | (dsimp only; omega)) _) | (refine Below.alloc ?_ (by first | omega | (simp; omega) | (simp; done) | (dsimp only; omega)) _) | (refine below_drewN ?_ _) | (refine Below.drew ?_) | (refine Below.trans ?_ (hb1'.mono (by first | omega | (simp; omega) | (simp; done) | (dsimp only; omega)))) | (refine Below.trans ?_ (hb.mono (by first | omega | (simp; omega) | (simp; done) | (dsimp only; omega))))), by omega, ?_⟩, by simp [intOf]; omega⟩
        have h2 := HT.out; have h4 := HR.out
        simp only [wtR] at h2
        rcases hs1' with ⟨hs1', _⟩ | ⟨_, hs1'⟩ <;> omega
    · have hr := HR.out
      obtain rfl : k = xs.length := by omega
      rw [List.take_length] at hr
      go_wp2
      go_ret
      exact ⟨_, rfl, hb, .inr ⟨hr0, by omega⟩⟩

theorem rule_info : (Try.prog.info? 51).map (fun i => (i.zero, i.size, i.bytes)) = some (some (.agg #[.string ByteArray.empty, .int .i64 0, .int .i64 0, .slice none 0 0, .slice none 0 0]), 5, 80) := by kernel_rfl
theorem rule_fill {k n g e : Nat} {css : List (List Value)} {w1 : World} {a0 a1 a2 a3 a4 : Value} (hf : Fill w1 g e (n * 5) css.flatten (k * 5)) (hl : css.flatten.length = k * 5) (hk : k < n) :
    Fill ((((((w1).setCell ⟨g, k * 5, none⟩ a0).setCell ⟨g, k * 5 + 1, none⟩ a1).setCell ⟨g, k * 5 + 2, none⟩ a2).setCell ⟨g, k * 5 + 3, none⟩ a3).setCell ⟨g, k * 5 + 4, none⟩ a4) g e (n * 5) (css.flatten ++ [a0, a1, a2, a3, a4]) ((k + 1) * 5) := by
  have h := (((((hf.push (o := k * 5) (u := a0) hl (by omega) rfl).push (o := k * 5 + 1) (u := a1) (by simp [hl]) (by omega) rfl).push (o := k * 5 + 2) (u := a2) (by simp [hl]) (by omega) rfl).push (o := k * 5 + 3) (u := a3) (by simp [hl]) (by omega) rfl).push (o := k * 5 + 4) (u := a4) (by simp [hl]) (by omega) rfl)
  simpa [Nat.succ_mul] using h
set_option maxHeartbeats 1000000 in
theorem toRuleS_any (A : Option Addr) (c lo hi : Nat) (xs : List Rule) (w : World) (h : ERule.AS w lo hi A xs) (hh : hi ≤ w.heap.size) (hs : xs.length + totR xs ≤ 1048576) :
    Calls Try.prog 30 #[.slice A xs.length c] w fun e w' => ∃ A' c', e = .returned (.slice A' xs.length c') ∧ ERule.OS w' w.heap.size w'.heap.size (.slice A' xs.length c') xs ∧ Below w.heap.size w w' := by
  obtain ⟨i0, hi0, hz0, hz1, hz2⟩ := info_parts rule_info
  have hx := h.le
  have hmk := run_mk (P := Try.prog) 43 51 i0 _ 5 80 Try.underlying43 hi0 hz0 hz1 hz2 xs.length (by omega) hx
  clear hi0 hz0 hz1 hz2
  unfold BIG at hx
  go_enter Try.func30, Try.ntmps30
  go_wp2
  go_loopw [4] (fun i wr => ToRel ERule w xs i wr) (fun i _ => xs.length - (intOf i).toNat)
  case atStart => exact ToRel.start (E := ERule) _ (by simp [size_madeCells, ERule])
  case round =>
    have hrel' := hrel
    obtain ⟨k, css, hk, rfl, hb, hsz, hf, ho⟩ := hrel
    clear hmk
    have hl := Lib.hid (ToRel.flen ho hk)
    by_cases hlt : k < xs.length
    · obtain ⟨b, off, x, A1, c1, A2, c2, rfl, hb1, hb2, hdr, hxk, hc0, hc1, hc2, hc3, hc4, hs1, hs2, hsx⟩ := ARule.at_ (h.same (Same.of_below hb hh)) hlt
      have htx := totR_at hxk
      unfold wtR at htx
      have HX := Lib.hid hxk; clear hxk hrel' hdr
      have hh' : hi ≤ wr.heap.size := by omega
      go_wp2_with (go_at_call 105; refine (toRule_own x.name x.sex x.place A1 A2 c1 c2 lo hi x.src x.dst wr hs1 hs2 hh' (by omega) (by omega)).mono ?_; rintro e w1 ⟨B1, d1, B2, d2, rfl, o1, o2, hne, hb1'⟩; (have HNE := Lib.hid hne); clear hne; (have hz1 := hb1'.size); (have hf1 := hf.same (lo := 0) (Same.of_below hb1' (Nat.le_refl _)) (Nat.zero_le _) (by omega)); (obtain ⟨u0, hu0⟩ := hf1.next (i := k * 5) (by simp [ERule]; omega)); (have hfz0 := hf1.free (k * 5)); (obtain ⟨u1, hu1⟩ := hf1.next (i := k * 5 + 1) (by simp [ERule]; omega)); (have hfz1 := hf1.free (k * 5 + 1)); (obtain ⟨u2, hu2⟩ := hf1.next (i := k * 5 + 2) (by simp [ERule]; omega)); (have hfz2 := hf1.free (k * 5 + 2)); (obtain ⟨u3, hu3⟩ := hf1.next (i := k * 5 + 3) (by simp [ERule]; omega)); (have hfz3 := hf1.free (k * 5 + 3)); (obtain ⟨u4, hu4⟩ := hf1.next (i := k * 5 + 4) (by simp [ERule]; omega)); (have hfz4 := hf1.free (k * 5 + 4)))
      exact ⟨ToRel.step hlt HX.out (by (with_reducible repeat' first | exact Below.refl _ _ | assumption | (refine Below.setCell ?_ (by first | omega | (simp; omega) | (simp; done) | (dsimp only; omega)) _) | (refine Below.alloc ?_ (by first | omega | (simp; omega) | (simp; done) | (dsimp only; omega)) _) | (refine below_drewN ?_ _) | (refine Below.drew ?_) | (refine Below.trans ?_ (hb1'.mono (by first | omega | (simp; omega) | (simp; done) | (dsimp only; omega)))))) hsz (rule_fill hf1 hl.out hlt) ho (by (with_reducible repeat' first | exact Same.refl _ _ _ | assumption | (refine Same.setCell ?_ (by first | omega | (simp; omega) | (simp; done) | (dsimp only; omega)) _) | (refine Same.alloc ?_ (by first | omega | (simp; omega) | (simp; done) | (dsimp only; omega)) _) | (refine Same.drewN ?_ _) | (refine Same.drew ?_) | (refine Same.trans ?_ (Same.of_below hb1' (by first | omega | (simp; omega) | (simp; done) | (dsimp only; omega)))))) ⟨_, _, rfl, (o1.same (by (with_reducible repeat' first | exact Same.refl _ _ _ | assumption | (refine Same.setCell ?_ (by first | omega | (simp; omega) | (simp; done) | (dsimp only; omega)) _) | (refine Same.alloc ?_ (by first | omega | (simp; omega) | (simp; done) | (dsimp only; omega)) _) | (refine Same.drewN ?_ _) | (refine Same.drew ?_)))).mono (Nat.le_refl _) (by first | omega | (simp; omega) | (simp; done) | (dsimp only; omega)), (o2.same (by (with_reducible repeat' first | exact Same.refl _ _ _ | assumption | (refine Same.setCell ?_ (by first | omega | (simp; omega) | (simp; done) | (dsimp only; omega)) _) | (refine Same.alloc ?_ (by first | omega | (simp; omega) | (simp; done) | (dsimp only; omega)) _) | (refine Same.drewN ?_ _) | (refine Same.drew ?_)))).mono (Nat.le_refl _) (by first | omega | (simp; omega) | (simp; done) | (dsimp only; omega)), HNE.out, hsx⟩, by simp [intOf]; omega⟩
    · have hd := hrel'.done hlt h.le
      clear hrel'
      go_wp2
      go_ret
      exact ⟨_, _, rfl, hd⟩

set_option maxHeartbeats 4000000 in
theorem eqRuleS_any (A B : Option Addr) (c d lo hi lo' hi' : Nat) (xs ys : List Rule) (w : World) (h : ERule.AS w lo hi A xs) (h' : ERule.AS w lo' hi' B ys) (hh : hi ≤ w.heap.size) (hh' : hi' ≤ w.heap.size) :
    Calls Try.prog 33 #[.slice A xs.length c, .slice B ys.length d] w fun e w' => e = .returned (.bool (eqB xs ys)) ∧ Below w.heap.size w w' := by
  have hx := h.le
  unfold BIG at hx
  by_cases hn : xs.length = ys.length
  · have n1 : xs.length ≤ ys.length := by omega
    have n2 : ys.length ≤ xs.length := by omega
    clear hn
    have nb : ((xs.length : Int) != (ys.length : Int)) = false := by simp; omega
    go_enter Try.func33, Try.ntmps33
    go_wp2
    go_loopw [5] (fun i wr => EqRelB xs ys w i wr) (fun i _ => xs.length - (intOf i).toNat)
    case atStart => exact ⟨0, Nat.zero_le _, rfl, Below.refl _ _, by simp⟩
    case round =>
      obtain ⟨k, hk, rfl, hw, he⟩ := hrel
      have HE := Lib.hid he; clear he
      have h := h.same (Same.of_below hw hh); have h' := h'.same (Same.of_below hw hh')
      have hz := hw.size
      by_cases hlt : k < xs.length
      · obtain ⟨b1, o1, x, A1, c1, A2, c2, rfl, l1, m1, hdx, _, hc0, hc1, hc2, hc3, hc4, s1, s2, _⟩ := ARule.at_ h hlt
        obtain ⟨b2, o2, y, B1, d1, B2, d2, rfl, l2, m2, hdy, _, hd0, hd1, hd2, hd3, hd4, t1, t2, _⟩ := ARule.at_ h' (by omega : k < ys.length)
        have HD1 := Lib.hid hdx; have HD2 := Lib.hid hdy; clear hdx hdy
        have q1 : (0 : Int) ≤ (k : Int) := by omega
        have q2 : (k : Int) < (xs.length : Int) := by omega
        have q3 : (k : Int) < (ys.length : Int) := by omega
        have r1 : hi ≤ wr.heap.size := by omega
        have r2 : hi' ≤ wr.heap.size := by omega
        have r1' : hi ≤ wr.drew.heap.size := r1
        have r2' : hi' ≤ wr.drew.heap.size := r2
        go_wp2
        go_region_held3 (fun w' => w'.cell? ⟨b1, o1 + k * 5, none⟩ = some (.string x.name) ∧ w'.cell? ⟨b1, o1 + k * 5 + 1, none⟩ = some (.int .i64 x.sex) ∧ w'.cell? ⟨b1, o1 + k * 5 + 2, none⟩ = some (.int .i64 x.place) ∧ w'.cell? ⟨b1, o1 + k * 5 + 3, none⟩ = some (.slice A1 x.src.length c1) ∧ w'.cell? ⟨b1, o1 + k * 5 + 4, none⟩ = some (.slice A2 x.dst.length c2) ∧ w'.cell? ⟨b2, o2 + k * 5, none⟩ = some (.string y.name) ∧ w'.cell? ⟨b2, o2 + k * 5 + 1, none⟩ = some (.int .i64 y.sex) ∧ w'.cell? ⟨b2, o2 + k * 5 + 2, none⟩ = some (.int .i64 y.place) ∧ w'.cell? ⟨b2, o2 + k * 5 + 3, none⟩ = some (.slice B1 y.src.length d1) ∧ w'.cell? ⟨b2, o2 + k * 5 + 4, none⟩ = some (.slice B2 y.dst.length d2)) (first | exact ⟨hc0, hc1, hc2, hc3, hc4, hd0, hd1, hd2, hd3, hd4⟩ | exact ⟨(hb1.cell (by simp; omega)).trans hc0, (hb1.cell (by simp; omega)).trans hc1, (hb1.cell (by simp; omega)).trans hc2, (hb1.cell (by simp; omega)).trans hc3, (hb1.cell (by simp; omega)).trans hc4, (hb1.cell (by simp; omega)).trans hd0, (hb1.cell (by simp; omega)).trans hd1, (hb1.cell (by simp; omega)).trans hd2, (hb1.cell (by simp; omega)).trans hd3, (hb1.cell (by simp; omega)).trans hd4⟩)
          (first | (go_at_call 39; (with_reducible refine (eqRule_any x.name y.name x.sex x.place y.sex y.place A1 A2 B1 B2 c1 c2 d1 d2 lo hi lo' hi' x.src x.dst y.src y.dst _ s1.drew s2.drew t1.drew t2.drew r1' r2').mono ?_); rintro e w1 ⟨rfl, hb1⟩))
        have hw1 := hw.trans (((Below.refl _ _).drew.trans hb1).mono hz)
        go_wp2
        · have hxy : (!eqB (⟨x.name, x.sex, x.place, x.src, x.dst⟩ : Rule) ⟨y.name, y.sex, y.place, y.src, y.dst⟩) = true := by assumption
          go_ret
          exact ⟨ret_bool (eqB_no HE.out HD1.out HD2.out (not_true hxy)), hw1⟩
        · have hxy : (!eqB (⟨x.name, x.sex, x.place, x.src, x.dst⟩ : Rule) ⟨y.name, y.sex, y.place, y.src, y.dst⟩) = false := by assumption
          exact ⟨⟨k + 1, by omega, by go_num, hw1, eqB_yes HE.out HD1.out HD2.out (not_false hxy)⟩, by simp [intOf]; omega⟩
      · go_wp2
        go_ret
        exact ⟨ret_bool (eqB_end HE.out (by omega) (by omega)), hw⟩
  · go_enter Try.func33, Try.ntmps33
    go_wp2
    go_ret
    exact ⟨ret_bool (eqB_len hn).symm, Below.refl _ _⟩
end Go.Proofs.Ytnanlbglgflecaa
