/-
  Whether a list of rules is valid, in the reference and in the program.
-/
import Derived.Test.YtnanlbglgflecaaIsRuleI
import Derived.Test.YtnanlbglgflecaaConvRules
import Derived.Test.YtnanlbglgflecaaBMap
import Derived.Deep.Cut
namespace Go.Proofs.Ytnanlbglgflecaa
set_option maxRecDepth 100000
open Go.RowKit Go.Maps

theorem strR_und : Try.prog.underlying 9 = some .string := by kernel_rfl
theorem strR_keyed : Keyed Try.prog 9 := string_keyed strR_und
theorem strR_map : Try.prog.underlying 189 = some (.map 9 4) := by kernel_rfl
theorem strR_key {s : ByteArray} (h : s.size ≤ 1048576) : keyOf Try.prog 9 (.string s) = some (.string s.data.toList) := WideMaps.keyOf_string_mk strR_und (by unfold maxLen; omega)
theorem strR_lit {s t : ByteArray} (h : s.size ≤ 1048576) (h' : t.size ≤ 1048576) : (Lit.string s.data.toList).sameKey (.string t.data.toList) = eqB t s := by
  rw [Bool.eq_iff_iff, sameKey_iff (strR_keyed.key (strR_key h')), eqB_iff]
  constructor
  · intro e
    injection e with e
    exact (ByteArray.ext (Array.toList_inj.1 e)).symm
  · rintro rfl; rfl
theorem hasN_at {xs : List Rule} {y : Rule} {j : Nat} : ∀ {k : Nat}, xs[j]? = some y → j < k → k ≤ xs.length → hasN (namesTo xs k) y.name = true := by
  intro k
  induction k with
  | zero => intro _ h; omega
  | succ k ih =>
    intro h hj hk
    rw [namesTo_succ (List.getElem?_eq_getElem (show k < xs.length by omega)), hasN_snoc]
    by_cases hjk : j = k
    · subst hjk
      rw [List.getElem?_eq_getElem (by omega)] at h
      injection h with h
      rw [h, eqB_refl]; simp
    · rw [ih h (by omega) (by omega)]; rfl
theorem nameOk_size {s : ByteArray} (h : nameOk s = true) : s.size ≤ 12 := by
  simp only [nameOk, Bool.and_eq_true, decide_eq_true_eq] at h; exact h.1.2

theorem undrewNB {w w' : World} {n : Nat} (h : Below (w.drewN n).heap.size (w.drewN n) w') : Below w.heap.size w w' := ⟨h.os, h.tape, h.output, h.size, h.block⟩
def AreRel (xs : List Rule) (w : World) (i : Value) (wr : World) : Prop := ∃ k : Nat, k ≤ xs.length ∧ i = .int .i64 k ∧ Below w.heap.size w wr ∧ rulesTo xs k = true
def InnRel (xs : List Rule) (k : Nat) (s : ByteArray) (W : World) (i : Value) (wr : World) : Prop := ∃ j n : Nat, j ≤ k ∧ i = .int .i64 j ∧ wr = W.drewN n ∧ hasN (namesTo xs j) s = false

set_option maxHeartbeats 4000000 in
theorem specAreRules_any (A : Option Addr) (c lo hi : Nat) (xs : List Rule) (w : World) (h : ERule.AS w lo hi A xs) (hh : hi ≤ w.heap.size) :
    Calls Try.prog 103 #[.slice A xs.length c] w fun e w' => e = .returned (.bool (rulesOk xs)) ∧ Below w.heap.size w w' := by
  have hx := h.le
  unfold BIG at hx
  by_cases hl : xs.length ≤ 12
  · generalize hR : rulesOk xs = R
    have HR := Lib.hid hR; clear hR
    go_enter Try.func103, Try.ntmps103
    go_wp2
    go_loopw [11] (fun i wr => AreRel xs w i wr) (fun i _ => xs.length - (intOf i).toNat)
    case atStart => exact ⟨0, Nat.zero_le _, rfl, Below.refl _ _, rfl⟩
    case round =>
      obtain ⟨k, hk, rfl, hbw, hp⟩ := hrel
      have HP := Lib.hid hp; clear hp
      have z1 := hbw.size
      by_cases hlt : k < xs.length
      · obtain ⟨b, off, ⟨x0, x1, x2, x3, x4⟩, A1, c1, A2, c2, rfl, g1, g2, _, hxk, hc0, hc1, hc2, hc3, hc4, s1, s2, hsx⟩ := ARule.at_ (h.same (Same.of_below hbw hh)) hlt
        simp only at hc0 hc1 hc2 hc3 hc4 s1 s2 hsx
        have HXK := Lib.hid hxk; clear hxk
        have lb : b < wr.heap.size := by omega
        go_wp2
        generalize hW6 : wr.alloc (.cells #[.string x0, .int .i64 x1, .int .i64 x2, .slice A1 x3.length c1, .slice A2 x4.length c2] 51) = W6
        have p0 : W6.cell? ⟨wr.heap.size, 0, none⟩ = some (.string x0) := by subst hW6; simp [go_sem]
        have p1 : W6.cell? ⟨wr.heap.size, 1, none⟩ = some (.int .i64 x1) := by subst hW6; simp [go_sem]
        have p2 : W6.cell? ⟨wr.heap.size, 2, none⟩ = some (.int .i64 x2) := by subst hW6; simp [go_sem]
        have p3 : W6.cell? ⟨wr.heap.size, 3, none⟩ = some (.slice A1 x3.length c1) := by subst hW6; simp [go_sem]
        have p4 : W6.cell? ⟨wr.heap.size, 4, none⟩ = some (.slice A2 x4.length c2) := by subst hW6; simp [go_sem]
        have b6 : Below wr.heap.size wr W6 := by subst hW6; (with_reducible repeat' first | exact Below.refl _ _ | assumption | (refine Below.setCell ?_ (by first | omega | (simp; omega) | (simp; done) | (dsimp only; omega)) _) | (refine Below.alloc ?_ (by first | omega | (simp; omega) | (simp; done) | (dsimp only; omega)) _) | (refine below_drewN ?_ _) | (refine Below.drew ?_))
        have z6 : wr.heap.size + 1 ≤ W6.heap.size := by subst hW6; simp
        clear hW6 hc0 hc1 hc2 hc3 hc4
        replace s1 := s1.same (Same.of_below b6 (by first | omega | (simp; omega) | (simp; done) | (dsimp only; omega))); replace s2 := s2.same (Same.of_below b6 (by first | omega | (simp; omega) | (simp; done) | (dsimp only; omega)))
        have hb6 : Below w.heap.size w W6 := by (with_reducible repeat' first | exact Below.refl _ _ | assumption | (refine Below.setCell ?_ (by first | omega | (simp; omega) | (simp; done) | (dsimp only; omega)) _) | (refine Below.alloc ?_ (by first | omega | (simp; omega) | (simp; done) | (dsimp only; omega)) _) | (refine below_drewN ?_ _) | (refine Below.drew ?_) | (refine Below.trans ?_ (b6.mono (by first | omega | (simp; omega) | (simp; done) | (dsimp only; omega)))) | (refine Below.trans ?_ (hbw.mono (by first | omega | (simp; omega) | (simp; done) | (dsimp only; omega)))))
        have hX6 := h.same (Same.of_below hb6 hh)
        obtain ⟨wo, hwo⟩ : ∃ wo : Nat, wo = wr.heap.size := ⟨_, rfl⟩
        rw [← hwo] at p0 p1 p2 p3 p4 ⊢
        have lwo : wo < W6.heap.size := by omega
        have z66 := hb6.size
        clear b6 z6 hwo hbw z1 lb
        go_loopw [5] (fun i w2 => InnRel xs k x0 W6 i w2) (fun i _ => k - (intOf i).toNat)
        case atStart => exact ⟨0, 0, Nat.zero_le _, rfl, rfl, rfl⟩
        case round =>
          obtain ⟨j, n, hj, rfl, hw, hno⟩ := hrel
          have HNO := Lib.hid hno; clear hno
          have hX := hw ▸ hX6.drewN n
          have q0 : wr.cell? ⟨wo, 0, none⟩ = some (.string x0) := hw ▸ p0
          by_cases hlj : j < k
          · obtain ⟨b', off', ⟨y0, y1, y2, y3, y4⟩, B1, d1, B2, d2, hA, _, _, _, hyj, hd0, _, _, _, _, _, _, _⟩ := ARule.at_ hX (show j < xs.length by omega)
            injection hA with hA; injection hA with hA1 hA2 _; subst hA1; subst hA2
            simp only at hd0
            have HYJ := Lib.hid hyj; clear hyj
            have HW := Lib.hid hw; clear hw
            have i1 : (0 : Int) ≤ (j : Int) ∧ (j : Int) < (xs.length : Int) := by omega
            by_cases hq : y0 = x0
            · have HN := Lib.hid (show R = false by rw [← HR.out]; exact rulesOk_no HXK.out (.inr (by rw [← hq]; exact hasN_at (y := ⟨y0, y1, y2, y3, y4⟩) HYJ.out hlj (by omega))))
              have nq : (y0.toList == x0.toList) = true := by rw [hq]; simp
              clear hq
              go_wp2
              go_quiet (fail)
              go_wp2
              go_ret
              exact ⟨ret_bool (by rw [HN.out]), by rw [HW.out]; (with_reducible repeat' first | exact Below.refl _ _ | assumption | (refine Below.setCell ?_ (by first | omega | (simp; omega) | (simp; done) | (dsimp only; omega)) _) | (refine Below.alloc ?_ (by first | omega | (simp; omega) | (simp; done) | (dsimp only; omega)) _) | (refine below_drewN ?_ _) | (refine Below.drew ?_) | (refine Below.trans ?_ (hb6.mono (by first | omega | (simp; omega) | (simp; done) | (dsimp only; omega)))))⟩
            · have HQ := Lib.hid hq
              have nq : (y0.toList == x0.toList) = false := by simp; exact fun e => hq (str_eqR.1 e)
              clear hq
              go_wp2
              go_quiet (fail)
              go_wp2
              exact ⟨⟨j + 1, _, by omega, by go_num, by rw [HW.out, World.drewN_drewN], by rw [namesTo_succ HYJ.out, hasN_snoc, HNO.out, eqB_ne HQ.out]; rfl⟩, by simp [intOf]; omega⟩
          · obtain rfl : j = k := by omega
            subst hw
            have hiw : hi ≤ (W6.drewN n).heap.size := by show hi ≤ W6.heap.size; omega
            have lwo' : wo < (W6.drewN n).heap.size := lwo
            cases hok : ruleOk ⟨x0, x1, x2, x3, x4⟩ with
            | false =>
              have HOK := Lib.hid hok; clear hok
              have HN := Lib.hid (show R = false by rw [← HR.out]; exact rulesOk_no HXK.out (.inl HOK.out))
              go_wp2_with (go_at_call 113; (with_reducible refine (specIsRule_any x0 x1 x2 A1 A2 c1 c2 lo hi x3 x4 _ (s1.drewN n) (s2.drewN n) hiw hsx).mono ?_); rintro e w7 ⟨rfl, hb7⟩; replace hb7 := undrewNB hb7; simp only [HOK.out])
              go_ret
              exact ⟨ret_bool (by rw [HN.out]), by (with_reducible repeat' first | exact Below.refl _ _ | assumption | (refine Below.setCell ?_ (by first | omega | (simp; omega) | (simp; done) | (dsimp only; omega)) _) | (refine Below.alloc ?_ (by first | omega | (simp; omega) | (simp; done) | (dsimp only; omega)) _) | (refine below_drewN ?_ _) | (refine Below.drew ?_) | (refine Below.trans ?_ (hb7.mono (by first | omega | (simp; omega) | (simp; done) | (dsimp only; omega)))) | (refine Below.trans ?_ (hb6.mono (by first | omega | (simp; omega) | (simp; done) | (dsimp only; omega)))))⟩
            | true =>
              have HOK := Lib.hid hok; clear hok
              have HT := Lib.hid (show rulesTo xs (j + 1) = true by rw [rulesTo_succ HXK.out, HP.out, HOK.out, HNO.out]; rfl)
              go_wp2_with (go_at_call 113; (with_reducible refine (specIsRule_any x0 x1 x2 A1 A2 c1 c2 lo hi x3 x4 _ (s1.drewN n) (s2.drewN n) hiw hsx).mono ?_); rintro e w7 ⟨rfl, hb7⟩; replace hb7 := undrewNB hb7; simp only [HOK.out])
              exact ⟨⟨j + 1, by omega, by go_num, by (with_reducible repeat' first | exact Below.refl _ _ | assumption | (refine Below.setCell ?_ (by first | omega | (simp; omega) | (simp; done) | (dsimp only; omega)) _) | (refine Below.alloc ?_ (by first | omega | (simp; omega) | (simp; done) | (dsimp only; omega)) _) | (refine below_drewN ?_ _) | (refine Below.drew ?_) | (refine Below.trans ?_ (hb7.mono (by first | omega | (simp; omega) | (simp; done) | (dsimp only; omega)))) | (refine Below.trans ?_ (hb6.mono (by first | omega | (simp; omega) | (simp; done) | (dsimp only; omega))))), HT.out⟩, by simp [intOf]; omega⟩
      · obtain rfl : k = xs.length := by omega
        have HN := Lib.hid (show R = true by rw [← HR.out]; exact rulesOk_end hl HP.out)
        go_wp2
        go_ret
        exact ⟨ret_bool (by rw [HN.out]), hbw⟩
  · rw [rulesOk_len hl]
    go_enter Try.func103, Try.ntmps103
    go_wp2
    go_ret
    exact ⟨rfl, Below.refl _ _⟩

def NamRel (xs : List Rule) (bm : Nat) (W : World) (i : Value) (wr : World) : Prop :=
  ∃ (k : Nat) (S : Lit → Bool), k ≤ xs.length ∧ i = .int .i64 k ∧ BSet wr 9 bm k S ∧ (∀ s : ByteArray, s.size ≤ 1048576 → S (.string s.data.toList) = hasN (namesTo xs k) s) ∧ Chg bm (bm + 1) W wr ∧ rulesTo xs k = true

set_option maxHeartbeats 4000000 in
theorem implAreRules_any (A : Option Addr) (c lo hi : Nat) (xs : List Rule) (w : World) (h : ERule.AS w lo hi A xs) (hh : hi ≤ w.heap.size) :
    Calls Try.prog 107 #[.slice A xs.length c] w fun e w' => e = .returned (.bool (rulesOk xs)) ∧ Below w.heap.size w w' := by
  have hx := h.le
  unfold BIG at hx
  by_cases hl : xs.length ≤ 12
  · generalize hR : rulesOk xs = R
    have HR := Lib.hid hR; clear hR
    have HH := Lib.hid h; clear h
    have hmm := @run_makeMap Try.prog
    go_enter Try.func107, Try.ntmps107
    go_wp2
    generalize hW : w.alloc (.map #[] 0) = W
    have hs0 : BSet W 9 w.heap.size 0 fun _ => false := by subst hW; exact BSet.made w 9
    have hbW : Below w.heap.size w W := by subst hW; (with_reducible repeat' first | exact Below.refl _ _ | assumption | (refine Below.setCell ?_ (by first | omega | (simp; omega) | (simp; done) | (dsimp only; omega)) _) | (refine Below.alloc ?_ (by first | omega | (simp; omega) | (simp; done) | (dsimp only; omega)) _) | (refine below_drewN ?_ _) | (refine Below.drew ?_))
    have zW : w.heap.size + 1 ≤ W.heap.size := by subst hW; simp
    clear hW hmm
    go_loopw [12] (fun i wr => NamRel xs w.heap.size W i wr) (fun i _ => xs.length - (intOf i).toNat)
    case atStart => exact ⟨0, _, Nat.zero_le _, rfl, hs0, fun s _ => rfl, Chg.refl _ _ _, rfl⟩
    case round =>
      obtain ⟨k, S, hk, rfl, hsk, hS, hch, hp⟩ := hrel
      have HP := Lib.hid hp; clear hp
      have z1 := hch.size
      have hbw : Below w.heap.size w wr := hbW.trans (hch.below (B := w.heap.size) (by omega) (by omega))
      have hX : ERule.AS wr lo hi A xs := HH.out.same (Same.of_below hbw hh)
      have l1 : w.heap.size < wr.heap.size := by omega
      by_cases hlt : k < xs.length
      · obtain ⟨b, off, ⟨x0, x1, x2, x3, x4⟩, A1, c1, A2, c2, rfl, g1, g2, _, hxk, hc0, hc1, hc2, hc3, hc4, s1, s2, hsx⟩ := ARule.at_ hX hlt
        simp only at hc0 hc1 hc2 hc3 hc4 s1 s2 hsx
        have HXK := Lib.hid hxk; clear hxk
        have lb : b < wr.heap.size := by omega
        have hiw : hi ≤ wr.heap.size := by omega
        go_upto_region 7 with fail
        generalize hW6 : wr.alloc (.cells #[.string x0, .int .i64 x1, .int .i64 x2, .slice A1 x3.length c1, .slice A2 x4.length c2] 51) = W6
        have p0 : W6.cell? ⟨wr.heap.size, 0, none⟩ = some (.string x0) := by subst hW6; simp [go_sem]
        have p1 : W6.cell? ⟨wr.heap.size, 1, none⟩ = some (.int .i64 x1) := by subst hW6; simp [go_sem]
        have p2 : W6.cell? ⟨wr.heap.size, 2, none⟩ = some (.int .i64 x2) := by subst hW6; simp [go_sem]
        have p3 : W6.cell? ⟨wr.heap.size, 3, none⟩ = some (.slice A1 x3.length c1) := by subst hW6; simp [go_sem]
        have p4 : W6.cell? ⟨wr.heap.size, 4, none⟩ = some (.slice A2 x4.length c2) := by subst hW6; simp [go_sem]
        have b6 : Below wr.heap.size wr W6 := by subst hW6; (with_reducible repeat' first | exact Below.refl _ _ | assumption | (refine Below.setCell ?_ (by first | omega | (simp; omega) | (simp; done) | (dsimp only; omega)) _) | (refine Below.alloc ?_ (by first | omega | (simp; omega) | (simp; done) | (dsimp only; omega)) _) | (refine below_drewN ?_ _) | (refine Below.drew ?_))
        have hs6 : BSet W6 9 w.heap.size k S := by subst hW6; exact hsk.alloc _
        have zW6 : wr.heap.size + 1 ≤ W6.heap.size := by subst hW6; simp
        clear hW6 hc0 hc1 hc2 hc3 hc4 hsk hX
        replace s1 := s1.same (Same.of_below b6 (by first | omega | (simp; omega) | (simp; done) | (dsimp only; omega))); replace s2 := s2.same (Same.of_below b6 (by first | omega | (simp; omega) | (simp; done) | (dsimp only; omega)))
        have hb6 : Below w.heap.size w W6 := by (with_reducible repeat' first | exact Below.refl _ _ | assumption | (refine Below.setCell ?_ (by first | omega | (simp; omega) | (simp; done) | (dsimp only; omega)) _) | (refine Below.alloc ?_ (by first | omega | (simp; omega) | (simp; done) | (dsimp only; omega)) _) | (refine below_drewN ?_ _) | (refine Below.drew ?_) | (refine Below.trans ?_ (b6.mono (by first | omega | (simp; omega) | (simp; done) | (dsimp only; omega)))) | (refine Below.trans ?_ (hbw.mono (by first | omega | (simp; omega) | (simp; done) | (dsimp only; omega)))))
        have hch6 : Chg w.heap.size (w.heap.size + 1) W W6 := hch.trans (Chg.of_below b6)
        clear hch b6 hbw g1 g2 lb
        cases hok : ruleOk ⟨x0, x1, x2, x3, x4⟩ with
        | false =>
          have HOK := Lib.hid hok; clear hok
          have HN := Lib.hid (show R = false by rw [← HR.out]; exact rulesOk_no HXK.out (.inl HOK.out))
          clear hS
          go_wp2_with (go_at_call 118; (with_reducible refine (implIsRule_any x0 x1 x2 A1 A2 c1 c2 lo hi x3 x4 _ s1 s2 (by first | omega | (simp; omega) | (simp; done) | (dsimp only; omega)) hsx).mono ?_); rintro e w7 ⟨rfl, hb7⟩; simp only [HOK.out])
          go_ret
          exact ⟨ret_bool (by rw [HN.out]), by (with_reducible repeat' first | exact Below.refl _ _ | assumption | (refine Below.setCell ?_ (by first | omega | (simp; omega) | (simp; done) | (dsimp only; omega)) _) | (refine Below.alloc ?_ (by first | omega | (simp; omega) | (simp; done) | (dsimp only; omega)) _) | (refine below_drewN ?_ _) | (refine Below.drew ?_) | (refine Below.trans ?_ (hb7.mono (by first | omega | (simp; omega) | (simp; done) | (dsimp only; omega)))) | (refine Below.trans ?_ (hb6.mono (by first | omega | (simp; omega) | (simp; done) | (dsimp only; omega)))))⟩
        | true =>
          have HOK := Lib.hid hok; clear hok
          have hsz : x0.size ≤ 1048576 := by have := nameOk_size (ruleOk_parts HOK.out).2.1; simp only at this; omega
          have HSX := Lib.hid (hS x0 hsz)
          cases hn : hasN (namesTo xs k) x0 with
          | true =>
            have HNN := Lib.hid hn; clear hn
            have HN := Lib.hid (show R = false by rw [← HR.out]; exact rulesOk_no HXK.out (.inr HNN.out))
            clear hS
            go_wp2_with (go_at_call 118; (with_reducible refine (implIsRule_any x0 x1 x2 A1 A2 c1 c2 lo hi x3 x4 _ s1 s2 (by first | omega | (simp; omega) | (simp; done) | (dsimp only; omega)) hsx).mono ?_); rintro e w7 ⟨rfl, hb7⟩; simp only [HOK.out]; (have z7 := hb7.size); (replace p0 := (hb7.cell (p := ⟨wr.heap.size, 0, none⟩) (by first | omega | (simp; omega) | (simp; done) | (dsimp only; omega))).trans p0); (have hs7 := hs6.below hb7 (by omega)); (have hlook := hs7.look strR_keyed strR_map (strR_key hsz)); rw [HSX.out, HNN.out] at hlook)
            go_ret
            exact ⟨ret_bool (by rw [HN.out]), by (with_reducible repeat' first | exact Below.refl _ _ | assumption | (refine Below.setCell ?_ (by first | omega | (simp; omega) | (simp; done) | (dsimp only; omega)) _) | (refine Below.alloc ?_ (by first | omega | (simp; omega) | (simp; done) | (dsimp only; omega)) _) | (refine below_drewN ?_ _) | (refine Below.drew ?_) | (refine Below.trans ?_ (hb7.mono (by first | omega | (simp; omega) | (simp; done) | (dsimp only; omega)))) | (refine Below.trans ?_ (hb6.mono (by first | omega | (simp; omega) | (simp; done) | (dsimp only; omega)))))⟩
          | false =>
            have HNN := Lib.hid hn; clear hn
            have HT := Lib.hid (show rulesTo xs (k + 1) = true by rw [rulesTo_succ HXK.out, HP.out, HOK.out, HNN.out]; rfl)
            have HSN : Hid (∀ s : ByteArray, s.size ≤ 1048576 → ((Lit.string s.data.toList).sameKey (.string x0.data.toList) || S (.string s.data.toList)) = hasN (namesTo xs (k + 1)) s) := Lib.hid (by
              intro s hz
              rw [strR_lit hz hsz, hS s hz, namesTo_succ HXK.out, hasN_snoc]
              exact Bool.or_comm _ _)
            clear hS
            go_wp2_with (first
              | (at_mapUpdate; refine wpList_put_set rfl _ _ _ _ rfl 9 strR_keyed strR_map w.heap.size k S rfl hs7 (by unfold maxLen; omega) _ _ rfl rfl (strR_key hsz) ?_; intro w8 hs8 hg8; have b8 : Chg w.heap.size (w.heap.size + 1) w7 w8 := Chg.of_grown hg8 (fun j hj => by cases hj; omega))
              | (go_at_call 118; (with_reducible refine (implIsRule_any x0 x1 x2 A1 A2 c1 c2 lo hi x3 x4 _ s1 s2 (by first | omega | (simp; omega) | (simp; done) | (dsimp only; omega)) hsx).mono ?_); rintro e w7 ⟨rfl, hb7⟩; simp only [HOK.out]; (have z7 := hb7.size); (replace p0 := (hb7.cell (p := ⟨wr.heap.size, 0, none⟩) (by first | omega | (simp; omega) | (simp; done) | (dsimp only; omega))).trans p0); (have hs7 := hs6.below hb7 (by omega)); (have hlook := hs7.look strR_keyed strR_map (strR_key hsz)); rw [HSX.out, HNN.out] at hlook))
            exact ⟨⟨k + 1, _, by omega, by go_num, hs8, HSN.out, (hch6.trans (Chg.of_below hb7)).trans b8, HT.out⟩, by simp [intOf]; omega⟩
      · obtain rfl : k = xs.length := by omega
        have HN := Lib.hid (show R = true by rw [← HR.out]; exact rulesOk_end hl HP.out)
        clear hS
        go_wp2
        go_ret
        exact ⟨ret_bool (by rw [HN.out]), hbw⟩
  · rw [rulesOk_len hl]
    go_enter Try.func107, Try.ntmps107
    go_wp2
    go_ret
    exact ⟨rfl, Below.refl _ _⟩
end Go.Proofs.Ytnanlbglgflecaa
