/-
  Whether a relation lies within another one, in the program and in the reference.
-/
import Derived.Test.YtmgfpcchlonknaaPairs
import Derived.Test.YtmgfpcchlonknaaRelMix
namespace Go.Proofs.Ytmgfpcchlonknaa
set_option maxRecDepth 100000
open Go.RowKit

theorem pairsUp_mem {xs : List (List Int)} {n k : Nat} {row : List Int} {x : Int} (hk : k < n) (h : xs[k]? = some row) (hx : x ∈ row) : (⟨k, x⟩ : Pair) ∈ pairsUp xs n := by
  simp only [pairsUp, List.mem_flatMap, List.mem_range, List.mem_map]
  exact ⟨k, hk, x, by simpa [List.getD, h] using hx, rfl⟩
theorem pairsUp_of {xs : List (List Int)} {n : Nat} {p : Pair} (hn : n ≤ xs.length) (h : p ∈ pairsUp xs n) : ∃ (a : Nat) (row : List Int), a < n ∧ xs[a]? = some row ∧ p.a = a ∧ p.b ∈ row := by
  simp only [pairsUp, List.mem_flatMap, List.mem_range, List.mem_map] at h
  obtain ⟨a, ha, x, hx, rfl⟩ := h
  have hl : a < xs.length := by omega
  exact ⟨a, xs[a], ha, List.getElem?_eq_getElem hl, rfl, by simpa [List.getD, hl] using hx⟩
/-- Whether a pair is one of the relation's. -/
def inP (ys : List (List Int)) (p : Pair) : Bool := hasB (ys.getD p.a.toNat []) p.b
def withinM (r s : Relation) : Bool := bothOk r s && (pairsM r).all (inP s.rows)
def WithRel (xs ys : List (List Int)) (w : World) (i : Value) (wr : World) : Prop := ∃ k : Nat, k ≤ xs.length ∧ i = .int .i64 k ∧ w = wr ∧ (pairsUp xs k).all (inP ys) = true
def WithIn (xs ys : List (List Int)) (k : Nat) (row : List Int) (w : World) (i : Value) (wr : World) : Prop := ∃ j : Nat, j ≤ row.length ∧ i = .int .i64 j ∧ w = wr ∧ (pairsIn xs k row j).all (inP ys) = true

set_option maxHeartbeats 1000000 in
theorem implIsWithin_any (s t : Int) (A B : Option Addr) (c d lo hi lo' hi' : Nat) (xs ys : List (List Int)) (w : World) (h : EIntS.AS w lo hi A xs) (h' : EIntS.AS w lo' hi' B ys) (hh : hi ≤ w.heap.size) (hh' : hi' ≤ w.heap.size) :
    Calls Try.prog 21 #[.agg #[.int .i64 s, .slice A xs.length c], .agg #[.int .i64 t, .slice B ys.length d]] w fun e w' => e = .returned (.bool (withinM ⟨s, xs⟩ ⟨t, ys⟩)) ∧ Below w.heap.size w w' := by
  cases hok : bothOk ⟨s, xs⟩ ⟨t, ys⟩ with
  | false =>
    have HO := Lib.hid hok; clear hok
    go_enter Try.func21, Try.ntmps21
    go_wp2_with (go_at_call 71; (with_reducible refine (two_any s t A B c d lo hi lo' hi' xs ys _ (h.same (by (with_reducible repeat' first | exact Same.refl _ _ _ | assumption | (refine Same.setCell ?_ (by first | omega | (simp; omega) | (simp; done) | (dsimp only; omega)) _) | (refine Same.alloc ?_ (by first | omega | (simp; omega) | (simp; done) | (dsimp only; omega)) _) | (refine Same.drewN ?_ _) | (refine Same.drew ?_)))) (h'.same (by (with_reducible repeat' first | exact Same.refl _ _ _ | assumption | (refine Same.setCell ?_ (by first | omega | (simp; omega) | (simp; done) | (dsimp only; omega)) _) | (refine Same.alloc ?_ (by first | omega | (simp; omega) | (simp; done) | (dsimp only; omega)) _) | (refine Same.drewN ?_ _) | (refine Same.drew ?_)))) (by first | omega | (simp; omega) | (simp; done) | (dsimp only; omega)) (by first | omega | (simp; omega) | (simp; done) | (dsimp only; omega))).mono ?_); rintro e w1 ⟨rfl, hb1⟩; simp only [HO.out]; (obtain ⟨hb1c, hb1f⟩ := bcell hb1); (have hb1z := hb1.size); (try simp only [szs] at hb1c hb1f hb1z))
    go_ret
    exact ⟨ret_bool (by simp only [withinM, HO.out, Bool.false_and]), by (with_reducible repeat' first | exact Below.refl _ _ | assumption | (refine Below.setCell ?_ (by first | omega | (simp; omega) | (simp; done) | (dsimp only; omega)) _) | (refine Below.alloc ?_ (by first | omega | (simp; omega) | (simp; done) | (dsimp only; omega)) _) | (refine below_drewN ?_ _) | (refine Below.drew ?_) | (refine Below.trans ?_ (hb1.mono (by first | omega | (simp; omega) | (simp; done) | (dsimp only; omega)))))⟩
  | true =>
    obtain ⟨o1, o2, hst⟩ := bothOk_parts hok
    obtain ⟨n, rfl, hn, hl, hrows⟩ := relOk_parts o1
    obtain ⟨n', hnn, _, hl', _⟩ := relOk_parts o2
    obtain rfl : t = (n : Int) := hst.symm
    obtain rfl : n' = n := by omega
    have HW := Lib.hid (show withinM ⟨n', xs⟩ ⟨n', ys⟩ = (pairsUp xs xs.length).all (inP ys) by rw [withinM, hok, pairsM_in o1, hl]; rfl)
    clear hst hnn o1 o2
    have HO := Lib.hid hok; clear hok
    have hxy : xs.length ≤ ys.length := by omega
    have hx := h.le
    unfold BIG at hx
    clear hl hl'
    go_enter Try.func21, Try.ntmps21
    go_wp2_with (go_at_call 71; (with_reducible refine (two_any n' n' A B c d lo hi lo' hi' xs ys _ (h.same (by (with_reducible repeat' first | exact Same.refl _ _ _ | assumption | (refine Same.setCell ?_ (by first | omega | (simp; omega) | (simp; done) | (dsimp only; omega)) _) | (refine Same.alloc ?_ (by first | omega | (simp; omega) | (simp; done) | (dsimp only; omega)) _) | (refine Same.drewN ?_ _) | (refine Same.drew ?_)))) (h'.same (by (with_reducible repeat' first | exact Same.refl _ _ _ | assumption | (refine Same.setCell ?_ (by first | omega | (simp; omega) | (simp; done) | (dsimp only; omega)) _) | (refine Same.alloc ?_ (by first | omega | (simp; omega) | (simp; done) | (dsimp only; omega)) _) | (refine Same.drewN ?_ _) | (refine Same.drew ?_)))) (by first | omega | (simp; omega) | (simp; done) | (dsimp only; omega)) (by first | omega | (simp; omega) | (simp; done) | (dsimp only; omega))).mono ?_); rintro e w1 ⟨rfl, hb1⟩; simp only [HO.out]; (obtain ⟨hb1c, hb1f⟩ := bcell hb1); (have hb1z := hb1.size); (try simp only [szs] at hb1c hb1f hb1z))
    have d1 : w1.cell? ⟨w.heap.size + 1, 1, none⟩ = some (.slice B ys.length d) := by rw [hb1c _ _ (by omega)]; simp [go_sem]
    replace h : EIntS.AS w1 lo hi A xs := h.same (by (with_reducible repeat' first | exact Same.refl _ _ _ | assumption | (refine Same.setCell ?_ (by first | omega | (simp; omega) | (simp; done) | (dsimp only; omega)) _) | (refine Same.alloc ?_ (by first | omega | (simp; omega) | (simp; done) | (dsimp only; omega)) _) | (refine Same.drewN ?_ _) | (refine Same.drew ?_) | (refine Same.trans ?_ (Same.of_below hb1 (by first | omega | (simp; omega) | (simp; done) | (dsimp only; omega))))))
    replace h' : EIntS.AS w1 lo' hi' B ys := h'.same (by (with_reducible repeat' first | exact Same.refl _ _ _ | assumption | (refine Same.setCell ?_ (by first | omega | (simp; omega) | (simp; done) | (dsimp only; omega)) _) | (refine Same.alloc ?_ (by first | omega | (simp; omega) | (simp; done) | (dsimp only; omega)) _) | (refine Same.drewN ?_ _) | (refine Same.drew ?_) | (refine Same.trans ?_ (Same.of_below hb1 (by first | omega | (simp; omega) | (simp; done) | (dsimp only; omega))))))
    have hbw : Below w.heap.size w w1 := by (with_reducible repeat' first | exact Below.refl _ _ | assumption | (refine Below.setCell ?_ (by first | omega | (simp; omega) | (simp; done) | (dsimp only; omega)) _) | (refine Below.alloc ?_ (by first | omega | (simp; omega) | (simp; done) | (dsimp only; omega)) _) | (refine below_drewN ?_ _) | (refine Below.drew ?_) | (refine Below.trans ?_ (hb1.mono (by first | omega | (simp; omega) | (simp; done) | (dsimp only; omega)))))
    clear hb1 hb1c hb1f
    go_loopw [16] (fun i wr => WithRel xs ys w1 i wr) (fun i _ => xs.length - (intOf i).toNat)
    case atStart => exact ⟨0, Nat.zero_le _, rfl, rfl, rfl⟩
    case round =>
      obtain ⟨k, hk, rfl, rfl, he⟩ := hrel
      by_cases hlt : k < xs.length
      · obtain ⟨b, off, row, B1, cx, rfl, _, _, _, hxk, hc, _, _, hr⟩ := AIntS.at_ h hlt
        obtain ⟨b2, off2, row2, B2, cy, rfl, _, _, _, hyk, hc2, _, _, hr2⟩ := AIntS.at_ (k := k) h' (by omega)
        have hrl := rowOk_len' (hrows row (List.mem_of_getElem? hxk))
        have i1 : (0 : Int) ≤ (k : Int) ∧ (k : Int) < (ys.length : Int) := by omega
        have hin : ∀ x : Int, inP ys ⟨k, x⟩ = hasB row2 x := fun x => by simp [inP, List.getD, hyk]
        have HI := Lib.hid hin; clear hin hyk
        have HXK := Lib.hid hxk; clear hxk
        rw [pairsIn_start xs k row] at he
        have HE := Lib.hid he; clear he
        go_wp2
        go_loopw [23] (fun i w2 => WithIn xs ys k row w1 i w2) (fun i _ => row.length - (intOf i).toNat)
        case atStart => exact ⟨0, Nat.zero_le _, rfl, rfl, HE.out⟩
        case round =>
          obtain ⟨j, hj, rfl, rfl, he2⟩ := hrel
          have HE2 := Lib.hid he2; clear he2
          by_cases hlt2 : j < row.length
          · obtain ⟨b3, off3, x, rfl, _, _, _, hxj, hc3⟩ := AInt.at_ hr hlt2
            have HP := Lib.hid (pairsIn_step (xs := xs) (k := k) hxj)
            have HM := Lib.hid (pairsUp_mem hlt HXK.out (List.mem_of_getElem? hxj)); clear hxj
            cases v1 : hasB row2 x
            all_goals
              have V1 := Lib.hid v1; clear v1
              go_wp2_with (go_at_call 72; (with_reducible refine (hasInt_any B2 cy lo' hi' row2 x _ hr2).mono ?_); rintro e w2 ⟨rfl, rfl⟩; simp only [V1.out])
            · go_ret
              refine ⟨ret_bool ?_, hbw⟩
              rw [HW.out]
              symm
              rw [Bool.eq_false_iff]
              intro ha
              have := List.all_eq_true.1 ha _ HM.out
              rw [HI.out, V1.out] at this
              cases this
            · exact ⟨⟨j + 1, by omega, by go_num, rfl, by rw [HP.out, List.all_append, HE2.out]; simp [HI.out, V1.out]⟩, by simp [intOf]; omega⟩
          · obtain rfl : j = row.length := by omega
            have HE3 := Lib.hid ((pairsIn_end HXK.out) ▸ HE2.out)
            go_wp2
            exact ⟨⟨k + 1, by omega, by go_num, rfl, HE3.out⟩, by simp [intOf]; omega⟩
      · obtain rfl : k = xs.length := by omega
        have HE := Lib.hid he; clear he
        go_wp2
        go_ret
        exact ⟨ret_bool (by rw [HW.out, HE.out]), hbw⟩

def WithS (ps : List Pair) (ys : List (List Int)) (w : World) (i : Value) (wr : World) : Prop := ∃ k : Nat, k ≤ ps.length ∧ i = .int .i64 k ∧ Below w.heap.size w wr ∧ (ps.take k).all (inP ys) = true

set_option maxHeartbeats 1000000 in
theorem specIsWithin_any (s t : Int) (A B : Option Addr) (c d lo hi lo' hi' : Nat) (xs ys : List (List Int)) (w : World) (h : EIntS.AS w lo hi A xs) (h' : EIntS.AS w lo' hi' B ys) (hh : hi ≤ w.heap.size) (hh' : hi' ≤ w.heap.size) :
    Calls Try.prog 19 #[.agg #[.int .i64 s, .slice A xs.length c], .agg #[.int .i64 t, .slice B ys.length d]] w fun e w' => e = .returned (.bool (withinM ⟨s, xs⟩ ⟨t, ys⟩)) ∧ Below w.heap.size w w' := by
  cases hok : bothOk ⟨s, xs⟩ ⟨t, ys⟩ with
  | false =>
    have HO := Lib.hid hok; clear hok
    go_enter Try.func19, Try.ntmps19
    go_wp2_with (go_at_call 68; (with_reducible refine (l2Both_any s t A B c d lo hi lo' hi' xs ys _ (h.same (by (with_reducible repeat' first | exact Same.refl _ _ _ | assumption | (refine Same.setCell ?_ (by first | omega | (simp; omega) | (simp; done) | (dsimp only; omega)) _) | (refine Same.alloc ?_ (by first | omega | (simp; omega) | (simp; done) | (dsimp only; omega)) _) | (refine Same.drewN ?_ _) | (refine Same.drew ?_)))) (h'.same (by (with_reducible repeat' first | exact Same.refl _ _ _ | assumption | (refine Same.setCell ?_ (by first | omega | (simp; omega) | (simp; done) | (dsimp only; omega)) _) | (refine Same.alloc ?_ (by first | omega | (simp; omega) | (simp; done) | (dsimp only; omega)) _) | (refine Same.drewN ?_ _) | (refine Same.drew ?_)))) (by first | omega | (simp; omega) | (simp; done) | (dsimp only; omega)) (by first | omega | (simp; omega) | (simp; done) | (dsimp only; omega))).mono ?_); rintro e w1 ⟨rfl, hb1⟩; simp only [HO.out]; (obtain ⟨hb1c, hb1f⟩ := bcell hb1); (have hb1z := hb1.size); (try simp only [szs] at hb1c hb1f hb1z))
    go_ret
    exact ⟨ret_bool (by simp only [withinM, HO.out, Bool.false_and]), by (with_reducible repeat' first | exact Below.refl _ _ | assumption | (refine Below.setCell ?_ (by first | omega | (simp; omega) | (simp; done) | (dsimp only; omega)) _) | (refine Below.alloc ?_ (by first | omega | (simp; omega) | (simp; done) | (dsimp only; omega)) _) | (refine below_drewN ?_ _) | (refine Below.drew ?_) | (refine Below.trans ?_ (hb1.mono (by first | omega | (simp; omega) | (simp; done) | (dsimp only; omega)))))⟩
  | true =>
    obtain ⟨o1, o2, hst⟩ := bothOk_parts hok
    obtain ⟨n, rfl, hn, hl, hrows⟩ := relOk_parts o1
    obtain ⟨n', hnn, _, hl', _⟩ := relOk_parts o2
    obtain rfl : t = (n : Int) := hst.symm
    obtain rfl : n' = n := by omega
    have HW := Lib.hid (show withinM ⟨n', xs⟩ ⟨n', ys⟩ = (pairsM ⟨n', xs⟩).all (inP ys) by rw [withinM, hok]; rfl)
    have hps : ∀ p ∈ pairsM ⟨n', xs⟩, ∃ (a b : Nat), a < n' ∧ b < n' ∧ p = ⟨a, b⟩ ∧ inP ys p = gridP ys a b := by
      rw [pairsM_in o1]
      intro p hp
      obtain ⟨a, row, ha, hr, h1, h2⟩ := pairsUp_of (by omega) hp
      have hb := rowOk_mem (hrows row (List.mem_of_getElem? hr)) p.b h2
      obtain ⟨b, hb'⟩ := Int.eq_ofNat_of_zero_le (by omega : 0 ≤ p.b)
      refine ⟨a, b, ha, by omega, by cases p; simp_all, by simp [inP, gridP, h1, hb']⟩
    have HPS := Lib.hid hps; clear hps
    clear hst hnn
    have HO := Lib.hid hok; clear hok
    have R1 := Lib.hid o1; have R2 := Lib.hid o2; clear o1 o2 hrows
    have HL' := Lib.hid hl'; clear hl' hl
    go_enter Try.func19, Try.ntmps19
    go_wp2_with (go_at_call 68; (with_reducible refine (l2Both_any n' n' A B c d lo hi lo' hi' xs ys _ (h.same (by (with_reducible repeat' first | exact Same.refl _ _ _ | assumption | (refine Same.setCell ?_ (by first | omega | (simp; omega) | (simp; done) | (dsimp only; omega)) _) | (refine Same.alloc ?_ (by first | omega | (simp; omega) | (simp; done) | (dsimp only; omega)) _) | (refine Same.drewN ?_ _) | (refine Same.drew ?_)))) (h'.same (by (with_reducible repeat' first | exact Same.refl _ _ _ | assumption | (refine Same.setCell ?_ (by first | omega | (simp; omega) | (simp; done) | (dsimp only; omega)) _) | (refine Same.alloc ?_ (by first | omega | (simp; omega) | (simp; done) | (dsimp only; omega)) _) | (refine Same.drewN ?_ _) | (refine Same.drew ?_)))) (by first | omega | (simp; omega) | (simp; done) | (dsimp only; omega)) (by first | omega | (simp; omega) | (simp; done) | (dsimp only; omega))).mono ?_); rintro e w1 ⟨rfl, hb1⟩; simp only [HO.out]; (obtain ⟨hb1c, hb1f⟩ := bcell hb1); (have hb1z := hb1.size); (try simp only [szs] at hb1c hb1f hb1z))
    have d0 : w1.cell? ⟨w.heap.size, 0, none⟩ = some (.int .i64 n') := by rw [hb1c _ _ (by omega)]; simp [go_sem]
    have d1 : w1.cell? ⟨w.heap.size, 1, none⟩ = some (.slice A xs.length c) := by rw [hb1c _ _ (by omega)]; simp [go_sem]
    replace h : EIntS.AS w1 lo hi A xs := h.same (by (with_reducible repeat' first | exact Same.refl _ _ _ | assumption | (refine Same.setCell ?_ (by first | omega | (simp; omega) | (simp; done) | (dsimp only; omega)) _) | (refine Same.alloc ?_ (by first | omega | (simp; omega) | (simp; done) | (dsimp only; omega)) _) | (refine Same.drewN ?_ _) | (refine Same.drew ?_) | (refine Same.trans ?_ (Same.of_below hb1 (by first | omega | (simp; omega) | (simp; done) | (dsimp only; omega))))))
    replace h' : EIntS.AS w1 lo' hi' B ys := h'.same (by (with_reducible repeat' first | exact Same.refl _ _ _ | assumption | (refine Same.setCell ?_ (by first | omega | (simp; omega) | (simp; done) | (dsimp only; omega)) _) | (refine Same.alloc ?_ (by first | omega | (simp; omega) | (simp; done) | (dsimp only; omega)) _) | (refine Same.drewN ?_ _) | (refine Same.drew ?_) | (refine Same.trans ?_ (Same.of_below hb1 (by first | omega | (simp; omega) | (simp; done) | (dsimp only; omega))))))
    have hbw : Below w.heap.size w w1 := by (with_reducible repeat' first | exact Below.refl _ _ | assumption | (refine Below.setCell ?_ (by first | omega | (simp; omega) | (simp; done) | (dsimp only; omega)) _) | (refine Below.alloc ?_ (by first | omega | (simp; omega) | (simp; done) | (dsimp only; omega)) _) | (refine below_drewN ?_ _) | (refine Below.drew ?_) | (refine Below.trans ?_ (hb1.mono (by first | omega | (simp; omega) | (simp; done) | (dsimp only; omega)))))
    clear hb1 hb1c hb1f
    refine (l2Grid_any n' B d lo' hi' ys _ h' (by omega) R2.out).mono ?_
    rintro e w2 ⟨A2, c2, rfl, ho2, hb2⟩
    rw [HL'.out] at ho2 ⊢
    replace d0 := (hb2.cell (by first | omega | (simp; omega) | (simp; done) | (dsimp only; omega))).trans d0
    replace d1 := (hb2.cell (by first | omega | (simp; omega) | (simp; done) | (dsimp only; omega))).trans d1
    replace h := h.same (Same.of_below hb2 (by omega))
    replace hbw := hbw.trans (hb2.mono (by omega))
    have z2 := hb2.size
    clear hb2
    have HY := ho2.read.as
    clear ho2
    go_wp2_with fail
    refine (specPairsOf_any n' A c lo hi xs _ h (by omega)).mono ?_
    rintro e w3 ⟨A3, c3, rfl, ho3, hb3⟩
    have hbw3 := hbw.trans (hb3.mono (by omega))
    have z3 := hb3.size
    replace HY := HY.same (Same.of_below hb3 (Nat.le_refl _))
    have hpl := pairsM_len ⟨n', xs⟩
    generalize hps : pairsM ⟨(n' : Int), xs⟩ = ps at *
    have HP := ho3.read.as
    clear ho3 hb3 h h' hps
    go_wp2
    go_loopw [17] (fun i wr => WithS ps ys w3 i wr) (fun i _ => ps.length - (intOf i).toNat)
    case atStart => exact ⟨0, Nat.zero_le _, rfl, Below.refl _ _, rfl⟩
    case round =>
      obtain ⟨k, hk, rfl, hb, he⟩ := hrel
      have HE := Lib.hid he; clear he
      have z4 := hb.size
      by_cases hlt : k < ps.length
      · obtain ⟨b, off, p, rfl, hp1, hp2, _, hpk, hc1, hc2⟩ := APair.at_ (HP.same (Same.of_below hb (Nat.le_refl _))) hlt
        obtain ⟨x, y, hxn, hyn, rfl, hin⟩ := HPS.out p (List.mem_of_getElem? hpk)
        obtain ⟨g, o, r, q, cc, rfl, hg1, hg2, hr1, hr2, _, _, k1, k2⟩ := mat_read (HY.same (Same.of_below hb z3)) hxn hyn
        have HK := Lib.hid hpk; clear hpk
        simp only at hc1 hc2
        have lg : g < wr.heap.size := by omega
        have lr : r < wr.heap.size := by omega
        have i1 : (0 : Int) ≤ (x : Int) ∧ (x : Int) < (n' : Int) := by omega
        have i2 : (0 : Int) ≤ (y : Int) ∧ (y : Int) < (n' : Int) := by omega
        have HT := Lib.hid (show (ps.take (k + 1)).all (inP ys) = gridP ys x y by rw [List.take_add_one, HK.out, List.all_append, HE.out]; simp [hin])
        cases v1 : gridP ys x y
        all_goals
          rw [v1] at k2
          have V1 := Lib.hid v1; clear v1
          go_wp2
          go_region
          go_wp2
        · go_ret
          refine ⟨ret_bool ?_, by (with_reducible repeat' first | exact Below.refl _ _ | assumption | (refine Below.setCell ?_ (by first | omega | (simp; omega) | (simp; done) | (dsimp only; omega)) _) | (refine Below.alloc ?_ (by first | omega | (simp; omega) | (simp; done) | (dsimp only; omega)) _) | (refine below_drewN ?_ _) | (refine Below.drew ?_) | (refine Below.trans ?_ (hb.mono (by first | omega | (simp; omega) | (simp; done) | (dsimp only; omega)))) | (refine Below.trans ?_ (hbw3.mono (by first | omega | (simp; omega) | (simp; done) | (dsimp only; omega)))))⟩
          rw [HW.out]
          symm
          rw [Bool.eq_false_iff]
          intro ha
          have h1 : (ps.take (k + 1)).all (inP ys) = true := List.all_eq_true.2 fun p hp => List.all_eq_true.1 ha p (List.mem_of_mem_take hp)
          rw [HT.out, V1.out] at h1
          cases h1
        · exact ⟨⟨k + 1, by omega, by go_num, by (with_reducible repeat' first | exact Below.refl _ _ | assumption | (refine Below.setCell ?_ (by first | omega | (simp; omega) | (simp; done) | (dsimp only; omega)) _) | (refine Below.alloc ?_ (by first | omega | (simp; omega) | (simp; done) | (dsimp only; omega)) _) | (refine below_drewN ?_ _) | (refine Below.drew ?_)), by rw [HT.out, V1.out]⟩, by simp [intOf]; omega⟩
      · obtain rfl : k = ps.length := by omega
        go_wp2
        go_ret
        exact ⟨ret_bool (by rw [HW.out, ← HE.out, List.take_length]), by (with_reducible repeat' first | exact Below.refl _ _ | assumption | (refine Below.setCell ?_ (by first | omega | (simp; omega) | (simp; done) | (dsimp only; omega)) _) | (refine Below.alloc ?_ (by first | omega | (simp; omega) | (simp; done) | (dsimp only; omega)) _) | (refine below_drewN ?_ _) | (refine Below.drew ?_) | (refine Below.trans ?_ (hb.mono (by first | omega | (simp; omega) | (simp; done) | (dsimp only; omega)))) | (refine Below.trans ?_ (hbw3.mono (by first | omega | (simp; omega) | (simp; done) | (dsimp only; omega)))))⟩
end Go.Proofs.Ytmgfpcchlonknaa
