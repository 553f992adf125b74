/-
  The end of a union, in the reference.
-/
import Derived.Test.YtkdgjbbjbghdnaaKin
import Derived.Test.YtkdgjbbjbghdnaaHasS
namespace Go.Proofs.Ytkdgjbbjbghdnaa
set_option maxRecDepth 100000
open Go.RowKit

set_option maxHeartbeats 4000000 in
theorem l1End_any (A B : Option Addr) (c d lo hi : Nat) (xs : List Person) (ys : List Union) (m f : Nat) (s t : Int) (x y : Person) (w : World) (h : EPerson.AS w lo hi A xs) (_h' : EUnion.AS w lo hi B ys) (hh : hi ≤ w.heap.size) (hm : xs[m]? = some x) (hf : xs[f]? = some y) (ht : t = -1 ∨ 0 ≤ t) (hx1 : -1 ≤ x.died) (hy1 : -1 ≤ y.died) :
    Calls Try.prog 69 #[.agg #[.slice A xs.length c, .slice B ys.length d], .agg #[.int .i64 m, .int .i64 f, .int .i64 s, .int .i64 t]] w (RetIntB w (endM x y ⟨m, f, s, t⟩)) := by
  have hx := h.le
  unfold BIG at hx
  have hml := (List.getElem?_eq_some_iff.1 hm).1
  have hfl := (List.getElem?_eq_some_iff.1 hf).1
  obtain ⟨b, off, x', rfl, g1, g2, _, hxk, _, _, _, _, _, hc5⟩ := APerson.at_ h hml
  obtain ⟨b', off', y', he, _, _, _, hyk, _, _, _, _, _, hd5⟩ := APerson.at_ h hfl
  injection he with he; injection he with he1 he2 _; subst he1; subst he2
  obtain rfl : x' = x := by rw [hm] at hxk; injection hxk with hxk; exact hxk.symm
  obtain rfl : y' = y := by rw [hf] at hyk; injection hyk with hyk; exact hyk.symm
  obtain ⟨x0, x1, x2, x3, x4, a⟩ := x'
  obtain ⟨y0, y1, y2, y3, y4, e⟩ := y'
  simp only at hc5 hd5 hx1 hy1
  clear hxk hyk hm hf
  have lb : b < w.heap.size := by omega
  have i1 : (0 : Int) ≤ (m : Int) ∧ (m : Int) < (xs.length : Int) := by omega
  have i2 : (0 : Int) ≤ (f : Int) ∧ (f : Int) < (xs.length : Int) := by omega
  generalize hR : endM ⟨x0, x1, x2, x3, x4, a⟩ ⟨y0, y1, y2, y3, y4, e⟩ ⟨m, f, s, t⟩ = R
  have HR := Lib.hid hR; clear hR
  have nt : ∀ v : Int, v ≠ -1 → (v == -1) = false ∧ (v != -1) = true := fun v h => by simp [h]
  have nt' : ∀ v : Int, v = -1 → (v == -1) = true ∧ (v != -1) = false := fun v h => by simp [h]
  by_cases ct : t = -1
  · obtain ⟨n1, n2⟩ := nt' t ct
    by_cases ca : a = -1
    · obtain ⟨n3, n4⟩ := nt' a ca
      by_cases ce : e = -1
      · obtain ⟨n5, n6⟩ := nt' e ce
        have HN := Lib.hid (HR.out.symm.trans (show _ = ((0 : Int), false) by simp [endM, ct, ca, ce]))
        clear nt nt'
        have l1 : a < 0 := by omega
        have l2 : e < 0 := by omega
        go_enter Try.func69, Try.ntmps69
        go_wp2
        all_goals first
          | (exfalso; omega)
          | (rw [HN.out]; refine bodyPost_ret (v := .tuple #[.int .i64 0, .bool false]) (by simp [results, Try.results69, go_sem]) rfl ⟨rfl, by (with_reducible repeat' first | exact Below.refl _ _ | assumption | (refine Below.setCell ?_ (by first | omega | (simp; omega) | (simp; done) | (dsimp only; omega)) _) | (refine Below.alloc ?_ (by first | omega | (simp; omega) | (simp; done) | (dsimp only; omega)) _) | (refine below_drewN ?_ _) | (refine Below.drew ?_))⟩)
      · obtain ⟨n5, n6⟩ := nt e ce
        have HN := Lib.hid (HR.out.symm.trans (show _ = (e, true) by simp [endM, ct, ca, ce]))
        clear nt nt'
        have l1 : a < 0 := by omega
        have l2 : ¬ e < 0 := by omega
        have l3 : 0 ≤ e := by omega
        go_enter Try.func69, Try.ntmps69
        go_wp2
        all_goals first
          | (exfalso; omega)
          | (rw [HN.out]; refine bodyPost_ret (v := .tuple #[.int .i64 e, .bool true]) (by simp [results, Try.results69, go_sem]) rfl ⟨rfl, by (with_reducible repeat' first | exact Below.refl _ _ | assumption | (refine Below.setCell ?_ (by first | omega | (simp; omega) | (simp; done) | (dsimp only; omega)) _) | (refine Below.alloc ?_ (by first | omega | (simp; omega) | (simp; done) | (dsimp only; omega)) _) | (refine below_drewN ?_ _) | (refine Below.drew ?_))⟩)
    · obtain ⟨n3, n4⟩ := nt a ca
      have l1 : ¬ a < 0 := by omega
      by_cases ce : e = -1
      · obtain ⟨n5, n6⟩ := nt' e ce
        have HN := Lib.hid (HR.out.symm.trans (show _ = (a, true) by simp [endM, ct, ca, ce]))
        clear nt nt'
        have l2 : e < 0 := by omega
        have l3 : ¬ 0 ≤ e := by omega
        go_enter Try.func69, Try.ntmps69
        go_wp2
        all_goals first
          | (exfalso; omega)
          | (rw [HN.out]; refine bodyPost_ret (v := .tuple #[.int .i64 a, .bool true]) (by simp [results, Try.results69, go_sem]) rfl ⟨rfl, by (with_reducible repeat' first | exact Below.refl _ _ | assumption | (refine Below.setCell ?_ (by first | omega | (simp; omega) | (simp; done) | (dsimp only; omega)) _) | (refine Below.alloc ?_ (by first | omega | (simp; omega) | (simp; done) | (dsimp only; omega)) _) | (refine below_drewN ?_ _) | (refine Below.drew ?_))⟩)
      · obtain ⟨n5, n6⟩ := nt e ce
        have l3 : 0 ≤ e := by omega
        by_cases cl : e < a
        · have HN := Lib.hid (HR.out.symm.trans (show _ = (e, true) by simp [endM, ct, ca, ce]; omega))
          clear nt nt'
          go_enter Try.func69, Try.ntmps69
          go_wp2
          all_goals first
            | (exfalso; omega)
            | (rw [HN.out]; refine bodyPost_ret (v := .tuple #[.int .i64 e, .bool true]) (by simp [results, Try.results69, go_sem]) rfl ⟨rfl, by (with_reducible repeat' first | exact Below.refl _ _ | assumption | (refine Below.setCell ?_ (by first | omega | (simp; omega) | (simp; done) | (dsimp only; omega)) _) | (refine Below.alloc ?_ (by first | omega | (simp; omega) | (simp; done) | (dsimp only; omega)) _) | (refine below_drewN ?_ _) | (refine Below.drew ?_))⟩)
        · have HN := Lib.hid (HR.out.symm.trans (show _ = (a, true) by simp [endM, ct, ca, ce]; omega))
          clear nt nt'
          go_enter Try.func69, Try.ntmps69
          go_wp2
          all_goals first
            | (exfalso; omega)
            | (rw [HN.out]; refine bodyPost_ret (v := .tuple #[.int .i64 a, .bool true]) (by simp [results, Try.results69, go_sem]) rfl ⟨rfl, by (with_reducible repeat' first | exact Below.refl _ _ | assumption | (refine Below.setCell ?_ (by first | omega | (simp; omega) | (simp; done) | (dsimp only; omega)) _) | (refine Below.alloc ?_ (by first | omega | (simp; omega) | (simp; done) | (dsimp only; omega)) _) | (refine below_drewN ?_ _) | (refine Below.drew ?_))⟩)
  · obtain ⟨n1, n2⟩ := nt t ct
    have HN := Lib.hid (HR.out.symm.trans (show _ = (t, true) by simp [endM, ct]))
    clear nt nt'
    have l0 : 0 ≤ t := by omega
    go_enter Try.func69, Try.ntmps69
    go_wp2
    all_goals first
      | (exfalso; omega)
      | (rw [HN.out]; refine bodyPost_ret (v := .tuple #[.int .i64 t, .bool true]) (by simp [results, Try.results69, go_sem]) rfl ⟨rfl, by (with_reducible repeat' first | exact Below.refl _ _ | assumption | (refine Below.setCell ?_ (by first | omega | (simp; omega) | (simp; done) | (dsimp only; omega)) _) | (refine Below.alloc ?_ (by first | omega | (simp; omega) | (simp; done) | (dsimp only; omega)) _) | (refine below_drewN ?_ _) | (refine Below.drew ?_))⟩)

set_option maxHeartbeats 4000000 in
theorem specUnionEnd_any (A B : Option Addr) (c d lo hi : Nat) (xs : List Person) (ys : List Union) (k : Int) (w : World) (h : EPerson.AS w lo hi A xs) (h' : EUnion.AS w lo hi B ys) (hh : hi ≤ w.heap.size)  (hs : totP xs ≤ 1048576) :
    Calls Try.prog 29 #[.agg #[.slice A xs.length c, .slice B ys.length d], .int .i64 k] w (RetIntB w (unionEndM xs ys k)) := by
  have hy := h'.le
  unfold BIG at hy
  by_cases h1 : k < 0
  · have HN := Lib.hid (show unionEndM xs ys k = (0, false) by rw [unionEndM, if_neg (by omega)])
    rw [HN.out]
    go_enter Try.func29, Try.ntmps29
    go_wp2
    exact bodyPost_ret (v := .tuple #[.int .i64 0, .bool false]) (by simp [results, Try.results29, go_sem]) rfl ⟨rfl, by (with_reducible repeat' first | exact Below.refl _ _ | assumption | (refine Below.setCell ?_ (by first | omega | (simp; omega) | (simp; done) | (dsimp only; omega)) _) | (refine Below.alloc ?_ (by first | omega | (simp; omega) | (simp; done) | (dsimp only; omega)) _) | (refine below_drewN ?_ _) | (refine Below.drew ?_))⟩
  by_cases h2 : (ys.length : Int) ≤ k
  · have HN := Lib.hid (show unionEndM xs ys k = (0, false) by rw [unionEndM, if_neg (by omega)])
    rw [HN.out]
    go_enter Try.func29, Try.ntmps29
    go_wp2
    exact bodyPost_ret (v := .tuple #[.int .i64 0, .bool false]) (by simp [results, Try.results29, go_sem]) rfl ⟨rfl, by (with_reducible repeat' first | exact Below.refl _ _ | assumption | (refine Below.setCell ?_ (by first | omega | (simp; omega) | (simp; done) | (dsimp only; omega)) _) | (refine Below.alloc ?_ (by first | omega | (simp; omega) | (simp; done) | (dsimp only; omega)) _) | (refine below_drewN ?_ _) | (refine Below.drew ?_))⟩
  cases ho : famOk xs ys with
  | false =>
    have HO := Lib.hid ho
    have HN := Lib.hid (show unionEndM xs ys k = (0, false) by rw [unionEndM, if_neg (by rw [ho]; simp)])
    clear ho
    rw [HN.out]
    go_enter Try.func29, Try.ntmps29
    go_wp2_with (go_at_call 19; (with_reducible refine (specIsFamily_any _ _ _ _ lo hi xs ys _ (h.same (by (with_reducible repeat' first | exact Same.refl _ _ _ | assumption | (refine Same.setCell ?_ (by first | omega | (simp; omega) | (simp; done) | (dsimp only; omega)) _) | (refine Same.alloc ?_ (by first | omega | (simp; omega) | (simp; done) | (dsimp only; omega)) _) | (refine Same.drewN ?_ _) | (refine Same.drew ?_)))) (h'.same (by (with_reducible repeat' first | exact Same.refl _ _ _ | assumption | (refine Same.setCell ?_ (by first | omega | (simp; omega) | (simp; done) | (dsimp only; omega)) _) | (refine Same.alloc ?_ (by first | omega | (simp; omega) | (simp; done) | (dsimp only; omega)) _) | (refine Same.drewN ?_ _) | (refine Same.drew ?_)))) (by first | omega | (simp; omega) | (simp; done) | (dsimp only; omega)) hs).mono ?_); rintro e w1 ⟨rfl, hb1⟩; simp only [HO.out]; (obtain ⟨hb1c, hb1f⟩ := bcell hb1); (have hb1z := hb1.size); (try simp only [szs] at hb1c hb1f hb1z); have lt1 : w.heap.size < w1.heap.size := (by omega))
    exact bodyPost_ret (v := .tuple #[.int .i64 0, .bool false]) (by simp [results, Try.results29, go_sem]) rfl ⟨rfl, by (with_reducible repeat' first | exact Below.refl _ _ | assumption | (refine Below.setCell ?_ (by first | omega | (simp; omega) | (simp; done) | (dsimp only; omega)) _) | (refine Below.alloc ?_ (by first | omega | (simp; omega) | (simp; done) | (dsimp only; omega)) _) | (refine below_drewN ?_ _) | (refine Below.drew ?_) | (refine Below.trans ?_ (hb1.mono (by first | omega | (simp; omega) | (simp; done) | (dsimp only; omega)))))⟩
  | true =>
    have HO := Lib.hid ho
    obtain ⟨k, rfl⟩ := Int.eq_ofNat_of_zero_le (by omega : 0 ≤ k)
    have hkl : k < ys.length := by omega
    obtain ⟨b, off, ⟨m', f', s', t'⟩, rfl, g1, g2, _, hyk, hc0, hc1, hc2, hc3⟩ := AUnion.at_ h' hkl
    obtain ⟨m, f, x, y, hm0, hf0, hml, hfl, hxm, hxf, v1, v2, v3, v4, _, v5, _⟩ := famOk_union ho hyk
    have hte : -1 ≤ t' ∧ (t' = -1 ∨ 0 ≤ t') := by simp only at v3; omega
    have HN := Lib.hid (show unionEndM xs ys k = endM x y ⟨m', f', s', t'⟩ by rw [unionEndM, if_pos ⟨by omega, by omega, ho⟩, Int.toNat_natCast, hyk]; exact endAt_of hm0 hf0 hxm hxf)
    rw [HN.out]
    simp only at hm0 hf0 hc0 hc1 hc2 hc3
    subst hm0; subst hf0
    clear ho hyk HN v1 v2 v3
    have HM := Lib.hid hxm; have HFF := Lib.hid hxf; clear hxm hxf
    have lb : b < w.heap.size := by omega
    have i1 : (0 : Int) ≤ (k : Int) ∧ (k : Int) < (ys.length : Int) := by omega
    have hX := h
    go_enter Try.func29, Try.ntmps29
    go_wp2_with (go_at_call 19; (with_reducible refine (specIsFamily_any _ _ _ _ lo hi xs ys _ (h.same (by (with_reducible repeat' first | exact Same.refl _ _ _ | assumption | (refine Same.setCell ?_ (by first | omega | (simp; omega) | (simp; done) | (dsimp only; omega)) _) | (refine Same.alloc ?_ (by first | omega | (simp; omega) | (simp; done) | (dsimp only; omega)) _) | (refine Same.drewN ?_ _) | (refine Same.drew ?_)))) (h'.same (by (with_reducible repeat' first | exact Same.refl _ _ _ | assumption | (refine Same.setCell ?_ (by first | omega | (simp; omega) | (simp; done) | (dsimp only; omega)) _) | (refine Same.alloc ?_ (by first | omega | (simp; omega) | (simp; done) | (dsimp only; omega)) _) | (refine Same.drewN ?_ _) | (refine Same.drew ?_)))) (by first | omega | (simp; omega) | (simp; done) | (dsimp only; omega)) hs).mono ?_); rintro e w1 ⟨rfl, hb1⟩; simp only [HO.out]; (obtain ⟨hb1c, hb1f⟩ := bcell hb1); (have hb1z := hb1.size); (try simp only [szs] at hb1c hb1f hb1z); have lt1 : w.heap.size < w1.heap.size := (by omega))
    have hbw : Below w.heap.size w w1 := by (with_reducible repeat' first | exact Below.refl _ _ | assumption | (refine Below.setCell ?_ (by first | omega | (simp; omega) | (simp; done) | (dsimp only; omega)) _) | (refine Below.alloc ?_ (by first | omega | (simp; omega) | (simp; done) | (dsimp only; omega)) _) | (refine below_drewN ?_ _) | (refine Below.drew ?_) | (refine Below.trans ?_ (hb1.mono (by first | omega | (simp; omega) | (simp; done) | (dsimp only; omega)))))
    have e0 : w1.cell? ⟨w.heap.size, 0, none⟩ = some (.slice A xs.length c) := by rw [hb1c _ _ (by omega)]; simp [go_sem]
    have e1 : w1.cell? ⟨w.heap.size, 1, none⟩ = some (.slice (some ⟨b, off, none⟩) ys.length d) := by rw [hb1c _ _ (by omega)]; simp [go_sem]
    replace hc0 := (hbw.cell (p := ⟨b, off + k * 4, none⟩) lb).trans hc0
    replace hc1 := (hbw.cell (p := ⟨b, off + k * 4 + 1, none⟩) lb).trans hc1
    replace hc2 := (hbw.cell (p := ⟨b, off + k * 4 + 2, none⟩) lb).trans hc2
    replace hc3 := (hbw.cell (p := ⟨b, off + k * 4 + 3, none⟩) lb).trans hc3
    replace hX := hX.same (Same.of_below hbw hh)
    replace h' := h'.same (Same.of_below hbw hh)
    have zw := hbw.size
    clear hb1 hb1c hb1f
    go_region_held3 (fun w' => w'.cell? ⟨w.heap.size, 0, none⟩ = some (.slice A xs.length c) ∧ w'.cell? ⟨w.heap.size, 1, none⟩ = some (.slice (some ⟨b, off, none⟩) ys.length d) ∧ w'.cell? ⟨b, off + k * 4, none⟩ = some (.int .i64 m) ∧ w'.cell? ⟨b, off + k * 4 + 1, none⟩ = some (.int .i64 f) ∧ w'.cell? ⟨b, off + k * 4 + 2, none⟩ = some (.int .i64 s') ∧ w'.cell? ⟨b, off + k * 4 + 3, none⟩ = some (.int .i64 t')) (exact ⟨e0, e1, hc0, hc1, hc2, hc3⟩)
      ((go_at_call 69; refine (l1End_any _ _ _ _ lo hi xs ys m f s' t' x y _ hX.drew h'.drew (by simp only [szs]; omega) HM.out HFF.out hte.2 v4 v5).mono ?_; rintro e w3 ⟨rfl, hb3⟩; replace hb3 := undrew hb3; replace e0 := (hb3.cell (by first | omega | (simp; omega) | (simp; done) | (dsimp only; omega))).trans e0; replace e1 := (hb3.cell (by first | omega | (simp; omega) | (simp; done) | (dsimp only; omega))).trans e1; replace hc0 := (hb3.cell (by first | omega | (simp; omega) | (simp; done) | (dsimp only; omega))).trans hc0; replace hc1 := (hb3.cell (by first | omega | (simp; omega) | (simp; done) | (dsimp only; omega))).trans hc1; replace hc2 := (hb3.cell (by first | omega | (simp; omega) | (simp; done) | (dsimp only; omega))).trans hc2; replace hc3 := (hb3.cell (by first | omega | (simp; omega) | (simp; done) | (dsimp only; omega))).trans hc3))
    go_wp2
    exact bodyPost_ret (v := .tuple #[.int .i64 (endM x y ⟨m, f, s', t'⟩).1, .bool (endM x y ⟨m, f, s', t'⟩).2]) (by simp [results, Try.results29, go_sem]) rfl ⟨rfl, by (with_reducible repeat' first | exact Below.refl _ _ | assumption | (refine Below.setCell ?_ (by first | omega | (simp; omega) | (simp; done) | (dsimp only; omega)) _) | (refine Below.alloc ?_ (by first | omega | (simp; omega) | (simp; done) | (dsimp only; omega)) _) | (refine below_drewN ?_ _) | (refine Below.drew ?_) | (refine Below.trans ?_ (hb3.mono (by first | omega | (simp; omega) | (simp; done) | (dsimp only; omega)))) | (refine Below.trans ?_ (hbw.mono (by first | omega | (simp; omega) | (simp; done) | (dsimp only; omega)))))⟩
end Go.Proofs.Ytkdgjbbjbghdnaa
