/-
  The kin types that lead from one person to another, in the reference.
-/
import Derived.Test.YtnnjilkjjdiblaaBetwM
namespace Go.Proofs.Ytnnjilkjjdiblaa
set_option maxRecDepth 100000
open Go.RowKit

set_option maxHeartbeats 8000000 in
theorem specTypesBetween_any (A B : Option Addr) (c d lo hi : Nat) (xs : List Person) (ys : List Union) (a b n : Int) (w : World) (h : EPerson.AS w lo hi A xs) (h' : EUnion.AS w lo hi B ys) (hh : hi ≤ w.heap.size) (hs : totP xs ≤ 1048576) :
    Calls Try.prog 63 #[.agg #[.slice A xs.length c, .slice B ys.length d], .int .i64 a, .int .i64 b, .int .i64 n] w (RetKins w (betwM xs ys a b n)) := by
  cases ho : (hasOk xs ys a && hasOk xs ys b) with
  | false =>
    have HN := Lib.hid (betwM_out (n := n) ho)
    rw [HN.out]
    cases hoa : hasOk xs ys a with
    | false =>
      have HA := Lib.hid hoa
      clear ho hoa
      go_enter Try.func63, Try.ntmps63
      go_wp2_with (go_at_call 105; (with_reducible refine (l1Has_any _ _ _ _ lo hi xs ys a _ (h.same (by (with_reducible repeat' first | exact Same.refl _ _ _ | assumption | (refine Same.setCell ?_ (by first | omega | (simp; omega) | (simp; done) | (dsimp only; omega)) _) | (refine Same.alloc ?_ (by first | omega | (simp; omega) | (simp; done) | (dsimp only; omega)) _) | (refine Same.drewN ?_ _) | (refine Same.drew ?_)))) (h'.same (by (with_reducible repeat' first | exact Same.refl _ _ _ | assumption | (refine Same.setCell ?_ (by first | omega | (simp; omega) | (simp; done) | (dsimp only; omega)) _) | (refine Same.alloc ?_ (by first | omega | (simp; omega) | (simp; done) | (dsimp only; omega)) _) | (refine Same.drewN ?_ _) | (refine Same.drew ?_)))) (by first | omega | (simp; omega) | (simp; done) | (dsimp only; omega)) hs).mono ?_); rintro e w1 ⟨rfl, hb1⟩; simp only [HA.out]; (obtain ⟨hb1c, hb1f⟩ := bcell hb1); (have hb1z := hb1.size); (try simp only [szs] at hb1c hb1f hb1z))
      go_ret
      exact RetKins.nil (by (with_reducible repeat' first | exact Below.refl _ _ | assumption | (refine Below.setCell ?_ (by first | omega | (simp; omega) | (simp; done) | (dsimp only; omega)) _) | (refine Below.alloc ?_ (by first | omega | (simp; omega) | (simp; done) | (dsimp only; omega)) _) | (refine below_drewN ?_ _) | (refine Below.drew ?_) | (refine Below.trans ?_ (hb1.mono (by first | omega | (simp; omega) | (simp; done) | (dsimp only; omega))))))
    | true =>
      have hob : hasOk xs ys b = false := by rw [hoa] at ho; simpa using ho
      have HA := Lib.hid hoa; have HB := Lib.hid hob
      clear ho hoa hob
      go_enter Try.func63, Try.ntmps63
      go_wp2_with (first
        | (go_at_call 105; (with_reducible refine (l1Has_any _ _ _ _ lo hi xs ys a _ (h.same (by (with_reducible repeat' first | exact Same.refl _ _ _ | assumption | (refine Same.setCell ?_ (by first | omega | (simp; omega) | (simp; done) | (dsimp only; omega)) _) | (refine Same.alloc ?_ (by first | omega | (simp; omega) | (simp; done) | (dsimp only; omega)) _) | (refine Same.drewN ?_ _) | (refine Same.drew ?_)))) (h'.same (by (with_reducible repeat' first | exact Same.refl _ _ _ | assumption | (refine Same.setCell ?_ (by first | omega | (simp; omega) | (simp; done) | (dsimp only; omega)) _) | (refine Same.alloc ?_ (by first | omega | (simp; omega) | (simp; done) | (dsimp only; omega)) _) | (refine Same.drewN ?_ _) | (refine Same.drew ?_)))) (by first | omega | (simp; omega) | (simp; done) | (dsimp only; omega)) hs).mono ?_); rintro e w1 ⟨rfl, hb1⟩; simp only [HA.out]; (obtain ⟨hb1c, hb1f⟩ := bcell hb1); (have hb1z := hb1.size); (try simp only [szs] at hb1c hb1f hb1z); have lt1 : w.heap.size < w1.heap.size := (by omega))
        | (go_at_call 105; (with_reducible refine (l1Has_any _ _ _ _ lo hi xs ys b _ (h.same (by (with_reducible repeat' first | exact Same.refl _ _ _ | assumption | (refine Same.setCell ?_ (by first | omega | (simp; omega) | (simp; done) | (dsimp only; omega)) _) | (refine Same.alloc ?_ (by first | omega | (simp; omega) | (simp; done) | (dsimp only; omega)) _) | (refine Same.drewN ?_ _) | (refine Same.drew ?_) | (refine Same.trans ?_ (Same.of_below hb1 (by first | omega | (simp; omega) | (simp; done) | (dsimp only; omega))))))) (h'.same (by (with_reducible repeat' first | exact Same.refl _ _ _ | assumption | (refine Same.setCell ?_ (by first | omega | (simp; omega) | (simp; done) | (dsimp only; omega)) _) | (refine Same.alloc ?_ (by first | omega | (simp; omega) | (simp; done) | (dsimp only; omega)) _) | (refine Same.drewN ?_ _) | (refine Same.drew ?_) | (refine Same.trans ?_ (Same.of_below hb1 (by first | omega | (simp; omega) | (simp; done) | (dsimp only; omega))))))) (by first | omega | (simp; omega) | (simp; done) | (dsimp only; omega)) hs).mono ?_); rintro e w2 ⟨rfl, hb2⟩; simp only [HB.out]; (obtain ⟨hb2c, hb2f⟩ := bcell hb2); (have hb2z := hb2.size); (try simp only [szs] at hb2c hb2f hb2z)))
      go_ret
      exact RetKins.nil (by (with_reducible repeat' first | exact Below.refl _ _ | assumption | (refine Below.setCell ?_ (by first | omega | (simp; omega) | (simp; done) | (dsimp only; omega)) _) | (refine Below.alloc ?_ (by first | omega | (simp; omega) | (simp; done) | (dsimp only; omega)) _) | (refine below_drewN ?_ _) | (refine Below.drew ?_) | (refine Below.trans ?_ (hb2.mono (by first | omega | (simp; omega) | (simp; done) | (dsimp only; omega)))) | (refine Below.trans ?_ (hb1.mono (by first | omega | (simp; omega) | (simp; done) | (dsimp only; omega))))))
  | true =>
    have hoa : hasOk xs ys a = true := (Bool.and_eq_true _ _ ▸ ho : hasOk xs ys a = true ∧ hasOk xs ys b = true).1
    have hob : hasOk xs ys b = true := (Bool.and_eq_true _ _ ▸ ho : hasOk xs ys a = true ∧ hasOk xs ys b = true).2
    obtain ⟨hfam, p1, p2⟩ := hasOk_fam hoa
    obtain ⟨_, p3, p4⟩ := hasOk_fam hob
    obtain ⟨a, rfl⟩ := Int.eq_ofNat_of_zero_le p1
    obtain ⟨b, rfl⟩ := Int.eq_ofNat_of_zero_le p3
    have HA := Lib.hid hoa; have HB := Lib.hid hob
    have ha : a < xs.length := by omega
    have hb : b < xs.length := by omega
    have hn := (famOk_parts hfam).1
    obtain ⟨ba, off, ⟨x0, x1, x2, x3, x4, x5⟩, rfl, f1, f2, _, hxk, hc0, hc1, hc2, hc3, hc4, hc5⟩ := APerson.at_ h ha
    simp only at hc1
    have HN := Lib.hid (betwM_in (n := n) ho hxk)
    clear ho hoa hob hfam hxk hc0 hc2 hc3 hc4 hc5
    have hPX := Lib.hid h; have hPY := Lib.hid h'
    simp only at HN
    rw [HN.out]
    go_enter Try.func63, Try.ntmps63
    go_upto_region 3 with (first
      | (go_at_call 105; (with_reducible refine (l1Has_any _ _ _ _ lo hi xs ys (a : Int) _ (h.same (by (with_reducible repeat' first | exact Same.refl _ _ _ | assumption | (refine Same.setCell ?_ (by first | omega | (simp; omega) | (simp; done) | (dsimp only; omega)) _) | (refine Same.alloc ?_ (by first | omega | (simp; omega) | (simp; done) | (dsimp only; omega)) _) | (refine Same.drewN ?_ _) | (refine Same.drew ?_)))) (h'.same (by (with_reducible repeat' first | exact Same.refl _ _ _ | assumption | (refine Same.setCell ?_ (by first | omega | (simp; omega) | (simp; done) | (dsimp only; omega)) _) | (refine Same.alloc ?_ (by first | omega | (simp; omega) | (simp; done) | (dsimp only; omega)) _) | (refine Same.drewN ?_ _) | (refine Same.drew ?_)))) (by first | omega | (simp; omega) | (simp; done) | (dsimp only; omega)) hs).mono ?_); rintro e w0 ⟨rfl, hb0⟩; simp only [HA.out]; (obtain ⟨hb0c, hb0f⟩ := bcell hb0); (have hb0z := hb0.size); (try simp only [szs] at hb0c hb0f hb0z); have lt0 : w.heap.size < w0.heap.size := (by omega))
      | (go_at_call 105; (with_reducible refine (l1Has_any _ _ _ _ lo hi xs ys (b : Int) _ (h.same (by (with_reducible repeat' first | exact Same.refl _ _ _ | assumption | (refine Same.setCell ?_ (by first | omega | (simp; omega) | (simp; done) | (dsimp only; omega)) _) | (refine Same.alloc ?_ (by first | omega | (simp; omega) | (simp; done) | (dsimp only; omega)) _) | (refine Same.drewN ?_ _) | (refine Same.drew ?_) | (refine Same.trans ?_ (Same.of_below hb0 (by first | omega | (simp; omega) | (simp; done) | (dsimp only; omega))))))) (h'.same (by (with_reducible repeat' first | exact Same.refl _ _ _ | assumption | (refine Same.setCell ?_ (by first | omega | (simp; omega) | (simp; done) | (dsimp only; omega)) _) | (refine Same.alloc ?_ (by first | omega | (simp; omega) | (simp; done) | (dsimp only; omega)) _) | (refine Same.drewN ?_ _) | (refine Same.drew ?_) | (refine Same.trans ?_ (Same.of_below hb0 (by first | omega | (simp; omega) | (simp; done) | (dsimp only; omega))))))) (by first | omega | (simp; omega) | (simp; done) | (dsimp only; omega)) hs).mono ?_); rintro e w1 ⟨rfl, hb1⟩; simp only [HB.out]))
    have r1 : Blk w1 w.heap.size 26 #[.slice (some ⟨ba, off, none⟩) xs.length c, .slice B ys.length d] := ((Blk.new w rfl).below hb0 (by simp)).below hb1 lt0
    have hbw : Below w.heap.size w w1 := by (with_reducible repeat' first | exact Below.refl _ _ | assumption | (refine Below.setCell ?_ (by first | omega | (simp; omega) | (simp; done) | (dsimp only; omega)) _) | (refine Below.alloc ?_ (by first | omega | (simp; omega) | (simp; done) | (dsimp only; omega)) _) | (refine below_drewN ?_ _) | (refine Below.drew ?_) | (refine Below.trans ?_ (hb1.mono (by first | omega | (simp; omega) | (simp; done) | (dsimp only; omega)))) | (refine Below.trans ?_ (hb0.mono (by first | omega | (simp; omega) | (simp; done) | (dsimp only; omega)))))
    have z1 : w.heap.size + 1 ≤ w1.heap.size := by have := hb1.size; omega
    have lr1 := r1.lt
    clear hb0 hb0c hb0f hb0z hb1 lt0 h h'
    go_upto_region 4 with fail
    generalize hW2 : w1.alloc (.cells #[] 30) = w2
    have r2 : Blk w2 w.heap.size 26 #[.slice (some ⟨ba, off, none⟩) xs.length c, .slice B ys.length d] := by subst hW2; exact r1.alloc _
    have hmade : OSl w2 w1.heap.size w2.heap.size EKin.e EKin.sz (.slice (some ⟨w1.heap.size, 0, none⟩) 0 0) 0 [] := by
      subst hW2
      exact ⟨World.ownsRow_made w1 #[] 0 (Nat.le_refl _) (by simp) (by simp), fun k hk => by simp [Value.ownBlock] at hk; simp; omega, by simp⟩
    have hb2 : Below w1.heap.size w1 w2 := by subst hW2; (with_reducible repeat' first | exact Below.refl _ _ | assumption | (refine Below.setCell ?_ (by first | omega | (simp; omega) | (simp; done) | (dsimp only; omega)) _) | (refine Below.alloc ?_ (by first | omega | (simp; omega) | (simp; done) | (dsimp only; omega)) _) | (refine below_drewN ?_ _) | (refine Below.drew ?_))
    have z2 : w1.heap.size + 1 = w2.heap.size := by subst hW2; simp
    clear hW2 r1
    have hbw2 := hbw.trans (hb2.mono (by omega))
    have u0 := r2.cell (i := 0) rfl; have u1 := r2.cell (i := 1) rfl
    have hc2' := (hbw2.cell (p := ⟨ba, off + a * 6 + 1, none⟩) (by simp; omega)).trans hc1
    have lr2 := r2.lt
    have lb2 : ba < w2.heap.size := by omega
    have i1 : (0 : Int) ≤ (a : Int) ∧ (a : Int) < (xs.length : Int) := by omega
    have i3 : (0 : Int) ≤ (b : Int) ∧ (b : Int) < (xs.length : Int) := by omega
    clear hb2 hc1
    go_upto_region 5 with (go_at_call 32; (with_reducible refine (specTypesFrom_any x1 n _).mono ?_); rintro e w3 ⟨T, ct, rfl, hts, hb3⟩)
    have z3 := hb3.size
    have r3 := r2.below hb3 lr2
    have hmade3 := hmade.same (Same.of_below hb3 (Nat.le_refl _))
    have hbw3 := hbw2.trans (hb3.mono (by omega))
    have hX3 := hPX.out.same (Same.of_below hbw3 hh)
    have hY3 := hPY.out.same (Same.of_below hbw3 hh)
    have HM := Lib.hid (fun (t : KinType) (h : t ∈ fromM x1 n) => fromM_mem h)
    have hbd := (fromM_bounds x1 n).1
    clear hc2' u0 u1 r2 lr2 hb3 hmade
    obtain ⟨ts, htse⟩ : ∃ ts, fromM x1 n = ts := ⟨_, rfl⟩
    rw [htse] at hts HM hbd ⊢
    have HTE := Lib.hid htse
    clear htse
    obtain ⟨css, k1, k2, k3⟩ := hts
    have HK2 := Lib.hid k2
    go_loopw [9, 32] (fun v i wr => ∃ j : Nat, j ≤ ts.length ∧ i = .int .i64 j ∧ Chosen ts css (betwP xs ys a b) w1.heap.size w2.heap.size w3.heap.size w3 j v wr) (fun _ i _ => ts.length - (intOf i).toNat)
    case atStart => exact ⟨0, Nat.zero_le _, rfl, ⟨⟨some ⟨w1.heap.size, 0, none⟩, 0, [], by simp, (hmade3.mono (Nat.le_refl _) z3 : OSl w3 w1.heap.size w3.heap.size EKin.e EKin.sz (.slice (some ⟨w1.heap.size, 0, none⟩) 0 0) 0 []), by simpa using Elem.OL.nil, by simp⟩, fun b hb => by simp [Value.ownBlock] at hb; omega, Same.refl _ _ _, Below.refl _ _⟩⟩
    case round =>
      obtain ⟨j, hj, rfl, hch⟩ := hrel
      have zr := hch.same.size
      have hflt := List.length_filter_le (betwP xs ys a b) (ts.take j)
      rw [List.length_take] at hflt
      obtain ⟨A0, c0, oss, hv0, hO, hL, hI⟩ := hch.own
      obtain ⟨fs, hfs⟩ : ∃ fs, (ts.take j).filter (betwP xs ys a b) = fs := ⟨_, rfl⟩
      rw [hfs] at hv0 hO hL hflt
      have HFS := Lib.hid hfs
      subst hv0
      clear hfs
      by_cases hlt : j < ts.length
      · obtain ⟨⟨t0, t1⟩, htj⟩ := getSome hlt
        obtain ⟨cs, hcs, v1, hcse, hv1⟩ := HK2.out.at_ j _ htj
        obtain ⟨A1, c1, rfl, _, _, hst⟩ := hv1.read.open_
        subst hcse
        obtain ⟨gT, cT, hv, g1, g2, g3⟩ := k1.form (by omega)
        injection hv with hv _ hcT
        subst hv; subst hcT
        have hd0 := (k1.cell (flatten_at HK2.out.read.sizes hcs (j := 0) (u := .int .i64 t0) rfl)).1
        have hd1 := (k1.cell (flatten_at HK2.out.read.sizes hcs (j := 1) (u := .slice A1 t1.length c1) rfl)).1
        simp only [EKin, Nat.add_zero] at hd0 hd1
        replace hd0 := (hch.same.cell (p := ⟨gT, j * 2, none⟩) g1 g2).trans hd0
        replace hd1 := (hch.same.cell (p := ⟨gT, j * 2 + 1, none⟩) g1 g2).trans hd1
        obtain ⟨m1, -, -, -, -⟩ := HM.out _ (List.mem_of_getElem? htj)
        simp only at hst
        have lT : gT < wr.heap.size := by omega
        have i2 : (0 : Int) ≤ (j : Int) ∧ (j : Int) < (ts.length : Int) := by omega
        have hstr := hst.same hch.same
        have hXr := hX3.same (Same.of_below hch.below (by omega))
        have hYr := hY3.same (Same.of_below hch.below (by omega))
        have rr := r3.below hch.below (by omega)
        have u0 := rr.cell (i := 0) rfl; have u1 := rr.cell (i := 1) rfl
        have lwr := rr.lt
        have HCS := Lib.hid hcs
        have HTJ := Lib.hid htj
        have HM1 := Lib.hid m1
        clear m1 hcs htj
        cases hp : betwP xs ys a b ⟨t0, t1⟩ with
        | false =>
          have HPF := Lib.hid hp
          have HW := Lib.hid (show waysP xs ys ⟨t0, t1⟩ t1.length a b = false from hp)
          clear hp
          go_wp2_with (go_at_call 146; (with_reducible refine (l3Relatives_any _ _ _ _ _ _ lo hi w2.heap.size w3.heap.size xs ys t0 t1 a _ (hXr.same (by (with_reducible repeat' first | exact Same.refl _ _ _ | assumption | (refine Same.setCell ?_ (by first | omega | (simp; omega) | (simp; done) | (dsimp only; omega)) _) | (refine Same.alloc ?_ (by first | omega | (simp; omega) | (simp; done) | (dsimp only; omega)) _) | (refine Same.drewN ?_ _) | (refine Same.drew ?_)))) (hYr.same (by (with_reducible repeat' first | exact Same.refl _ _ _ | assumption | (refine Same.setCell ?_ (by first | omega | (simp; omega) | (simp; done) | (dsimp only; omega)) _) | (refine Same.alloc ?_ (by first | omega | (simp; omega) | (simp; done) | (dsimp only; omega)) _) | (refine Same.drewN ?_ _) | (refine Same.drew ?_)))) (hstr.same (by (with_reducible repeat' first | exact Same.refl _ _ _ | assumption | (refine Same.setCell ?_ (by first | omega | (simp; omega) | (simp; done) | (dsimp only; omega)) _) | (refine Same.alloc ?_ (by first | omega | (simp; omega) | (simp; done) | (dsimp only; omega)) _) | (refine Same.drewN ?_ _) | (refine Same.drew ?_)))) (by first | omega | (simp; omega) | (simp; done) | (dsimp only; omega)) (by first | omega | (simp; omega) | (simp; done) | (dsimp only; omega)) ha hn HM1.out).mono ?_); rintro e w5 ⟨A5, c5, rfl, ho5, hb5⟩; (obtain ⟨gr, og, rfl, g5, g6, hcb⟩ := row1_read ho5.read.as hb); rw [HW.out] at hcb; (have lg : gr < w5.heap.size := by omega); (have hb5' : Below wr.heap.size wr w5 := by (with_reducible repeat' first | exact Below.refl _ _ | assumption | (refine Below.setCell ?_ (by first | omega | (simp; omega) | (simp; done) | (dsimp only; omega)) _) | (refine Below.alloc ?_ (by first | omega | (simp; omega) | (simp; done) | (dsimp only; omega)) _) | (refine below_drewN ?_ _) | (refine Below.drew ?_) | (refine Below.trans ?_ (hb5.mono (by first | omega | (simp; omega) | (simp; done) | (dsimp only; omega)))))))
          exact ⟨⟨j + 1, by omega, by go_num, hch.skip HTJ.out HPF.out hb5' (by omega) (by omega)⟩, by simp [intOf]; omega⟩
        | true =>
          have HPT := Lib.hid hp
          have HW := Lib.hid (show waysP xs ys ⟨t0, t1⟩ t1.length a b = true from hp)
          clear hp
          have HF := Lib.hid (filter_yes HTJ.out HPT.out)
          go_upto_region 8 with (go_at_call 146; (with_reducible refine (l3Relatives_any _ _ _ _ _ _ lo hi w2.heap.size w3.heap.size xs ys t0 t1 a _ (hXr.same (by (with_reducible repeat' first | exact Same.refl _ _ _ | assumption | (refine Same.setCell ?_ (by first | omega | (simp; omega) | (simp; done) | (dsimp only; omega)) _) | (refine Same.alloc ?_ (by first | omega | (simp; omega) | (simp; done) | (dsimp only; omega)) _) | (refine Same.drewN ?_ _) | (refine Same.drew ?_)))) (hYr.same (by (with_reducible repeat' first | exact Same.refl _ _ _ | assumption | (refine Same.setCell ?_ (by first | omega | (simp; omega) | (simp; done) | (dsimp only; omega)) _) | (refine Same.alloc ?_ (by first | omega | (simp; omega) | (simp; done) | (dsimp only; omega)) _) | (refine Same.drewN ?_ _) | (refine Same.drew ?_)))) (hstr.same (by (with_reducible repeat' first | exact Same.refl _ _ _ | assumption | (refine Same.setCell ?_ (by first | omega | (simp; omega) | (simp; done) | (dsimp only; omega)) _) | (refine Same.alloc ?_ (by first | omega | (simp; omega) | (simp; done) | (dsimp only; omega)) _) | (refine Same.drewN ?_ _) | (refine Same.drew ?_)))) (by first | omega | (simp; omega) | (simp; done) | (dsimp only; omega)) (by first | omega | (simp; omega) | (simp; done) | (dsimp only; omega)) ha hn HM1.out).mono ?_); rintro e w5 ⟨A5, c5, rfl, ho5, hb5⟩; (obtain ⟨gr, og, rfl, g5, g6, hcb⟩ := row1_read ho5.read.as hb); rw [HW.out] at hcb; (have lg : gr < w5.heap.size := by omega))
          have hb5' : Below wr.heap.size wr w5 := by (with_reducible repeat' first | exact Below.refl _ _ | assumption | (refine Below.setCell ?_ (by first | omega | (simp; omega) | (simp; done) | (dsimp only; omega)) _) | (refine Below.alloc ?_ (by first | omega | (simp; omega) | (simp; done) | (dsimp only; omega)) _) | (refine below_drewN ?_ _) | (refine Below.drew ?_) | (refine Below.trans ?_ (hb5.mono (by first | omega | (simp; omega) | (simp; done) | (dsimp only; omega)))))
          have r5 : Blk w5 wr.heap.size 30 #[.int .i64 t0, .slice A1 t1.length c1] := (Blk.new wr rfl).below hb5 (by simp)
          have s0 := r5.cell (i := 0) rfl; have s1 := r5.cell (i := 1) rfl
          have lr5 := r5.lt
          have z5 := hb5'.size
          have hO5 := (hO.same (Same.of_below hb5' (Nat.le_refl _)))
          have HB5 := Lib.hid hb5'
          clear hb5 hb5' hd0 hd1 hcb
          go_wp2_with (at_builtin; refine wpList_appShare tyKinS A0 [.int .i64 t0, .slice A1 t1.length c1] ⟨w5.heap.size, 0, none⟩ 1 (lo := w1.heap.size) (hv := wr.heap.size) (oss := oss) (hO5.same (by (with_reducible repeat' first | exact Same.refl _ _ _ | assumption | (refine Same.setCell ?_ (by first | omega | (simp; omega) | (simp; done) | (dsimp only; omega)) _) | (refine Same.alloc ?_ (by first | omega | (simp; omega) | (simp; done) | (dsimp only; omega)) _) | (refine Same.drewN ?_ _) | (refine Same.drew ?_)))) (by simp; omega) rfl _ _ rfl rfl rfl rfl (cell_row_at _ #[.int .i64 t0, .slice A1 t1.length c1] _ _ rfl) (by simp; exact ⟨rfl, rfl⟩) (by omega) (by decide) (fun A' c' w6 ho6 hg6 hv6 => ?_))
          have hsm : Same w2.heap.size w3.heap.size wr w6 := ((Same.of_below HB5.out zr).alloc (by omega) _).trans (Same.of_grown hg6 (by simp; omega) (fun k hk => hch.far k hk))
          have hlen : ((ts.take (j + 1)).filter (betwP xs ys a b)).length = fs.length + 1 := by rw [HF.out, HFS.out]; simp
          have hfe : (ts.take (j + 1)).filter (betwP xs ys a b) = fs ++ [⟨t0, t1⟩] := by rw [HF.out, HFS.out]
          refine ⟨⟨j + 1, by omega, by go_num, ⟨⟨A', c', oss ++ [vsTyp ⟨t0, t1⟩ (.slice A1 t1.length c1)], by rw [hlen], by rw [hlen]; exact ho6, ?_, fun cs hcs => ?_⟩, fun k hk => ?_, hch.same.trans hsm, ?_⟩⟩, by simp [intOf]; omega⟩
          · rw [hfe]
            refine (hL.same hsm).snoc2 (EKin.sameO ⟨_, rfl, hv1⟩ (hch.same.trans hsm)) fun c hc k hk => ?_
            obtain ⟨i, hi, he⟩ := hI c hc
            exact HK2.out.apart i j c _ k (by omega) he HCS.out hk
          · rcases List.mem_append.1 hcs with hcs | hcs
            · obtain ⟨i, hi, he⟩ := hI cs hcs; exact ⟨i, by omega, he⟩
            · simp at hcs; subst hcs; exact ⟨j, by omega, HCS.out⟩
          · rcases hv6 with e | e
            · rw [e] at hk; exact hch.far k hk
            · rw [e] at hk; simp at hk; omega
          · exact Below.grown (w := w5.alloc _) (by have hq := HB5.out; have hq2 := hch.below; (with_reducible repeat' first | exact Below.refl _ _ | assumption | (refine Below.setCell ?_ (by first | omega | (simp; omega) | (simp; done) | (dsimp only; omega)) _) | (refine Below.alloc ?_ (by first | omega | (simp; omega) | (simp; done) | (dsimp only; omega)) _) | (refine below_drewN ?_ _) | (refine Below.drew ?_) | (refine Below.trans ?_ (hq.mono (by first | omega | (simp; omega) | (simp; done) | (dsimp only; omega)))) | (refine Below.trans ?_ (hq2.mono (by first | omega | (simp; omega) | (simp; done) | (dsimp only; omega)))))) hg6 (by simp; omega) (fun k hk => (hO.1.lt k hk).1)
      · obtain rfl : j = ts.length := by omega
        have hos := hch.os (B := w.heap.size) (by omega) (by omega) (by omega)
        have hfs := HFS.out
        rw [List.take_length] at hos hfs
        rw [hfs] at hos
        have HF := Lib.hid hfs
        clear hfs
        go_wp2
        go_ret
        exact ⟨A0, c0, by rw [HTE.out, HF.out]; rfl, by rw [HTE.out, HF.out]; exact hos, hbw3.trans (hch.below.mono (by omega))⟩
end Go.Proofs.Ytnnjilkjjdiblaa
