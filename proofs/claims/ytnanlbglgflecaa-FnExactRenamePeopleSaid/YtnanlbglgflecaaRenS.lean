/-
  Persons with other names, in the reference and in the program.
-/
import Derived.Test.YtnanlbglgflecaaRename
import Derived.Test.YtnanlbglgflecaaCopyFam
import Derived.Test.YtnanlbglgflecaaJoinT
import Derived.Test.YtnanlbglgflecaaConvStr
import Derived.Test.YtnanlbglgflecaaFamilyS
import Derived.Test.YtnanlbglgflecaaFamilyI
import Derived.Test.YtnanlbglgflecaaHas
namespace Go.Proofs.Ytnanlbglgflecaa
set_option maxRecDepth 100000
open Go.RowKit

theorem OSf_cap {α : Type} {E : Elem α} {w : World} {lo hi n c : Nat} {A : Option Addr} {xs : List α} (h : E.OS w lo hi (.slice A n c) xs) : n ≤ c ∧ c ≤ maxLen := by
  obtain ⟨A', c', he, h1, h2, _⟩ := h.read
  injection he with e1 e2 e3
  subst e1; subst e3
  exact ⟨by omega, h2⟩
theorem totP_ren : ∀ (xs : List Person) (ns : List ByteArray), ns.length = xs.length → totP (renTo xs ns ns.length) = totS ns
  | [], [], _ => rfl
  | [], _ :: _, h => by simp at h
  | _ :: _, [], h => by simp at h
  | x :: r, s :: t, h => by
    have ih := totP_ren r t (by simpa using h)
    simp only [List.length_cons, renTo, totP, totS, ih, named]
theorem renameM_len (xs : List Person) (ys : List Union) (ns : List ByteArray) : (renameM xs ys ns).1.people.length ≤ 40 ∧ (renameM xs ys ns).1.unions.length ≤ 60 := by
  unfold renameM
  split
  · rename_i h
    have := famOk_parts h.1
    simp only [renTo_len]
    exact ⟨this.1, this.2.1⟩
  · simp
def RenRel (xs : List Person) (ns : List ByteArray) (lo hi : Nat) (v : Value) (W : World) (i : Value) (wr : World) : Prop :=
  ∃ k : Nat, k ≤ ns.length ∧ i = .int .i64 k ∧ EPerson.OS wr lo hi v (renTo xs ns k) ∧ Only (fun b => v.ownBlock = some b) W wr ∧ wr.heap.size = W.heap.size
set_option maxHeartbeats 4000000 in
theorem specRenamePeople_any (A B P : Option Addr) (c d e1 lo hi lo2 hi2 : Nat) (xs : List Person) (ys : List Union) (ns : List ByteArray) (w : World) (h : EPerson.AS w lo hi A xs) (h' : EUnion.AS w lo hi B ys) (hP : EString.AS w lo2 hi2 P ns) (hh : hi ≤ w.heap.size) (hh2 : hi2 ≤ w.heap.size) (_hdc : ys.length ≤ d ∧ d ≤ maxLen) (hs : totP xs ≤ 1048576) (hs2 : totS ns ≤ 1048576) :
    Calls Try.prog 44 #[.agg #[.slice A xs.length c, .slice B ys.length d], .slice P ns.length e1] w (RetFamB w (renameM xs ys ns)) := by
  have hx := h.le
  have hpl := hP.le
  unfold BIG at hx hpl
  by_cases hq : famOk xs ys = true ∧ ns.length = xs.length
  · obtain ⟨ho, hn⟩ := hq
    have HO := Lib.hid ho
    have HNL := Lib.hid hn
    have n1 : ((ns.length : Int) == (xs.length : Int)) = true := by simp [hn]
    have n2 : ((ns.length : Int) != (xs.length : Int)) = false := by simp [hn]
    obtain ⟨q1, q2, _, _⟩ := famOk_parts ho
    clear ho hn
    go_enter Try.func44, Try.ntmps44
    go_wp2_with fail
    generalize hW : (w.alloc (.cells #[.slice A xs.length c, .slice B ys.length d] 66)).alloc (.cells #[.slice none 0 0, .slice none 0 0] 66) = W
    have a0 : W.cell? ⟨w.heap.size, 0, none⟩ = some (.slice A xs.length c) := by subst hW; simp [go_sem]
    have a1 : W.cell? ⟨w.heap.size, 1, none⟩ = some (.slice B ys.length d) := by subst hW; simp [go_sem]
    have R : Blk W (w.heap.size + 1) 66 #[.slice none 0 0, .slice none 0 0] := by subst hW; exact Blk.new _ (by simp)
    have hb : Below w.heap.size w W := by subst hW; (with_reducible repeat' first | exact Below.refl _ _ | assumption | (refine Below.setCell ?_ (by first | omega | (simp; omega) | (simp; done) | (dsimp only; omega)) _) | (refine Below.alloc ?_ (by first | omega | (simp; omega) | (simp; done) | (dsimp only; omega)) _) | (refine below_drewN ?_ _) | (refine Below.drew ?_))
    have z0 : w.heap.size + 1 + 1 ≤ W.heap.size := by subst hW; simp
    clear hW
    replace h := h.same (Same.of_below hb hh); replace h' := h'.same (Same.of_below hb hh); replace hP := hP.same (Same.of_below hb hh2)
    refine (specIsFamily_any A B c d lo hi xs ys _ h h' (by first | omega | (simp; omega) | (simp; done) | (dsimp only; omega)) hs).mono ?_
    rintro e w1 ⟨rfl, hb1⟩
    simp only [HO.out]
    replace R := R.below hb1 (by first | omega | (simp; omega) | (simp; done) | (dsimp only; omega))
    (replace a0 := (hb1.cell (by first | omega | (simp; omega) | (simp; done) | (dsimp only; omega))).trans a0; replace a1 := (hb1.cell (by first | omega | (simp; omega) | (simp; done) | (dsimp only; omega))).trans a1; replace h := h.same (Same.of_below hb1 (by first | omega | (simp; omega) | (simp; done) | (dsimp only; omega))); replace h' := h'.same (Same.of_below hb1 (by first | omega | (simp; omega) | (simp; done) | (dsimp only; omega))); replace hP := hP.same (Same.of_below hb1 (by first | omega | (simp; omega) | (simp; done) | (dsimp only; omega))); replace hb := hb.trans (hb1.mono (by first | omega | (simp; omega) | (simp; done) | (dsimp only; omega))); replace z0 := Nat.le_trans z0 hb1.size; have zhb1 := hb1.size; clear hb1)
    have lw : w.heap.size < w1.heap.size := by omega
    have lw1 : w.heap.size + 1 < w1.heap.size := by omega
    go_wp2_with fail
    refine (l1Copy_any A B c d lo hi xs ys _ h h' (by first | omega | (simp; omega) | (simp; done) | (dsimp only; omega)) (by omega) (by omega)).mono ?_
    rintro e w2 ⟨A2, c2, B2, d2, rfl, o2, u2, hb2⟩
    have hlo1 := Lib.hid (show w.heap.size ≤ w1.heap.size by omega)
    replace R := R.below hb2 (by first | omega | (simp; omega) | (simp; done) | (dsimp only; omega))
    have z2 := hb2.size
    (replace a0 := (hb2.cell (by first | omega | (simp; omega) | (simp; done) | (dsimp only; omega))).trans a0; replace a1 := (hb2.cell (by first | omega | (simp; omega) | (simp; done) | (dsimp only; omega))).trans a1; replace h := h.same (Same.of_below hb2 (by first | omega | (simp; omega) | (simp; done) | (dsimp only; omega))); replace h' := h'.same (Same.of_below hb2 (by first | omega | (simp; omega) | (simp; done) | (dsimp only; omega))); replace hP := hP.same (Same.of_below hb2 (by first | omega | (simp; omega) | (simp; done) | (dsimp only; omega))); replace hb := hb.trans (hb2.mono (by first | omega | (simp; omega) | (simp; done) | (dsimp only; omega))); replace z0 := Nat.le_trans z0 hb2.size; have zhb2 := hb2.size; clear hb2)
    have lw2 : w.heap.size + 1 < w2.heap.size := by omega
    go_wp2
    generalize hW3 : w2.alloc (.cells #[.slice A2 xs.length c2, .slice B2 ys.length d2] 66) = W3
    have O : Blk W3 w2.heap.size 66 #[.slice A2 xs.length c2, .slice B2 ys.length d2] := by subst hW3; exact Blk.new _ rfl
    have hb3 : Below w2.heap.size w2 W3 := by subst hW3; (with_reducible repeat' first | exact Below.refl _ _ | assumption | (refine Below.setCell ?_ (by first | omega | (simp; omega) | (simp; done) | (dsimp only; omega)) _) | (refine Below.alloc ?_ (by first | omega | (simp; omega) | (simp; done) | (dsimp only; omega)) _) | (refine below_drewN ?_ _) | (refine Below.drew ?_))
    have z3 : W3.heap.size = w2.heap.size + 1 := by subst hW3; simp
    clear hW3
    have HZ3 := Lib.hid z3
    have z3' : w2.heap.size + 1 ≤ W3.heap.size := by omega
    clear z3
    replace R := R.below hb3 (by first | omega | (simp; omega) | (simp; done) | (dsimp only; omega))
    replace o2 := o2.same (Same.of_below hb3 (Nat.le_refl _)); replace u2 := u2.same (Same.of_below hb3 (Nat.le_refl _))
    replace hP := hP.same (Same.of_below hb3 (by first | omega | (simp; omega) | (simp; done) | (dsimp only; omega)))
    replace hb : Below w.heap.size w W3 := by (with_reducible repeat' first | exact Below.refl _ _ | assumption | (refine Below.setCell ?_ (by first | omega | (simp; omega) | (simp; done) | (dsimp only; omega)) _) | (refine Below.alloc ?_ (by first | omega | (simp; omega) | (simp; done) | (dsimp only; omega)) _) | (refine below_drewN ?_ _) | (refine Below.drew ?_) | (refine Below.trans ?_ (hb3.mono (by first | omega | (simp; omega) | (simp; done) | (dsimp only; omega)))) | (refine Below.trans ?_ (hb.mono (by first | omega | (simp; omega) | (simp; done) | (dsimp only; omega)))))
    have hne := fun b hb' => OSl.ne_type (flat_os.1 u2) (flat_os.1 o2) (by decide) (b := b) hb'
    obtain ⟨b6, hb6⟩ : ∃ b6, b6 = w2.heap.size := ⟨_, rfl⟩
    have ho2 := fun b hb' => o2.blkv b hb'
    have HNE := Lib.hid hne; have HO2 := Lib.hid ho2; clear hne ho2
    clear a0 a1 h h' hb3
    rw [← hb6] at O o2 u2 z3' lw2 ⊢
    have HZ4 := Lib.hid (show W3.heap.size = b6 + 1 by rw [HZ3.out, hb6])
    have hz26 : w1.heap.size ≤ b6 := by omega
    have HB6 := Lib.hid hb6; clear hb6
    go_loopw [25] (fun i wr => RenRel xs ns w1.heap.size b6 (.slice A2 xs.length c2) W3 i wr) (fun i _ => ns.length - (intOf i).toNat)
    case atStart => exact ⟨0, Nat.zero_le _, rfl, by rw [renTo_zero]; exact o2, Only.refl _ _, rfl⟩
    case round =>
      obtain ⟨k, hk, rfl, ho, hon, hsz⟩ := hrel
      have HSZ := Lib.hid hsz
      have hszr : b6 < wr.heap.size := by rw [HSZ.out]; omega
      have hz3r : W3.heap.size ≤ wr.heap.size := by omega
      clear hsz
      have hchg : Chg w1.heap.size b6 W3 wr := hon.chg (fun b hb' => by have := HO2.out b hb'; have := HB6.out; omega)
      have OR := O.chg hchg (by omega)
      have RR := R.chg hchg (by omega)
      have hbr : Below w.heap.size w wr := hb.trans (hchg.below (by omega) hlo1.out)
      have e0 := OR.cell (i := 0) rfl; have e1 := OR.cell (i := 1) rfl
      by_cases hlt : k < ns.length
      · have hlx : k < xs.length := by rw [← HNL.out]; exact hlt
        obtain ⟨bs, offs, sn, rfl, l1, l2, _, hsk, hcs⟩ := AString.at_ (hP.same (Same.of_chg hchg (by omega) (.inl (by omega)))) hlt
        obtain ⟨px, hxk⟩ : ∃ x, xs[k]? = some x := ⟨_, List.getElem?_eq_getElem hlx⟩
        obtain ⟨g, c', hv, g1, g2, g3, hcell, hput⟩ := flat_put EPerson_O ho (by omega) (renTo_at (ns := ns) (k := k) hxk)
        have hv0 := hv
        injection hv0 with hv0 _ _
        subst hv0
        obtain ⟨p0, pf⟩ := hcell 0 _ rfl
        simp only [EPerson, Elem.flat, Nat.add_zero] at p0 pf
        have HXK := Lib.hid hxk; have HSK := Lib.hid hsk; clear hxk hsk hcell hv
        go_wp2
        refine ⟨⟨k + 1, by omega, by go_num, ?_, hon.setCell (a := ⟨g, k * 6, none⟩) (by simp [Value.ownBlock]) _, by simp [World.setCell, HSZ.out]⟩, by simp [intOf]; omega⟩
        rw [← renTo_step HXK.out HSK.out]
        exact hput 0 (.string sn) _ (named px sn) rfl rfl rfl
      · obtain rfl : k = ns.length := by omega
        have hl := renTo_len xs ns ns.length
        have htp := totP_ren xs ns HNL.out
        have hsT : totP (renTo xs ns ns.length) ≤ 1048576 := by omega
        have HF0 := Lib.hid (show famOk (renTo xs ns ns.length) ys = false → renameM xs ys ns = (⟨[], []⟩, false) from fun k => renameM_not k)
        have HF1 := Lib.hid (show famOk (renTo xs ns ns.length) ys = true → renameM xs ys ns = (⟨renTo xs ns ns.length, ys⟩, true) from fun k => renameM_ok HO.out HNL.out k)
        generalize renTo xs ns ns.length = ps at *
        have ur : EUnion.OS wr w1.heap.size b6 (.slice B2 ys.length d2) ys := flat_os.2 ((flat_os.1 u2).loc fun b hb' => hon.block b (by have := (u2.blkv b hb').2; omega) (HNE.out b hb'))
        have hcon := specIsFamily_any A2 B2 c2 d2 w1.heap.size b6 ps ys wr ho.read.as ur.read.as (by first | omega | (simp; omega) | (simp; done) | (dsimp only; omega)) hsT
        rw [hl] at hcon
        generalize renameM xs ys ns = M at *
        have HL := Lib.hid hl; clear hl
        cases hf : famOk ps ys with
        | false =>
          have hM := HF0.out hf
          subst hM
          clear HF0 HF1
          have HF := Lib.hid hf; clear hf
          go_wp2_with fail
          refine hcon.mono ?_
          rintro e w4 ⟨rfl, hb4⟩
          simp only [HF.out]
          replace RR := RR.below hb4 (by first | omega | (simp; omega) | (simp; done) | (dsimp only; omega))
          have hb5 : Below w.heap.size w w4 := by (with_reducible repeat' first | exact Below.refl _ _ | assumption | (refine Below.setCell ?_ (by first | omega | (simp; omega) | (simp; done) | (dsimp only; omega)) _) | (refine Below.alloc ?_ (by first | omega | (simp; omega) | (simp; done) | (dsimp only; omega)) _) | (refine below_drewN ?_ _) | (refine Below.drew ?_) | (refine Below.trans ?_ (hb4.mono (by first | omega | (simp; omega) | (simp; done) | (dsimp only; omega)))) | (refine Below.trans ?_ (hbr.mono (by first | omega | (simp; omega) | (simp; done) | (dsimp only; omega)))))
          have lw4 : w.heap.size + 1 < w4.heap.size := by have := hb4.size; omega
          have f0 := RR.free 0; have f1 := RR.free 1; have q0 := RR.cell (i := 0) rfl; have q1 := RR.cell (i := 1) rfl
          clear e0 e1 OR
          go_wp2_with fail
          have RX := (RR.set 0 (.slice none 0 0)).set 1 (.slice none 0 0)
          exact bodyPost_ret (v := .tuple #[.agg #[.slice none 0 0, .slice none 0 0], .bool false]) (by simp [results, Try.results44, go_sem, RX.cell (i := 0) rfl, RX.cell (i := 1) rfl]) rfl (RetFamB.zero (by (with_reducible repeat' first | exact Below.refl _ _ | assumption | (refine Below.setCell ?_ (by first | omega | (simp; omega) | (simp; done) | (dsimp only; omega)) _) | (refine Below.alloc ?_ (by first | omega | (simp; omega) | (simp; done) | (dsimp only; omega)) _) | (refine below_drewN ?_ _) | (refine Below.drew ?_) | (refine Below.trans ?_ (hb5.mono (by first | omega | (simp; omega) | (simp; done) | (dsimp only; omega)))))))
        | true =>
          have hM := HF1.out hf
          subst hM
          clear HF0 HF1
          have HF := Lib.hid hf; clear hf
          go_wp2_with fail
          refine hcon.mono ?_
          rintro e w4 ⟨rfl, hb4⟩
          simp only [HF.out]
          replace RR := RR.below hb4 (by first | omega | (simp; omega) | (simp; done) | (dsimp only; omega))
          replace OR := OR.below hb4 (by first | omega | (simp; omega) | (simp; done) | (dsimp only; omega))
          have hb5 : Below w.heap.size w w4 := by (with_reducible repeat' first | exact Below.refl _ _ | assumption | (refine Below.setCell ?_ (by first | omega | (simp; omega) | (simp; done) | (dsimp only; omega)) _) | (refine Below.alloc ?_ (by first | omega | (simp; omega) | (simp; done) | (dsimp only; omega)) _) | (refine below_drewN ?_ _) | (refine Below.drew ?_) | (refine Below.trans ?_ (hb4.mono (by first | omega | (simp; omega) | (simp; done) | (dsimp only; omega)))) | (refine Below.trans ?_ (hbr.mono (by first | omega | (simp; omega) | (simp; done) | (dsimp only; omega)))))
          have z4 := hb4.size
          have lw4 : w.heap.size + 1 < w4.heap.size := by omega
          have lb6 : b6 < w4.heap.size := by omega
          have f0 := RR.free 0; have f1 := RR.free 1; have q0 := RR.cell (i := 0) rfl; have q1 := RR.cell (i := 1) rfl
          have p0 := OR.cell (i := 0) rfl; have p1 := OR.cell (i := 1) rfl
          clear e0 e1
          go_wp2_with fail
          have R8 := RR.set 0 (.slice A2 xs.length c2)
          have RX := R8.set 1 (.slice B2 ys.length d2)
          refine bodyPost_ret (v := .tuple #[.agg #[.slice A2 xs.length c2, .slice B2 ys.length d2], .bool true]) (by simp [results, Try.results44, go_sem, RX.cell (i := 0) rfl, RX.cell (i := 1) rfl]) rfl ?_
          have t0 := ho.same (Same.of_below hb4 (by omega))
          have t1 := flatPerson.far (i := 0) (u := .slice A2 xs.length c2) t0 RR (by decide)
          have t2 := flatPerson.far (i := 1) (u := .slice B2 ys.length d2) t1 R8 (by decide)
          have v0 := ur.same (Same.of_below hb4 (by omega))
          have v1 := flatUnion.far (i := 0) (u := .slice A2 xs.length c2) v0 RR (by decide)
          have v2 := flatUnion.far (i := 1) (u := .slice B2 ys.length d2) v1 R8 (by decide)
          refine ⟨A2, c2, B2, d2, by dsimp only; rw [HL.out], ?_, ?_, by (with_reducible repeat' first | exact Below.refl _ _ | assumption | (refine Below.setCell ?_ (by first | omega | (simp; omega) | (simp; done) | (dsimp only; omega)) _) | (refine Below.alloc ?_ (by first | omega | (simp; omega) | (simp; done) | (dsimp only; omega)) _) | (refine below_drewN ?_ _) | (refine Below.drew ?_) | (refine Below.trans ?_ (hb5.mono (by first | omega | (simp; omega) | (simp; done) | (dsimp only; omega)))))⟩
          · dsimp only; rw [HL.out]; exact t2.mono hlo1.out (by simp [World.setCell]; omega)
          · exact v2.mono hlo1.out (by simp [World.setCell]; omega)
  · have HN := Lib.hid (renameM_bad hq)
    rw [HN.out]
    clear HN
    cases ho : famOk xs ys with
    | false =>
      have HO := Lib.hid ho; clear ho hq
      go_enter Try.func44, Try.ntmps44
      go_wp2_with fail
      generalize hW : (w.alloc (.cells #[.slice A xs.length c, .slice B ys.length d] 66)).alloc (.cells #[.slice none 0 0, .slice none 0 0] 66) = W
      have a0 : W.cell? ⟨w.heap.size, 0, none⟩ = some (.slice A xs.length c) := by subst hW; simp [go_sem]
      have a1 : W.cell? ⟨w.heap.size, 1, none⟩ = some (.slice B ys.length d) := by subst hW; simp [go_sem]
      have R : Blk W (w.heap.size + 1) 66 #[.slice none 0 0, .slice none 0 0] := by subst hW; exact Blk.new _ (by simp)
      have hb : Below w.heap.size w W := by subst hW; (with_reducible repeat' first | exact Below.refl _ _ | assumption | (refine Below.setCell ?_ (by first | omega | (simp; omega) | (simp; done) | (dsimp only; omega)) _) | (refine Below.alloc ?_ (by first | omega | (simp; omega) | (simp; done) | (dsimp only; omega)) _) | (refine below_drewN ?_ _) | (refine Below.drew ?_))
      have z0 : w.heap.size + 1 + 1 ≤ W.heap.size := by subst hW; simp
      clear hW
      replace h := h.same (Same.of_below hb hh); replace h' := h'.same (Same.of_below hb hh); replace hP := hP.same (Same.of_below hb hh2)
      refine (specIsFamily_any A B c d lo hi xs ys _ h h' (by first | omega | (simp; omega) | (simp; done) | (dsimp only; omega)) hs).mono ?_
      rintro e w1 ⟨rfl, hb1⟩
      simp only [HO.out]
      replace R := R.below hb1 (by first | omega | (simp; omega) | (simp; done) | (dsimp only; omega))
      (replace a0 := (hb1.cell (by first | omega | (simp; omega) | (simp; done) | (dsimp only; omega))).trans a0; replace a1 := (hb1.cell (by first | omega | (simp; omega) | (simp; done) | (dsimp only; omega))).trans a1; replace h := h.same (Same.of_below hb1 (by first | omega | (simp; omega) | (simp; done) | (dsimp only; omega))); replace h' := h'.same (Same.of_below hb1 (by first | omega | (simp; omega) | (simp; done) | (dsimp only; omega))); replace hP := hP.same (Same.of_below hb1 (by first | omega | (simp; omega) | (simp; done) | (dsimp only; omega))); replace hb := hb.trans (hb1.mono (by first | omega | (simp; omega) | (simp; done) | (dsimp only; omega))); replace z0 := Nat.le_trans z0 hb1.size; have zhb1 := hb1.size; clear hb1)
      have lw : w.heap.size < w1.heap.size := by omega
      have lw1 : w.heap.size + 1 < w1.heap.size := by omega
      have f0 := R.free 0; have f1 := R.free 1; have q0 := R.cell (i := 0) rfl; have q1 := R.cell (i := 1) rfl
      go_wp2_with fail
      have RR := (R.set 0 (.slice none 0 0)).set 1 (.slice none 0 0)
      exact bodyPost_ret (v := .tuple #[.agg #[.slice none 0 0, .slice none 0 0], .bool false]) (by simp [results, Try.results44, go_sem, RR.cell (i := 0) rfl, RR.cell (i := 1) rfl]) rfl (RetFamB.zero (by (with_reducible repeat' first | exact Below.refl _ _ | assumption | (refine Below.setCell ?_ (by first | omega | (simp; omega) | (simp; done) | (dsimp only; omega)) _) | (refine Below.alloc ?_ (by first | omega | (simp; omega) | (simp; done) | (dsimp only; omega)) _) | (refine below_drewN ?_ _) | (refine Below.drew ?_) | (refine Below.trans ?_ (hb.mono (by first | omega | (simp; omega) | (simp; done) | (dsimp only; omega)))))))
    | true =>
      have hn : ns.length ≠ xs.length := fun e => hq ⟨ho, e⟩
      have HO := Lib.hid ho; clear ho hq
      have n1 : ((ns.length : Int) == (xs.length : Int)) = false := by simp; omega
      have n2 : ((ns.length : Int) != (xs.length : Int)) = true := by simp; omega
      go_enter Try.func44, Try.ntmps44
      go_wp2_with fail
      generalize hW : (w.alloc (.cells #[.slice A xs.length c, .slice B ys.length d] 66)).alloc (.cells #[.slice none 0 0, .slice none 0 0] 66) = W
      have a0 : W.cell? ⟨w.heap.size, 0, none⟩ = some (.slice A xs.length c) := by subst hW; simp [go_sem]
      have a1 : W.cell? ⟨w.heap.size, 1, none⟩ = some (.slice B ys.length d) := by subst hW; simp [go_sem]
      have R : Blk W (w.heap.size + 1) 66 #[.slice none 0 0, .slice none 0 0] := by subst hW; exact Blk.new _ (by simp)
      have hb : Below w.heap.size w W := by subst hW; (with_reducible repeat' first | exact Below.refl _ _ | assumption | (refine Below.setCell ?_ (by first | omega | (simp; omega) | (simp; done) | (dsimp only; omega)) _) | (refine Below.alloc ?_ (by first | omega | (simp; omega) | (simp; done) | (dsimp only; omega)) _) | (refine below_drewN ?_ _) | (refine Below.drew ?_))
      have z0 : w.heap.size + 1 + 1 ≤ W.heap.size := by subst hW; simp
      clear hW
      replace h := h.same (Same.of_below hb hh); replace h' := h'.same (Same.of_below hb hh); replace hP := hP.same (Same.of_below hb hh2)
      refine (specIsFamily_any A B c d lo hi xs ys _ h h' (by first | omega | (simp; omega) | (simp; done) | (dsimp only; omega)) hs).mono ?_
      rintro e w1 ⟨rfl, hb1⟩
      simp only [HO.out]
      replace R := R.below hb1 (by first | omega | (simp; omega) | (simp; done) | (dsimp only; omega))
      (replace a0 := (hb1.cell (by first | omega | (simp; omega) | (simp; done) | (dsimp only; omega))).trans a0; replace a1 := (hb1.cell (by first | omega | (simp; omega) | (simp; done) | (dsimp only; omega))).trans a1; replace h := h.same (Same.of_below hb1 (by first | omega | (simp; omega) | (simp; done) | (dsimp only; omega))); replace h' := h'.same (Same.of_below hb1 (by first | omega | (simp; omega) | (simp; done) | (dsimp only; omega))); replace hP := hP.same (Same.of_below hb1 (by first | omega | (simp; omega) | (simp; done) | (dsimp only; omega))); replace hb := hb.trans (hb1.mono (by first | omega | (simp; omega) | (simp; done) | (dsimp only; omega))); replace z0 := Nat.le_trans z0 hb1.size; have zhb1 := hb1.size; clear hb1)
      have lw : w.heap.size < w1.heap.size := by omega
      have lw1 : w.heap.size + 1 < w1.heap.size := by omega
      have f0 := R.free 0; have f1 := R.free 1; have q0 := R.cell (i := 0) rfl; have q1 := R.cell (i := 1) rfl
      go_wp2_with fail
      have RR := (R.set 0 (.slice none 0 0)).set 1 (.slice none 0 0)
      exact bodyPost_ret (v := .tuple #[.agg #[.slice none 0 0, .slice none 0 0], .bool false]) (by simp [results, Try.results44, go_sem, RR.cell (i := 0) rfl, RR.cell (i := 1) rfl]) rfl (RetFamB.zero (by (with_reducible repeat' first | exact Below.refl _ _ | assumption | (refine Below.setCell ?_ (by first | omega | (simp; omega) | (simp; done) | (dsimp only; omega)) _) | (refine Below.alloc ?_ (by first | omega | (simp; omega) | (simp; done) | (dsimp only; omega)) _) | (refine below_drewN ?_ _) | (refine Below.drew ?_) | (refine Below.trans ?_ (hb.mono (by first | omega | (simp; omega) | (simp; done) | (dsimp only; omega)))))))
set_option maxHeartbeats 4000000 in
theorem implRenamePeople_any (A B P : Option Addr) (c d e1 lo hi lo2 hi2 : Nat) (xs : List Person) (ys : List Union) (ns : List ByteArray) (w : World) (h : EPerson.AS w lo hi A xs) (h' : EUnion.AS w lo hi B ys) (hP : EString.AS w lo2 hi2 P ns) (hh : hi ≤ w.heap.size) (hh2 : hi2 ≤ w.heap.size) (hdc : ys.length ≤ d ∧ d ≤ maxLen) (hs : totP xs ≤ 1048576) (hs2 : totS ns ≤ 1048576) :
    Calls Try.prog 47 #[.agg #[.slice A xs.length c, .slice B ys.length d], .slice P ns.length e1] w (RetFamB w (renameM xs ys ns)) := by
  have hx := h.le
  have hpl := hP.le
  unfold BIG at hx hpl
  by_cases hq : famOk xs ys = true ∧ ns.length = xs.length
  · obtain ⟨ho, hn⟩ := hq
    have HO := Lib.hid ho
    have HNL := Lib.hid hn
    have n1 : ((ns.length : Int) == (xs.length : Int)) = true := by simp [hn]
    have n2 : ((ns.length : Int) != (xs.length : Int)) = false := by simp [hn]
    obtain ⟨q1, q2, _, _⟩ := famOk_parts ho
    clear ho hn
    go_enter Try.func47, Try.ntmps47
    go_wp2_with fail
    generalize hW : (w.alloc (.cells #[.slice A xs.length c, .slice B ys.length d] 66)).alloc (.cells #[.slice none 0 0, .slice none 0 0] 66) = W
    have a0 : W.cell? ⟨w.heap.size, 0, none⟩ = some (.slice A xs.length c) := by subst hW; simp [go_sem]
    have a1 : W.cell? ⟨w.heap.size, 1, none⟩ = some (.slice B ys.length d) := by subst hW; simp [go_sem]
    have R : Blk W (w.heap.size + 1) 66 #[.slice none 0 0, .slice none 0 0] := by subst hW; exact Blk.new _ (by simp)
    have hb : Below w.heap.size w W := by subst hW; (with_reducible repeat' first | exact Below.refl _ _ | assumption | (refine Below.setCell ?_ (by first | omega | (simp; omega) | (simp; done) | (dsimp only; omega)) _) | (refine Below.alloc ?_ (by first | omega | (simp; omega) | (simp; done) | (dsimp only; omega)) _) | (refine below_drewN ?_ _) | (refine Below.drew ?_))
    have z0 : w.heap.size + 1 + 1 ≤ W.heap.size := by subst hW; simp
    clear hW
    replace h := h.same (Same.of_below hb hh); replace h' := h'.same (Same.of_below hb hh); replace hP := hP.same (Same.of_below hb hh2)
    refine (implIsFamily_any A B c d lo hi xs ys _ h h' (by first | omega | (simp; omega) | (simp; done) | (dsimp only; omega)) hdc hs).mono ?_
    rintro e w1 ⟨rfl, hb1⟩
    simp only [HO.out]
    replace R := R.below hb1 (by first | omega | (simp; omega) | (simp; done) | (dsimp only; omega))
    (replace a0 := (hb1.cell (by first | omega | (simp; omega) | (simp; done) | (dsimp only; omega))).trans a0; replace a1 := (hb1.cell (by first | omega | (simp; omega) | (simp; done) | (dsimp only; omega))).trans a1; replace h := h.same (Same.of_below hb1 (by first | omega | (simp; omega) | (simp; done) | (dsimp only; omega))); replace h' := h'.same (Same.of_below hb1 (by first | omega | (simp; omega) | (simp; done) | (dsimp only; omega))); replace hP := hP.same (Same.of_below hb1 (by first | omega | (simp; omega) | (simp; done) | (dsimp only; omega))); replace hb := hb.trans (hb1.mono (by first | omega | (simp; omega) | (simp; done) | (dsimp only; omega))); replace z0 := Nat.le_trans z0 hb1.size; have zhb1 := hb1.size; clear hb1)
    have lw : w.heap.size < w1.heap.size := by omega
    have lw1 : w.heap.size + 1 < w1.heap.size := by omega
    go_wp2_with fail
    refine (copyFamily_any A B c d lo hi xs ys _ h h' (by first | omega | (simp; omega) | (simp; done) | (dsimp only; omega)) (by omega) (by omega)).mono ?_
    rintro e w2 ⟨A2, c2, B2, d2, rfl, o2, u2, hb2⟩
    have hlo1 := Lib.hid (show w.heap.size ≤ w1.heap.size by omega)
    replace R := R.below hb2 (by first | omega | (simp; omega) | (simp; done) | (dsimp only; omega))
    have z2 := hb2.size
    (replace a0 := (hb2.cell (by first | omega | (simp; omega) | (simp; done) | (dsimp only; omega))).trans a0; replace a1 := (hb2.cell (by first | omega | (simp; omega) | (simp; done) | (dsimp only; omega))).trans a1; replace h := h.same (Same.of_below hb2 (by first | omega | (simp; omega) | (simp; done) | (dsimp only; omega))); replace h' := h'.same (Same.of_below hb2 (by first | omega | (simp; omega) | (simp; done) | (dsimp only; omega))); replace hP := hP.same (Same.of_below hb2 (by first | omega | (simp; omega) | (simp; done) | (dsimp only; omega))); replace hb := hb.trans (hb2.mono (by first | omega | (simp; omega) | (simp; done) | (dsimp only; omega))); replace z0 := Nat.le_trans z0 hb2.size; have zhb2 := hb2.size; clear hb2)
    have lw2 : w.heap.size + 1 < w2.heap.size := by omega
    go_wp2
    generalize hW3 : w2.alloc (.cells #[.slice A2 xs.length c2, .slice B2 ys.length d2] 66) = W3
    have O : Blk W3 w2.heap.size 66 #[.slice A2 xs.length c2, .slice B2 ys.length d2] := by subst hW3; exact Blk.new _ rfl
    have hb3 : Below w2.heap.size w2 W3 := by subst hW3; (with_reducible repeat' first | exact Below.refl _ _ | assumption | (refine Below.setCell ?_ (by first | omega | (simp; omega) | (simp; done) | (dsimp only; omega)) _) | (refine Below.alloc ?_ (by first | omega | (simp; omega) | (simp; done) | (dsimp only; omega)) _) | (refine below_drewN ?_ _) | (refine Below.drew ?_))
    have z3 : W3.heap.size = w2.heap.size + 1 := by subst hW3; simp
    clear hW3
    have HZ3 := Lib.hid z3
    have z3' : w2.heap.size + 1 ≤ W3.heap.size := by omega
    clear z3
    replace R := R.below hb3 (by first | omega | (simp; omega) | (simp; done) | (dsimp only; omega))
    replace o2 := o2.same (Same.of_below hb3 (Nat.le_refl _)); replace u2 := u2.same (Same.of_below hb3 (Nat.le_refl _))
    replace hP := hP.same (Same.of_below hb3 (by first | omega | (simp; omega) | (simp; done) | (dsimp only; omega)))
    replace hb : Below w.heap.size w W3 := by (with_reducible repeat' first | exact Below.refl _ _ | assumption | (refine Below.setCell ?_ (by first | omega | (simp; omega) | (simp; done) | (dsimp only; omega)) _) | (refine Below.alloc ?_ (by first | omega | (simp; omega) | (simp; done) | (dsimp only; omega)) _) | (refine below_drewN ?_ _) | (refine Below.drew ?_) | (refine Below.trans ?_ (hb3.mono (by first | omega | (simp; omega) | (simp; done) | (dsimp only; omega)))) | (refine Below.trans ?_ (hb.mono (by first | omega | (simp; omega) | (simp; done) | (dsimp only; omega)))))
    have hne := fun b hb' => OSl.ne_type (flat_os.1 u2) (flat_os.1 o2) (by decide) (b := b) hb'
    obtain ⟨b6, hb6⟩ : ∃ b6, b6 = w2.heap.size := ⟨_, rfl⟩
    have ho2 := fun b hb' => o2.blkv b hb'
    have HNE := Lib.hid hne; have HO2 := Lib.hid ho2; clear hne ho2
    clear a0 a1 h h' hb3
    rw [← hb6] at O o2 u2 z3' lw2 ⊢
    have HZ4 := Lib.hid (show W3.heap.size = b6 + 1 by rw [HZ3.out, hb6])
    have hz26 : w1.heap.size ≤ b6 := by omega
    have HB6 := Lib.hid hb6; clear hb6
    go_loopw [25] (fun i wr => RenRel xs ns w1.heap.size b6 (.slice A2 xs.length c2) W3 i wr) (fun i _ => ns.length - (intOf i).toNat)
    case atStart => exact ⟨0, Nat.zero_le _, rfl, by rw [renTo_zero]; exact o2, Only.refl _ _, rfl⟩
    case round =>
      obtain ⟨k, hk, rfl, ho, hon, hsz⟩ := hrel
      have HSZ := Lib.hid hsz
      have hszr : b6 < wr.heap.size := by rw [HSZ.out]; omega
      have hz3r : W3.heap.size ≤ wr.heap.size := by omega
      clear hsz
      have hchg : Chg w1.heap.size b6 W3 wr := hon.chg (fun b hb' => by have := HO2.out b hb'; have := HB6.out; omega)
      have OR := O.chg hchg (by omega)
      have RR := R.chg hchg (by omega)
      have hbr : Below w.heap.size w wr := hb.trans (hchg.below (by omega) hlo1.out)
      have e0 := OR.cell (i := 0) rfl; have e1 := OR.cell (i := 1) rfl
      by_cases hlt : k < ns.length
      · have hlx : k < xs.length := by rw [← HNL.out]; exact hlt
        obtain ⟨bs, offs, sn, rfl, l1, l2, _, hsk, hcs⟩ := AString.at_ (hP.same (Same.of_chg hchg (by omega) (.inl (by omega)))) hlt
        obtain ⟨px, hxk⟩ : ∃ x, xs[k]? = some x := ⟨_, List.getElem?_eq_getElem hlx⟩
        obtain ⟨g, c', hv, g1, g2, g3, hcell, hput⟩ := flat_put EPerson_O ho (by omega) (renTo_at (ns := ns) (k := k) hxk)
        have hv0 := hv
        injection hv0 with hv0 _ _
        subst hv0
        obtain ⟨p0, pf⟩ := hcell 0 _ rfl
        simp only [EPerson, Elem.flat, Nat.add_zero] at p0 pf
        have HXK := Lib.hid hxk; have HSK := Lib.hid hsk; clear hxk hsk hcell hv
        go_wp2
        refine ⟨⟨k + 1, by omega, by go_num, ?_, hon.setCell (a := ⟨g, k * 6, none⟩) (by simp [Value.ownBlock]) _, by simp [World.setCell, HSZ.out]⟩, by simp [intOf]; omega⟩
        rw [← renTo_step HXK.out HSK.out]
        exact hput 0 (.string sn) _ (named px sn) rfl rfl rfl
      · obtain rfl : k = ns.length := by omega
        have hl := renTo_len xs ns ns.length
        have htp := totP_ren xs ns HNL.out
        have hsT : totP (renTo xs ns ns.length) ≤ 1048576 := by omega
        have HF0 := Lib.hid (show famOk (renTo xs ns ns.length) ys = false → renameM xs ys ns = (⟨[], []⟩, false) from fun k => renameM_not k)
        have HF1 := Lib.hid (show famOk (renTo xs ns ns.length) ys = true → renameM xs ys ns = (⟨renTo xs ns ns.length, ys⟩, true) from fun k => renameM_ok HO.out HNL.out k)
        generalize renTo xs ns ns.length = ps at *
        have ur : EUnion.OS wr w1.heap.size b6 (.slice B2 ys.length d2) ys := flat_os.2 ((flat_os.1 u2).loc fun b hb' => hon.block b (by have := (u2.blkv b hb').2; omega) (HNE.out b hb'))
        have hcon := implIsFamily_any A2 B2 c2 d2 w1.heap.size b6 ps ys wr ho.read.as ur.read.as (by first | omega | (simp; omega) | (simp; done) | (dsimp only; omega)) (OSf_cap ur) hsT
        rw [hl] at hcon
        generalize renameM xs ys ns = M at *
        have HL := Lib.hid hl; clear hl
        cases hf : famOk ps ys with
        | false =>
          have hM := HF0.out hf
          subst hM
          clear HF0 HF1
          have HF := Lib.hid hf; clear hf
          go_wp2_with fail
          refine hcon.mono ?_
          rintro e w4 ⟨rfl, hb4⟩
          simp only [HF.out]
          replace RR := RR.below hb4 (by first | omega | (simp; omega) | (simp; done) | (dsimp only; omega))
          have hb5 : Below w.heap.size w w4 := by (with_reducible repeat' first | exact Below.refl _ _ | assumption | (refine Below.setCell ?_ (by first | omega | (simp; omega) | (simp; done) | (dsimp only; omega)) _) | (refine Below.alloc ?_ (by first | omega | (simp; omega) | (simp; done) | (dsimp only; omega)) _) | (refine below_drewN ?_ _) | (refine Below.drew ?_) | (refine Below.trans ?_ (hb4.mono (by first | omega | (simp; omega) | (simp; done) | (dsimp only; omega)))) | (refine Below.trans ?_ (hbr.mono (by first | omega | (simp; omega) | (simp; done) | (dsimp only; omega)))))
          have lw4 : w.heap.size + 1 < w4.heap.size := by have := hb4.size; omega
          have f0 := RR.free 0; have f1 := RR.free 1; have q0 := RR.cell (i := 0) rfl; have q1 := RR.cell (i := 1) rfl
          clear e0 e1 OR
          go_wp2_with fail
          have RX := (RR.set 0 (.slice none 0 0)).set 1 (.slice none 0 0)
          exact bodyPost_ret (v := .tuple #[.agg #[.slice none 0 0, .slice none 0 0], .bool false]) (by simp [results, Try.results47, go_sem, RX.cell (i := 0) rfl, RX.cell (i := 1) rfl]) rfl (RetFamB.zero (by (with_reducible repeat' first | exact Below.refl _ _ | assumption | (refine Below.setCell ?_ (by first | omega | (simp; omega) | (simp; done) | (dsimp only; omega)) _) | (refine Below.alloc ?_ (by first | omega | (simp; omega) | (simp; done) | (dsimp only; omega)) _) | (refine below_drewN ?_ _) | (refine Below.drew ?_) | (refine Below.trans ?_ (hb5.mono (by first | omega | (simp; omega) | (simp; done) | (dsimp only; omega)))))))
        | true =>
          have hM := HF1.out hf
          subst hM
          clear HF0 HF1
          have HF := Lib.hid hf; clear hf
          go_wp2_with fail
          refine hcon.mono ?_
          rintro e w4 ⟨rfl, hb4⟩
          simp only [HF.out]
          replace RR := RR.below hb4 (by first | omega | (simp; omega) | (simp; done) | (dsimp only; omega))
          replace OR := OR.below hb4 (by first | omega | (simp; omega) | (simp; done) | (dsimp only; omega))
          have hb5 : Below w.heap.size w w4 := by (with_reducible repeat' first | exact Below.refl _ _ | assumption | (refine Below.setCell ?_ (by first | omega | (simp; omega) | (simp; done) | (dsimp only; omega)) _) | (refine Below.alloc ?_ (by first | omega | (simp; omega) | (simp; done) | (dsimp only; omega)) _) | (refine below_drewN ?_ _) | (refine Below.drew ?_) | (refine Below.trans ?_ (hb4.mono (by first | omega | (simp; omega) | (simp; done) | (dsimp only; omega)))) | (refine Below.trans ?_ (hbr.mono (by first | omega | (simp; omega) | (simp; done) | (dsimp only; omega)))))
          have z4 := hb4.size
          have lw4 : w.heap.size + 1 < w4.heap.size := by omega
          have lb6 : b6 < w4.heap.size := by omega
          have f0 := RR.free 0; have f1 := RR.free 1; have q0 := RR.cell (i := 0) rfl; have q1 := RR.cell (i := 1) rfl
          have p0 := OR.cell (i := 0) rfl; have p1 := OR.cell (i := 1) rfl
          clear e0 e1
          go_wp2_with fail
          have R8 := RR.set 0 (.slice A2 xs.length c2)
          have RX := R8.set 1 (.slice B2 ys.length d2)
          refine bodyPost_ret (v := .tuple #[.agg #[.slice A2 xs.length c2, .slice B2 ys.length d2], .bool true]) (by simp [results, Try.results47, go_sem, RX.cell (i := 0) rfl, RX.cell (i := 1) rfl]) rfl ?_
          have t0 := ho.same (Same.of_below hb4 (by omega))
          have t1 := flatPerson.far (i := 0) (u := .slice A2 xs.length c2) t0 RR (by decide)
          have t2 := flatPerson.far (i := 1) (u := .slice B2 ys.length d2) t1 R8 (by decide)
          have v0 := ur.same (Same.of_below hb4 (by omega))
          have v1 := flatUnion.far (i := 0) (u := .slice A2 xs.length c2) v0 RR (by decide)
          have v2 := flatUnion.far (i := 1) (u := .slice B2 ys.length d2) v1 R8 (by decide)
          refine ⟨A2, c2, B2, d2, by dsimp only; rw [HL.out], ?_, ?_, by (with_reducible repeat' first | exact Below.refl _ _ | assumption | (refine Below.setCell ?_ (by first | omega | (simp; omega) | (simp; done) | (dsimp only; omega)) _) | (refine Below.alloc ?_ (by first | omega | (simp; omega) | (simp; done) | (dsimp only; omega)) _) | (refine below_drewN ?_ _) | (refine Below.drew ?_) | (refine Below.trans ?_ (hb5.mono (by first | omega | (simp; omega) | (simp; done) | (dsimp only; omega)))))⟩
          · dsimp only; rw [HL.out]; exact t2.mono hlo1.out (by simp [World.setCell]; omega)
          · exact v2.mono hlo1.out (by simp [World.setCell]; omega)
  · have HN := Lib.hid (renameM_bad hq)
    rw [HN.out]
    clear HN
    cases ho : famOk xs ys with
    | false =>
      have HO := Lib.hid ho; clear ho hq
      go_enter Try.func47, Try.ntmps47
      go_wp2_with fail
      generalize hW : (w.alloc (.cells #[.slice A xs.length c, .slice B ys.length d] 66)).alloc (.cells #[.slice none 0 0, .slice none 0 0] 66) = W
      have a0 : W.cell? ⟨w.heap.size, 0, none⟩ = some (.slice A xs.length c) := by subst hW; simp [go_sem]
      have a1 : W.cell? ⟨w.heap.size, 1, none⟩ = some (.slice B ys.length d) := by subst hW; simp [go_sem]
      have R : Blk W (w.heap.size + 1) 66 #[.slice none 0 0, .slice none 0 0] := by subst hW; exact Blk.new _ (by simp)
      have hb : Below w.heap.size w W := by subst hW; (with_reducible repeat' first | exact Below.refl _ _ | assumption | (refine Below.setCell ?_ (by first | omega | (simp; omega) | (simp; done) | (dsimp only; omega)) _) | (refine Below.alloc ?_ (by first | omega | (simp; omega) | (simp; done) | (dsimp only; omega)) _) | (refine below_drewN ?_ _) | (refine Below.drew ?_))
      have z0 : w.heap.size + 1 + 1 ≤ W.heap.size := by subst hW; simp
      clear hW
      replace h := h.same (Same.of_below hb hh); replace h' := h'.same (Same.of_below hb hh); replace hP := hP.same (Same.of_below hb hh2)
      refine (implIsFamily_any A B c d lo hi xs ys _ h h' (by first | omega | (simp; omega) | (simp; done) | (dsimp only; omega)) hdc hs).mono ?_
      rintro e w1 ⟨rfl, hb1⟩
      simp only [HO.out]
      replace R := R.below hb1 (by first | omega | (simp; omega) | (simp; done) | (dsimp only; omega))
      (replace a0 := (hb1.cell (by first | omega | (simp; omega) | (simp; done) | (dsimp only; omega))).trans a0; replace a1 := (hb1.cell (by first | omega | (simp; omega) | (simp; done) | (dsimp only; omega))).trans a1; replace h := h.same (Same.of_below hb1 (by first | omega | (simp; omega) | (simp; done) | (dsimp only; omega))); replace h' := h'.same (Same.of_below hb1 (by first | omega | (simp; omega) | (simp; done) | (dsimp only; omega))); replace hP := hP.same (Same.of_below hb1 (by first | omega | (simp; omega) | (simp; done) | (dsimp only; omega))); replace hb := hb.trans (hb1.mono (by first | omega | (simp; omega) | (simp; done) | (dsimp only; omega))); replace z0 := Nat.le_trans z0 hb1.size; have zhb1 := hb1.size; clear hb1)
      have lw : w.heap.size < w1.heap.size := by omega
      have lw1 : w.heap.size + 1 < w1.heap.size := by omega
      have f0 := R.free 0; have f1 := R.free 1; have q0 := R.cell (i := 0) rfl; have q1 := R.cell (i := 1) rfl
      go_wp2_with fail
      have RR := (R.set 0 (.slice none 0 0)).set 1 (.slice none 0 0)
      exact bodyPost_ret (v := .tuple #[.agg #[.slice none 0 0, .slice none 0 0], .bool false]) (by simp [results, Try.results47, go_sem, RR.cell (i := 0) rfl, RR.cell (i := 1) rfl]) rfl (RetFamB.zero (by (with_reducible repeat' first | exact Below.refl _ _ | assumption | (refine Below.setCell ?_ (by first | omega | (simp; omega) | (simp; done) | (dsimp only; omega)) _) | (refine Below.alloc ?_ (by first | omega | (simp; omega) | (simp; done) | (dsimp only; omega)) _) | (refine below_drewN ?_ _) | (refine Below.drew ?_) | (refine Below.trans ?_ (hb.mono (by first | omega | (simp; omega) | (simp; done) | (dsimp only; omega)))))))
    | true =>
      have hn : ns.length ≠ xs.length := fun e => hq ⟨ho, e⟩
      have HO := Lib.hid ho; clear ho hq
      have n1 : ((ns.length : Int) == (xs.length : Int)) = false := by simp; omega
      have n2 : ((ns.length : Int) != (xs.length : Int)) = true := by simp; omega
      go_enter Try.func47, Try.ntmps47
      go_wp2_with fail
      generalize hW : (w.alloc (.cells #[.slice A xs.length c, .slice B ys.length d] 66)).alloc (.cells #[.slice none 0 0, .slice none 0 0] 66) = W
      have a0 : W.cell? ⟨w.heap.size, 0, none⟩ = some (.slice A xs.length c) := by subst hW; simp [go_sem]
      have a1 : W.cell? ⟨w.heap.size, 1, none⟩ = some (.slice B ys.length d) := by subst hW; simp [go_sem]
      have R : Blk W (w.heap.size + 1) 66 #[.slice none 0 0, .slice none 0 0] := by subst hW; exact Blk.new _ (by simp)
      have hb : Below w.heap.size w W := by subst hW; (with_reducible repeat' first | exact Below.refl _ _ | assumption | (refine Below.setCell ?_ (by first | omega | (simp; omega) | (simp; done) | (dsimp only; omega)) _) | (refine Below.alloc ?_ (by first | omega | (simp; omega) | (simp; done) | (dsimp only; omega)) _) | (refine below_drewN ?_ _) | (refine Below.drew ?_))
      have z0 : w.heap.size + 1 + 1 ≤ W.heap.size := by subst hW; simp
      clear hW
      replace h := h.same (Same.of_below hb hh); replace h' := h'.same (Same.of_below hb hh); replace hP := hP.same (Same.of_below hb hh2)
      refine (implIsFamily_any A B c d lo hi xs ys _ h h' (by first | omega | (simp; omega) | (simp; done) | (dsimp only; omega)) hdc hs).mono ?_
      rintro e w1 ⟨rfl, hb1⟩
      simp only [HO.out]
      replace R := R.below hb1 (by first | omega | (simp; omega) | (simp; done) | (dsimp only; omega))
      (replace a0 := (hb1.cell (by first | omega | (simp; omega) | (simp; done) | (dsimp only; omega))).trans a0; replace a1 := (hb1.cell (by first | omega | (simp; omega) | (simp; done) | (dsimp only; omega))).trans a1; replace h := h.same (Same.of_below hb1 (by first | omega | (simp; omega) | (simp; done) | (dsimp only; omega))); replace h' := h'.same (Same.of_below hb1 (by first | omega | (simp; omega) | (simp; done) | (dsimp only; omega))); replace hP := hP.same (Same.of_below hb1 (by first | omega | (simp; omega) | (simp; done) | (dsimp only; omega))); replace hb := hb.trans (hb1.mono (by first | omega | (simp; omega) | (simp; done) | (dsimp only; omega))); replace z0 := Nat.le_trans z0 hb1.size; have zhb1 := hb1.size; clear hb1)
      have lw : w.heap.size < w1.heap.size := by omega
      have lw1 : w.heap.size + 1 < w1.heap.size := by omega
      have f0 := R.free 0; have f1 := R.free 1; have q0 := R.cell (i := 0) rfl; have q1 := R.cell (i := 1) rfl
      go_wp2_with fail
      have RR := (R.set 0 (.slice none 0 0)).set 1 (.slice none 0 0)
      exact bodyPost_ret (v := .tuple #[.agg #[.slice none 0 0, .slice none 0 0], .bool false]) (by simp [results, Try.results47, go_sem, RR.cell (i := 0) rfl, RR.cell (i := 1) rfl]) rfl (RetFamB.zero (by (with_reducible repeat' first | exact Below.refl _ _ | assumption | (refine Below.setCell ?_ (by first | omega | (simp; omega) | (simp; done) | (dsimp only; omega)) _) | (refine Below.alloc ?_ (by first | omega | (simp; omega) | (simp; done) | (dsimp only; omega)) _) | (refine below_drewN ?_ _) | (refine Below.drew ?_) | (refine Below.trans ?_ (hb.mono (by first | omega | (simp; omega) | (simp; done) | (dsimp only; omega)))))))
end Go.Proofs.Ytnanlbglgflecaa
