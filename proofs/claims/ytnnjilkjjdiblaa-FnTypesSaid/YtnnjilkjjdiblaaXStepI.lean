/-
  The relation of a step, in the program.
-/
import Derived.Test.YtnnjilkjjdiblaaXLeadI
import Derived.Test.YtnnjilkjjdiblaaXGFamI
import Derived.Test.YtnnjilkjjdiblaaXGRel
import Derived.Test.YtnnjilkjjdiblaaXGRev
import Derived.Deep.Cut
import Derived.Deep.DeepCutAuto
namespace Go.Proofs.Ytnnjilkjjdiblaa
set_option maxRecDepth 100000
open Go.RowKit Go.Maps

def StepTab (kd : Int) (n : Nat) (ys : List Union) (bm : Nat) (W : World) (i : Value) (wr : World) : Prop :=
  ∃ (k m : Nat) (S : Lit → Bool), k ≤ ys.length ∧ i = .int .i64 k ∧ m ≤ k ∧ BSet wr 181 bm m S ∧
    (∀ (a b : Nat) kl, a < n → b < n → keyOf Try.prog 181 (.agg #[.int .i64 a, .int .i64 b]) = some kl → S kl = hasP ((wedL kd ys).take k) a b) ∧ Chg bm (bm + 1) W wr

set_option maxHeartbeats 8000000 in
theorem stepRelation_any (A B : Option Addr) (c d lo hi : Nat) (xs : List Person) (ys : List Union) (kd ag : Int) (w : World) (h : EPerson.AS w lo hi A xs) (h' : EUnion.AS w lo hi B ys) (hh : hi ≤ w.heap.size) (hk : 1 ≤ kd ∧ kd ≤ 8) (hfam : famOk xs ys = true) :
    Calls Try.prog 97 #[.agg #[.slice A xs.length c, .slice B ys.length d], .agg #[.int .i64 kd, .int .i64 ag]] w fun e w' => ∃ A' c', e = .returned (.agg #[.int .i64 xs.length, .slice A' xs.length c']) ∧
      EIntS.OS w' w.heap.size w'.heap.size (.slice A' xs.length c') (relM xs.length (leadM xs ys ⟨kd, ag⟩)) ∧ Below w.heap.size w w' := by
  have hpar := famOk_parts hfam
  have hn := hpar.1
  have hy60 := hpar.2.1
  clear hpar
  have HFAM := Lib.hid hfam; clear hfam
  have hmm := @run_makeMap Try.prog
  have HX0 := Lib.hid h; have HY0 := Lib.hid h'
  clear h h'
  go_enter Try.func97, Try.ntmps97
  go_wp2
  generalize hW : ((((w.alloc (.cells #[.slice A xs.length c, .slice B ys.length d] 26)).alloc (.cells #[.int .i64 kd, .int .i64 ag] 72)).alloc (.cells #[.int .i64 0, .slice none 0 0] 38)).alloc (.map #[] 0)).alloc (.cells #[.map (some (w.heap.size + 1 + 1 + 1))] 177) = W0
  have rf : Blk W0 w.heap.size 26 #[.slice A xs.length c, .slice B ys.length d] := by subst hW; exact ((((Blk.new w rfl).alloc _).alloc _).alloc _).alloc _
  have rs : Blk W0 (w.heap.size + 1) 72 #[.int .i64 kd, .int .i64 ag] := by subst hW; exact (((Blk.new _ (by simp)).alloc _).alloc _).alloc _
  have r0 : Blk W0 (w.heap.size + 1 + 1) 38 #[.int .i64 0, .slice none 0 0] := by subst hW; exact ((Blk.new _ (by simp)).alloc _).alloc _
  have hbx : Blk W0 (w.heap.size + 1 + 1 + 1 + 1) 177 #[.map (some (w.heap.size + 1 + 1 + 1))] := by subst hW; exact Blk.new _ (by simp)
  have hs0 : BSet W0 181 (w.heap.size + 1 + 1 + 1) 0 fun _ => false := by subst hW; simpa using (BSet.made (((w.alloc (.cells #[.slice A xs.length c, .slice B ys.length d] 26)).alloc (.cells #[.int .i64 kd, .int .i64 ag] 72)).alloc (.cells #[.int .i64 0, .slice none 0 0] 38)) 181).alloc (.cells #[.map (some (w.heap.size + 1 + 1 + 1))] 177)
  have hbw : Below w.heap.size w W0 := by subst hW; (with_reducible repeat' first | exact Below.refl _ _ | assumption | (refine Below.setCell ?_ (by first | omega | (simp; omega) | (simp; done) | (dsimp only; omega)) _) | (refine Below.alloc ?_ (by first | omega | (simp; omega) | (simp; done) | (dsimp only; omega)) _) | (refine below_drewN ?_ _) | (refine Below.drew ?_))
  have z0 : w.heap.size + 1 + 1 + 1 + 1 + 1 ≤ W0.heap.size := by subst hW; simp
  clear hW hmm
  have hX1 := HX0.out.same (Same.of_below hbw hh)
  have hY1 := HY0.out.same (Same.of_below hbw hh)
  go_loopw [12] (fun i wr => StepTab kd xs.length ys (w.heap.size + 1 + 1 + 1) W0 i wr) (fun i _ => ys.length - (intOf i).toNat)
  case atStart => exact ⟨0, 0, _, Nat.zero_le _, rfl, Nat.le_refl _, hs0, fun a b kl _ _ _ => by simp [hasP], Chg.refl _ _ _⟩
  case round =>
    obtain ⟨k, m, S, hkl, rfl, hmk, hs, hS, hch⟩ := hrel
    have HS := Lib.hid hS; clear hS
    have zc := hch.size
    have qf := rf.chg hch (.inl (by omega))
    have qs := rs.chg hch (.inl (by omega))
    have q0 := r0.chg hch (.inl (by omega))
    have qb := hbx.chg hch (.inr (by omega))
    have hbr := hbw.trans (hch.below (B := w.heap.size) (by omega) (by omega))
    have u0 := qf.cell (i := 0) rfl; have u1 := qf.cell (i := 1) rfl
    have v0 := qs.cell (i := 0) rfl; have v1 := qs.cell (i := 1) rfl
    have t0 := q0.cell (i := 0) rfl; have t1 := q0.cell (i := 1) rfl; have f0 := q0.free 0; have f1 := q0.free 1
    have b1 := qb.cell (i := 0) rfl
    have lw : w.heap.size + 1 + 1 + 1 + 1 < wr.heap.size := by omega
    have ls1 := hs.lt
    have lw0 : w.heap.size < wr.heap.size := by omega
    have lw1 : w.heap.size + 1 < wr.heap.size := by omega
    have lw2 : w.heap.size + 1 + 1 < wr.heap.size := by omega
    have lw3 : w.heap.size + 1 + 1 + 1 < wr.heap.size := by omega
    have hX := hX1.same (Same.of_chg hch (by omega) (.inl (by omega)))
    have hY := hY1.same (Same.of_chg hch (by omega) (.inl (by omega)))
    by_cases hlt : k < ys.length
    · obtain ⟨b, off, u, rfl, g1, g2, _, hyk, hc0, hc1, hc2, hc3⟩ := AUnion.at_ hY hlt
      obtain ⟨m', f', _, _, hm0, hf0, hml, hfl, _⟩ := famOk_union HFAM.out hyk
      obtain ⟨mm, ff, s', t'⟩ := u
      simp only at hm0 hf0 hc0 hc1 hc2 hc3
      subst hm0; subst hf0
      have HK := Lib.hid hyk; clear hyk
      have lb : b < wr.heap.size := by omega
      by_cases k7 : kd = 7
      · subst k7
        obtain ⟨kl, hkl⟩ := pair_key (a := f') (b := m') (by omega) (by omega)
        have HP := Lib.hid (wedL_at7 HK.out)
        go_wp2_with (at_mapUpdate; refine wpList_put_set rfl _ _ _ _ rfl 181 pair_keyed pair_map (w.heap.size + 1 + 1 + 1) m S rfl (hs.alloc _) (by unfold maxLen; omega) _ kl rfl rfl hkl ?_; intro w1 hs1 hg1)
        refine ⟨⟨k + 1, m + 1, _, by omega, by go_num, by omega, hs1, fun x y kl' hx hy hkl' => ?_, (hch.alloc _).trans (Chg.of_grown hg1 fun j hj => by cases hj; omega)⟩, by simp [intOf]; omega⟩
        rw [hasP_succ HP.out, HS.out x y kl' hx hy hkl', pair_lit hkl' hkl]
        congr 1
        rw [decide_eq_decide]; omega
      · by_cases k8 : kd = 8
        · subst k8
          obtain ⟨kl, hkl⟩ := pair_key (a := m') (b := f') (by omega) (by omega)
          have HP := Lib.hid (wedL_at8 HK.out)
          go_wp2_with (at_mapUpdate; refine wpList_put_set rfl _ _ _ _ rfl 181 pair_keyed pair_map (w.heap.size + 1 + 1 + 1) m S rfl (hs.alloc _) (by unfold maxLen; omega) _ kl rfl rfl hkl ?_; intro w1 hs1 hg1)
          refine ⟨⟨k + 1, m + 1, _, by omega, by go_num, by omega, hs1, fun x y kl' hx hy hkl' => ?_, (hch.alloc _).trans (Chg.of_grown hg1 fun j hj => by cases hj; omega)⟩, by simp [intOf]; omega⟩
          rw [hasP_succ HP.out, HS.out x y kl' hx hy hkl', pair_lit hkl' hkl]
          congr 1
          rw [decide_eq_decide]; omega
        · have n1 : (kd == 7) = false := by simp [k7]
          have n2 : (kd == 8) = false := by simp [k8]
          have HE := Lib.hid (wedL_other ys k7 k8)
          clear k7 k8
          go_wp2
          refine ⟨⟨k + 1, m, S, by omega, by go_num, by omega, hs.alloc _, fun x y kl' hx hy hkl' => ?_, hch.alloc _⟩, by simp [intOf]; omega⟩
          rw [HS.out x y kl' hx hy hkl', HE.out]; simp
    · obtain rfl : k = ys.length := by omega
      have HS2 := Lib.hid (show ∀ (a b : Nat) kl, a < xs.length → b < xs.length → keyOf Try.prog 181 (.agg #[.int .i64 a, .int .i64 b]) = some kl → S kl = hasP (wedL kd ys) a b from fun a b kl ha hb hkl => by
        rw [HS.out a b kl ha hb hkl, List.take_of_length_le]
        unfold wedL
        split
        · simp
        · split <;> simp)
      go_wp2_with (go_at_call 95; refine (related_any _ #[] _ xs.length 0 wr.heap.size _ wr hn (ruleStep wr w.heap.size (w.heap.size + 1) (w.heap.size + 1 + 1 + 1 + 1) (w.heap.size + 1 + 1 + 1) m A B c d lo hi xs ys kd ag S HFAM.out hk hX hY (by omega) u0 u1 v0 v1 b1 hs HS2.out (by omega) (by omega) (by omega)) (Nat.le_refl _)).mono ?_; rintro e w6 ⟨A6, c6, rfl, ho6, hb6⟩; (have hz6 := hb6.size); (have r6 := q0.below hb6 (by omega)); (have lr6 := r6.lt); (have g0 := r6.cell (i := 0) rfl); (have g1 := r6.cell (i := 1) rfl); (have e0 := r6.free 0); (have e1 := r6.free 1))
      have R := (r6.set 0 (.int .i64 xs.length)).set 1 (.slice A6 xs.length c6)
      refine bodyPost_ret (v := .agg #[.int .i64 xs.length, .slice A6 xs.length c6]) (by simp [results, Try.results97, go_sem, R.cell (i := 0) rfl, R.cell (i := 1) rfl]) rfl ?_
      exact ⟨A6, c6, rfl, (ho6.same (by (with_reducible repeat' first | exact Same.refl _ _ _ | assumption | (refine Same.setCell ?_ (by first | omega | (simp; omega) | (simp; done) | (dsimp only; omega)) _) | (refine Same.alloc ?_ (by first | omega | (simp; omega) | (simp; done) | (dsimp only; omega)) _) | (refine Same.drewN ?_ _) | (refine Same.drew ?_)))).mono (by first | omega | (simp; omega) | (simp; done) | (dsimp only; omega)) (by first | omega | (simp; omega) | (simp; done) | (dsimp only; omega)), by (with_reducible repeat' first | exact Below.refl _ _ | assumption | (refine Below.setCell ?_ (by first | omega | (simp; omega) | (simp; done) | (dsimp only; omega)) _) | (refine Below.alloc ?_ (by first | omega | (simp; omega) | (simp; done) | (dsimp only; omega)) _) | (refine below_drewN ?_ _) | (refine Below.drew ?_) | (refine Below.trans ?_ (hb6.mono (by first | omega | (simp; omega) | (simp; done) | (dsimp only; omega)))) | (refine Below.trans ?_ (hbr.mono (by first | omega | (simp; omega) | (simp; done) | (dsimp only; omega)))))⟩

end Go.Proofs.Ytnnjilkjjdiblaa
