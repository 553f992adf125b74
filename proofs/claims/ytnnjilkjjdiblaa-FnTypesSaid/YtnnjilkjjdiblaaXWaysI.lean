/-
  The relation of a kin type, in the program.
-/
import Derived.Test.YtnnjilkjjdiblaaXStepI
import Derived.Test.YtnnjilkjjdiblaaXGLead
import Derived.Test.YtnnjilkjjdiblaaXGAlg
import Derived.Deep.Cut
import Derived.Deep.DeepCutAuto
namespace Go.Proofs.Ytnnjilkjjdiblaa
set_option maxRecDepth 100000
open Go.RowKit

set_option maxHeartbeats 4000000 in
theorem ruleDiag (W : World) (bt bf : Nat) (A B D : Option Addr) (c d e lo hi : Nat) (xs : List Person) (ys : List Union) (ego : Int) (zs : List Step) (hX : EPerson.AS W lo hi A xs) (hh : hi ≤ W.heap.size)
    (t0 : W.cell? ⟨bt, 0, none⟩ = some (.int .i64 ego)) (t1 : W.cell? ⟨bt, 1, none⟩ = some (.slice D zs.length e)) (f0 : W.cell? ⟨bf, 0, none⟩ = some (.slice A xs.length c)) (f1 : W.cell? ⟨bf, 1, none⟩ = some (.slice B ys.length d)) (l1 : bt < W.heap.size) (l2 : bf < W.heap.size) :
    Rule2 W xs.length 0 W.heap.size 96 #[] #[.pointer (some ⟨bt, 0, none⟩), .pointer (some ⟨bf, 0, none⟩)] (diagP xs ego) where
  enter := fun args w' => by kernel_rfl
  ans := fun a b w' ha hb hw => by
    have zw := hw.size
    have t0' := (hw.cell (p := ⟨bt, 0, none⟩) (Nat.zero_le _) l1).trans t0
    have t1' := (hw.cell (p := ⟨bt, 1, none⟩) (Nat.zero_le _) l1).trans t1
    have f0' := (hw.cell (p := ⟨bf, 0, none⟩) (Nat.zero_le _) l2).trans f0
    have f1' := (hw.cell (p := ⟨bf, 1, none⟩) (Nat.zero_le _) l2).trans f1
    have lt : bt < w'.heap.size := by omega
    have lf : bf < w'.heap.size := by omega
    have h := hX.same (hw.mono (Nat.zero_le _) hh)
    clear t0 t1 f0 f1 hX hw l1 l2
    have hx := h.le
    unfold BIG at hx
    obtain ⟨g, off, ⟨x0, x1, x2, x3, x4, x5⟩, rfl, g1, g2, _, hxk, hc0, hc1, hc2, hc3, hc4, hc5⟩ := APerson.at_ h ha
    have HX := Lib.hid (diagP_of (ego := ego) hxk b); clear hxk
    simp only at hc0 hc1 hc2 hc3 hc4 hc5
    have lb : g < w'.heap.size := by omega
    have i1 : (0 : Int) ≤ (a : Int) ∧ (a : Int) < (xs.length : Int) := by omega
    generalize hR : diagP xs ego a b = R
    have HR := Lib.hid (hR.symm.trans HX.out); clear hR
    by_cases hab : a = b
    · subst hab
      have n0 : ((a : Int) == (a : Int)) = true := by simp
      by_cases he : ego = 0
      · subst he
        have HN := Lib.hid (HR.out.trans (show _ = true by simp [egoIs]))
        go_enter Try.func96, Try.ntmps96
        go_wp2_with fail
        go_quiet (fail)
        go_wp2
        go_ret
        exact ⟨ret_bool HN.out.symm, by (with_reducible repeat' first | exact Below.refl _ _ | assumption | (refine Below.setCell ?_ (by first | omega | (simp; omega) | (simp; done) | (dsimp only; omega)) _) | (refine Below.alloc ?_ (by first | omega | (simp; omega) | (simp; done) | (dsimp only; omega)) _) | (refine below_drewN ?_ _) | (refine Below.drew ?_))⟩
      · have n1 : (ego == 0) = false := by simp [he]
        by_cases hx1 : x1 = ego
        · have HN := Lib.hid (HR.out.trans (show _ = true by simp [egoIs, hx1]))
          have n2 : (x1 == ego) = true := by simp [hx1]
          clear hx1 he
          go_enter Try.func96, Try.ntmps96
          go_wp2_with fail
          go_quiet (fail)
          go_wp2
          go_ret
          exact ⟨ret_bool (by rw [HN.out]; try simp [n2]), by (with_reducible repeat' first | exact Below.refl _ _ | assumption | (refine Below.setCell ?_ (by first | omega | (simp; omega) | (simp; done) | (dsimp only; omega)) _) | (refine Below.alloc ?_ (by first | omega | (simp; omega) | (simp; done) | (dsimp only; omega)) _) | (refine below_drewN ?_ _) | (refine Below.drew ?_))⟩
        · have HN := Lib.hid (HR.out.trans (show _ = false by simp [egoIs, hx1, he]))
          have n2 : (x1 == ego) = false := by simp [hx1]
          clear hx1 he
          go_enter Try.func96, Try.ntmps96
          go_wp2_with fail
          go_quiet (fail)
          go_wp2
          go_ret
          exact ⟨ret_bool (by rw [HN.out]; try simp [n2]), by (with_reducible repeat' first | exact Below.refl _ _ | assumption | (refine Below.setCell ?_ (by first | omega | (simp; omega) | (simp; done) | (dsimp only; omega)) _) | (refine Below.alloc ?_ (by first | omega | (simp; omega) | (simp; done) | (dsimp only; omega)) _) | (refine below_drewN ?_ _) | (refine Below.drew ?_))⟩
    · have n0 : ((a : Int) == (b : Int)) = false := by simp; omega
      have HN := Lib.hid (HR.out.trans (show _ = false by simp [hab]))
      go_enter Try.func96, Try.ntmps96
      go_wp2_with fail
      go_quiet (fail)
      go_wp2
      go_ret
      exact ⟨ret_bool HN.out.symm, by (with_reducible repeat' first | exact Below.refl _ _ | assumption | (refine Below.setCell ?_ (by first | omega | (simp; omega) | (simp; done) | (dsimp only; omega)) _) | (refine Below.alloc ?_ (by first | omega | (simp; omega) | (simp; done) | (dsimp only; omega)) _) | (refine below_drewN ?_ _) | (refine Below.drew ?_))⟩

def WaysBox (P : Nat → Nat → Nat → Bool) (m n lo bo : Nat) (W : World) (i : Value) (wr : World) : Prop :=
  ∃ (k : Nat) (A : Option Addr) (c lo1 hi1 : Nat), k ≤ m ∧ i = .int .i64 k ∧ Blk wr bo 38 #[.int .i64 n, .slice A n c] ∧ EIntS.OS wr lo1 hi1 (.slice A n c) (relM n (P k)) ∧ lo ≤ lo1 ∧ hi1 ≤ wr.heap.size ∧ (hi1 ≤ bo ∨ bo < lo1) ∧ Chg bo (bo + 1) W wr

set_option maxHeartbeats 8000000 in
theorem implRelationFor_any (A B D : Option Addr) (c d e lo hi lo' hi' : Nat) (xs : List Person) (ys : List Union) (ego : Int) (zs : List Step) (w : World) (h : EPerson.AS w lo hi A xs) (h' : EUnion.AS w lo hi B ys) (h'' : EStep.AS w lo' hi' D zs) (hh : hi ≤ w.heap.size) (hh' : hi' ≤ w.heap.size) (hdc : ys.length ≤ d ∧ d ≤ maxLen) (hs : totP xs ≤ 1048576) :
    Calls Try.prog 23 #[.agg #[.slice A xs.length c, .slice B ys.length d], .agg #[.int .i64 ego, .slice D zs.length e]] w (RetRel w (relForM xs ys ⟨ego, zs⟩)) := by
  cases ho : famOk xs ys with
  | false =>
    have HO := Lib.hid ho
    have HN := Lib.hid (relForM_fam (t := ⟨ego, zs⟩) ho)
    clear ho
    rw [HN.out]
    go_enter Try.func23, Try.ntmps23
    go_wp2_with (go_at_call 94; (with_reducible refine (implIsFamily_any _ _ _ _ lo hi xs ys _ (h.same (by (with_reducible repeat' first | exact Same.refl _ _ _ | assumption | (refine Same.setCell ?_ (by first | omega | (simp; omega) | (simp; done) | (dsimp only; omega)) _) | (refine Same.alloc ?_ (by first | omega | (simp; omega) | (simp; done) | (dsimp only; omega)) _) | (refine Same.drewN ?_ _) | (refine Same.drew ?_)))) (h'.same (by (with_reducible repeat' first | exact Same.refl _ _ _ | assumption | (refine Same.setCell ?_ (by first | omega | (simp; omega) | (simp; done) | (dsimp only; omega)) _) | (refine Same.alloc ?_ (by first | omega | (simp; omega) | (simp; done) | (dsimp only; omega)) _) | (refine Same.drewN ?_ _) | (refine Same.drew ?_)))) (by first | omega | (simp; omega) | (simp; done) | (dsimp only; omega)) hdc hs).mono ?_); rintro e w1 ⟨rfl, hb1⟩; simp only [HO.out]; (obtain ⟨hb1c, hb1f⟩ := bcell hb1); (have hb1z := hb1.size); (try simp only [szs] at hb1c hb1f hb1z); (have lt1 : w.heap.size + 1 + 1 < w1.heap.size := (by omega)); (have lu1 : w.heap.size + 1 < w1.heap.size := (by omega)); (have lv1 : w.heap.size < w1.heap.size := (by omega)); (have r1 : Blk w1 (w.heap.size + 1 + 1) 38 #[.int .i64 0, .slice none 0 0] := (Blk.new _ (by simp)).below hb1 (by simp)); (have g0 := r1.cell (i := 0) rfl); (have g1 := r1.cell (i := 1) rfl); (have f0 := r1.free 0); (have f1 := r1.free 1))
    have R := (r1.set 0 (.int .i64 0)).set 1 (.slice none 0 0)
    exact bodyPost_ret (v := .agg #[.int .i64 0, .slice none 0 0]) (by simp [results, Try.results23, go_sem, R.cell (i := 0) rfl, R.cell (i := 1) rfl]) rfl (RetRel.zero (by (with_reducible repeat' first | exact Below.refl _ _ | assumption | (refine Below.setCell ?_ (by first | omega | (simp; omega) | (simp; done) | (dsimp only; omega)) _) | (refine Below.alloc ?_ (by first | omega | (simp; omega) | (simp; done) | (dsimp only; omega)) _) | (refine below_drewN ?_ _) | (refine Below.drew ?_) | (refine Below.trans ?_ (hb1.mono (by first | omega | (simp; omega) | (simp; done) | (dsimp only; omega)))))))
  | true =>
    have HO := Lib.hid ho
    have hn := (famOk_parts ho).1
    cases ht : typeOk ⟨ego, zs⟩ with
    | false =>
      have HT := Lib.hid ht
      have HN := Lib.hid (relForM_typ (xs := xs) (ys := ys) ht)
      clear ho ht
      rw [HN.out]
      go_enter Try.func23, Try.ntmps23
      go_wp2_with (first
        | (go_at_call 94; (with_reducible refine (implIsFamily_any _ _ _ _ lo hi xs ys _ (h.same (by (with_reducible repeat' first | exact Same.refl _ _ _ | assumption | (refine Same.setCell ?_ (by first | omega | (simp; omega) | (simp; done) | (dsimp only; omega)) _) | (refine Same.alloc ?_ (by first | omega | (simp; omega) | (simp; done) | (dsimp only; omega)) _) | (refine Same.drewN ?_ _) | (refine Same.drew ?_)))) (h'.same (by (with_reducible repeat' first | exact Same.refl _ _ _ | assumption | (refine Same.setCell ?_ (by first | omega | (simp; omega) | (simp; done) | (dsimp only; omega)) _) | (refine Same.alloc ?_ (by first | omega | (simp; omega) | (simp; done) | (dsimp only; omega)) _) | (refine Same.drewN ?_ _) | (refine Same.drew ?_)))) (by first | omega | (simp; omega) | (simp; done) | (dsimp only; omega)) hdc hs).mono ?_); rintro e w1 ⟨rfl, hb1⟩; simp only [HO.out]; (obtain ⟨hb1c, hb1f⟩ := bcell hb1); (have hb1z := hb1.size); (try simp only [szs] at hb1c hb1f hb1z); (have lt1 : w.heap.size + 1 + 1 < w1.heap.size := (by omega)); (have lu1 : w.heap.size + 1 < w1.heap.size := (by omega)); (have lv1 : w.heap.size < w1.heap.size := (by omega)); (have r1 : Blk w1 (w.heap.size + 1 + 1) 38 #[.int .i64 0, .slice none 0 0] := (Blk.new _ (by simp)).below hb1 (by simp)); (have g0 := r1.cell (i := 0) rfl); (have g1 := r1.cell (i := 1) rfl); (have f0 := r1.free 0); (have f1 := r1.free 1))
        | (go_at_call 86; (with_reducible refine (implIsType_any ego _ _ _ _ zs _ (h''.same (by (with_reducible repeat' first | exact Same.refl _ _ _ | assumption | (refine Same.setCell ?_ (by first | omega | (simp; omega) | (simp; done) | (dsimp only; omega)) _) | (refine Same.alloc ?_ (by first | omega | (simp; omega) | (simp; done) | (dsimp only; omega)) _) | (refine Same.drewN ?_ _) | (refine Same.drew ?_) | (refine Same.trans ?_ (Same.of_below hb1 (by first | omega | (simp; omega) | (simp; done) | (dsimp only; omega))))))) (by first | omega | (simp; omega) | (simp; done) | (dsimp only; omega))).mono ?_); rintro e w2 ⟨rfl, hb2⟩; simp only [HT.out]; (obtain ⟨hb2c, hb2f⟩ := bcell hb2); (have hb2z := hb2.size); (try simp only [szs] at hb2c hb2f hb2z); (have lt2 : w.heap.size + 1 + 1 < w2.heap.size := (by omega)); (have lu2 : w.heap.size + 1 < w2.heap.size := (by omega)); (have lv2 : w.heap.size < w2.heap.size := (by omega)); (have r2 := r1.below hb2 (by omega)); (have g0 := r2.cell (i := 0) rfl); (have g1 := r2.cell (i := 1) rfl); (have f0 := r2.free 0); (have f1 := r2.free 1)))
      have R := (r2.set 0 (.int .i64 0)).set 1 (.slice none 0 0)
      exact bodyPost_ret (v := .agg #[.int .i64 0, .slice none 0 0]) (by simp [results, Try.results23, go_sem, R.cell (i := 0) rfl, R.cell (i := 1) rfl]) rfl (RetRel.zero (by (with_reducible repeat' first | exact Below.refl _ _ | assumption | (refine Below.setCell ?_ (by first | omega | (simp; omega) | (simp; done) | (dsimp only; omega)) _) | (refine Below.alloc ?_ (by first | omega | (simp; omega) | (simp; done) | (dsimp only; omega)) _) | (refine below_drewN ?_ _) | (refine Below.drew ?_) | (refine Below.trans ?_ (hb2.mono (by first | omega | (simp; omega) | (simp; done) | (dsimp only; omega)))) | (refine Below.trans ?_ (hb1.mono (by first | omega | (simp; omega) | (simp; done) | (dsimp only; omega)))))))
    | true =>
      have HT := Lib.hid ht
      have HN := Lib.hid (relForM_in ho ht)
      have HKD := Lib.hid (fun k s (hk : zs[k]? = some s) => typeOk_at ht (k := k) (s := s) hk)
      have hl8 := typeOk_len ht
      clear ho ht
      simp only at hl8
      rw [HN.out]
      have HHX := Lib.hid h; have HHY := Lib.hid h'; have HHZ := Lib.hid h''
      go_enter Try.func23, Try.ntmps23
      go_wp2_with (first
        | (go_at_call 94; (with_reducible refine (implIsFamily_any _ _ _ _ lo hi xs ys _ (h.same (by (with_reducible repeat' first | exact Same.refl _ _ _ | assumption | (refine Same.setCell ?_ (by first | omega | (simp; omega) | (simp; done) | (dsimp only; omega)) _) | (refine Same.alloc ?_ (by first | omega | (simp; omega) | (simp; done) | (dsimp only; omega)) _) | (refine Same.drewN ?_ _) | (refine Same.drew ?_)))) (h'.same (by (with_reducible repeat' first | exact Same.refl _ _ _ | assumption | (refine Same.setCell ?_ (by first | omega | (simp; omega) | (simp; done) | (dsimp only; omega)) _) | (refine Same.alloc ?_ (by first | omega | (simp; omega) | (simp; done) | (dsimp only; omega)) _) | (refine Same.drewN ?_ _) | (refine Same.drew ?_)))) (by first | omega | (simp; omega) | (simp; done) | (dsimp only; omega)) hdc hs).mono ?_); rintro e w1 ⟨rfl, hb1⟩; simp only [HO.out]; (obtain ⟨hb1c, hb1f⟩ := bcell hb1); (have hb1z := hb1.size); (try simp only [szs] at hb1c hb1f hb1z); (have lt1 : w.heap.size + 1 + 1 < w1.heap.size := (by omega)); (have lu1 : w.heap.size + 1 < w1.heap.size := (by omega)); (have lv1 : w.heap.size < w1.heap.size := (by omega)); (have r1 : Blk w1 (w.heap.size + 1 + 1) 38 #[.int .i64 0, .slice none 0 0] := (Blk.new _ (by simp)).below hb1 (by simp)); (have g0 := r1.cell (i := 0) rfl); (have g1 := r1.cell (i := 1) rfl); (have f0 := r1.free 0); (have f1 := r1.free 1))
        | (go_at_call 86; (with_reducible refine (implIsType_any ego _ _ _ _ zs _ (h''.same (by (with_reducible repeat' first | exact Same.refl _ _ _ | assumption | (refine Same.setCell ?_ (by first | omega | (simp; omega) | (simp; done) | (dsimp only; omega)) _) | (refine Same.alloc ?_ (by first | omega | (simp; omega) | (simp; done) | (dsimp only; omega)) _) | (refine Same.drewN ?_ _) | (refine Same.drew ?_) | (refine Same.trans ?_ (Same.of_below hb1 (by first | omega | (simp; omega) | (simp; done) | (dsimp only; omega))))))) (by first | omega | (simp; omega) | (simp; done) | (dsimp only; omega))).mono ?_); rintro e w2 ⟨rfl, hb2⟩; simp only [HT.out]; (obtain ⟨hb2c, hb2f⟩ := bcell hb2); (have hb2z := hb2.size); (try simp only [szs] at hb2c hb2f hb2z); (have lt2 : w.heap.size + 1 + 1 < w2.heap.size := (by omega)); (have lu2 : w.heap.size + 1 < w2.heap.size := (by omega)); (have lv2 : w.heap.size < w2.heap.size := (by omega)); (have r2 := r1.below hb2 (by omega)); (have g0 := r2.cell (i := 0) rfl); (have g1 := r2.cell (i := 1) rfl); (have f0 := r2.free 0); (have f1 := r2.free 1))
        | (go_at_call 95; refine (related_any _ #[] _ xs.length 0 w2.heap.size _ w2 hn (ruleDiag w2 (w.heap.size + 1) w.heap.size A B D c d e lo hi xs ys ego zs (h.same (by (with_reducible repeat' first | exact Same.refl _ _ _ | assumption | (refine Same.setCell ?_ (by first | omega | (simp; omega) | (simp; done) | (dsimp only; omega)) _) | (refine Same.alloc ?_ (by first | omega | (simp; omega) | (simp; done) | (dsimp only; omega)) _) | (refine Same.drewN ?_ _) | (refine Same.drew ?_) | (refine Same.trans ?_ (Same.of_below hb2 (by first | omega | (simp; omega) | (simp; done) | (dsimp only; omega)))) | (refine Same.trans ?_ (Same.of_below hb1 (by first | omega | (simp; omega) | (simp; done) | (dsimp only; omega))))))) (by omega) (by rw [hb2c _ _ (by omega), hb1c _ _ (by omega)]; simp [go_sem]) (by rw [hb2c _ _ (by omega), hb1c _ _ (by omega)]; simp [go_sem]) (by rw [hb2c _ _ (by omega), hb1c _ _ (by omega)]; simp [go_sem]) (by rw [hb2c _ _ (by omega), hb1c _ _ (by omega)]; simp [go_sem]) (by omega) (by omega)) (Nat.le_refl _)).mono ?_; rintro e w3 ⟨A3, c3, rfl, ho3, hb3⟩; (obtain ⟨hb3c, hb3f⟩ := bcell hb3); (have hb3z := hb3.size); (try simp only [szs] at hb3c hb3f hb3z); (have lt3 : w.heap.size + 1 + 1 < w3.heap.size := (by omega)); (have lu3 : w.heap.size + 1 < w3.heap.size := (by omega)); (have lv3 : w.heap.size < w3.heap.size := (by omega))))
      go_wp2_with fail
      have hbw : Below w.heap.size w w3 := by (with_reducible repeat' first | exact Below.refl _ _ | assumption | (refine Below.setCell ?_ (by first | omega | (simp; omega) | (simp; done) | (dsimp only; omega)) _) | (refine Below.alloc ?_ (by first | omega | (simp; omega) | (simp; done) | (dsimp only; omega)) _) | (refine below_drewN ?_ _) | (refine Below.drew ?_) | (refine Below.trans ?_ (hb3.mono (by first | omega | (simp; omega) | (simp; done) | (dsimp only; omega)))) | (refine Below.trans ?_ (hb2.mono (by first | omega | (simp; omega) | (simp; done) | (dsimp only; omega)))) | (refine Below.trans ?_ (hb1.mono (by first | omega | (simp; omega) | (simp; done) | (dsimp only; omega)))))
      have r3 : Blk w3 (w.heap.size + 1 + 1) 38 #[.int .i64 0, .slice none 0 0] := r2.below hb3 lt2
      have rf : Blk w3 w.heap.size 26 #[.slice A xs.length c, .slice B ys.length d] := (((((Blk.new w rfl).alloc _).alloc _).below hb1 (by simp; omega)).below hb2 lv1).below hb3 lv2
      have rt : Blk w3 (w.heap.size + 1) 30 #[.int .i64 ego, .slice D zs.length e] := ((((Blk.new _ (by simp)).alloc _).below hb1 (by simp)).below hb2 lu1).below hb3 lu2
      have z23 : w2.heap.size ≤ w3.heap.size := hb3z
      clear hb1 hb1c hb1f hb2 hb2c hb2f hb3 hb3c hb3f h h' h''
      generalize hW4 : w3.alloc (.cells #[.int .i64 xs.length, .slice A3 xs.length c3] 38) = W4
      have rb4 : Blk W4 w3.heap.size 38 #[.int .i64 xs.length, .slice A3 xs.length c3] := by subst hW4; exact Blk.new _ rfl
      have hb4 : Below w3.heap.size w3 W4 := by subst hW4; (with_reducible repeat' first | exact Below.refl _ _ | assumption | (refine Below.setCell ?_ (by first | omega | (simp; omega) | (simp; done) | (dsimp only; omega)) _) | (refine Below.alloc ?_ (by first | omega | (simp; omega) | (simp; done) | (dsimp only; omega)) _) | (refine below_drewN ?_ _) | (refine Below.drew ?_))
      have z4 : w3.heap.size < W4.heap.size := by subst hW4; simp
      clear hW4
      have hbw4 := hbw.trans (hb4.mono (by omega))
      replace r3 := r3.below hb4 (by omega)
      replace rf := rf.below hb4 (by omega)
      replace rt := rt.below hb4 (by omega)
      have ho4 := ho3.same (Same.of_below hb4 (Nat.le_refl _))
      have hX4 := HHX.out.same (Same.of_below hbw4 hh)
      have hY4 := HHY.out.same (Same.of_below hbw4 hh)
      have hZ4 := HHZ.out.same (Same.of_below hbw4 hh')
      clear hb4 ho3 hbw
      go_loopw [25] (fun i wr => WaysBox (waysP xs ys ⟨ego, zs⟩) zs.length xs.length w2.heap.size w3.heap.size W4 i wr) (fun i _ => zs.length - (intOf i).toNat)
      case atStart => exact ⟨0, A3, c3, w2.heap.size, w3.heap.size, Nat.zero_le _, rfl, rb4, by rw [waysP_zero]; exact ho4, Nat.le_refl _, by omega, .inl (Nat.le_refl _), Chg.refl _ _ _⟩
      case round =>
        obtain ⟨k, A5, c5, lo5, hi5, hk5, rfl, hB, ho5, hlo, hhi, hd5, hch⟩ := hrel
        have zc := hch.size
        have rf2 := rf.chg hch (.inl (by omega))
        have rt2 := rt.chg hch (.inl (by omega))
        have r32 := r3.chg hch (.inl (by omega))
        have lw0 : w.heap.size < wr.heap.size := by omega
        have lw1 : w.heap.size + 1 < wr.heap.size := by omega
        have lw2 : w.heap.size + 1 + 1 < wr.heap.size := by omega
        have lw3 : w3.heap.size < wr.heap.size := by omega
        have u0 := rf2.cell (i := 0) rfl; have u1 := rf2.cell (i := 1) rfl
        have t0 := rt2.cell (i := 0) rfl; have t1 := rt2.cell (i := 1) rfl
        have o0 := hB.cell (i := 0) rfl; have o1 := hB.cell (i := 1) rfl
        have hbr := hbw4.trans (hch.below (B := w.heap.size) (by omega) (by omega))
        by_cases hlt : k < zs.length
        · obtain ⟨b, off, ⟨kd, ag⟩, rfl, f1, f2, _, hzk, hc0, hc1⟩ := AStep.at_ (hZ4.same (Same.of_chg hch (by omega) (.inl (by omega)))) hlt
          simp only at hc0 hc1
          have hkd := HKD.out k _ hzk
          have HZ := Lib.hid (waysP_succ (xs := xs) (ys := ys) (t := ⟨ego, zs⟩) hzk)
          clear hzk
          have lb : b < wr.heap.size := by omega
          have i1 : (0 : Int) ≤ (k : Int) ∧ (k : Int) < (zs.length : Int) := by omega
          go_upto_region 7 with fail
          generalize hW2 : wr.alloc (.cells #[.int .i64 kd, .int .i64 ag] 72) = W2
          have s0 : W2.cell? ⟨wr.heap.size, 0, none⟩ = some (.int .i64 kd) := by subst hW2; simp [go_sem]
          have s1 : W2.cell? ⟨wr.heap.size, 1, none⟩ = some (.int .i64 ag) := by subst hW2; simp [go_sem]
          have hbW2 : Below wr.heap.size wr W2 := by subst hW2; (with_reducible repeat' first | exact Below.refl _ _ | assumption | (refine Below.setCell ?_ (by first | omega | (simp; omega) | (simp; done) | (dsimp only; omega)) _) | (refine Below.alloc ?_ (by first | omega | (simp; omega) | (simp; done) | (dsimp only; omega)) _) | (refine below_drewN ?_ _) | (refine Below.drew ?_))
          have zW2 : wr.heap.size < W2.heap.size := by subst hW2; simp
          clear hW2
          replace u0 := (hbW2.cell (p := ⟨w.heap.size, 0, none⟩) (by simp; omega)).trans u0
          replace u1 := (hbW2.cell (p := ⟨w.heap.size, 1, none⟩) (by simp; omega)).trans u1
          replace o0 := (hbW2.cell (p := ⟨w3.heap.size, 0, none⟩) (by simp; omega)).trans o0
          replace o1 := (hbW2.cell (p := ⟨w3.heap.size, 1, none⟩) (by simp; omega)).trans o1
          have RB := Lib.hid (hB.below hbW2 (by omega))
          have hX := (hX4.same (Same.of_chg hch (by omega) (.inl (by omega)))).same (Same.of_below hbW2 (by omega))
          have hY := (hY4.same (Same.of_chg hch (by omega) (.inl (by omega)))).same (Same.of_below hbW2 (by omega))
          replace ho5 := ho5.same (Same.of_below hbW2 hhi)
          have zrd : hi ≤ W2.drew.heap.size := by show hi ≤ W2.heap.size; omega
          have HBW2 := Lib.hid hbW2; clear hbW2 hB
          have z5 : hi5 ≤ W2.heap.size := by omega
          refine wp_region_held_drew (S := fun w' => w'.cell? ⟨w.heap.size, 0, none⟩ = some (.slice A xs.length c) ∧ w'.cell? ⟨w.heap.size, 1, none⟩ = some (.slice B ys.length d) ∧ w'.cell? ⟨wr.heap.size, 0, none⟩ = some (.int .i64 kd) ∧ w'.cell? ⟨wr.heap.size, 1, none⟩ = some (.int .i64 ag)) (by kernel_rfl) ⟨u0, u1, s0, s1⟩ (fun hHeld => ?_)
          refine wpAnyH_take (i := 1) (oi := { dst := some 30, op := _, type := _, pos := _, after := _, guard := _ }) (v := ?_) rfl (by kernel_rfl) (by kernel_rfl) (by kernel_rfl) (fun _ _ _ h => h) (Or.inl ⟨by rfl, ?_⟩) (by assumption) ?_; rotate_left; (intro w hSw; (try dsimp only at hSw); go_simp); (try with_reducible rfl); (try simp only [Act.put, List.setIfInBounds_toArray, List.set_cons_zero, List.set_cons_succ])
          refine wpAnyH_take (i := 2) (oi := { dst := some 31, op := _, type := _, pos := _, after := _, guard := _ }) (v := ?_) rfl (by kernel_rfl) (by kernel_rfl) (by kernel_rfl) (fun _ _ _ h => h) (Or.inl ⟨by rfl, ?_⟩) (by assumption) ?_; rotate_left; (intro w hSw; (try dsimp only at hSw); go_simp); (try with_reducible rfl); (try simp only [Act.put, List.setIfInBounds_toArray, List.set_cons_zero, List.set_cons_succ])
          refine wpAnyH_ready (rs := [0, 3]) (by kernel_rfl) (by simp) ?_
          refine AllReadyH.cons (o := { dst := some 29, op := _, type := _, pos := _, after := _, guard := _ }) rfl (fun K hK => ?_) (AllReadyH.cons (o := { dst := some 32, op := _, type := _, pos := _, after := _, guard := _ }) rfl (fun K hK => ?_) (AllReadyH.nil))
          ·
            go_simp
            refine hK.out _ _ (by assumption) (fun hHeld => ?_)
            clear hK K; (try simp only [Act.put, List.setIfInBounds_toArray, List.set_cons_zero, List.set_cons_succ])
            refine wpAnyH_ready (rs := [3]) (by kernel_rfl) (by simp) ?_
            refine AllReadyH.cons (o := { dst := some 32, op := _, type := _, pos := _, after := _, guard := _ }) rfl (fun K hK => ?_) AllReadyH.nil
            go_simp
            (go_at_call 97; (with_reducible refine (stepRelation_any _ _ _ _ lo hi xs ys kd ag _ hX.drew hY.drew zrd hkd HO.out).mono ?_); rintro e w6 ⟨A6, c6, rfl, ho6, hb6⟩; replace hb6 := undrew hb6; replace ho6 : EIntS.OS w6 W2.heap.size w6.heap.size (.slice A6 xs.length c6) (relM xs.length (leadM xs ys ⟨kd, ag⟩)) := ho6; replace o0 := (hb6.cell (p := ⟨w3.heap.size, 0, none⟩) (by simp; omega)).trans o0; replace o1 := (hb6.cell (p := ⟨w3.heap.size, 1, none⟩) (by simp; omega)).trans o1; replace u0 := (hb6.cell (p := ⟨w.heap.size, 0, none⟩) (by simp; omega)).trans u0; replace u1 := (hb6.cell (p := ⟨w.heap.size, 1, none⟩) (by simp; omega)).trans u1; replace s0 := (hb6.cell (p := ⟨wr.heap.size, 0, none⟩) (by simp; omega)).trans s0; replace s1 := (hb6.cell (p := ⟨wr.heap.size, 1, none⟩) (by simp; omega)).trans s1; (have RB6 := Lib.hid (RB.out.below hb6 (by omega))); (have f0 := RB6.out.free 0); (have f1 := RB6.out.free 1); (have HB6 := Lib.hid hb6); (have z6 := hb6.size); (have z56 : hi5 ≤ w6.heap.size := by omega); (have lb6 : w3.heap.size < w6.heap.size := by omega); clear hb6)
            try go_wp2_with fail
            refine hK.out _ _ ⟨u0, u1, s0, s1⟩ (fun hHeld => ?_)
            clear hK K; (try simp only [Act.put, List.setIfInBounds_toArray, List.set_cons_zero, List.set_cons_succ])
            refine wpAnyH_ready (rs := [4]) (by kernel_rfl) (by simp) ?_
            refine AllReadyH.cons (o := { dst := some 33, op := _, type := _, pos := _, after := _, guard := _ }) rfl (fun K hK => ?_) AllReadyH.nil
            go_simp
            (go_at_call 71; (with_reducible refine (compP_any xs.length _ _ _ _ _ _ lo5 hi5 W2.heap.size w6.heap.size _ hn (ho5.read.as.same (Same.of_below HB6.out (by omega))) ho6.read.as z56 (Nat.le_refl _)).mono ?_); rintro e w7 ⟨A7, c7, rfl, ho7, hb7⟩; replace u0 := (hb7.cell (p := ⟨w.heap.size, 0, none⟩) (by simp; omega)).trans u0; replace u1 := (hb7.cell (p := ⟨w.heap.size, 1, none⟩) (by simp; omega)).trans u1; replace s0 := (hb7.cell (p := ⟨wr.heap.size, 0, none⟩) (by simp; omega)).trans s0; replace s1 := (hb7.cell (p := ⟨wr.heap.size, 1, none⟩) (by simp; omega)).trans s1; (have RB7 := Lib.hid (RB6.out.below hb7 (by omega))); (have f0 := RB7.out.free 0); (have f1 := RB7.out.free 1); (have g0 := RB7.out.cell (i := 0) rfl); (have g1 := RB7.out.cell (i := 1) rfl); (have HB7 := Lib.hid hb7); (have z7 := hb7.size); (have lb7 : w3.heap.size < w7.heap.size := by omega); clear hb7)
            try go_wp2_with fail
            refine hK.out _ _ ⟨u0, u1, s0, s1⟩ (fun hHeld => ?_)
            clear hK K; (try simp only [Act.put, List.setIfInBounds_toArray, List.set_cons_zero, List.set_cons_succ])
            refine wpAnyH_ready (rs := [5]) (by kernel_rfl) (by simp) ?_
            refine AllReadyH.cons (o := { dst := none, op := _, type := _, pos := _, after := _, guard := _ }) rfl (fun K hK => ?_) AllReadyH.nil
            go_simp
            refine hK.out _ _ ⟨((World.cell?_of_block (Below.heap_setCell _ _ _ _ (by simp; omega))).trans ((World.cell?_of_block (Below.heap_setCell _ _ _ _ (by simp; omega))).trans u0)), ((World.cell?_of_block (Below.heap_setCell _ _ _ _ (by simp; omega))).trans ((World.cell?_of_block (Below.heap_setCell _ _ _ _ (by simp; omega))).trans u1)), ((World.cell?_of_block (Below.heap_setCell _ _ _ _ (by simp; omega))).trans ((World.cell?_of_block (Below.heap_setCell _ _ _ _ (by simp; omega))).trans s0)), ((World.cell?_of_block (Below.heap_setCell _ _ _ _ (by simp; omega))).trans ((World.cell?_of_block (Below.heap_setCell _ _ _ _ (by simp; omega))).trans s1))⟩ (fun hHeld => ?_)
            clear hK K; (try simp only [Act.put, List.setIfInBounds_toArray, List.set_cons_zero, List.set_cons_succ])
            refine wpAnyH_done (by kernel_rfl) ?_ _
            go_wp2_with fail
            refine ⟨⟨k + 1, A7, c7, w6.heap.size, w7.heap.size, by omega, by go_num, (RB7.out.set 0 _).set 1 _, ?_, by omega, by simp [World.setCell], .inr (by omega), ((hch.trans ((Chg.of_below HBW2.out).trans ((Chg.of_below HB6.out).trans (Chg.of_below HB7.out)))).setCell ⟨Nat.le_refl _, Nat.lt_succ_self _⟩ _).setCell ⟨Nat.le_refl _, Nat.lt_succ_self _⟩ _⟩, by simp [intOf]; omega⟩
            rw [HZ.out]
            exact ho7.same (by (with_reducible repeat' first | exact Same.refl _ _ _ | assumption | (refine Same.setCell ?_ (by first | omega | (simp; omega) | (simp; done) | (dsimp only; omega)) _) | (refine Same.alloc ?_ (by first | omega | (simp; omega) | (simp; done) | (dsimp only; omega)) _) | (refine Same.drewN ?_ _) | (refine Same.drew ?_)))
          ·
            go_simp
            (go_at_call 97; (with_reducible refine (stepRelation_any _ _ _ _ lo hi xs ys kd ag _ hX.drew hY.drew zrd hkd HO.out).mono ?_); rintro e w6 ⟨A6, c6, rfl, ho6, hb6⟩; replace hb6 := undrew hb6; replace ho6 : EIntS.OS w6 W2.heap.size w6.heap.size (.slice A6 xs.length c6) (relM xs.length (leadM xs ys ⟨kd, ag⟩)) := ho6; replace o0 := (hb6.cell (p := ⟨w3.heap.size, 0, none⟩) (by simp; omega)).trans o0; replace o1 := (hb6.cell (p := ⟨w3.heap.size, 1, none⟩) (by simp; omega)).trans o1; replace u0 := (hb6.cell (p := ⟨w.heap.size, 0, none⟩) (by simp; omega)).trans u0; replace u1 := (hb6.cell (p := ⟨w.heap.size, 1, none⟩) (by simp; omega)).trans u1; replace s0 := (hb6.cell (p := ⟨wr.heap.size, 0, none⟩) (by simp; omega)).trans s0; replace s1 := (hb6.cell (p := ⟨wr.heap.size, 1, none⟩) (by simp; omega)).trans s1; (have RB6 := Lib.hid (RB.out.below hb6 (by omega))); (have f0 := RB6.out.free 0); (have f1 := RB6.out.free 1); (have HB6 := Lib.hid hb6); (have z6 := hb6.size); (have z56 : hi5 ≤ w6.heap.size := by omega); (have lb6 : w3.heap.size < w6.heap.size := by omega); clear hb6)
            try go_wp2_with fail
            refine hK.out _ _ ⟨u0, u1, s0, s1⟩ (fun hHeld => ?_)
            clear hK K; (try simp only [Act.put, List.setIfInBounds_toArray, List.set_cons_zero, List.set_cons_succ])
            refine wpAnyH_ready (rs := [0]) (by kernel_rfl) (by simp) ?_
            refine AllReadyH.cons (o := { dst := some 29, op := _, type := _, pos := _, after := _, guard := _ }) rfl (fun K hK => ?_) AllReadyH.nil
            go_simp
            refine hK.out _ _ (by assumption) (fun hHeld => ?_)
            clear hK K; (try simp only [Act.put, List.setIfInBounds_toArray, List.set_cons_zero, List.set_cons_succ])
            refine wpAnyH_ready (rs := [4]) (by kernel_rfl) (by simp) ?_
            refine AllReadyH.cons (o := { dst := some 33, op := _, type := _, pos := _, after := _, guard := _ }) rfl (fun K hK => ?_) AllReadyH.nil
            go_simp
            (go_at_call 71; (with_reducible refine (compP_any xs.length _ _ _ _ _ _ lo5 hi5 W2.heap.size w6.heap.size _ hn (ho5.read.as.same (Same.of_below HB6.out (by omega))) ho6.read.as z56 (Nat.le_refl _)).mono ?_); rintro e w7 ⟨A7, c7, rfl, ho7, hb7⟩; replace u0 := (hb7.cell (p := ⟨w.heap.size, 0, none⟩) (by simp; omega)).trans u0; replace u1 := (hb7.cell (p := ⟨w.heap.size, 1, none⟩) (by simp; omega)).trans u1; replace s0 := (hb7.cell (p := ⟨wr.heap.size, 0, none⟩) (by simp; omega)).trans s0; replace s1 := (hb7.cell (p := ⟨wr.heap.size, 1, none⟩) (by simp; omega)).trans s1; (have RB7 := Lib.hid (RB6.out.below hb7 (by omega))); (have f0 := RB7.out.free 0); (have f1 := RB7.out.free 1); (have g0 := RB7.out.cell (i := 0) rfl); (have g1 := RB7.out.cell (i := 1) rfl); (have HB7 := Lib.hid hb7); (have z7 := hb7.size); (have lb7 : w3.heap.size < w7.heap.size := by omega); clear hb7)
            try go_wp2_with fail
            refine hK.out _ _ ⟨u0, u1, s0, s1⟩ (fun hHeld => ?_)
            clear hK K; (try simp only [Act.put, List.setIfInBounds_toArray, List.set_cons_zero, List.set_cons_succ])
            refine wpAnyH_ready (rs := [5]) (by kernel_rfl) (by simp) ?_
            refine AllReadyH.cons (o := { dst := none, op := _, type := _, pos := _, after := _, guard := _ }) rfl (fun K hK => ?_) AllReadyH.nil
            go_simp
            refine hK.out _ _ ⟨((World.cell?_of_block (Below.heap_setCell _ _ _ _ (by simp; omega))).trans ((World.cell?_of_block (Below.heap_setCell _ _ _ _ (by simp; omega))).trans u0)), ((World.cell?_of_block (Below.heap_setCell _ _ _ _ (by simp; omega))).trans ((World.cell?_of_block (Below.heap_setCell _ _ _ _ (by simp; omega))).trans u1)), ((World.cell?_of_block (Below.heap_setCell _ _ _ _ (by simp; omega))).trans ((World.cell?_of_block (Below.heap_setCell _ _ _ _ (by simp; omega))).trans s0)), ((World.cell?_of_block (Below.heap_setCell _ _ _ _ (by simp; omega))).trans ((World.cell?_of_block (Below.heap_setCell _ _ _ _ (by simp; omega))).trans s1))⟩ (fun hHeld => ?_)
            clear hK K; (try simp only [Act.put, List.setIfInBounds_toArray, List.set_cons_zero, List.set_cons_succ])
            refine wpAnyH_done (by kernel_rfl) ?_ _
            go_wp2_with fail
            refine ⟨⟨k + 1, A7, c7, w6.heap.size, w7.heap.size, by omega, by go_num, (RB7.out.set 0 _).set 1 _, ?_, by omega, by simp [World.setCell], .inr (by omega), ((hch.trans ((Chg.of_below HBW2.out).trans ((Chg.of_below HB6.out).trans (Chg.of_below HB7.out)))).setCell ⟨Nat.le_refl _, Nat.lt_succ_self _⟩ _).setCell ⟨Nat.le_refl _, Nat.lt_succ_self _⟩ _⟩, by simp [intOf]; omega⟩
            rw [HZ.out]
            exact ho7.same (by (with_reducible repeat' first | exact Same.refl _ _ _ | assumption | (refine Same.setCell ?_ (by first | omega | (simp; omega) | (simp; done) | (dsimp only; omega)) _) | (refine Same.alloc ?_ (by first | omega | (simp; omega) | (simp; done) | (dsimp only; omega)) _) | (refine Same.drewN ?_ _) | (refine Same.drew ?_)))
        · obtain rfl : k = zs.length := by omega
          have f0 := r32.free 0; have f1 := r32.free 1
          have g0 := r32.cell (i := 0) rfl; have g1 := r32.cell (i := 1) rfl
          go_wp2_with fail
          have R := (r32.set 0 (.int .i64 xs.length)).set 1 (.slice A5 xs.length c5)
          refine bodyPost_ret (v := .agg #[.int .i64 xs.length, .slice A5 xs.length c5]) (by simp [results, Try.results23, go_sem, R.cell (i := 0) rfl, R.cell (i := 1) rfl]) rfl ?_
          exact ⟨A5, c5, by simp only [relM_len], by simpa only [relM_len] using (ho5.same (by (with_reducible repeat' first | exact Same.refl _ _ _ | assumption | (refine Same.setCell ?_ (by first | omega | (simp; omega) | (simp; done) | (dsimp only; omega)) _) | (refine Same.alloc ?_ (by first | omega | (simp; omega) | (simp; done) | (dsimp only; omega)) _) | (refine Same.drewN ?_ _) | (refine Same.drew ?_)))).mono (by first | omega | (simp; omega) | (simp; done) | (dsimp only; omega)) (by first | omega | (simp; omega) | (simp; done) | (dsimp only; omega)), by (with_reducible repeat' first | exact Below.refl _ _ | assumption | (refine Below.setCell ?_ (by first | omega | (simp; omega) | (simp; done) | (dsimp only; omega)) _) | (refine Below.alloc ?_ (by first | omega | (simp; omega) | (simp; done) | (dsimp only; omega)) _) | (refine below_drewN ?_ _) | (refine Below.drew ?_) | (refine Below.trans ?_ (hbr.mono (by first | omega | (simp; omega) | (simp; done) | (dsimp only; omega)))))⟩
end Go.Proofs.Ytnnjilkjjdiblaa
