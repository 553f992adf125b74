/-
  The relation of a kin type, in the reference.
-/
import Derived.Test.YtnnjilkjjdiblaaGridS
import Derived.Test.YtnnjilkjjdiblaaGLead
import Derived.Test.YtnnjilkjjdiblaaGAlg
import Derived.Deep.Cut
import Derived.Deep.DeepCutAuto
namespace Go.Proofs.Ytnnjilkjjdiblaa
set_option maxRecDepth 100000
open Go.RowKit

def WaysRel (P : Nat → Nat → Nat → Bool) (m n lo : Nat) (W : World) (v i : Value) (wr : World) : Prop :=
  ∃ (k : Nat) (A : Option Addr) (c : Nat), k ≤ m ∧ i = .int .i64 k ∧ v = .slice A n c ∧ EBoolS.OS wr lo wr.heap.size (.slice A n c) (mat n (P k)) ∧ Below W.heap.size W wr

set_option maxHeartbeats 8000000 in
theorem specRelationFor_any (A B D : Option Addr) (c d e lo hi lo' hi' : Nat) (xs : List Person) (ys : List Union) (ego : Int) (zs : List Step) (w : World) (h : EPerson.AS w lo hi A xs) (h' : EUnion.AS w lo hi B ys) (h'' : EStep.AS w lo' hi' D zs) (hh : hi ≤ w.heap.size) (hh' : hi' ≤ w.heap.size) (hs : totP xs ≤ 1048576) :
    Calls Try.prog 64 #[.agg #[.slice A xs.length c, .slice B ys.length d], .agg #[.int .i64 ego, .slice D zs.length e]] w (RetRel w (relForM xs ys ⟨ego, zs⟩)) := by
  cases ho : famOk xs ys with
  | false =>
    have HO := Lib.hid ho
    have HN := Lib.hid (relForM_fam (t := ⟨ego, zs⟩) ho)
    clear ho
    rw [HN.out]
    go_enter Try.func64, Try.ntmps64
    go_wp2_with (go_at_call 133; (with_reducible refine (specIsFamily_any _ _ _ _ lo hi xs ys _ (h.same (by (with_reducible repeat' first | exact Same.refl _ _ _ | assumption | (refine Same.setCell ?_ (by first | omega | (simp; omega) | (simp; done) | (dsimp only; omega)) _) | (refine Same.alloc ?_ (by first | omega | (simp; omega) | (simp; done) | (dsimp only; omega)) _) | (refine Same.drewN ?_ _) | (refine Same.drew ?_)))) (h'.same (by (with_reducible repeat' first | exact Same.refl _ _ _ | assumption | (refine Same.setCell ?_ (by first | omega | (simp; omega) | (simp; done) | (dsimp only; omega)) _) | (refine Same.alloc ?_ (by first | omega | (simp; omega) | (simp; done) | (dsimp only; omega)) _) | (refine Same.drewN ?_ _) | (refine Same.drew ?_)))) (by first | omega | (simp; omega) | (simp; done) | (dsimp only; omega)) hs).mono ?_); rintro e w1 ⟨rfl, hb1⟩; simp only [HO.out]; (obtain ⟨hb1c, hb1f⟩ := bcell hb1); (have hb1z := hb1.size); (try simp only [szs] at hb1c hb1f hb1z); (have lt1 : w.heap.size + 1 + 1 < w1.heap.size := (by omega)); (have lu1 : w.heap.size + 1 < w1.heap.size := (by omega)); (have lv1 : w.heap.size < w1.heap.size := (by omega)); (have r1 : Blk w1 (w.heap.size + 1 + 1) 38 #[.int .i64 0, .slice none 0 0] := (Blk.new _ (by simp)).below hb1 (by simp)); (have g0 := r1.cell (i := 0) rfl); (have g1 := r1.cell (i := 1) rfl); (have f0 := r1.free 0); (have f1 := r1.free 1))
    have R := (r1.set 0 (.int .i64 0)).set 1 (.slice none 0 0)
    exact bodyPost_ret (v := .agg #[.int .i64 0, .slice none 0 0]) (by simp [results, Try.results64, go_sem, R.cell (i := 0) rfl, R.cell (i := 1) rfl]) rfl (RetRel.zero (by (with_reducible repeat' first | exact Below.refl _ _ | assumption | (refine Below.setCell ?_ (by first | omega | (simp; omega) | (simp; done) | (dsimp only; omega)) _) | (refine Below.alloc ?_ (by first | omega | (simp; omega) | (simp; done) | (dsimp only; omega)) _) | (refine below_drewN ?_ _) | (refine Below.drew ?_) | (refine Below.trans ?_ (hb1.mono (by first | omega | (simp; omega) | (simp; done) | (dsimp only; omega)))))))
  | true =>
    have HO := Lib.hid ho
    have hn := Lib.hid (famOk_parts ho).1
    cases ht : typeOk ⟨ego, zs⟩ with
    | false =>
      have HT := Lib.hid ht
      have HN := Lib.hid (relForM_typ (xs := xs) (ys := ys) ht)
      clear ho ht
      rw [HN.out]
      go_enter Try.func64, Try.ntmps64
      go_wp2_with (first
        | (go_at_call 133; (with_reducible refine (specIsFamily_any _ _ _ _ lo hi xs ys _ (h.same (by (with_reducible repeat' first | exact Same.refl _ _ _ | assumption | (refine Same.setCell ?_ (by first | omega | (simp; omega) | (simp; done) | (dsimp only; omega)) _) | (refine Same.alloc ?_ (by first | omega | (simp; omega) | (simp; done) | (dsimp only; omega)) _) | (refine Same.drewN ?_ _) | (refine Same.drew ?_)))) (h'.same (by (with_reducible repeat' first | exact Same.refl _ _ _ | assumption | (refine Same.setCell ?_ (by first | omega | (simp; omega) | (simp; done) | (dsimp only; omega)) _) | (refine Same.alloc ?_ (by first | omega | (simp; omega) | (simp; done) | (dsimp only; omega)) _) | (refine Same.drewN ?_ _) | (refine Same.drew ?_)))) (by first | omega | (simp; omega) | (simp; done) | (dsimp only; omega)) hs).mono ?_); rintro e w1 ⟨rfl, hb1⟩; simp only [HO.out]; (obtain ⟨hb1c, hb1f⟩ := bcell hb1); (have hb1z := hb1.size); (try simp only [szs] at hb1c hb1f hb1z); (have lt1 : w.heap.size + 1 + 1 < w1.heap.size := (by omega)); (have lu1 : w.heap.size + 1 < w1.heap.size := (by omega)); (have lv1 : w.heap.size < w1.heap.size := (by omega)); (have r1 : Blk w1 (w.heap.size + 1 + 1) 38 #[.int .i64 0, .slice none 0 0] := (Blk.new _ (by simp)).below hb1 (by simp)); (have g0 := r1.cell (i := 0) rfl); (have g1 := r1.cell (i := 1) rfl); (have f0 := r1.free 0); (have f1 := r1.free 1))
        | (go_at_call 85; (with_reducible refine (specIsType_any ego _ _ _ _ zs _ (h''.same (by (with_reducible repeat' first | exact Same.refl _ _ _ | assumption | (refine Same.setCell ?_ (by first | omega | (simp; omega) | (simp; done) | (dsimp only; omega)) _) | (refine Same.alloc ?_ (by first | omega | (simp; omega) | (simp; done) | (dsimp only; omega)) _) | (refine Same.drewN ?_ _) | (refine Same.drew ?_) | (refine Same.trans ?_ (Same.of_below hb1 (by first | omega | (simp; omega) | (simp; done) | (dsimp only; omega))))))) (by first | omega | (simp; omega) | (simp; done) | (dsimp only; omega))).mono ?_); rintro e w2 ⟨rfl, hb2⟩; simp only [HT.out]; (obtain ⟨hb2c, hb2f⟩ := bcell hb2); (have hb2z := hb2.size); (try simp only [szs] at hb2c hb2f hb2z); (have lt2 : w.heap.size + 1 + 1 < w2.heap.size := (by omega)); (have lu2 : w.heap.size + 1 < w2.heap.size := (by omega)); (have lv2 : w.heap.size < w2.heap.size := (by omega)); (have r2 := r1.below hb2 (by omega)); (have g0 := r2.cell (i := 0) rfl); (have g1 := r2.cell (i := 1) rfl); (have f0 := r2.free 0); (have f1 := r2.free 1)))
      have R := (r2.set 0 (.int .i64 0)).set 1 (.slice none 0 0)
      exact bodyPost_ret (v := .agg #[.int .i64 0, .slice none 0 0]) (by simp [results, Try.results64, go_sem, R.cell (i := 0) rfl, R.cell (i := 1) rfl]) rfl (RetRel.zero (by (with_reducible repeat' first | exact Below.refl _ _ | assumption | (refine Below.setCell ?_ (by first | omega | (simp; omega) | (simp; done) | (dsimp only; omega)) _) | (refine Below.alloc ?_ (by first | omega | (simp; omega) | (simp; done) | (dsimp only; omega)) _) | (refine below_drewN ?_ _) | (refine Below.drew ?_) | (refine Below.trans ?_ (hb2.mono (by first | omega | (simp; omega) | (simp; done) | (dsimp only; omega)))) | (refine Below.trans ?_ (hb1.mono (by first | omega | (simp; omega) | (simp; done) | (dsimp only; omega)))))))
    | true =>
      have HT := Lib.hid ht
      have HN := Lib.hid (relForM_in ho ht)
      have HKD := Lib.hid (fun k s (hk : zs[k]? = some s) => typeOk_at ht (k := k) (s := s) hk)
      have hl8 := typeOk_len ht
      have hl := Lib.hid (fun p => mat_len xs.length p)
      clear ho ht
      simp only at hl8
      rw [HN.out]
      have HHX := Lib.hid h; have HHY := Lib.hid h'; have HHZ := Lib.hid h''
      go_enter Try.func64, Try.ntmps64
      go_wp2_with (first
        | (go_at_call 133; (with_reducible refine (specIsFamily_any _ _ _ _ lo hi xs ys _ (h.same (by (with_reducible repeat' first | exact Same.refl _ _ _ | assumption | (refine Same.setCell ?_ (by first | omega | (simp; omega) | (simp; done) | (dsimp only; omega)) _) | (refine Same.alloc ?_ (by first | omega | (simp; omega) | (simp; done) | (dsimp only; omega)) _) | (refine Same.drewN ?_ _) | (refine Same.drew ?_)))) (h'.same (by (with_reducible repeat' first | exact Same.refl _ _ _ | assumption | (refine Same.setCell ?_ (by first | omega | (simp; omega) | (simp; done) | (dsimp only; omega)) _) | (refine Same.alloc ?_ (by first | omega | (simp; omega) | (simp; done) | (dsimp only; omega)) _) | (refine Same.drewN ?_ _) | (refine Same.drew ?_)))) (by first | omega | (simp; omega) | (simp; done) | (dsimp only; omega)) hs).mono ?_); rintro e w1 ⟨rfl, hb1⟩; simp only [HO.out]; (obtain ⟨hb1c, hb1f⟩ := bcell hb1); (have hb1z := hb1.size); (try simp only [szs] at hb1c hb1f hb1z); (have lt1 : w.heap.size + 1 + 1 < w1.heap.size := (by omega)); (have lu1 : w.heap.size + 1 < w1.heap.size := (by omega)); (have lv1 : w.heap.size < w1.heap.size := (by omega)); (have r1 : Blk w1 (w.heap.size + 1 + 1) 38 #[.int .i64 0, .slice none 0 0] := (Blk.new _ (by simp)).below hb1 (by simp)); (have g0 := r1.cell (i := 0) rfl); (have g1 := r1.cell (i := 1) rfl); (have f0 := r1.free 0); (have f1 := r1.free 1))
        | (go_at_call 85; (with_reducible refine (specIsType_any ego _ _ _ _ zs _ (h''.same (by (with_reducible repeat' first | exact Same.refl _ _ _ | assumption | (refine Same.setCell ?_ (by first | omega | (simp; omega) | (simp; done) | (dsimp only; omega)) _) | (refine Same.alloc ?_ (by first | omega | (simp; omega) | (simp; done) | (dsimp only; omega)) _) | (refine Same.drewN ?_ _) | (refine Same.drew ?_) | (refine Same.trans ?_ (Same.of_below hb1 (by first | omega | (simp; omega) | (simp; done) | (dsimp only; omega))))))) (by first | omega | (simp; omega) | (simp; done) | (dsimp only; omega))).mono ?_); rintro e w2 ⟨rfl, hb2⟩; simp only [HT.out]; (obtain ⟨hb2c, hb2f⟩ := bcell hb2); (have hb2z := hb2.size); (try simp only [szs] at hb2c hb2f hb2z); (have lt2 : w.heap.size + 1 + 1 < w2.heap.size := (by omega)); (have lu2 : w.heap.size + 1 < w2.heap.size := (by omega)); (have lv2 : w.heap.size < w2.heap.size := (by omega)); (have r2 := r1.below hb2 (by omega)); (have g0 := r2.cell (i := 0) rfl); (have g1 := r2.cell (i := 1) rfl); (have f0 := r2.free 0); (have f1 := r2.free 1))
        | (go_at_call 99; (with_reducible refine (l2Blank_any xs.length _ hn.out).mono ?_); rintro e w3 ⟨A3, c3, rfl, ho3, hb3⟩; rw [mat_blank] at ho3; (obtain ⟨hb3c, hb3f⟩ := bcell hb3); (have hb3z := hb3.size); (try simp only [szs] at hb3c hb3f hb3z); have lt3 : w.heap.size + 1 + 1 < w3.heap.size := (by omega)))
      have hbw : Below w.heap.size w w3 := by (with_reducible repeat' first | exact Below.refl _ _ | assumption | (refine Below.setCell ?_ (by first | omega | (simp; omega) | (simp; done) | (dsimp only; omega)) _) | (refine Below.alloc ?_ (by first | omega | (simp; omega) | (simp; done) | (dsimp only; omega)) _) | (refine below_drewN ?_ _) | (refine Below.drew ?_) | (refine Below.trans ?_ (hb3.mono (by first | omega | (simp; omega) | (simp; done) | (dsimp only; omega)))) | (refine Below.trans ?_ (hb2.mono (by first | omega | (simp; omega) | (simp; done) | (dsimp only; omega)))) | (refine Below.trans ?_ (hb1.mono (by first | omega | (simp; omega) | (simp; done) | (dsimp only; omega)))))
      have r0 : Blk w3 (w.heap.size + 1 + 1) 38 #[.int .i64 0, .slice none 0 0] := r2.below hb3 lt2
      have rf : Blk w3 w.heap.size 26 #[.slice A xs.length c, .slice B ys.length d] := (((((Blk.new w rfl).alloc _).alloc _).below hb1 (by simp; omega)).below hb2 lv1).below hb3 lv2
      have rt : Blk w3 (w.heap.size + 1) 30 #[.int .i64 ego, .slice D zs.length e] := ((((Blk.new _ (by simp)).alloc _).below hb1 (by simp)).below hb2 lu1).below hb3 lu2
      have hX := HHX.out.same (Same.of_below hbw hh)
      have hY := HHY.out.same (Same.of_below hbw hh)
      have hZ := HHZ.out.same (Same.of_below hbw hh')
      have z2 : w.heap.size + 1 + 1 < w2.heap.size := lt2
      have z3 := hb3z
      rw [← diagTo_zero xs ego] at ho3
      clear hb1 hb1c hb1f hb2 hb2c hb2f hb3 hb3c hb3f h h' h''
      go_loopw [26] (fun i wr => TabRel (diagTo xs ego) xs.length w2.heap.size w3.heap.size A3 c3 w3 i wr) (fun i _ => xs.length - (intOf i).toNat)
      case atStart => exact ⟨0, Nat.zero_le _, rfl, ho3, Chg.refl _ _ _, Nat.le_refl _⟩
      case round =>
        have hn40 := hn.out
        obtain ⟨k, hk, rfl, ho4, hch2, hsz2⟩ := hrel
        have zc := hch2.size
        have rf2 := rf.chg hch2 (.inl (by omega))
        have rt2 := rt.chg hch2 (.inl (by omega))
        have r02 := r0.chg hch2 (.inl (by omega))
        have lw : w.heap.size + 1 + 1 < wr.heap.size := by omega
        have u0 := rf2.cell (i := 0) rfl; have u1 := rf2.cell (i := 1) rfl
        have t0 := rt2.cell (i := 0) rfl; have t1 := rt2.cell (i := 1) rfl
        by_cases hlk : k < xs.length
        · obtain ⟨b, off, ⟨x0, x1, x2, x3, x4, x5⟩, rfl, f1, f2, _, hxk, hc0, hc1, hc2, hc3, hc4, hc5⟩ := APerson.at_ (hX.same (Same.of_chg hch2 (by omega) (.inl (by omega)))) hlk
          simp only at hc0 hc1 hc2 hc3 hc4 hc5
          have HXK := Lib.hid hxk; clear hxk
          have lb : b < wr.heap.size := by omega
          clear rf2 rt2 r02
          go_upto_region 7 with fail
          generalize hW2 : wr.alloc (.cells #[.string x0, .int .i64 x1, .int .i64 x2, .int .i64 x3, .int .i64 x4, .int .i64 x5] 99) = W2
          have px : W2.cell? ⟨wr.heap.size, 1, none⟩ = some (.int .i64 x1) := by subst hW2; simp [go_sem]
          have hbW2 : Below wr.heap.size wr W2 := by subst hW2; (with_reducible repeat' first | exact Below.refl _ _ | assumption | (refine Below.setCell ?_ (by first | omega | (simp; omega) | (simp; done) | (dsimp only; omega)) _) | (refine Below.alloc ?_ (by first | omega | (simp; omega) | (simp; done) | (dsimp only; omega)) _) | (refine below_drewN ?_ _) | (refine Below.drew ?_))
          have zW2 : wr.heap.size < W2.heap.size := by subst hW2; simp
          clear hW2 hc0 hc1 hc2 hc3 hc4 hc5
          replace t0 := (hbW2.cell (p := ⟨w.heap.size + 1, 0, none⟩) (by simp; omega)).trans t0
          have ho5 := ho4.same (Same.of_below hbW2 hsz2)
          obtain ⟨gg, r, cc, cc', hv, g1, g2, r1, r2, k1, k2, k3, k4, hset⟩ := mat_own ho5 (by omega) hlk hlk
          injection hv with hv _ hcc
          subst hv; subst hcc
          have HNE := Lib.hid (mat_apart ho5 hlk k1)
          have HS' := Lib.hid @hset; clear hset
          have HBW2 := Lib.hid hbW2; clear hbW2
          have lr : r < W2.heap.size := by omega
          have lg : gg < W2.heap.size := by omega
          have i1 : (0 : Int) ≤ (k : Int) ∧ (k : Int) < (xs.length : Int) := by omega
          by_cases he : ego = 0
          · have n1 : (ego == 0) = true := by simp [he]
            have HEG := Lib.hid (show egoIs ⟨x0, x1, x2, x3, x4, x5⟩ ego = true by simp [egoIs, he])
            clear he
            refine wp_region_held_drew (S := fun w' => w'.cell? ⟨gg, k, none⟩ = some (.slice (some ⟨r, 0, none⟩) xs.length cc') ∧ w'.cell? ⟨w.heap.size + 1, 0, none⟩ = some (.int .i64 ego) ∧ w'.cell? ⟨wr.heap.size, 1, none⟩ = some (.int .i64 x1)) (by kernel_rfl) ⟨k1, t0, px⟩ (fun hHeld => ?_)
            refine wpAnyH_take (i := 0) (oi := { dst := some 31, op := _, type := _, pos := _, after := _, guard := _ }) (v := ?_) rfl (by kernel_rfl) (by kernel_rfl) (by kernel_rfl) (fun _ _ _ h => h) (Or.inl ⟨by rfl, ?_⟩) (by assumption) ?_; rotate_left; (intro w hSw; (try dsimp only at hSw); go_simp); (try with_reducible rfl); (try simp only [Act.put, List.setIfInBounds_toArray, List.set_cons_zero, List.set_cons_succ])
            refine wpAnyH_take (i := 1) (oi := { dst := some 32, op := _, type := _, pos := _, after := _, guard := _ }) (v := ?_) rfl (by kernel_rfl) (by kernel_rfl) (by kernel_rfl) (fun _ _ _ h => h) (Or.inl ⟨by rfl, ?_⟩) (by assumption) ?_; rotate_left; (intro w hSw; (try dsimp only at hSw); go_simp); (try with_reducible rfl); (try simp only [Act.put, List.setIfInBounds_toArray, List.set_cons_zero, List.set_cons_succ])
            refine wpAnyH_take (i := 2) (oi := { dst := some 33, op := _, type := _, pos := _, after := _, guard := _ }) (v := ?_) rfl (by kernel_rfl) (by kernel_rfl) (by kernel_rfl) (fun _ _ _ h => h) (Or.inl ⟨by rfl, ?_⟩) (by assumption) ?_; rotate_left; (intro w hSw; (try dsimp only at hSw); go_simp); (try with_reducible rfl); (try simp only [Act.put, List.setIfInBounds_toArray, List.set_cons_zero, List.set_cons_succ])
            refine wpAnyH_take (i := 3) (oi := { dst := some 34, op := _, type := _, pos := _, after := _, guard := _ }) (v := ?_) rfl (by kernel_rfl) (by kernel_rfl) (by kernel_rfl) (fun _ _ _ h => h) (Or.inl ⟨by rfl, ?_⟩) (by assumption) ?_; rotate_left; (intro w hSw; (try dsimp only at hSw); go_simp); (try with_reducible rfl); (try simp only [Act.put, List.setIfInBounds_toArray, List.set_cons_zero, List.set_cons_succ])
            refine wpAnyH_take (i := 4) (oi := { dst := some 35, op := _, type := _, pos := _, after := _, guard := _ }) (v := ?_) rfl (by kernel_rfl) (by kernel_rfl) (by kernel_rfl) (fun _ _ _ h => h) (Or.inl ⟨by rfl, ?_⟩) (by assumption) ?_; rotate_left; (intro w hSw; (try dsimp only at hSw); go_simp); (try with_reducible rfl); (try simp only [Act.put, List.setIfInBounds_toArray, List.set_cons_zero, List.set_cons_succ])
            refine wpAnyH_take (i := 5) (oi := { dst := some 36, op := _, type := _, pos := _, after := _, guard := _ }) (v := ?_) rfl (by kernel_rfl) (by kernel_rfl) (by kernel_rfl) (fun _ _ _ h => h) (Or.inl ⟨by rfl, ?_⟩) (by assumption) ?_; rotate_left; (intro w hSw; (try dsimp only at hSw); go_simp); (try with_reducible rfl); (try simp only [Act.put, List.setIfInBounds_toArray, List.set_cons_zero, List.set_cons_succ])
            refine wpAnyH_take (i := 6) (oi := { dst := some 37, op := _, type := _, pos := _, after := _, guard := _ }) (v := ?_) rfl (by kernel_rfl) (by kernel_rfl) (by kernel_rfl) (fun _ _ _ h => h) (Or.inl ⟨by rfl, ?_⟩) (by assumption) ?_; rotate_left; (intro w hSw; (try dsimp only at hSw); go_simp); (try with_reducible rfl); (try simp only [Act.put, List.setIfInBounds_toArray, List.set_cons_zero, List.set_cons_succ])
            refine wpAnyH_take (i := 7) (oi := { dst := some 38, op := _, type := _, pos := _, after := _, guard := _ }) (v := ?_) rfl (by kernel_rfl) (by kernel_rfl) (by kernel_rfl) (fun _ _ _ h => h) (Or.inl ⟨by rfl, ?_⟩) (by assumption) ?_; rotate_left; (intro w hSw; (try dsimp only at hSw); go_simp); (try with_reducible rfl); (try simp only [Act.put, List.setIfInBounds_toArray, List.set_cons_zero, List.set_cons_succ])
            refine wpAnyH_take (i := 8) (oi := { dst := some 39, op := _, type := _, pos := _, after := _, guard := _ }) (v := ?_) rfl (by kernel_rfl) (by kernel_rfl) (by kernel_rfl) (fun _ _ _ h => h) (Or.inl ⟨by rfl, ?_⟩) (by assumption) ?_; rotate_left; (intro w hSw; (try dsimp only at hSw); go_simp); (try with_reducible rfl); (try simp only [Act.put, List.setIfInBounds_toArray, List.set_cons_zero, List.set_cons_succ])
            refine wpAnyH_take (i := 9) (oi := { dst := some 40, op := _, type := _, pos := _, after := _, guard := _ }) (v := _) rfl (by kernel_rfl) (by kernel_rfl) (by kernel_rfl) (fun _ _ _ h => h) (Or.inr ⟨by kernel_rfl, rfl⟩) (by assumption) ?_; (try simp only [Act.put, List.setIfInBounds_toArray, List.set_cons_zero, List.set_cons_succ])
            refine wpAnyH_take (i := 10) (oi := { dst := some 41, op := _, type := _, pos := _, after := _, guard := _ }) (v := _) rfl (by kernel_rfl) (by kernel_rfl) (by kernel_rfl) (fun _ _ _ h => h) (Or.inr ⟨by kernel_rfl, rfl⟩) (by assumption) ?_; (try simp only [Act.put, List.setIfInBounds_toArray, List.set_cons_zero, List.set_cons_succ])
            refine wpAnyH_take (i := 11) (oi := { dst := some 42, op := _, type := _, pos := _, after := _, guard := _ }) (v := _) rfl (by kernel_rfl) (by kernel_rfl) (by kernel_rfl) (fun _ _ _ h => h) (Or.inr ⟨by kernel_rfl, rfl⟩) (by assumption) ?_; (try simp only [Act.put, List.setIfInBounds_toArray, List.set_cons_zero, List.set_cons_succ])
            refine wpAnyH_take (i := 12) (oi := { dst := some 43, op := _, type := _, pos := _, after := _, guard := _ }) (v := _) rfl (by kernel_rfl) (by kernel_rfl) (by kernel_rfl) (fun _ _ _ h => h) (Or.inr ⟨by kernel_rfl, rfl⟩) (by assumption) ?_; (try simp only [Act.put, List.setIfInBounds_toArray, List.set_cons_zero, List.set_cons_succ])
            refine wpAnyH_take (i := 13) (oi := { dst := some 44, op := _, type := _, pos := _, after := _, guard := _ }) (v := _) rfl (by kernel_rfl) (by kernel_rfl) (by kernel_rfl) (fun _ _ _ h => h) (Or.inr ⟨by kernel_rfl, rfl⟩) (by assumption) ?_; (try simp only [Act.put, List.setIfInBounds_toArray, List.set_cons_zero, List.set_cons_succ])
            refine wpAnyH_take (i := 14) (oi := { dst := some 45, op := _, type := _, pos := _, after := _, guard := _ }) (v := ?_) rfl (by kernel_rfl) (by kernel_rfl) (by kernel_rfl) (fun _ _ _ h => h) (Or.inl ⟨by rfl, ?_⟩) (by assumption) ?_; rotate_left; (intro w hSw; (try dsimp only at hSw); go_simp); (try with_reducible rfl); (try simp only [Act.put, List.setIfInBounds_toArray, List.set_cons_zero, List.set_cons_succ])
            refine wpAnyH_take (i := 15) (oi := { dst := some 46, op := _, type := _, pos := _, after := _, guard := _ }) (v := ?_) rfl (by kernel_rfl) (by kernel_rfl) (by kernel_rfl) (fun _ _ _ h => h) (Or.inl ⟨by rfl, ?_⟩) (by assumption) ?_; rotate_left; (intro w hSw; (try dsimp only at hSw); go_simp); (try with_reducible rfl); (try simp only [Act.put, List.setIfInBounds_toArray, List.set_cons_zero, List.set_cons_succ])
            refine wpAnyH_ready (rs := [16]) (by kernel_rfl) (by simp) ?_
            refine AllReadyH.cons (o := { dst := none, op := _, type := _, pos := _, after := _, guard := _ }) rfl (fun K hK => ?_) AllReadyH.nil
            go_simp
            refine hK.out _ _ ⟨(World.cell?_of_block (Below.heap_setCell _ _ _ _ (HNE.out))).trans k1, (World.cell?_of_block (Below.heap_setCell _ _ _ _ (by simp; omega))).trans t0, (World.cell?_of_block (Below.heap_setCell _ _ _ _ (by simp; omega))).trans px⟩ (fun hHeld => ?_)
            clear hK K; (try simp only [Act.put, List.setIfInBounds_toArray, List.set_cons_zero, List.set_cons_succ])
            refine wpAnyH_done (by kernel_rfl) ?_ _
            go_wp2_with fail
            refine ⟨⟨k + 1, by omega, by go_num, ?_, ((hch2.trans (Chg.of_below HBW2.out)).setCell ⟨r1, r2⟩ _).drew, by simpa [World.setCell] using Nat.le_trans hsz2 (Nat.le_of_lt zW2)⟩, by simp [intOf]; omega⟩
            rw [← diagTo_step HXK.out, ← HEG.out]; exact (HS'.out _).same (Same.drew (Same.refl _ _ _))
          · have n1 : (ego == 0) = false := by simp [he]
            cases hx1 : decide (x1 = ego) with
            | true =>
              have n2 : (ego == x1) = true := by have := of_decide_eq_true hx1; simp [this]
              have HEG := Lib.hid (show egoIs ⟨x0, x1, x2, x3, x4, x5⟩ ego = true by have := of_decide_eq_true hx1; simp [egoIs, this])
              clear hx1 he
              refine wp_region_held_drew (S := fun w' => w'.cell? ⟨gg, k, none⟩ = some (.slice (some ⟨r, 0, none⟩) xs.length cc') ∧ w'.cell? ⟨w.heap.size + 1, 0, none⟩ = some (.int .i64 ego) ∧ w'.cell? ⟨wr.heap.size, 1, none⟩ = some (.int .i64 x1)) (by kernel_rfl) ⟨k1, t0, px⟩ (fun hHeld => ?_)
              refine wpAnyH_take (i := 0) (oi := { dst := some 31, op := _, type := _, pos := _, after := _, guard := _ }) (v := ?_) rfl (by kernel_rfl) (by kernel_rfl) (by kernel_rfl) (fun _ _ _ h => h) (Or.inl ⟨by rfl, ?_⟩) (by assumption) ?_; rotate_left; (intro w hSw; (try dsimp only at hSw); go_simp); (try with_reducible rfl); (try simp only [Act.put, List.setIfInBounds_toArray, List.set_cons_zero, List.set_cons_succ])
              refine wpAnyH_take (i := 1) (oi := { dst := some 32, op := _, type := _, pos := _, after := _, guard := _ }) (v := ?_) rfl (by kernel_rfl) (by kernel_rfl) (by kernel_rfl) (fun _ _ _ h => h) (Or.inl ⟨by rfl, ?_⟩) (by assumption) ?_; rotate_left; (intro w hSw; (try dsimp only at hSw); go_simp); (try with_reducible rfl); (try simp only [Act.put, List.setIfInBounds_toArray, List.set_cons_zero, List.set_cons_succ])
              refine wpAnyH_take (i := 2) (oi := { dst := some 33, op := _, type := _, pos := _, after := _, guard := _ }) (v := ?_) rfl (by kernel_rfl) (by kernel_rfl) (by kernel_rfl) (fun _ _ _ h => h) (Or.inl ⟨by rfl, ?_⟩) (by assumption) ?_; rotate_left; (intro w hSw; (try dsimp only at hSw); go_simp); (try with_reducible rfl); (try simp only [Act.put, List.setIfInBounds_toArray, List.set_cons_zero, List.set_cons_succ])
              refine wpAnyH_take (i := 3) (oi := { dst := some 34, op := _, type := _, pos := _, after := _, guard := _ }) (v := ?_) rfl (by kernel_rfl) (by kernel_rfl) (by kernel_rfl) (fun _ _ _ h => h) (Or.inl ⟨by rfl, ?_⟩) (by assumption) ?_; rotate_left; (intro w hSw; (try dsimp only at hSw); go_simp); (try with_reducible rfl); (try simp only [Act.put, List.setIfInBounds_toArray, List.set_cons_zero, List.set_cons_succ])
              refine wpAnyH_take (i := 4) (oi := { dst := some 35, op := _, type := _, pos := _, after := _, guard := _ }) (v := ?_) rfl (by kernel_rfl) (by kernel_rfl) (by kernel_rfl) (fun _ _ _ h => h) (Or.inl ⟨by rfl, ?_⟩) (by assumption) ?_; rotate_left; (intro w hSw; (try dsimp only at hSw); go_simp); (try with_reducible rfl); (try simp only [Act.put, List.setIfInBounds_toArray, List.set_cons_zero, List.set_cons_succ])
              refine wpAnyH_take (i := 5) (oi := { dst := some 36, op := _, type := _, pos := _, after := _, guard := _ }) (v := ?_) rfl (by kernel_rfl) (by kernel_rfl) (by kernel_rfl) (fun _ _ _ h => h) (Or.inl ⟨by rfl, ?_⟩) (by assumption) ?_; rotate_left; (intro w hSw; (try dsimp only at hSw); go_simp); (try with_reducible rfl); (try simp only [Act.put, List.setIfInBounds_toArray, List.set_cons_zero, List.set_cons_succ])
              refine wpAnyH_take (i := 6) (oi := { dst := some 37, op := _, type := _, pos := _, after := _, guard := _ }) (v := ?_) rfl (by kernel_rfl) (by kernel_rfl) (by kernel_rfl) (fun _ _ _ h => h) (Or.inl ⟨by rfl, ?_⟩) (by assumption) ?_; rotate_left; (intro w hSw; (try dsimp only at hSw); go_simp); (try with_reducible rfl); (try simp only [Act.put, List.setIfInBounds_toArray, List.set_cons_zero, List.set_cons_succ])
              refine wpAnyH_take (i := 7) (oi := { dst := some 38, op := _, type := _, pos := _, after := _, guard := _ }) (v := ?_) rfl (by kernel_rfl) (by kernel_rfl) (by kernel_rfl) (fun _ _ _ h => h) (Or.inl ⟨by rfl, ?_⟩) (by assumption) ?_; rotate_left; (intro w hSw; (try dsimp only at hSw); go_simp); (try with_reducible rfl); (try simp only [Act.put, List.setIfInBounds_toArray, List.set_cons_zero, List.set_cons_succ])
              refine wpAnyH_take (i := 8) (oi := { dst := some 39, op := _, type := _, pos := _, after := _, guard := _ }) (v := ?_) rfl (by kernel_rfl) (by kernel_rfl) (by kernel_rfl) (fun _ _ _ h => h) (Or.inl ⟨by rfl, ?_⟩) (by assumption) ?_; rotate_left; (intro w hSw; (try dsimp only at hSw); go_simp); (try with_reducible rfl); (try simp only [Act.put, List.setIfInBounds_toArray, List.set_cons_zero, List.set_cons_succ])
              refine wpAnyH_take (i := 9) (oi := { dst := some 40, op := _, type := _, pos := _, after := _, guard := _ }) (v := ?_) rfl (by kernel_rfl) (by kernel_rfl) (by kernel_rfl) (fun _ _ _ h => h) (Or.inl ⟨by rfl, ?_⟩) (by assumption) ?_; rotate_left; (intro w hSw; (try dsimp only at hSw); go_simp); (try with_reducible rfl); (try simp only [Act.put, List.setIfInBounds_toArray, List.set_cons_zero, List.set_cons_succ])
              refine wpAnyH_take (i := 10) (oi := { dst := some 41, op := _, type := _, pos := _, after := _, guard := _ }) (v := ?_) rfl (by kernel_rfl) (by kernel_rfl) (by kernel_rfl) (fun _ _ _ h => h) (Or.inl ⟨by rfl, ?_⟩) (by assumption) ?_; rotate_left; (intro w hSw; (try dsimp only at hSw); go_simp); (try with_reducible rfl); (try simp only [Act.put, List.setIfInBounds_toArray, List.set_cons_zero, List.set_cons_succ])
              refine wpAnyH_take (i := 11) (oi := { dst := some 42, op := _, type := _, pos := _, after := _, guard := _ }) (v := ?_) rfl (by kernel_rfl) (by kernel_rfl) (by kernel_rfl) (fun _ _ _ h => h) (Or.inl ⟨by rfl, ?_⟩) (by assumption) ?_; rotate_left; (intro w hSw; (try dsimp only at hSw); go_simp); (try with_reducible rfl); (try simp only [Act.put, List.setIfInBounds_toArray, List.set_cons_zero, List.set_cons_succ])
              refine wpAnyH_take (i := 12) (oi := { dst := some 43, op := _, type := _, pos := _, after := _, guard := _ }) (v := ?_) rfl (by kernel_rfl) (by kernel_rfl) (by kernel_rfl) (fun _ _ _ h => h) (Or.inl ⟨by rfl, ?_⟩) (by assumption) ?_; rotate_left; (intro w hSw; (try dsimp only at hSw); go_simp); (try with_reducible rfl); (try simp only [Act.put, List.setIfInBounds_toArray, List.set_cons_zero, List.set_cons_succ])
              refine wpAnyH_take (i := 13) (oi := { dst := some 44, op := _, type := _, pos := _, after := _, guard := _ }) (v := ?_) rfl (by kernel_rfl) (by kernel_rfl) (by kernel_rfl) (fun _ _ _ h => h) (Or.inl ⟨by rfl, ?_⟩) (by assumption) ?_; rotate_left; (intro w hSw; (try dsimp only at hSw); go_simp); (try with_reducible rfl); (try simp only [Act.put, List.setIfInBounds_toArray, List.set_cons_zero, List.set_cons_succ])
              refine wpAnyH_take (i := 14) (oi := { dst := some 45, op := _, type := _, pos := _, after := _, guard := _ }) (v := ?_) rfl (by kernel_rfl) (by kernel_rfl) (by kernel_rfl) (fun _ _ _ h => h) (Or.inl ⟨by rfl, ?_⟩) (by assumption) ?_; rotate_left; (intro w hSw; (try dsimp only at hSw); go_simp); (try with_reducible rfl); (try simp only [Act.put, List.setIfInBounds_toArray, List.set_cons_zero, List.set_cons_succ])
              refine wpAnyH_take (i := 15) (oi := { dst := some 46, op := _, type := _, pos := _, after := _, guard := _ }) (v := ?_) rfl (by kernel_rfl) (by kernel_rfl) (by kernel_rfl) (fun _ _ _ h => h) (Or.inl ⟨by rfl, ?_⟩) (by assumption) ?_; rotate_left; (intro w hSw; (try dsimp only at hSw); go_simp); (try with_reducible rfl); (try simp only [Act.put, List.setIfInBounds_toArray, List.set_cons_zero, List.set_cons_succ])
              refine wpAnyH_ready (rs := [16]) (by kernel_rfl) (by simp) ?_
              refine AllReadyH.cons (o := { dst := none, op := _, type := _, pos := _, after := _, guard := _ }) rfl (fun K hK => ?_) AllReadyH.nil
              go_simp
              refine hK.out _ _ ⟨(World.cell?_of_block (Below.heap_setCell _ _ _ _ (HNE.out))).trans k1, (World.cell?_of_block (Below.heap_setCell _ _ _ _ (by simp; omega))).trans t0, (World.cell?_of_block (Below.heap_setCell _ _ _ _ (by simp; omega))).trans px⟩ (fun hHeld => ?_)
              clear hK K; (try simp only [Act.put, List.setIfInBounds_toArray, List.set_cons_zero, List.set_cons_succ])
              refine wpAnyH_done (by kernel_rfl) ?_ _
              go_wp2_with fail
              refine ⟨⟨k + 1, by omega, by go_num, ?_, ((hch2.trans (Chg.of_below HBW2.out)).setCell ⟨r1, r2⟩ _).drew, by simpa [World.setCell] using Nat.le_trans hsz2 (Nat.le_of_lt zW2)⟩, by simp [intOf]; omega⟩
              rw [← diagTo_step HXK.out, ← HEG.out]; exact (HS'.out _).same (Same.drew (Same.refl _ _ _))
            | false =>
              have n2 : (ego == x1) = false := by have := of_decide_eq_false hx1; simp; omega
              have HEG := Lib.hid (show egoIs ⟨x0, x1, x2, x3, x4, x5⟩ ego = false by have := of_decide_eq_false hx1; simp [egoIs, this, he])
              clear hx1 he
              refine wp_region_held_drew (S := fun w' => w'.cell? ⟨gg, k, none⟩ = some (.slice (some ⟨r, 0, none⟩) xs.length cc') ∧ w'.cell? ⟨w.heap.size + 1, 0, none⟩ = some (.int .i64 ego) ∧ w'.cell? ⟨wr.heap.size, 1, none⟩ = some (.int .i64 x1)) (by kernel_rfl) ⟨k1, t0, px⟩ (fun hHeld => ?_)
              refine wpAnyH_take (i := 0) (oi := { dst := some 31, op := _, type := _, pos := _, after := _, guard := _ }) (v := ?_) rfl (by kernel_rfl) (by kernel_rfl) (by kernel_rfl) (fun _ _ _ h => h) (Or.inl ⟨by rfl, ?_⟩) (by assumption) ?_; rotate_left; (intro w hSw; (try dsimp only at hSw); go_simp); (try with_reducible rfl); (try simp only [Act.put, List.setIfInBounds_toArray, List.set_cons_zero, List.set_cons_succ])
              refine wpAnyH_take (i := 1) (oi := { dst := some 32, op := _, type := _, pos := _, after := _, guard := _ }) (v := ?_) rfl (by kernel_rfl) (by kernel_rfl) (by kernel_rfl) (fun _ _ _ h => h) (Or.inl ⟨by rfl, ?_⟩) (by assumption) ?_; rotate_left; (intro w hSw; (try dsimp only at hSw); go_simp); (try with_reducible rfl); (try simp only [Act.put, List.setIfInBounds_toArray, List.set_cons_zero, List.set_cons_succ])
              refine wpAnyH_take (i := 2) (oi := { dst := some 33, op := _, type := _, pos := _, after := _, guard := _ }) (v := ?_) rfl (by kernel_rfl) (by kernel_rfl) (by kernel_rfl) (fun _ _ _ h => h) (Or.inl ⟨by rfl, ?_⟩) (by assumption) ?_; rotate_left; (intro w hSw; (try dsimp only at hSw); go_simp); (try with_reducible rfl); (try simp only [Act.put, List.setIfInBounds_toArray, List.set_cons_zero, List.set_cons_succ])
              refine wpAnyH_take (i := 3) (oi := { dst := some 34, op := _, type := _, pos := _, after := _, guard := _ }) (v := ?_) rfl (by kernel_rfl) (by kernel_rfl) (by kernel_rfl) (fun _ _ _ h => h) (Or.inl ⟨by rfl, ?_⟩) (by assumption) ?_; rotate_left; (intro w hSw; (try dsimp only at hSw); go_simp); (try with_reducible rfl); (try simp only [Act.put, List.setIfInBounds_toArray, List.set_cons_zero, List.set_cons_succ])
              refine wpAnyH_take (i := 4) (oi := { dst := some 35, op := _, type := _, pos := _, after := _, guard := _ }) (v := ?_) rfl (by kernel_rfl) (by kernel_rfl) (by kernel_rfl) (fun _ _ _ h => h) (Or.inl ⟨by rfl, ?_⟩) (by assumption) ?_; rotate_left; (intro w hSw; (try dsimp only at hSw); go_simp); (try with_reducible rfl); (try simp only [Act.put, List.setIfInBounds_toArray, List.set_cons_zero, List.set_cons_succ])
              refine wpAnyH_take (i := 5) (oi := { dst := some 36, op := _, type := _, pos := _, after := _, guard := _ }) (v := ?_) rfl (by kernel_rfl) (by kernel_rfl) (by kernel_rfl) (fun _ _ _ h => h) (Or.inl ⟨by rfl, ?_⟩) (by assumption) ?_; rotate_left; (intro w hSw; (try dsimp only at hSw); go_simp); (try with_reducible rfl); (try simp only [Act.put, List.setIfInBounds_toArray, List.set_cons_zero, List.set_cons_succ])
              refine wpAnyH_take (i := 6) (oi := { dst := some 37, op := _, type := _, pos := _, after := _, guard := _ }) (v := ?_) rfl (by kernel_rfl) (by kernel_rfl) (by kernel_rfl) (fun _ _ _ h => h) (Or.inl ⟨by rfl, ?_⟩) (by assumption) ?_; rotate_left; (intro w hSw; (try dsimp only at hSw); go_simp); (try with_reducible rfl); (try simp only [Act.put, List.setIfInBounds_toArray, List.set_cons_zero, List.set_cons_succ])
              refine wpAnyH_take (i := 7) (oi := { dst := some 38, op := _, type := _, pos := _, after := _, guard := _ }) (v := ?_) rfl (by kernel_rfl) (by kernel_rfl) (by kernel_rfl) (fun _ _ _ h => h) (Or.inl ⟨by rfl, ?_⟩) (by assumption) ?_; rotate_left; (intro w hSw; (try dsimp only at hSw); go_simp); (try with_reducible rfl); (try simp only [Act.put, List.setIfInBounds_toArray, List.set_cons_zero, List.set_cons_succ])
              refine wpAnyH_take (i := 8) (oi := { dst := some 39, op := _, type := _, pos := _, after := _, guard := _ }) (v := ?_) rfl (by kernel_rfl) (by kernel_rfl) (by kernel_rfl) (fun _ _ _ h => h) (Or.inl ⟨by rfl, ?_⟩) (by assumption) ?_; rotate_left; (intro w hSw; (try dsimp only at hSw); go_simp); (try with_reducible rfl); (try simp only [Act.put, List.setIfInBounds_toArray, List.set_cons_zero, List.set_cons_succ])
              refine wpAnyH_take (i := 9) (oi := { dst := some 40, op := _, type := _, pos := _, after := _, guard := _ }) (v := ?_) rfl (by kernel_rfl) (by kernel_rfl) (by kernel_rfl) (fun _ _ _ h => h) (Or.inl ⟨by rfl, ?_⟩) (by assumption) ?_; rotate_left; (intro w hSw; (try dsimp only at hSw); go_simp); (try with_reducible rfl); (try simp only [Act.put, List.setIfInBounds_toArray, List.set_cons_zero, List.set_cons_succ])
              refine wpAnyH_take (i := 10) (oi := { dst := some 41, op := _, type := _, pos := _, after := _, guard := _ }) (v := ?_) rfl (by kernel_rfl) (by kernel_rfl) (by kernel_rfl) (fun _ _ _ h => h) (Or.inl ⟨by rfl, ?_⟩) (by assumption) ?_; rotate_left; (intro w hSw; (try dsimp only at hSw); go_simp); (try with_reducible rfl); (try simp only [Act.put, List.setIfInBounds_toArray, List.set_cons_zero, List.set_cons_succ])
              refine wpAnyH_take (i := 11) (oi := { dst := some 42, op := _, type := _, pos := _, after := _, guard := _ }) (v := ?_) rfl (by kernel_rfl) (by kernel_rfl) (by kernel_rfl) (fun _ _ _ h => h) (Or.inl ⟨by rfl, ?_⟩) (by assumption) ?_; rotate_left; (intro w hSw; (try dsimp only at hSw); go_simp); (try with_reducible rfl); (try simp only [Act.put, List.setIfInBounds_toArray, List.set_cons_zero, List.set_cons_succ])
              refine wpAnyH_take (i := 12) (oi := { dst := some 43, op := _, type := _, pos := _, after := _, guard := _ }) (v := ?_) rfl (by kernel_rfl) (by kernel_rfl) (by kernel_rfl) (fun _ _ _ h => h) (Or.inl ⟨by rfl, ?_⟩) (by assumption) ?_; rotate_left; (intro w hSw; (try dsimp only at hSw); go_simp); (try with_reducible rfl); (try simp only [Act.put, List.setIfInBounds_toArray, List.set_cons_zero, List.set_cons_succ])
              refine wpAnyH_take (i := 13) (oi := { dst := some 44, op := _, type := _, pos := _, after := _, guard := _ }) (v := ?_) rfl (by kernel_rfl) (by kernel_rfl) (by kernel_rfl) (fun _ _ _ h => h) (Or.inl ⟨by rfl, ?_⟩) (by assumption) ?_; rotate_left; (intro w hSw; (try dsimp only at hSw); go_simp); (try with_reducible rfl); (try simp only [Act.put, List.setIfInBounds_toArray, List.set_cons_zero, List.set_cons_succ])
              refine wpAnyH_take (i := 14) (oi := { dst := some 45, op := _, type := _, pos := _, after := _, guard := _ }) (v := ?_) rfl (by kernel_rfl) (by kernel_rfl) (by kernel_rfl) (fun _ _ _ h => h) (Or.inl ⟨by rfl, ?_⟩) (by assumption) ?_; rotate_left; (intro w hSw; (try dsimp only at hSw); go_simp); (try with_reducible rfl); (try simp only [Act.put, List.setIfInBounds_toArray, List.set_cons_zero, List.set_cons_succ])
              refine wpAnyH_take (i := 15) (oi := { dst := some 46, op := _, type := _, pos := _, after := _, guard := _ }) (v := ?_) rfl (by kernel_rfl) (by kernel_rfl) (by kernel_rfl) (fun _ _ _ h => h) (Or.inl ⟨by rfl, ?_⟩) (by assumption) ?_; rotate_left; (intro w hSw; (try dsimp only at hSw); go_simp); (try with_reducible rfl); (try simp only [Act.put, List.setIfInBounds_toArray, List.set_cons_zero, List.set_cons_succ])
              refine wpAnyH_ready (rs := [16]) (by kernel_rfl) (by simp) ?_
              refine AllReadyH.cons (o := { dst := none, op := _, type := _, pos := _, after := _, guard := _ }) rfl (fun K hK => ?_) AllReadyH.nil
              go_simp
              refine hK.out _ _ ⟨(World.cell?_of_block (Below.heap_setCell _ _ _ _ (HNE.out))).trans k1, (World.cell?_of_block (Below.heap_setCell _ _ _ _ (by simp; omega))).trans t0, (World.cell?_of_block (Below.heap_setCell _ _ _ _ (by simp; omega))).trans px⟩ (fun hHeld => ?_)
              clear hK K; (try simp only [Act.put, List.setIfInBounds_toArray, List.set_cons_zero, List.set_cons_succ])
              refine wpAnyH_done (by kernel_rfl) ?_ _
              go_wp2_with fail
              refine ⟨⟨k + 1, by omega, by go_num, ?_, ((hch2.trans (Chg.of_below HBW2.out)).setCell ⟨r1, r2⟩ _).drew, by simpa [World.setCell] using Nat.le_trans hsz2 (Nat.le_of_lt zW2)⟩, by simp [intOf]; omega⟩
              rw [← diagTo_step HXK.out, ← HEG.out]; exact (HS'.out _).same (Same.drew (Same.refl _ _ _))
        · obtain rfl : k = xs.length := by omega
          rw [diagTo_end] at ho4
          have hbw2 := hbw.trans (hch2.below (B := w.heap.size) (by omega) (by omega))
          have hX2 := hX.same (Same.of_chg hch2 (by omega) (.inl (by omega)))
          have hY2 := hY.same (Same.of_chg hch2 (by omega) (.inl (by omega)))
          have hZ2 := hZ.same (Same.of_chg hch2 (by omega) (.inl (by omega)))
          obtain ⟨w4, rfl⟩ : ∃ w4 : World, w4 = wr := ⟨_, rfl⟩
          clear hch2 hX hY hZ rf rt r0
          go_wp2_with fail
          go_loopw [5, 51] (fun v i w5 => WaysRel (waysP xs ys ⟨ego, zs⟩) zs.length xs.length w2.heap.size w4 v i w5) (fun _ i _ => zs.length - (intOf i).toNat)
          case atStart => exact ⟨0, A3, c3, Nat.zero_le _, rfl, rfl, by rw [waysP_zero]; exact ho4.mono (Nat.le_refl _) hsz2, Below.refl _ _⟩
          case round =>
            obtain ⟨k, A5, c5, hk5, rfl, rfl, ho5, hb5⟩ := hrel
            have zb5 := hb5.size
            have lw0 : w.heap.size < wr.heap.size := by omega
            have lw1 : w.heap.size + 1 < wr.heap.size := by omega
            have lw2 : w.heap.size + 1 + 1 < wr.heap.size := by omega
            replace u0 := (hb5.cell (p := ⟨w.heap.size, 0, none⟩) (by simp; omega)).trans u0
            replace u1 := (hb5.cell (p := ⟨w.heap.size, 1, none⟩) (by simp; omega)).trans u1
            replace t0 := (hb5.cell (p := ⟨w.heap.size + 1, 0, none⟩) (by simp; omega)).trans t0
            replace t1 := (hb5.cell (p := ⟨w.heap.size + 1, 1, none⟩) (by simp; omega)).trans t1
            have r5 := r02.below hb5 (by omega)
            have hX5 := hX2.same (Same.of_below hb5 (by omega))
            have hY5 := hY2.same (Same.of_below hb5 (by omega))
            by_cases hlt : k < zs.length
            · obtain ⟨b, off, ⟨kd, ag⟩, rfl, f1, f2, _, hzk, hc0, hc1⟩ := AStep.at_ (hZ2.same (Same.of_below hb5 (by omega))) hlt
              simp only at hc0 hc1
              have hkd := HKD.out k _ hzk
              have HZ := Lib.hid (waysP_succ (xs := xs) (ys := ys) (t := ⟨ego, zs⟩) hzk)
              clear hzk
              have lb : b < wr.heap.size := by omega
              have i1 : (0 : Int) ≤ (k : Int) ∧ (k : Int) < (zs.length : Int) := by omega
              go_wp2_with (first
                | (go_at_call 135; (with_reducible refine (l3Grid_any _ _ _ _ lo hi xs ys kd ag _ (hX5.same (by (with_reducible repeat' first | exact Same.refl _ _ _ | assumption | (refine Same.setCell ?_ (by first | omega | (simp; omega) | (simp; done) | (dsimp only; omega)) _) | (refine Same.alloc ?_ (by first | omega | (simp; omega) | (simp; done) | (dsimp only; omega)) _) | (refine Same.drewN ?_ _) | (refine Same.drew ?_)))) (hY5.same (by (with_reducible repeat' first | exact Same.refl _ _ _ | assumption | (refine Same.setCell ?_ (by first | omega | (simp; omega) | (simp; done) | (dsimp only; omega)) _) | (refine Same.alloc ?_ (by first | omega | (simp; omega) | (simp; done) | (dsimp only; omega)) _) | (refine Same.drewN ?_ _) | (refine Same.drew ?_)))) (by first | omega | (simp; omega) | (simp; done) | (dsimp only; omega)) hkd hn.out).mono ?_); rintro e w6 ⟨A6, c6, rfl, ho6, hb6⟩; (obtain ⟨hb6c, hb6f⟩ := bcell hb6); (have hb6z := hb6.size); (try simp only [szs] at hb6c hb6f hb6z))
                | (go_at_call 148; (with_reducible refine (l2Compose_any A5 A6 c5 c6 _ _ _ _ xs.length _ _ _ hn.out (ho5.read.as.same (by (with_reducible repeat' first | exact Same.refl _ _ _ | assumption | (refine Same.setCell ?_ (by first | omega | (simp; omega) | (simp; done) | (dsimp only; omega)) _) | (refine Same.alloc ?_ (by first | omega | (simp; omega) | (simp; done) | (dsimp only; omega)) _) | (refine Same.drewN ?_ _) | (refine Same.drew ?_) | (refine Same.trans ?_ (Same.of_below hb6 (by first | omega | (simp; omega) | (simp; done) | (dsimp only; omega))))))) (ho6.read.as.same (by (with_reducible repeat' first | exact Same.refl _ _ _ | assumption | (refine Same.setCell ?_ (by first | omega | (simp; omega) | (simp; done) | (dsimp only; omega)) _) | (refine Same.alloc ?_ (by first | omega | (simp; omega) | (simp; done) | (dsimp only; omega)) _) | (refine Same.drewN ?_ _) | (refine Same.drew ?_)))) (by first | omega | (simp; omega) | (simp; done) | (dsimp only; omega)) (by first | omega | (simp; omega) | (simp; done) | (dsimp only; omega))).mono ?_); rintro e w7 ⟨A7, c7, rfl, ho7, hb7⟩; (obtain ⟨hb7c, hb7f⟩ := bcell hb7); (have hb7z := hb7.size); (try simp only [szs] at hb7c hb7f hb7z)))
              refine ⟨⟨k + 1, A7, c7, by omega, by go_num, rfl, ?_, by (with_reducible repeat' first | exact Below.refl _ _ | assumption | (refine Below.setCell ?_ (by first | omega | (simp; omega) | (simp; done) | (dsimp only; omega)) _) | (refine Below.alloc ?_ (by first | omega | (simp; omega) | (simp; done) | (dsimp only; omega)) _) | (refine below_drewN ?_ _) | (refine Below.drew ?_) | (refine Below.trans ?_ (hb7.mono (by first | omega | (simp; omega) | (simp; done) | (dsimp only; omega)))) | (refine Below.trans ?_ (hb6.mono (by first | omega | (simp; omega) | (simp; done) | (dsimp only; omega)))) | (refine Below.trans ?_ (hb5.mono (by first | omega | (simp; omega) | (simp; done) | (dsimp only; omega)))))⟩, by simp [intOf]; omega⟩
              rw [HZ.out]
              exact (ho7.same (by (with_reducible repeat' first | exact Same.refl _ _ _ | assumption | (refine Same.setCell ?_ (by first | omega | (simp; omega) | (simp; done) | (dsimp only; omega)) _) | (refine Same.alloc ?_ (by first | omega | (simp; omega) | (simp; done) | (dsimp only; omega)) _) | (refine Same.drewN ?_ _) | (refine Same.drew ?_)))).mono (by first | omega | (simp; omega) | (simp; done) | (dsimp only; omega)) (by first | omega | (simp; omega) | (simp; done) | (dsimp only; omega))
            · obtain rfl : k = zs.length := by omega
              go_wp2_with (go_at_call 100; (with_reducible refine (l2OfM_at xs.length _ A5 c5 _ _ _ (ho5.read.as.same (by (with_reducible repeat' first | exact Same.refl _ _ _ | assumption | (refine Same.setCell ?_ (by first | omega | (simp; omega) | (simp; done) | (dsimp only; omega)) _) | (refine Same.alloc ?_ (by first | omega | (simp; omega) | (simp; done) | (dsimp only; omega)) _) | (refine Same.drewN ?_ _) | (refine Same.drew ?_)))) (by first | omega | (simp; omega) | (simp; done) | (dsimp only; omega)) hn.out).mono ?_); rintro e w8 ⟨A8, c8, rfl, ho8, hb8⟩; (have r8 := r5.below hb8 (by omega)); (have g0 := r8.cell (i := 0) rfl); (have g1 := r8.cell (i := 1) rfl); (have e0 := r8.free 0); (have e1 := r8.free 1))
              have hz8 := hb8.size
              have R := (r8.set 0 (.int .i64 xs.length)).set 1 (.slice A8 xs.length c8)
              refine bodyPost_ret (v := .agg #[.int .i64 xs.length, .slice A8 xs.length c8]) (by simp [results, Try.results64, go_sem, R.cell (i := 0) rfl, R.cell (i := 1) rfl]) rfl ?_
              exact ⟨A8, c8, by simp only [relM_len], by simpa only [relM_len] using (ho8.same (by (with_reducible repeat' first | exact Same.refl _ _ _ | assumption | (refine Same.setCell ?_ (by first | omega | (simp; omega) | (simp; done) | (dsimp only; omega)) _) | (refine Same.alloc ?_ (by first | omega | (simp; omega) | (simp; done) | (dsimp only; omega)) _) | (refine Same.drewN ?_ _) | (refine Same.drew ?_)))).mono (by first | omega | (simp; omega) | (simp; done) | (dsimp only; omega)) (by first | omega | (simp; omega) | (simp; done) | (dsimp only; omega)), by (with_reducible repeat' first | exact Below.refl _ _ | assumption | (refine Below.setCell ?_ (by first | omega | (simp; omega) | (simp; done) | (dsimp only; omega)) _) | (refine Below.alloc ?_ (by first | omega | (simp; omega) | (simp; done) | (dsimp only; omega)) _) | (refine below_drewN ?_ _) | (refine Below.drew ?_) | (refine Below.trans ?_ (hb8.mono (by first | omega | (simp; omega) | (simp; done) | (dsimp only; omega)))) | (refine Below.trans ?_ (hb5.mono (by first | omega | (simp; omega) | (simp; done) | (dsimp only; omega)))) | (refine Below.trans ?_ (hbw2.mono (by first | omega | (simp; omega) | (simp; done) | (dsimp only; omega)))))⟩
end Go.Proofs.Ytnnjilkjjdiblaa
