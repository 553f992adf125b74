/-
  To whom a kin type leads from one person, in the reference.
-/
import Derived.Test.YtnnjilkjjdiblaaReach
import Derived.Test.YtnnjilkjjdiblaaGFamS
import Derived.Deep.Cut
import Derived.Deep.DeepCutAuto
namespace Go.Proofs.Ytnnjilkjjdiblaa
set_option maxRecDepth 100000
open Go.RowKit

theorem waysP_row {xs : List Person} {ys : List Union} {t : KinType} {k : Nat} {s : Step} (h : t.steps[k]? = some s) (p : Nat) : waysP xs ys t (k + 1) p = reachP xs.length (waysP xs ys t k p) (leadM xs ys s) := by rw [waysP_succ h]; rfl
def relsM (xs : List Person) (ys : List Union) (p : Int) (t : KinType) : List Int := if hasOk xs ys p = true ∧ typeOk t = true then idxTo (waysP xs ys t t.steps.length p.toNat) xs.length else []
theorem relsM_has {xs : List Person} {ys : List Union} {p : Int} {t : KinType} (h : hasOk xs ys p = false) : relsM xs ys p t = [] := by rw [relsM, h]; rfl
theorem relsM_typ {xs : List Person} {ys : List Union} {p : Int} {t : KinType} (h : typeOk t = false) : relsM xs ys p t = [] := by rw [relsM, h]; simp
theorem relsM_in {xs : List Person} {ys : List Union} {p : Nat} {t : KinType} (h : hasOk xs ys p = true) (h' : typeOk t = true) : relsM xs ys p t = idxTo (waysP xs ys t t.steps.length p) xs.length := by rw [relsM, if_pos ⟨h, h'⟩]; simp
theorem relsM_len (xs : List Person) (ys : List Union) (p : Int) (t : KinType) : (relsM xs ys p t).length ≤ 40 := by
  unfold relsM; split
  · rename_i h; exact Nat.le_trans (idxTo_len _ _) (famOk_parts (hasOk_fam h.1).1).1
  · simp
def RelvRel (P : Nat → Nat → Bool) (m n lo : Nat) (W : World) (v i : Value) (wr : World) : Prop :=
  ∃ (k : Nat) (A : Option Addr) (c : Nat), k ≤ m ∧ i = .int .i64 k ∧ v = .slice A n c ∧ EBool.OS wr lo wr.heap.size (.slice A n c) (row1 n (P k)) ∧ Below W.heap.size W wr
theorem row1_diag {xs : List Person} {ego : Int} {p : Nat} {x : Person} (h : xs[p]? = some x) (n : Nat) : row1 n (upd1 (fun _ => false) p (egoIs x ego)) = row1 n (diagP xs ego p) := row1_congr fun j _ => by
  rw [diagP_of h]; unfold upd1
  by_cases hj : j = p
  · rw [if_pos hj, decide_eq_true hj.symm]; rfl
  · rw [if_neg hj, decide_eq_false (fun e => hj e.symm)]; rfl
theorem row1_diag' {xs : List Person} {ego : Int} {p : Nat} {x : Person} {v : Bool} {n : Nat} (h : xs[p]? = some x) (hv : egoIs x ego = v) : row1 n (upd1 (fun _ => false) p v) = row1 n (diagP xs ego p) := hv ▸ row1_diag h n

set_option maxHeartbeats 4000000 in
theorem l3Relatives_any (A B D : Option Addr) (c d e lo hi lo' hi' : Nat) (xs : List Person) (ys : List Union) (ego : Int) (zs : List Step) (p : Nat) (w : World) (h : EPerson.AS w lo hi A xs) (h' : EUnion.AS w lo hi B ys) (h'' : EStep.AS w lo' hi' D zs) (hh : hi ≤ w.heap.size) (hh' : hi' ≤ w.heap.size) (hp : p < xs.length) (hn : xs.length ≤ 40) (ht : typeOk ⟨ego, zs⟩ = true) :
    Calls Try.prog 146 #[.agg #[.slice A xs.length c, .slice B ys.length d], .int .i64 p, .agg #[.int .i64 ego, .slice D zs.length e]] w fun e' w' => ∃ A' c', e' = .returned (.slice A' xs.length c') ∧ EBool.OS w' w.heap.size w'.heap.size (.slice A' xs.length c') (row1 xs.length (waysP xs ys ⟨ego, zs⟩ zs.length p)) ∧ Below w.heap.size w w' := by
  have HKD := Lib.hid (fun k s (hk : zs[k]? = some s) => typeOk_at ht (k := k) (s := s) hk)
  have hl8 := typeOk_len ht
  clear ht
  simp only at hl8
  have hx := h.le
  unfold BIG at hx
  obtain ⟨b, off, ⟨x0, x1, x2, x3, x4, x5⟩, rfl, f1, f2, _, hxk, hc0, hc1, hc2, hc3, hc4, hc5⟩ := APerson.at_ h hp
  simp only at hc1
  have HXK := Lib.hid hxk
  clear hxk hc0 hc2 hc3 hc4 hc5
  have hHX := Lib.hid h; have hHY := Lib.hid h'; have hHZ := Lib.hid h''
  obtain ⟨i0, hi0, hz0, hz1, hz2⟩ := info_parts bool_info
  have hmk := run_mk (P := Try.prog) 112 4 i0 _ 1 1 Try.underlying112 hi0 hz0 hz1 hz2 xs.length (by omega) (by unfold BIG; omega)
  clear hi0 hz0 hz1 hz2 h h' h''
  go_enter Try.func146, Try.ntmps146
  go_upto_region 2 with fail
  have ho0 := made_one xs.length ((w.alloc (.cells #[.slice (some ⟨b, off, none⟩) xs.length c, .slice B ys.length d] 26)).alloc (.cells #[.int .i64 ego, .slice D zs.length e] 30)) hn
  simp only [szs] at ho0
  generalize hW : (((w.alloc (.cells #[.slice (some ⟨b, off, none⟩) xs.length c, .slice B ys.length d] 26)).alloc (.cells #[.int .i64 ego, .slice D zs.length e] 30)).alloc (.cells (madeCells #[Value.bool false] xs.length) 4)) = w1 at ho0 ⊢
  have u0 : w1.cell? ⟨w.heap.size, 0, none⟩ = some (.slice (some ⟨b, off, none⟩) xs.length c) := by subst hW; simp [go_sem]
  have u1 : w1.cell? ⟨w.heap.size, 1, none⟩ = some (.slice B ys.length d) := by subst hW; simp [go_sem]
  have t0 : w1.cell? ⟨w.heap.size + 1, 0, none⟩ = some (.int .i64 ego) := by subst hW; simp [go_sem]
  have t1 : w1.cell? ⟨w.heap.size + 1, 1, none⟩ = some (.slice D zs.length e) := by subst hW; simp [go_sem]
  have hbw : Below w.heap.size w w1 := by subst hW; (with_reducible repeat' first | exact Below.refl _ _ | assumption | (refine Below.setCell ?_ (by first | omega | (simp; omega) | (simp; done) | (dsimp only; omega)) _) | (refine Below.alloc ?_ (by first | omega | (simp; omega) | (simp; done) | (dsimp only; omega)) _) | (refine below_drewN ?_ _) | (refine Below.drew ?_))
  have z1 : w.heap.size + 1 + 1 + 1 ≤ w1.heap.size := by subst hW; simp
  clear hW hmk
  have hX1 := hHX.out.same (Same.of_below hbw hh)
  have hY1 := hHY.out.same (Same.of_below hbw hh)
  have hZ1 := hHZ.out.same (Same.of_below hbw hh')
  replace hc1 := (hbw.cell (p := ⟨b, off + p * 6 + 1, none⟩) (by simp; omega)).trans hc1
  rw [row1_blank] at ho0
  obtain ⟨g, cc, hv, g1, g2, k1, k2, hset⟩ := row1_own ho0 hp
  injection hv with hv _ hcc
  injection hv with hv
  injection hv with hv _ _
  subst hv
  subst hcc
  have HS' := Lib.hid @hset; clear hset
  have lb : b < w1.heap.size := by omega
  have lw0 : w.heap.size < w1.heap.size := by omega
  have lw1 : w.heap.size + 1 < w1.heap.size := by omega
  have lw2 : w.heap.size + 1 + 1 < w1.heap.size := by omega
  have i1 : (0 : Int) ≤ (p : Int) ∧ (p : Int) < (xs.length : Int) := by omega
  by_cases he : ego = 0
  · have n1 : (ego == 0) = true := by simp [he]
    have HEG := Lib.hid (show egoIs ⟨x0, x1, x2, x3, x4, x5⟩ ego = true by simp [egoIs, he])
    clear he
    refine wp_region_held_drew (S := fun w' => w'.cell? ⟨w.heap.size, 0, none⟩ = some (.slice (some ⟨b, off, none⟩) xs.length c) ∧ w'.cell? ⟨w.heap.size + 1, 0, none⟩ = some (.int .i64 ego) ∧ w'.cell? ⟨b, off + p * 6 + 1, none⟩ = some (.int .i64 x1)) (by kernel_rfl) ⟨u0, t0, hc1⟩ (fun hHeld => ?_)
    refine wpAnyH_take (i := 0) (oi := { dst := some 14, op := _, type := _, pos := _, after := _, guard := _ }) (v := ?_) rfl (by kernel_rfl) (by kernel_rfl) (by kernel_rfl) (fun _ _ _ h => h) (Or.inl ⟨by rfl, ?_⟩) (by assumption) ?_; rotate_left; (intro w hSw; (try dsimp only at hSw); go_simp); (try with_reducible rfl); (try simp only [Act.put, List.setIfInBounds_toArray, List.set_cons_zero, List.set_cons_succ])
    refine wpAnyH_take (i := 1) (oi := { dst := some 15, op := _, type := _, pos := _, after := _, guard := _ }) (v := ?_) rfl (by kernel_rfl) (by kernel_rfl) (by kernel_rfl) (fun _ _ _ h => h) (Or.inl ⟨by rfl, ?_⟩) (by assumption) ?_; rotate_left; (intro w hSw; (try dsimp only at hSw); go_simp); (try with_reducible rfl); (try simp only [Act.put, List.setIfInBounds_toArray, List.set_cons_zero, List.set_cons_succ])
    refine wpAnyH_take (i := 2) (oi := { dst := some 16, op := _, type := _, pos := _, after := _, guard := _ }) (v := ?_) rfl (by kernel_rfl) (by kernel_rfl) (by kernel_rfl) (fun _ _ _ h => h) (Or.inl ⟨by rfl, ?_⟩) (by assumption) ?_; rotate_left; (intro w hSw; (try dsimp only at hSw); go_simp); (try with_reducible rfl); (try simp only [Act.put, List.setIfInBounds_toArray, List.set_cons_zero, List.set_cons_succ])
    refine wpAnyH_take (i := 3) (oi := { dst := some 17, op := _, type := _, pos := _, after := _, guard := _ }) (v := ?_) rfl (by kernel_rfl) (by kernel_rfl) (by kernel_rfl) (fun _ _ _ h => h) (Or.inl ⟨by rfl, ?_⟩) (by assumption) ?_; rotate_left; (intro w hSw; (try dsimp only at hSw); go_simp); (try with_reducible rfl); (try simp only [Act.put, List.setIfInBounds_toArray, List.set_cons_zero, List.set_cons_succ])
    refine wpAnyH_take (i := 4) (oi := { dst := some 18, op := _, type := _, pos := _, after := _, guard := _ }) (v := ?_) rfl (by kernel_rfl) (by kernel_rfl) (by kernel_rfl) (fun _ _ _ h => h) (Or.inl ⟨by rfl, ?_⟩) (by assumption) ?_; rotate_left; (intro w hSw; (try dsimp only at hSw); go_simp); (try with_reducible rfl); (try simp only [Act.put, List.setIfInBounds_toArray, List.set_cons_zero, List.set_cons_succ])
    refine wpAnyH_take (i := 5) (oi := { dst := some 19, op := _, type := _, pos := _, after := _, guard := _ }) (v := ?_) rfl (by kernel_rfl) (by kernel_rfl) (by kernel_rfl) (fun _ _ _ h => h) (Or.inl ⟨by rfl, ?_⟩) (by assumption) ?_; rotate_left; (intro w hSw; (try dsimp only at hSw); go_simp); (try with_reducible rfl); (try simp only [Act.put, List.setIfInBounds_toArray, List.set_cons_zero, List.set_cons_succ])
    refine wpAnyH_take (i := 6) (oi := { dst := some 20, op := _, type := _, pos := _, after := _, guard := _ }) (v := _) rfl (by kernel_rfl) (by kernel_rfl) (by kernel_rfl) (fun _ _ _ h => h) (Or.inr ⟨by kernel_rfl, rfl⟩) (by assumption) ?_; (try simp only [Act.put, List.setIfInBounds_toArray, List.set_cons_zero, List.set_cons_succ])
    refine wpAnyH_take (i := 7) (oi := { dst := some 21, op := _, type := _, pos := _, after := _, guard := _ }) (v := _) rfl (by kernel_rfl) (by kernel_rfl) (by kernel_rfl) (fun _ _ _ h => h) (Or.inr ⟨by kernel_rfl, rfl⟩) (by assumption) ?_; (try simp only [Act.put, List.setIfInBounds_toArray, List.set_cons_zero, List.set_cons_succ])
    refine wpAnyH_take (i := 8) (oi := { dst := some 22, op := _, type := _, pos := _, after := _, guard := _ }) (v := _) rfl (by kernel_rfl) (by kernel_rfl) (by kernel_rfl) (fun _ _ _ h => h) (Or.inr ⟨by kernel_rfl, rfl⟩) (by assumption) ?_; (try simp only [Act.put, List.setIfInBounds_toArray, List.set_cons_zero, List.set_cons_succ])
    refine wpAnyH_take (i := 9) (oi := { dst := some 23, op := _, type := _, pos := _, after := _, guard := _ }) (v := _) rfl (by kernel_rfl) (by kernel_rfl) (by kernel_rfl) (fun _ _ _ h => h) (Or.inr ⟨by kernel_rfl, rfl⟩) (by assumption) ?_; (try simp only [Act.put, List.setIfInBounds_toArray, List.set_cons_zero, List.set_cons_succ])
    refine wpAnyH_take (i := 10) (oi := { dst := some 24, op := _, type := _, pos := _, after := _, guard := _ }) (v := _) rfl (by kernel_rfl) (by kernel_rfl) (by kernel_rfl) (fun _ _ _ h => h) (Or.inr ⟨by kernel_rfl, rfl⟩) (by assumption) ?_; (try simp only [Act.put, List.setIfInBounds_toArray, List.set_cons_zero, List.set_cons_succ])
    refine wpAnyH_take (i := 11) (oi := { dst := some 25, op := _, type := _, pos := _, after := _, guard := _ }) (v := _) rfl (by kernel_rfl) (by kernel_rfl) (by kernel_rfl) (fun _ _ _ h => h) (Or.inr ⟨by kernel_rfl, rfl⟩) (by assumption) ?_; (try simp only [Act.put, List.setIfInBounds_toArray, List.set_cons_zero, List.set_cons_succ])
    refine wpAnyH_take (i := 12) (oi := { dst := some 26, op := _, type := _, pos := _, after := _, guard := _ }) (v := _) rfl (by kernel_rfl) (by kernel_rfl) (by kernel_rfl) (fun _ _ _ h => h) (Or.inr ⟨by kernel_rfl, rfl⟩) (by assumption) ?_; (try simp only [Act.put, List.setIfInBounds_toArray, List.set_cons_zero, List.set_cons_succ])
    refine wpAnyH_take (i := 13) (oi := { dst := some 27, op := _, type := _, pos := _, after := _, guard := _ }) (v := _) rfl (by kernel_rfl) (by kernel_rfl) (by kernel_rfl) (fun _ _ _ h => h) (Or.inr ⟨by kernel_rfl, rfl⟩) (by assumption) ?_; (try simp only [Act.put, List.setIfInBounds_toArray, List.set_cons_zero, List.set_cons_succ])
    refine wpAnyH_take (i := 14) (oi := { dst := some 28, op := _, type := _, pos := _, after := _, guard := _ }) (v := _) rfl (by kernel_rfl) (by kernel_rfl) (by kernel_rfl) (fun _ _ _ h => h) (Or.inr ⟨by kernel_rfl, rfl⟩) (by assumption) ?_; (try simp only [Act.put, List.setIfInBounds_toArray, List.set_cons_zero, List.set_cons_succ])
    refine wpAnyH_take (i := 15) (oi := { dst := some 29, op := _, type := _, pos := _, after := _, guard := _ }) (v := ?_) rfl (by kernel_rfl) (by kernel_rfl) (by kernel_rfl) (fun _ _ _ h => h) (Or.inl ⟨by rfl, ?_⟩) (by assumption) ?_; rotate_left; (intro w hSw; (try dsimp only at hSw); go_simp); (try with_reducible rfl); (try simp only [Act.put, List.setIfInBounds_toArray, List.set_cons_zero, List.set_cons_succ])
    refine wpAnyH_take (i := 16) (oi := { dst := some 30, op := _, type := _, pos := _, after := _, guard := _ }) (v := ?_) rfl (by kernel_rfl) (by kernel_rfl) (by kernel_rfl) (fun _ _ _ h => h) (Or.inl ⟨by rfl, ?_⟩) (by assumption) ?_; rotate_left; (intro w hSw; (try dsimp only at hSw); go_simp); (try with_reducible rfl); (try simp only [Act.put, List.setIfInBounds_toArray, List.set_cons_zero, List.set_cons_succ])
    refine wpAnyH_ready (rs := [17]) (by kernel_rfl) (by simp) ?_
    refine AllReadyH.cons (o := { dst := none, op := _, type := _, pos := _, after := _, guard := _ }) rfl (fun K hK => ?_) AllReadyH.nil
    go_simp
    refine hK.out _ _ ⟨(World.cell?_of_block (Below.heap_setCell _ _ _ _ (by first | omega | (simp; omega) | (simp; done) | (dsimp only; omega)))).trans u0, (World.cell?_of_block (Below.heap_setCell _ _ _ _ (by first | omega | (simp; omega) | (simp; done) | (dsimp only; omega)))).trans t0, (World.cell?_of_block (Below.heap_setCell _ _ _ _ (by first | omega | (simp; omega) | (simp; done) | (dsimp only; omega)))).trans hc1⟩ (fun hHeld => ?_)
    clear hK K; (try simp only [Act.put, List.setIfInBounds_toArray, List.set_cons_zero, List.set_cons_succ])
    refine wpAnyH_done (by kernel_rfl) ?_ _
    go_wp2_with fail
    have hb2 : Below (w.heap.size + 1 + 1) w1 (w1.setCell ⟨w.heap.size + 1 + 1, p, none⟩ (.bool true)).drew := (Below.setCell (Below.refl _ _) (by simp) _).drew
    have ho2 := (HS'.out true).same (Same.drew (Same.refl _ _ _))
    rw [row1_diag' HXK.out HEG.out] at ho2
    generalize hW2 : (w1.setCell ⟨w.heap.size + 1 + 1, p, none⟩ (.bool true)).drew = w2 at hb2 ho2 ⊢
    have z2 : w1.heap.size ≤ w2.heap.size := hb2.size
    clear hW2 HS' k1 k2
    have hX2 := hX1.same (Same.of_below hb2 (by omega))
    have hY2 := hY1.same (Same.of_below hb2 (by omega))
    have hZ2 := hZ1.same (Same.of_below hb2 (by omega))
    replace u0 := (hb2.cell (p := ⟨w.heap.size, 0, none⟩) (by simp; omega)).trans u0
    replace u1 := (hb2.cell (p := ⟨w.heap.size, 1, none⟩) (by simp; omega)).trans u1
    replace t0 := (hb2.cell (p := ⟨w.heap.size + 1, 0, none⟩) (by simp)).trans t0
    replace t1 := (hb2.cell (p := ⟨w.heap.size + 1, 1, none⟩) (by simp)).trans t1
    have hbw2 := hbw.trans (hb2.mono (by omega))
    have lv1 : w.heap.size + 1 < w2.heap.size := by omega
    go_wp2_with fail
    go_loopw [7, 34] (fun v i w5 => RelvRel (fun k => waysP xs ys ⟨ego, zs⟩ k p) zs.length xs.length (w.heap.size + 1 + 1) w2 v i w5) (fun _ i _ => zs.length - (intOf i).toNat)
    case atStart => exact ⟨0, _, _, Nat.zero_le _, rfl, rfl, ho2.mono (Nat.le_refl _) (by omega), Below.refl _ _⟩
    case round =>
      obtain ⟨k, A5, c5, hk5, rfl, rfl, ho5, hb5⟩ := hrel
      simp only at ho5
      have zb5 := hb5.size
      have lx0 : w.heap.size < wr.heap.size := by omega
      have lx1 : w.heap.size + 1 < wr.heap.size := by omega
      replace u0 := (hb5.cell (p := ⟨w.heap.size, 0, none⟩) (by simp; omega)).trans u0
      replace u1 := (hb5.cell (p := ⟨w.heap.size, 1, none⟩) (by simp; omega)).trans u1
      replace t0 := (hb5.cell (p := ⟨w.heap.size + 1, 0, none⟩) (by simp; omega)).trans t0
      replace t1 := (hb5.cell (p := ⟨w.heap.size + 1, 1, none⟩) (by simp; omega)).trans t1
      have hX5 := hX2.same (Same.of_below hb5 (by omega))
      have hY5 := hY2.same (Same.of_below hb5 (by omega))
      by_cases hlt : k < zs.length
      · obtain ⟨b', off', ⟨kd, ag⟩, rfl, f1', f2', _, hzk, hc0, hc1'⟩ := AStep.at_ (hZ2.same (Same.of_below hb5 (by omega))) hlt
        simp only at hc0 hc1'
        have hkd := HKD.out k _ hzk
        have HZ := Lib.hid (waysP_row (xs := xs) (ys := ys) (t := ⟨ego, zs⟩) hzk p)
        clear hzk
        have lb' : b' < wr.heap.size := by omega
        have i2 : (0 : Int) ≤ (k : Int) ∧ (k : Int) < (zs.length : Int) := by omega
        go_wp2_with (go_at_call 107; (with_reducible refine (l3Reach_any _ _ _ _ lo hi xs ys kd ag A5 c5 _ _ _ _ (hX5.same (by (with_reducible repeat' first | exact Same.refl _ _ _ | assumption | (refine Same.setCell ?_ (by first | omega | (simp; omega) | (simp; done) | (dsimp only; omega)) _) | (refine Same.alloc ?_ (by first | omega | (simp; omega) | (simp; done) | (dsimp only; omega)) _) | (refine Same.drewN ?_ _) | (refine Same.drew ?_)))) (hY5.same (by (with_reducible repeat' first | exact Same.refl _ _ _ | assumption | (refine Same.setCell ?_ (by first | omega | (simp; omega) | (simp; done) | (dsimp only; omega)) _) | (refine Same.alloc ?_ (by first | omega | (simp; omega) | (simp; done) | (dsimp only; omega)) _) | (refine Same.drewN ?_ _) | (refine Same.drew ?_)))) (by first | omega | (simp; omega) | (simp; done) | (dsimp only; omega)) (ho5.read.as.same (by (with_reducible repeat' first | exact Same.refl _ _ _ | assumption | (refine Same.setCell ?_ (by first | omega | (simp; omega) | (simp; done) | (dsimp only; omega)) _) | (refine Same.alloc ?_ (by first | omega | (simp; omega) | (simp; done) | (dsimp only; omega)) _) | (refine Same.drewN ?_ _) | (refine Same.drew ?_)))) (by first | omega | (simp; omega) | (simp; done) | (dsimp only; omega)) hkd hn).mono ?_); rintro e w6 ⟨A6, c6, rfl, ho6, hb6⟩; (obtain ⟨hb6c, hb6f⟩ := bcell hb6); (have hb6z := hb6.size); (try simp only [szs] at hb6c hb6f hb6z))
        refine ⟨⟨k + 1, A6, c6, by omega, by go_num, rfl, ?_, by (with_reducible repeat' first | exact Below.refl _ _ | assumption | (refine Below.setCell ?_ (by first | omega | (simp; omega) | (simp; done) | (dsimp only; omega)) _) | (refine Below.alloc ?_ (by first | omega | (simp; omega) | (simp; done) | (dsimp only; omega)) _) | (refine below_drewN ?_ _) | (refine Below.drew ?_) | (refine Below.trans ?_ (hb6.mono (by first | omega | (simp; omega) | (simp; done) | (dsimp only; omega)))) | (refine Below.trans ?_ (hb5.mono (by first | omega | (simp; omega) | (simp; done) | (dsimp only; omega)))))⟩, by simp [intOf]; omega⟩
        show EBool.OS _ _ _ _ (row1 xs.length (waysP xs ys ⟨ego, zs⟩ (k + 1) p))
        rw [HZ.out]
        exact (ho6.same (by (with_reducible repeat' first | exact Same.refl _ _ _ | assumption | (refine Same.setCell ?_ (by first | omega | (simp; omega) | (simp; done) | (dsimp only; omega)) _) | (refine Same.alloc ?_ (by first | omega | (simp; omega) | (simp; done) | (dsimp only; omega)) _) | (refine Same.drewN ?_ _) | (refine Same.drew ?_)))).mono (by first | omega | (simp; omega) | (simp; done) | (dsimp only; omega)) (by first | omega | (simp; omega) | (simp; done) | (dsimp only; omega))
      · obtain rfl : k = zs.length := by omega
        go_wp2
        go_ret
        exact ⟨A5, c5, rfl, ho5.mono (by omega) (Nat.le_refl _), by (with_reducible repeat' first | exact Below.refl _ _ | assumption | (refine Below.setCell ?_ (by first | omega | (simp; omega) | (simp; done) | (dsimp only; omega)) _) | (refine Below.alloc ?_ (by first | omega | (simp; omega) | (simp; done) | (dsimp only; omega)) _) | (refine below_drewN ?_ _) | (refine Below.drew ?_) | (refine Below.trans ?_ (hb5.mono (by first | omega | (simp; omega) | (simp; done) | (dsimp only; omega)))) | (refine Below.trans ?_ (hbw2.mono (by first | omega | (simp; omega) | (simp; done) | (dsimp only; omega)))))⟩
  · have n1 : (ego == 0) = false := by simp [he]
    cases hx1 : decide (x1 = ego) with
    | true =>
      have n2 : (ego == x1) = true := by have := of_decide_eq_true hx1; simp [this]
      have HEG := Lib.hid (show egoIs ⟨x0, x1, x2, x3, x4, x5⟩ ego = true by have := of_decide_eq_true hx1; simp [egoIs, this])
      clear hx1 he
      refine wp_region_held_drew (S := fun w' => w'.cell? ⟨w.heap.size, 0, none⟩ = some (.slice (some ⟨b, off, none⟩) xs.length c) ∧ w'.cell? ⟨w.heap.size + 1, 0, none⟩ = some (.int .i64 ego) ∧ w'.cell? ⟨b, off + p * 6 + 1, none⟩ = some (.int .i64 x1)) (by kernel_rfl) ⟨u0, t0, hc1⟩ (fun hHeld => ?_)
      refine wpAnyH_take (i := 0) (oi := { dst := some 14, op := _, type := _, pos := _, after := _, guard := _ }) (v := ?_) rfl (by kernel_rfl) (by kernel_rfl) (by kernel_rfl) (fun _ _ _ h => h) (Or.inl ⟨by rfl, ?_⟩) (by assumption) ?_; rotate_left; (intro w hSw; (try dsimp only at hSw); go_simp); (try with_reducible rfl); (try simp only [Act.put, List.setIfInBounds_toArray, List.set_cons_zero, List.set_cons_succ])
      refine wpAnyH_take (i := 1) (oi := { dst := some 15, op := _, type := _, pos := _, after := _, guard := _ }) (v := ?_) rfl (by kernel_rfl) (by kernel_rfl) (by kernel_rfl) (fun _ _ _ h => h) (Or.inl ⟨by rfl, ?_⟩) (by assumption) ?_; rotate_left; (intro w hSw; (try dsimp only at hSw); go_simp); (try with_reducible rfl); (try simp only [Act.put, List.setIfInBounds_toArray, List.set_cons_zero, List.set_cons_succ])
      refine wpAnyH_take (i := 2) (oi := { dst := some 16, op := _, type := _, pos := _, after := _, guard := _ }) (v := ?_) rfl (by kernel_rfl) (by kernel_rfl) (by kernel_rfl) (fun _ _ _ h => h) (Or.inl ⟨by rfl, ?_⟩) (by assumption) ?_; rotate_left; (intro w hSw; (try dsimp only at hSw); go_simp); (try with_reducible rfl); (try simp only [Act.put, List.setIfInBounds_toArray, List.set_cons_zero, List.set_cons_succ])
      refine wpAnyH_take (i := 3) (oi := { dst := some 17, op := _, type := _, pos := _, after := _, guard := _ }) (v := ?_) rfl (by kernel_rfl) (by kernel_rfl) (by kernel_rfl) (fun _ _ _ h => h) (Or.inl ⟨by rfl, ?_⟩) (by assumption) ?_; rotate_left; (intro w hSw; (try dsimp only at hSw); go_simp); (try with_reducible rfl); (try simp only [Act.put, List.setIfInBounds_toArray, List.set_cons_zero, List.set_cons_succ])
      refine wpAnyH_take (i := 4) (oi := { dst := some 18, op := _, type := _, pos := _, after := _, guard := _ }) (v := ?_) rfl (by kernel_rfl) (by kernel_rfl) (by kernel_rfl) (fun _ _ _ h => h) (Or.inl ⟨by rfl, ?_⟩) (by assumption) ?_; rotate_left; (intro w hSw; (try dsimp only at hSw); go_simp); (try with_reducible rfl); (try simp only [Act.put, List.setIfInBounds_toArray, List.set_cons_zero, List.set_cons_succ])
      refine wpAnyH_take (i := 5) (oi := { dst := some 19, op := _, type := _, pos := _, after := _, guard := _ }) (v := ?_) rfl (by kernel_rfl) (by kernel_rfl) (by kernel_rfl) (fun _ _ _ h => h) (Or.inl ⟨by rfl, ?_⟩) (by assumption) ?_; rotate_left; (intro w hSw; (try dsimp only at hSw); go_simp); (try with_reducible rfl); (try simp only [Act.put, List.setIfInBounds_toArray, List.set_cons_zero, List.set_cons_succ])
      refine wpAnyH_take (i := 6) (oi := { dst := some 20, op := _, type := _, pos := _, after := _, guard := _ }) (v := ?_) rfl (by kernel_rfl) (by kernel_rfl) (by kernel_rfl) (fun _ _ _ h => h) (Or.inl ⟨by rfl, ?_⟩) (by assumption) ?_; rotate_left; (intro w hSw; (try dsimp only at hSw); go_simp); (try with_reducible rfl); (try simp only [Act.put, List.setIfInBounds_toArray, List.set_cons_zero, List.set_cons_succ])
      refine wpAnyH_take (i := 7) (oi := { dst := some 21, op := _, type := _, pos := _, after := _, guard := _ }) (v := ?_) rfl (by kernel_rfl) (by kernel_rfl) (by kernel_rfl) (fun _ _ _ h => h) (Or.inl ⟨by rfl, ?_⟩) (by assumption) ?_; rotate_left; (intro w hSw; (try dsimp only at hSw); go_simp); (try with_reducible rfl); (try simp only [Act.put, List.setIfInBounds_toArray, List.set_cons_zero, List.set_cons_succ])
      refine wpAnyH_take (i := 8) (oi := { dst := some 22, op := _, type := _, pos := _, after := _, guard := _ }) (v := ?_) rfl (by kernel_rfl) (by kernel_rfl) (by kernel_rfl) (fun _ _ _ h => h) (Or.inl ⟨by rfl, ?_⟩) (by assumption) ?_; rotate_left; (intro w hSw; (try dsimp only at hSw); go_simp); (try with_reducible rfl); (try simp only [Act.put, List.setIfInBounds_toArray, List.set_cons_zero, List.set_cons_succ])
      refine wpAnyH_take (i := 9) (oi := { dst := some 23, op := _, type := _, pos := _, after := _, guard := _ }) (v := ?_) rfl (by kernel_rfl) (by kernel_rfl) (by kernel_rfl) (fun _ _ _ h => h) (Or.inl ⟨by rfl, ?_⟩) (by assumption) ?_; rotate_left; (intro w hSw; (try dsimp only at hSw); go_simp); (try with_reducible rfl); (try simp only [Act.put, List.setIfInBounds_toArray, List.set_cons_zero, List.set_cons_succ])
      refine wpAnyH_take (i := 10) (oi := { dst := some 24, op := _, type := _, pos := _, after := _, guard := _ }) (v := ?_) rfl (by kernel_rfl) (by kernel_rfl) (by kernel_rfl) (fun _ _ _ h => h) (Or.inl ⟨by rfl, ?_⟩) (by assumption) ?_; rotate_left; (intro w hSw; (try dsimp only at hSw); go_simp); (try with_reducible rfl); (try simp only [Act.put, List.setIfInBounds_toArray, List.set_cons_zero, List.set_cons_succ])
      refine wpAnyH_take (i := 11) (oi := { dst := some 25, op := _, type := _, pos := _, after := _, guard := _ }) (v := ?_) rfl (by kernel_rfl) (by kernel_rfl) (by kernel_rfl) (fun _ _ _ h => h) (Or.inl ⟨by rfl, ?_⟩) (by assumption) ?_; rotate_left; (intro w hSw; (try dsimp only at hSw); go_simp); (try with_reducible rfl); (try simp only [Act.put, List.setIfInBounds_toArray, List.set_cons_zero, List.set_cons_succ])
      refine wpAnyH_take (i := 12) (oi := { dst := some 26, op := _, type := _, pos := _, after := _, guard := _ }) (v := ?_) rfl (by kernel_rfl) (by kernel_rfl) (by kernel_rfl) (fun _ _ _ h => h) (Or.inl ⟨by rfl, ?_⟩) (by assumption) ?_; rotate_left; (intro w hSw; (try dsimp only at hSw); go_simp); (try with_reducible rfl); (try simp only [Act.put, List.setIfInBounds_toArray, List.set_cons_zero, List.set_cons_succ])
      refine wpAnyH_take (i := 13) (oi := { dst := some 27, op := _, type := _, pos := _, after := _, guard := _ }) (v := ?_) rfl (by kernel_rfl) (by kernel_rfl) (by kernel_rfl) (fun _ _ _ h => h) (Or.inl ⟨by rfl, ?_⟩) (by assumption) ?_; rotate_left; (intro w hSw; (try dsimp only at hSw); go_simp); (try with_reducible rfl); (try simp only [Act.put, List.setIfInBounds_toArray, List.set_cons_zero, List.set_cons_succ])
      refine wpAnyH_take (i := 14) (oi := { dst := some 28, op := _, type := _, pos := _, after := _, guard := _ }) (v := ?_) rfl (by kernel_rfl) (by kernel_rfl) (by kernel_rfl) (fun _ _ _ h => h) (Or.inl ⟨by rfl, ?_⟩) (by assumption) ?_; rotate_left; (intro w hSw; (try dsimp only at hSw); go_simp); (try with_reducible rfl); (try simp only [Act.put, List.setIfInBounds_toArray, List.set_cons_zero, List.set_cons_succ])
      refine wpAnyH_take (i := 15) (oi := { dst := some 29, op := _, type := _, pos := _, after := _, guard := _ }) (v := ?_) rfl (by kernel_rfl) (by kernel_rfl) (by kernel_rfl) (fun _ _ _ h => h) (Or.inl ⟨by rfl, ?_⟩) (by assumption) ?_; rotate_left; (intro w hSw; (try dsimp only at hSw); go_simp); (try with_reducible rfl); (try simp only [Act.put, List.setIfInBounds_toArray, List.set_cons_zero, List.set_cons_succ])
      refine wpAnyH_take (i := 16) (oi := { dst := some 30, op := _, type := _, pos := _, after := _, guard := _ }) (v := ?_) rfl (by kernel_rfl) (by kernel_rfl) (by kernel_rfl) (fun _ _ _ h => h) (Or.inl ⟨by rfl, ?_⟩) (by assumption) ?_; rotate_left; (intro w hSw; (try dsimp only at hSw); go_simp); (try with_reducible rfl); (try simp only [Act.put, List.setIfInBounds_toArray, List.set_cons_zero, List.set_cons_succ])
      refine wpAnyH_ready (rs := [17]) (by kernel_rfl) (by simp) ?_
      refine AllReadyH.cons (o := { dst := none, op := _, type := _, pos := _, after := _, guard := _ }) rfl (fun K hK => ?_) AllReadyH.nil
      go_simp
      refine hK.out _ _ ⟨(World.cell?_of_block (Below.heap_setCell _ _ _ _ (by first | omega | (simp; omega) | (simp; done) | (dsimp only; omega)))).trans u0, (World.cell?_of_block (Below.heap_setCell _ _ _ _ (by first | omega | (simp; omega) | (simp; done) | (dsimp only; omega)))).trans t0, (World.cell?_of_block (Below.heap_setCell _ _ _ _ (by first | omega | (simp; omega) | (simp; done) | (dsimp only; omega)))).trans hc1⟩ (fun hHeld => ?_)
      clear hK K; (try simp only [Act.put, List.setIfInBounds_toArray, List.set_cons_zero, List.set_cons_succ])
      refine wpAnyH_done (by kernel_rfl) ?_ _
      go_wp2_with fail
      have hb2 : Below (w.heap.size + 1 + 1) w1 (w1.setCell ⟨w.heap.size + 1 + 1, p, none⟩ (.bool true)).drew := (Below.setCell (Below.refl _ _) (by simp) _).drew
      have ho2 := (HS'.out true).same (Same.drew (Same.refl _ _ _))
      rw [row1_diag' HXK.out HEG.out] at ho2
      generalize hW2 : (w1.setCell ⟨w.heap.size + 1 + 1, p, none⟩ (.bool true)).drew = w2 at hb2 ho2 ⊢
      have z2 : w1.heap.size ≤ w2.heap.size := hb2.size
      clear hW2 HS' k1 k2
      have hX2 := hX1.same (Same.of_below hb2 (by omega))
      have hY2 := hY1.same (Same.of_below hb2 (by omega))
      have hZ2 := hZ1.same (Same.of_below hb2 (by omega))
      replace u0 := (hb2.cell (p := ⟨w.heap.size, 0, none⟩) (by simp; omega)).trans u0
      replace u1 := (hb2.cell (p := ⟨w.heap.size, 1, none⟩) (by simp; omega)).trans u1
      replace t0 := (hb2.cell (p := ⟨w.heap.size + 1, 0, none⟩) (by simp)).trans t0
      replace t1 := (hb2.cell (p := ⟨w.heap.size + 1, 1, none⟩) (by simp)).trans t1
      have hbw2 := hbw.trans (hb2.mono (by omega))
      have lv1 : w.heap.size + 1 < w2.heap.size := by omega
      go_wp2_with fail
      go_loopw [7, 34] (fun v i w5 => RelvRel (fun k => waysP xs ys ⟨ego, zs⟩ k p) zs.length xs.length (w.heap.size + 1 + 1) w2 v i w5) (fun _ i _ => zs.length - (intOf i).toNat)
      case atStart => exact ⟨0, _, _, Nat.zero_le _, rfl, rfl, ho2.mono (Nat.le_refl _) (by omega), Below.refl _ _⟩
      case round =>
        obtain ⟨k, A5, c5, hk5, rfl, rfl, ho5, hb5⟩ := hrel
        simp only at ho5
        have zb5 := hb5.size
        have lx0 : w.heap.size < wr.heap.size := by omega
        have lx1 : w.heap.size + 1 < wr.heap.size := by omega
        replace u0 := (hb5.cell (p := ⟨w.heap.size, 0, none⟩) (by simp; omega)).trans u0
        replace u1 := (hb5.cell (p := ⟨w.heap.size, 1, none⟩) (by simp; omega)).trans u1
        replace t0 := (hb5.cell (p := ⟨w.heap.size + 1, 0, none⟩) (by simp; omega)).trans t0
        replace t1 := (hb5.cell (p := ⟨w.heap.size + 1, 1, none⟩) (by simp; omega)).trans t1
        have hX5 := hX2.same (Same.of_below hb5 (by omega))
        have hY5 := hY2.same (Same.of_below hb5 (by omega))
        by_cases hlt : k < zs.length
        · obtain ⟨b', off', ⟨kd, ag⟩, rfl, f1', f2', _, hzk, hc0, hc1'⟩ := AStep.at_ (hZ2.same (Same.of_below hb5 (by omega))) hlt
          simp only at hc0 hc1'
          have hkd := HKD.out k _ hzk
          have HZ := Lib.hid (waysP_row (xs := xs) (ys := ys) (t := ⟨ego, zs⟩) hzk p)
          clear hzk
          have lb' : b' < wr.heap.size := by omega
          have i2 : (0 : Int) ≤ (k : Int) ∧ (k : Int) < (zs.length : Int) := by omega
          go_wp2_with (go_at_call 107; (with_reducible refine (l3Reach_any _ _ _ _ lo hi xs ys kd ag A5 c5 _ _ _ _ (hX5.same (by (with_reducible repeat' first | exact Same.refl _ _ _ | assumption | (refine Same.setCell ?_ (by first | omega | (simp; omega) | (simp; done) | (dsimp only; omega)) _) | (refine Same.alloc ?_ (by first | omega | (simp; omega) | (simp; done) | (dsimp only; omega)) _) | (refine Same.drewN ?_ _) | (refine Same.drew ?_)))) (hY5.same (by (with_reducible repeat' first | exact Same.refl _ _ _ | assumption | (refine Same.setCell ?_ (by first | omega | (simp; omega) | (simp; done) | (dsimp only; omega)) _) | (refine Same.alloc ?_ (by first | omega | (simp; omega) | (simp; done) | (dsimp only; omega)) _) | (refine Same.drewN ?_ _) | (refine Same.drew ?_)))) (by first | omega | (simp; omega) | (simp; done) | (dsimp only; omega)) (ho5.read.as.same (by (with_reducible repeat' first | exact Same.refl _ _ _ | assumption | (refine Same.setCell ?_ (by first | omega | (simp; omega) | (simp; done) | (dsimp only; omega)) _) | (refine Same.alloc ?_ (by first | omega | (simp; omega) | (simp; done) | (dsimp only; omega)) _) | (refine Same.drewN ?_ _) | (refine Same.drew ?_)))) (by first | omega | (simp; omega) | (simp; done) | (dsimp only; omega)) hkd hn).mono ?_); rintro e w6 ⟨A6, c6, rfl, ho6, hb6⟩; (obtain ⟨hb6c, hb6f⟩ := bcell hb6); (have hb6z := hb6.size); (try simp only [szs] at hb6c hb6f hb6z))
          refine ⟨⟨k + 1, A6, c6, by omega, by go_num, rfl, ?_, by (with_reducible repeat' first | exact Below.refl _ _ | assumption | (refine Below.setCell ?_ (by first | omega | (simp; omega) | (simp; done) | (dsimp only; omega)) _) | (refine Below.alloc ?_ (by first | omega | (simp; omega) | (simp; done) | (dsimp only; omega)) _) | (refine below_drewN ?_ _) | (refine Below.drew ?_) | (refine Below.trans ?_ (hb6.mono (by first | omega | (simp; omega) | (simp; done) | (dsimp only; omega)))) | (refine Below.trans ?_ (hb5.mono (by first | omega | (simp; omega) | (simp; done) | (dsimp only; omega)))))⟩, by simp [intOf]; omega⟩
          show EBool.OS _ _ _ _ (row1 xs.length (waysP xs ys ⟨ego, zs⟩ (k + 1) p))
          rw [HZ.out]
          exact (ho6.same (by (with_reducible repeat' first | exact Same.refl _ _ _ | assumption | (refine Same.setCell ?_ (by first | omega | (simp; omega) | (simp; done) | (dsimp only; omega)) _) | (refine Same.alloc ?_ (by first | omega | (simp; omega) | (simp; done) | (dsimp only; omega)) _) | (refine Same.drewN ?_ _) | (refine Same.drew ?_)))).mono (by first | omega | (simp; omega) | (simp; done) | (dsimp only; omega)) (by first | omega | (simp; omega) | (simp; done) | (dsimp only; omega))
        · obtain rfl : k = zs.length := by omega
          go_wp2
          go_ret
          exact ⟨A5, c5, rfl, ho5.mono (by omega) (Nat.le_refl _), by (with_reducible repeat' first | exact Below.refl _ _ | assumption | (refine Below.setCell ?_ (by first | omega | (simp; omega) | (simp; done) | (dsimp only; omega)) _) | (refine Below.alloc ?_ (by first | omega | (simp; omega) | (simp; done) | (dsimp only; omega)) _) | (refine below_drewN ?_ _) | (refine Below.drew ?_) | (refine Below.trans ?_ (hb5.mono (by first | omega | (simp; omega) | (simp; done) | (dsimp only; omega)))) | (refine Below.trans ?_ (hbw2.mono (by first | omega | (simp; omega) | (simp; done) | (dsimp only; omega)))))⟩
    | false =>
      have n2 : (ego == x1) = false := by have := of_decide_eq_false hx1; simp; omega
      have HEG := Lib.hid (show egoIs ⟨x0, x1, x2, x3, x4, x5⟩ ego = false by have := of_decide_eq_false hx1; simp [egoIs, this, he])
      clear hx1 he
      refine wp_region_held_drew (S := fun w' => w'.cell? ⟨w.heap.size, 0, none⟩ = some (.slice (some ⟨b, off, none⟩) xs.length c) ∧ w'.cell? ⟨w.heap.size + 1, 0, none⟩ = some (.int .i64 ego) ∧ w'.cell? ⟨b, off + p * 6 + 1, none⟩ = some (.int .i64 x1)) (by kernel_rfl) ⟨u0, t0, hc1⟩ (fun hHeld => ?_)
      refine wpAnyH_take (i := 0) (oi := { dst := some 14, op := _, type := _, pos := _, after := _, guard := _ }) (v := ?_) rfl (by kernel_rfl) (by kernel_rfl) (by kernel_rfl) (fun _ _ _ h => h) (Or.inl ⟨by rfl, ?_⟩) (by assumption) ?_; rotate_left; (intro w hSw; (try dsimp only at hSw); go_simp); (try with_reducible rfl); (try simp only [Act.put, List.setIfInBounds_toArray, List.set_cons_zero, List.set_cons_succ])
      refine wpAnyH_take (i := 1) (oi := { dst := some 15, op := _, type := _, pos := _, after := _, guard := _ }) (v := ?_) rfl (by kernel_rfl) (by kernel_rfl) (by kernel_rfl) (fun _ _ _ h => h) (Or.inl ⟨by rfl, ?_⟩) (by assumption) ?_; rotate_left; (intro w hSw; (try dsimp only at hSw); go_simp); (try with_reducible rfl); (try simp only [Act.put, List.setIfInBounds_toArray, List.set_cons_zero, List.set_cons_succ])
      refine wpAnyH_take (i := 2) (oi := { dst := some 16, op := _, type := _, pos := _, after := _, guard := _ }) (v := ?_) rfl (by kernel_rfl) (by kernel_rfl) (by kernel_rfl) (fun _ _ _ h => h) (Or.inl ⟨by rfl, ?_⟩) (by assumption) ?_; rotate_left; (intro w hSw; (try dsimp only at hSw); go_simp); (try with_reducible rfl); (try simp only [Act.put, List.setIfInBounds_toArray, List.set_cons_zero, List.set_cons_succ])
      refine wpAnyH_take (i := 3) (oi := { dst := some 17, op := _, type := _, pos := _, after := _, guard := _ }) (v := ?_) rfl (by kernel_rfl) (by kernel_rfl) (by kernel_rfl) (fun _ _ _ h => h) (Or.inl ⟨by rfl, ?_⟩) (by assumption) ?_; rotate_left; (intro w hSw; (try dsimp only at hSw); go_simp); (try with_reducible rfl); (try simp only [Act.put, List.setIfInBounds_toArray, List.set_cons_zero, List.set_cons_succ])
      refine wpAnyH_take (i := 4) (oi := { dst := some 18, op := _, type := _, pos := _, after := _, guard := _ }) (v := ?_) rfl (by kernel_rfl) (by kernel_rfl) (by kernel_rfl) (fun _ _ _ h => h) (Or.inl ⟨by rfl, ?_⟩) (by assumption) ?_; rotate_left; (intro w hSw; (try dsimp only at hSw); go_simp); (try with_reducible rfl); (try simp only [Act.put, List.setIfInBounds_toArray, List.set_cons_zero, List.set_cons_succ])
      refine wpAnyH_take (i := 5) (oi := { dst := some 19, op := _, type := _, pos := _, after := _, guard := _ }) (v := ?_) rfl (by kernel_rfl) (by kernel_rfl) (by kernel_rfl) (fun _ _ _ h => h) (Or.inl ⟨by rfl, ?_⟩) (by assumption) ?_; rotate_left; (intro w hSw; (try dsimp only at hSw); go_simp); (try with_reducible rfl); (try simp only [Act.put, List.setIfInBounds_toArray, List.set_cons_zero, List.set_cons_succ])
      refine wpAnyH_take (i := 6) (oi := { dst := some 20, op := _, type := _, pos := _, after := _, guard := _ }) (v := ?_) rfl (by kernel_rfl) (by kernel_rfl) (by kernel_rfl) (fun _ _ _ h => h) (Or.inl ⟨by rfl, ?_⟩) (by assumption) ?_; rotate_left; (intro w hSw; (try dsimp only at hSw); go_simp); (try with_reducible rfl); (try simp only [Act.put, List.setIfInBounds_toArray, List.set_cons_zero, List.set_cons_succ])
      refine wpAnyH_take (i := 7) (oi := { dst := some 21, op := _, type := _, pos := _, after := _, guard := _ }) (v := ?_) rfl (by kernel_rfl) (by kernel_rfl) (by kernel_rfl) (fun _ _ _ h => h) (Or.inl ⟨by rfl, ?_⟩) (by assumption) ?_; rotate_left; (intro w hSw; (try dsimp only at hSw); go_simp); (try with_reducible rfl); (try simp only [Act.put, List.setIfInBounds_toArray, List.set_cons_zero, List.set_cons_succ])
      refine wpAnyH_take (i := 8) (oi := { dst := some 22, op := _, type := _, pos := _, after := _, guard := _ }) (v := ?_) rfl (by kernel_rfl) (by kernel_rfl) (by kernel_rfl) (fun _ _ _ h => h) (Or.inl ⟨by rfl, ?_⟩) (by assumption) ?_; rotate_left; (intro w hSw; (try dsimp only at hSw); go_simp); (try with_reducible rfl); (try simp only [Act.put, List.setIfInBounds_toArray, List.set_cons_zero, List.set_cons_succ])
      refine wpAnyH_take (i := 9) (oi := { dst := some 23, op := _, type := _, pos := _, after := _, guard := _ }) (v := ?_) rfl (by kernel_rfl) (by kernel_rfl) (by kernel_rfl) (fun _ _ _ h => h) (Or.inl ⟨by rfl, ?_⟩) (by assumption) ?_; rotate_left; (intro w hSw; (try dsimp only at hSw); go_simp); (try with_reducible rfl); (try simp only [Act.put, List.setIfInBounds_toArray, List.set_cons_zero, List.set_cons_succ])
      refine wpAnyH_take (i := 10) (oi := { dst := some 24, op := _, type := _, pos := _, after := _, guard := _ }) (v := ?_) rfl (by kernel_rfl) (by kernel_rfl) (by kernel_rfl) (fun _ _ _ h => h) (Or.inl ⟨by rfl, ?_⟩) (by assumption) ?_; rotate_left; (intro w hSw; (try dsimp only at hSw); go_simp); (try with_reducible rfl); (try simp only [Act.put, List.setIfInBounds_toArray, List.set_cons_zero, List.set_cons_succ])
      refine wpAnyH_take (i := 11) (oi := { dst := some 25, op := _, type := _, pos := _, after := _, guard := _ }) (v := ?_) rfl (by kernel_rfl) (by kernel_rfl) (by kernel_rfl) (fun _ _ _ h => h) (Or.inl ⟨by rfl, ?_⟩) (by assumption) ?_; rotate_left; (intro w hSw; (try dsimp only at hSw); go_simp); (try with_reducible rfl); (try simp only [Act.put, List.setIfInBounds_toArray, List.set_cons_zero, List.set_cons_succ])
      refine wpAnyH_take (i := 12) (oi := { dst := some 26, op := _, type := _, pos := _, after := _, guard := _ }) (v := ?_) rfl (by kernel_rfl) (by kernel_rfl) (by kernel_rfl) (fun _ _ _ h => h) (Or.inl ⟨by rfl, ?_⟩) (by assumption) ?_; rotate_left; (intro w hSw; (try dsimp only at hSw); go_simp); (try with_reducible rfl); (try simp only [Act.put, List.setIfInBounds_toArray, List.set_cons_zero, List.set_cons_succ])
      refine wpAnyH_take (i := 13) (oi := { dst := some 27, op := _, type := _, pos := _, after := _, guard := _ }) (v := ?_) rfl (by kernel_rfl) (by kernel_rfl) (by kernel_rfl) (fun _ _ _ h => h) (Or.inl ⟨by rfl, ?_⟩) (by assumption) ?_; rotate_left; (intro w hSw; (try dsimp only at hSw); go_simp); (try with_reducible rfl); (try simp only [Act.put, List.setIfInBounds_toArray, List.set_cons_zero, List.set_cons_succ])
      refine wpAnyH_take (i := 14) (oi := { dst := some 28, op := _, type := _, pos := _, after := _, guard := _ }) (v := ?_) rfl (by kernel_rfl) (by kernel_rfl) (by kernel_rfl) (fun _ _ _ h => h) (Or.inl ⟨by rfl, ?_⟩) (by assumption) ?_; rotate_left; (intro w hSw; (try dsimp only at hSw); go_simp); (try with_reducible rfl); (try simp only [Act.put, List.setIfInBounds_toArray, List.set_cons_zero, List.set_cons_succ])
      refine wpAnyH_take (i := 15) (oi := { dst := some 29, op := _, type := _, pos := _, after := _, guard := _ }) (v := ?_) rfl (by kernel_rfl) (by kernel_rfl) (by kernel_rfl) (fun _ _ _ h => h) (Or.inl ⟨by rfl, ?_⟩) (by assumption) ?_; rotate_left; (intro w hSw; (try dsimp only at hSw); go_simp); (try with_reducible rfl); (try simp only [Act.put, List.setIfInBounds_toArray, List.set_cons_zero, List.set_cons_succ])
      refine wpAnyH_take (i := 16) (oi := { dst := some 30, op := _, type := _, pos := _, after := _, guard := _ }) (v := ?_) rfl (by kernel_rfl) (by kernel_rfl) (by kernel_rfl) (fun _ _ _ h => h) (Or.inl ⟨by rfl, ?_⟩) (by assumption) ?_; rotate_left; (intro w hSw; (try dsimp only at hSw); go_simp); (try with_reducible rfl); (try simp only [Act.put, List.setIfInBounds_toArray, List.set_cons_zero, List.set_cons_succ])
      refine wpAnyH_ready (rs := [17]) (by kernel_rfl) (by simp) ?_
      refine AllReadyH.cons (o := { dst := none, op := _, type := _, pos := _, after := _, guard := _ }) rfl (fun K hK => ?_) AllReadyH.nil
      go_simp
      refine hK.out _ _ ⟨(World.cell?_of_block (Below.heap_setCell _ _ _ _ (by first | omega | (simp; omega) | (simp; done) | (dsimp only; omega)))).trans u0, (World.cell?_of_block (Below.heap_setCell _ _ _ _ (by first | omega | (simp; omega) | (simp; done) | (dsimp only; omega)))).trans t0, (World.cell?_of_block (Below.heap_setCell _ _ _ _ (by first | omega | (simp; omega) | (simp; done) | (dsimp only; omega)))).trans hc1⟩ (fun hHeld => ?_)
      clear hK K; (try simp only [Act.put, List.setIfInBounds_toArray, List.set_cons_zero, List.set_cons_succ])
      refine wpAnyH_done (by kernel_rfl) ?_ _
      go_wp2_with fail
      have hb2 : Below (w.heap.size + 1 + 1) w1 (w1.setCell ⟨w.heap.size + 1 + 1, p, none⟩ (.bool false)).drew := (Below.setCell (Below.refl _ _) (by simp) _).drew
      have ho2 := (HS'.out false).same (Same.drew (Same.refl _ _ _))
      rw [row1_diag' HXK.out HEG.out] at ho2
      generalize hW2 : (w1.setCell ⟨w.heap.size + 1 + 1, p, none⟩ (.bool false)).drew = w2 at hb2 ho2 ⊢
      have z2 : w1.heap.size ≤ w2.heap.size := hb2.size
      clear hW2 HS' k1 k2
      have hX2 := hX1.same (Same.of_below hb2 (by omega))
      have hY2 := hY1.same (Same.of_below hb2 (by omega))
      have hZ2 := hZ1.same (Same.of_below hb2 (by omega))
      replace u0 := (hb2.cell (p := ⟨w.heap.size, 0, none⟩) (by simp; omega)).trans u0
      replace u1 := (hb2.cell (p := ⟨w.heap.size, 1, none⟩) (by simp; omega)).trans u1
      replace t0 := (hb2.cell (p := ⟨w.heap.size + 1, 0, none⟩) (by simp)).trans t0
      replace t1 := (hb2.cell (p := ⟨w.heap.size + 1, 1, none⟩) (by simp)).trans t1
      have hbw2 := hbw.trans (hb2.mono (by omega))
      have lv1 : w.heap.size + 1 < w2.heap.size := by omega
      go_wp2_with fail
      go_loopw [7, 34] (fun v i w5 => RelvRel (fun k => waysP xs ys ⟨ego, zs⟩ k p) zs.length xs.length (w.heap.size + 1 + 1) w2 v i w5) (fun _ i _ => zs.length - (intOf i).toNat)
      case atStart => exact ⟨0, _, _, Nat.zero_le _, rfl, rfl, ho2.mono (Nat.le_refl _) (by omega), Below.refl _ _⟩
      case round =>
        obtain ⟨k, A5, c5, hk5, rfl, rfl, ho5, hb5⟩ := hrel
        simp only at ho5
        have zb5 := hb5.size
        have lx0 : w.heap.size < wr.heap.size := by omega
        have lx1 : w.heap.size + 1 < wr.heap.size := by omega
        replace u0 := (hb5.cell (p := ⟨w.heap.size, 0, none⟩) (by simp; omega)).trans u0
        replace u1 := (hb5.cell (p := ⟨w.heap.size, 1, none⟩) (by simp; omega)).trans u1
        replace t0 := (hb5.cell (p := ⟨w.heap.size + 1, 0, none⟩) (by simp; omega)).trans t0
        replace t1 := (hb5.cell (p := ⟨w.heap.size + 1, 1, none⟩) (by simp; omega)).trans t1
        have hX5 := hX2.same (Same.of_below hb5 (by omega))
        have hY5 := hY2.same (Same.of_below hb5 (by omega))
        by_cases hlt : k < zs.length
        · obtain ⟨b', off', ⟨kd, ag⟩, rfl, f1', f2', _, hzk, hc0, hc1'⟩ := AStep.at_ (hZ2.same (Same.of_below hb5 (by omega))) hlt
          simp only at hc0 hc1'
          have hkd := HKD.out k _ hzk
          have HZ := Lib.hid (waysP_row (xs := xs) (ys := ys) (t := ⟨ego, zs⟩) hzk p)
          clear hzk
          have lb' : b' < wr.heap.size := by omega
          have i2 : (0 : Int) ≤ (k : Int) ∧ (k : Int) < (zs.length : Int) := by omega
          go_wp2_with (go_at_call 107; (with_reducible refine (l3Reach_any _ _ _ _ lo hi xs ys kd ag A5 c5 _ _ _ _ (hX5.same (by (with_reducible repeat' first | exact Same.refl _ _ _ | assumption | (refine Same.setCell ?_ (by first | omega | (simp; omega) | (simp; done) | (dsimp only; omega)) _) | (refine Same.alloc ?_ (by first | omega | (simp; omega) | (simp; done) | (dsimp only; omega)) _) | (refine Same.drewN ?_ _) | (refine Same.drew ?_)))) (hY5.same (by (with_reducible repeat' first | exact Same.refl _ _ _ | assumption | (refine Same.setCell ?_ (by first | omega | (simp; omega) | (simp; done) | (dsimp only; omega)) _) | (refine Same.alloc ?_ (by first | omega | (simp; omega) | (simp; done) | (dsimp only; omega)) _) | (refine Same.drewN ?_ _) | (refine Same.drew ?_)))) (by first | omega | (simp; omega) | (simp; done) | (dsimp only; omega)) (ho5.read.as.same (by (with_reducible repeat' first | exact Same.refl _ _ _ | assumption | (refine Same.setCell ?_ (by first | omega | (simp; omega) | (simp; done) | (dsimp only; omega)) _) | (refine Same.alloc ?_ (by first | omega | (simp; omega) | (simp; done) | (dsimp only; omega)) _) | (refine Same.drewN ?_ _) | (refine Same.drew ?_)))) (by first | omega | (simp; omega) | (simp; done) | (dsimp only; omega)) hkd hn).mono ?_); rintro e w6 ⟨A6, c6, rfl, ho6, hb6⟩; (obtain ⟨hb6c, hb6f⟩ := bcell hb6); (have hb6z := hb6.size); (try simp only [szs] at hb6c hb6f hb6z))
          refine ⟨⟨k + 1, A6, c6, by omega, by go_num, rfl, ?_, by (with_reducible repeat' first | exact Below.refl _ _ | assumption | (refine Below.setCell ?_ (by first | omega | (simp; omega) | (simp; done) | (dsimp only; omega)) _) | (refine Below.alloc ?_ (by first | omega | (simp; omega) | (simp; done) | (dsimp only; omega)) _) | (refine below_drewN ?_ _) | (refine Below.drew ?_) | (refine Below.trans ?_ (hb6.mono (by first | omega | (simp; omega) | (simp; done) | (dsimp only; omega)))) | (refine Below.trans ?_ (hb5.mono (by first | omega | (simp; omega) | (simp; done) | (dsimp only; omega)))))⟩, by simp [intOf]; omega⟩
          show EBool.OS _ _ _ _ (row1 xs.length (waysP xs ys ⟨ego, zs⟩ (k + 1) p))
          rw [HZ.out]
          exact (ho6.same (by (with_reducible repeat' first | exact Same.refl _ _ _ | assumption | (refine Same.setCell ?_ (by first | omega | (simp; omega) | (simp; done) | (dsimp only; omega)) _) | (refine Same.alloc ?_ (by first | omega | (simp; omega) | (simp; done) | (dsimp only; omega)) _) | (refine Same.drewN ?_ _) | (refine Same.drew ?_)))).mono (by first | omega | (simp; omega) | (simp; done) | (dsimp only; omega)) (by first | omega | (simp; omega) | (simp; done) | (dsimp only; omega))
        · obtain rfl : k = zs.length := by omega
          go_wp2
          go_ret
          exact ⟨A5, c5, rfl, ho5.mono (by omega) (Nat.le_refl _), by (with_reducible repeat' first | exact Below.refl _ _ | assumption | (refine Below.setCell ?_ (by first | omega | (simp; omega) | (simp; done) | (dsimp only; omega)) _) | (refine Below.alloc ?_ (by first | omega | (simp; omega) | (simp; done) | (dsimp only; omega)) _) | (refine below_drewN ?_ _) | (refine Below.drew ?_) | (refine Below.trans ?_ (hb5.mono (by first | omega | (simp; omega) | (simp; done) | (dsimp only; omega)))) | (refine Below.trans ?_ (hbw2.mono (by first | omega | (simp; omega) | (simp; done) | (dsimp only; omega)))))⟩

set_option maxHeartbeats 4000000 in
theorem specRelativesOf_any (A B D : Option Addr) (c d e lo hi lo' hi' : Nat) (xs : List Person) (ys : List Union) (ego : Int) (zs : List Step) (p : Int) (w : World) (h : EPerson.AS w lo hi A xs) (h' : EUnion.AS w lo hi B ys) (h'' : EStep.AS w lo' hi' D zs) (hh : hi ≤ w.heap.size) (hh' : hi' ≤ w.heap.size) (hs : totP xs ≤ 1048576) :
    Calls Try.prog 58 #[.agg #[.slice A xs.length c, .slice B ys.length d], .int .i64 p, .agg #[.int .i64 ego, .slice D zs.length e]] w (RetIntS w (relsM xs ys p ⟨ego, zs⟩)) := by
  cases ho : hasOk xs ys p with
  | false =>
    have HO := Lib.hid ho
    have HN := Lib.hid (relsM_has (t := ⟨ego, zs⟩) ho)
    clear ho
    rw [HN.out]
    go_enter Try.func58, Try.ntmps58
    go_wp2_with (go_at_call 105; (with_reducible refine (l1Has_any _ _ _ _ lo hi xs ys p _ (h.same (by (with_reducible repeat' first | exact Same.refl _ _ _ | assumption | (refine Same.setCell ?_ (by first | omega | (simp; omega) | (simp; done) | (dsimp only; omega)) _) | (refine Same.alloc ?_ (by first | omega | (simp; omega) | (simp; done) | (dsimp only; omega)) _) | (refine Same.drewN ?_ _) | (refine Same.drew ?_)))) (h'.same (by (with_reducible repeat' first | exact Same.refl _ _ _ | assumption | (refine Same.setCell ?_ (by first | omega | (simp; omega) | (simp; done) | (dsimp only; omega)) _) | (refine Same.alloc ?_ (by first | omega | (simp; omega) | (simp; done) | (dsimp only; omega)) _) | (refine Same.drewN ?_ _) | (refine Same.drew ?_)))) (by first | omega | (simp; omega) | (simp; done) | (dsimp only; omega)) hs).mono ?_); rintro e w1 ⟨rfl, hb1⟩; simp only [HO.out]; (obtain ⟨hb1c, hb1f⟩ := bcell hb1); (have hb1z := hb1.size); (try simp only [szs] at hb1c hb1f hb1z); (have lt1 : w.heap.size < w1.heap.size := (by omega)); (have lu1 : w.heap.size + 1 < w1.heap.size := (by omega)))
    go_ret
    exact ⟨none, 0, rfl, Elem.OS.nil, by (with_reducible repeat' first | exact Below.refl _ _ | assumption | (refine Below.setCell ?_ (by first | omega | (simp; omega) | (simp; done) | (dsimp only; omega)) _) | (refine Below.alloc ?_ (by first | omega | (simp; omega) | (simp; done) | (dsimp only; omega)) _) | (refine below_drewN ?_ _) | (refine Below.drew ?_) | (refine Below.trans ?_ (hb1.mono (by first | omega | (simp; omega) | (simp; done) | (dsimp only; omega)))))⟩
  | true =>
    have HO := Lib.hid ho
    obtain ⟨hfam, p1, p2⟩ := hasOk_fam ho
    have hn := (famOk_parts hfam).1
    cases ht : typeOk ⟨ego, zs⟩ with
    | false =>
      have HT := Lib.hid ht
      have HN := Lib.hid (relsM_typ (xs := xs) (ys := ys) (p := p) ht)
      clear ho ht hfam
      rw [HN.out]
      go_enter Try.func58, Try.ntmps58
      go_wp2_with (first
        | (go_at_call 105; (with_reducible refine (l1Has_any _ _ _ _ lo hi xs ys p _ (h.same (by (with_reducible repeat' first | exact Same.refl _ _ _ | assumption | (refine Same.setCell ?_ (by first | omega | (simp; omega) | (simp; done) | (dsimp only; omega)) _) | (refine Same.alloc ?_ (by first | omega | (simp; omega) | (simp; done) | (dsimp only; omega)) _) | (refine Same.drewN ?_ _) | (refine Same.drew ?_)))) (h'.same (by (with_reducible repeat' first | exact Same.refl _ _ _ | assumption | (refine Same.setCell ?_ (by first | omega | (simp; omega) | (simp; done) | (dsimp only; omega)) _) | (refine Same.alloc ?_ (by first | omega | (simp; omega) | (simp; done) | (dsimp only; omega)) _) | (refine Same.drewN ?_ _) | (refine Same.drew ?_)))) (by first | omega | (simp; omega) | (simp; done) | (dsimp only; omega)) hs).mono ?_); rintro e w1 ⟨rfl, hb1⟩; simp only [HO.out]; (obtain ⟨hb1c, hb1f⟩ := bcell hb1); (have hb1z := hb1.size); (try simp only [szs] at hb1c hb1f hb1z); (have lt1 : w.heap.size < w1.heap.size := (by omega)); (have lu1 : w.heap.size + 1 < w1.heap.size := (by omega)))
        | (go_at_call 85; (with_reducible refine (specIsType_any ego _ _ _ _ zs _ (h''.same (by (with_reducible repeat' first | exact Same.refl _ _ _ | assumption | (refine Same.setCell ?_ (by first | omega | (simp; omega) | (simp; done) | (dsimp only; omega)) _) | (refine Same.alloc ?_ (by first | omega | (simp; omega) | (simp; done) | (dsimp only; omega)) _) | (refine Same.drewN ?_ _) | (refine Same.drew ?_) | (refine Same.trans ?_ (Same.of_below hb1 (by first | omega | (simp; omega) | (simp; done) | (dsimp only; omega))))))) (by first | omega | (simp; omega) | (simp; done) | (dsimp only; omega))).mono ?_); rintro e w2 ⟨rfl, hb2⟩; simp only [HT.out]; (obtain ⟨hb2c, hb2f⟩ := bcell hb2); (have hb2z := hb2.size); (try simp only [szs] at hb2c hb2f hb2z); (have lt2 : w.heap.size < w2.heap.size := (by omega)); (have lu2 : w.heap.size + 1 < w2.heap.size := (by omega))))
      go_ret
      exact ⟨none, 0, rfl, Elem.OS.nil, by (with_reducible repeat' first | exact Below.refl _ _ | assumption | (refine Below.setCell ?_ (by first | omega | (simp; omega) | (simp; done) | (dsimp only; omega)) _) | (refine Below.alloc ?_ (by first | omega | (simp; omega) | (simp; done) | (dsimp only; omega)) _) | (refine below_drewN ?_ _) | (refine Below.drew ?_) | (refine Below.trans ?_ (hb2.mono (by first | omega | (simp; omega) | (simp; done) | (dsimp only; omega)))) | (refine Below.trans ?_ (hb1.mono (by first | omega | (simp; omega) | (simp; done) | (dsimp only; omega)))))⟩
    | true =>
      obtain ⟨p, rfl⟩ := Int.eq_ofNat_of_zero_le p1
      have HT := Lib.hid ht
      have HN := Lib.hid (relsM_in ho ht)
      clear ho ht hfam
      rw [HN.out]
      go_enter Try.func58, Try.ntmps58
      go_wp2_with (first
        | (go_at_call 105; (with_reducible refine (l1Has_any _ _ _ _ lo hi xs ys p _ (h.same (by (with_reducible repeat' first | exact Same.refl _ _ _ | assumption | (refine Same.setCell ?_ (by first | omega | (simp; omega) | (simp; done) | (dsimp only; omega)) _) | (refine Same.alloc ?_ (by first | omega | (simp; omega) | (simp; done) | (dsimp only; omega)) _) | (refine Same.drewN ?_ _) | (refine Same.drew ?_)))) (h'.same (by (with_reducible repeat' first | exact Same.refl _ _ _ | assumption | (refine Same.setCell ?_ (by first | omega | (simp; omega) | (simp; done) | (dsimp only; omega)) _) | (refine Same.alloc ?_ (by first | omega | (simp; omega) | (simp; done) | (dsimp only; omega)) _) | (refine Same.drewN ?_ _) | (refine Same.drew ?_)))) (by first | omega | (simp; omega) | (simp; done) | (dsimp only; omega)) hs).mono ?_); rintro e w1 ⟨rfl, hb1⟩; simp only [HO.out]; (obtain ⟨hb1c, hb1f⟩ := bcell hb1); (have hb1z := hb1.size); (try simp only [szs] at hb1c hb1f hb1z); (have lt1 : w.heap.size < w1.heap.size := (by omega)); (have lu1 : w.heap.size + 1 < w1.heap.size := (by omega)))
        | (go_at_call 85; (with_reducible refine (specIsType_any ego _ _ _ _ zs _ (h''.same (by (with_reducible repeat' first | exact Same.refl _ _ _ | assumption | (refine Same.setCell ?_ (by first | omega | (simp; omega) | (simp; done) | (dsimp only; omega)) _) | (refine Same.alloc ?_ (by first | omega | (simp; omega) | (simp; done) | (dsimp only; omega)) _) | (refine Same.drewN ?_ _) | (refine Same.drew ?_) | (refine Same.trans ?_ (Same.of_below hb1 (by first | omega | (simp; omega) | (simp; done) | (dsimp only; omega))))))) (by first | omega | (simp; omega) | (simp; done) | (dsimp only; omega))).mono ?_); rintro e w2 ⟨rfl, hb2⟩; simp only [HT.out]; (obtain ⟨hb2c, hb2f⟩ := bcell hb2); (have hb2z := hb2.size); (try simp only [szs] at hb2c hb2f hb2z); (have lt2 : w.heap.size < w2.heap.size := (by omega)); (have lu2 : w.heap.size + 1 < w2.heap.size := (by omega)))
        | (go_at_call 146; (with_reducible refine (l3Relatives_any _ _ _ _ _ _ lo hi lo' hi' xs ys ego zs p _ (h.same (by (with_reducible repeat' first | exact Same.refl _ _ _ | assumption | (refine Same.setCell ?_ (by first | omega | (simp; omega) | (simp; done) | (dsimp only; omega)) _) | (refine Same.alloc ?_ (by first | omega | (simp; omega) | (simp; done) | (dsimp only; omega)) _) | (refine Same.drewN ?_ _) | (refine Same.drew ?_) | (refine Same.trans ?_ (Same.of_below hb2 (by first | omega | (simp; omega) | (simp; done) | (dsimp only; omega)))) | (refine Same.trans ?_ (Same.of_below hb1 (by first | omega | (simp; omega) | (simp; done) | (dsimp only; omega))))))) (h'.same (by (with_reducible repeat' first | exact Same.refl _ _ _ | assumption | (refine Same.setCell ?_ (by first | omega | (simp; omega) | (simp; done) | (dsimp only; omega)) _) | (refine Same.alloc ?_ (by first | omega | (simp; omega) | (simp; done) | (dsimp only; omega)) _) | (refine Same.drewN ?_ _) | (refine Same.drew ?_) | (refine Same.trans ?_ (Same.of_below hb2 (by first | omega | (simp; omega) | (simp; done) | (dsimp only; omega)))) | (refine Same.trans ?_ (Same.of_below hb1 (by first | omega | (simp; omega) | (simp; done) | (dsimp only; omega))))))) (h''.same (by (with_reducible repeat' first | exact Same.refl _ _ _ | assumption | (refine Same.setCell ?_ (by first | omega | (simp; omega) | (simp; done) | (dsimp only; omega)) _) | (refine Same.alloc ?_ (by first | omega | (simp; omega) | (simp; done) | (dsimp only; omega)) _) | (refine Same.drewN ?_ _) | (refine Same.drew ?_) | (refine Same.trans ?_ (Same.of_below hb2 (by first | omega | (simp; omega) | (simp; done) | (dsimp only; omega)))) | (refine Same.trans ?_ (Same.of_below hb1 (by first | omega | (simp; omega) | (simp; done) | (dsimp only; omega))))))) (by first | omega | (simp; omega) | (simp; done) | (dsimp only; omega)) (by first | omega | (simp; omega) | (simp; done) | (dsimp only; omega)) (by omega) hn HT.out).mono ?_); rintro e w3 ⟨A3, c3, rfl, ho3, hb3⟩; (obtain ⟨hb3c, hb3f⟩ := bcell hb3); (have hb3z := hb3.size); (try simp only [szs] at hb3c hb3f hb3z))
        | (go_at_call 108; (with_reducible refine (l3Listed_any _ _ _ _ _ _ _ (ho3.read.as.same (by (with_reducible repeat' first | exact Same.refl _ _ _ | assumption | (refine Same.setCell ?_ (by first | omega | (simp; omega) | (simp; done) | (dsimp only; omega)) _) | (refine Same.alloc ?_ (by first | omega | (simp; omega) | (simp; done) | (dsimp only; omega)) _) | (refine Same.drewN ?_ _) | (refine Same.drew ?_)))) (by first | omega | (simp; omega) | (simp; done) | (dsimp only; omega)) hn).mono ?_); rintro e w4 ⟨A4, c4, rfl, ho4, hb4⟩; (obtain ⟨hb4c, hb4f⟩ := bcell hb4); (have hb4z := hb4.size); (try simp only [szs] at hb4c hb4f hb4z)))
      go_ret
      exact ⟨A4, c4, rfl, (ho4.same (by (with_reducible repeat' first | exact Same.refl _ _ _ | assumption | (refine Same.setCell ?_ (by first | omega | (simp; omega) | (simp; done) | (dsimp only; omega)) _) | (refine Same.alloc ?_ (by first | omega | (simp; omega) | (simp; done) | (dsimp only; omega)) _) | (refine Same.drewN ?_ _) | (refine Same.drew ?_)))).mono (by first | omega | (simp; omega) | (simp; done) | (dsimp only; omega)) (by first | omega | (simp; omega) | (simp; done) | (dsimp only; omega)), by (with_reducible repeat' first | exact Below.refl _ _ | assumption | (refine Below.setCell ?_ (by first | omega | (simp; omega) | (simp; done) | (dsimp only; omega)) _) | (refine Below.alloc ?_ (by first | omega | (simp; omega) | (simp; done) | (dsimp only; omega)) _) | (refine below_drewN ?_ _) | (refine Below.drew ?_) | (refine Below.trans ?_ (hb4.mono (by first | omega | (simp; omega) | (simp; done) | (dsimp only; omega)))) | (refine Below.trans ?_ (hb3.mono (by first | omega | (simp; omega) | (simp; done) | (dsimp only; omega)))) | (refine Below.trans ?_ (hb2.mono (by first | omega | (simp; omega) | (simp; done) | (dsimp only; omega)))) | (refine Below.trans ?_ (hb1.mono (by first | omega | (simp; omega) | (simp; done) | (dsimp only; omega)))))⟩
end Go.Proofs.Ytnnjilkjjdiblaa
