/-
  The grid of a step, in the reference.
-/
import Derived.Test.YtnnjilkjjdiblaaLeadS
import Derived.Test.YtnnjilkjjdiblaaGFamS
import Derived.Test.YtnnjilkjjdiblaaGAlg
import Derived.Test.YtnnjilkjjdiblaaGCur
import Derived.Test.YtnnjilkjjdiblaaGRel
import Derived.Deep.Cut
import Derived.Deep.DeepCutAuto
namespace Go.Proofs.Ytnnjilkjjdiblaa
set_option maxRecDepth 100000
open Go.RowKit

def fillB (p t : Nat → Nat → Bool) (a : Nat) : Nat → (Nat → Nat → Bool)
  | 0 => t
  | b + 1 => upd (fillB p t a b) a b (p a b)
def fillA (p : Nat → Nat → Bool) (n : Nat) : Nat → (Nat → Nat → Bool)
  | 0 => fun _ _ => false
  | a + 1 => fillB p (fillA p n a) a n
theorem fillB_at (p t : Nat → Nat → Bool) (a i j : Nat) : ∀ b, fillB p t a b i j = if i = a ∧ j < b then p i j else t i j := by
  intro b
  induction b with
  | zero => rw [if_neg (by omega)]; rfl
  | succ b ih =>
    show upd _ a b _ i j = _
    unfold upd
    by_cases h : i = a ∧ j = b
    · obtain ⟨rfl, rfl⟩ := h
      rw [if_pos ⟨rfl, rfl⟩, if_pos ⟨rfl, by omega⟩]
    · rw [if_neg h, ih]
      by_cases h2 : i = a ∧ j < b
      · rw [if_pos h2, if_pos (by omega)]
      · rw [if_neg h2, if_neg (by omega)]
theorem fillA_at (p : Nat → Nat → Bool) (n i j : Nat) (hj : j < n) : ∀ a, fillA p n a i j = (decide (i < a) && p i j) := by
  intro a
  induction a with
  | zero => simp [fillA]
  | succ a ih =>
    show fillB p _ a n i j = _
    rw [fillB_at, ih]
    by_cases h : i = a
    · subst h; rw [if_pos ⟨rfl, hj⟩]; simp
    · rw [if_neg (fun e => h e.1)]
      congr 1
      rw [decide_eq_decide]; omega
theorem fillA_end (p : Nat → Nat → Bool) (n : Nat) : mat n (fillA p n n) = mat n p := mat_congr fun a b ha hb => by rw [fillA_at _ _ _ _ hb]; simp [ha]

theorem l2OfM_at (n : Nat) (p : Nat → Nat → Bool) (A : Option Addr) (c lo hi : Nat) (w : World) (h : EBoolS.AS w lo hi A (mat n p)) (hh : hi ≤ w.heap.size) (hn : n ≤ 40) :
    Calls Try.prog 100 #[.slice A n c] w fun e w' => ∃ A' c', e = .returned (.agg #[.int .i64 n, .slice A' n c']) ∧ EIntS.OS w' w.heap.size w'.heap.size (.slice A' n c') (relM n p) ∧ Below w.heap.size w w' := by
  have H := l2Of_any A c lo hi (mat n p) w h hh (by rw [mat_len]; exact hn) (fun r hr => Nat.le_trans (mat_row r hr) hn)
  rw [mat_len, ofM_mat] at H
  exact H

set_option maxHeartbeats 4000000 in
theorem l3Grid_any (A B : Option Addr) (c d lo hi : Nat) (xs : List Person) (ys : List Union) (kd ag : Int) (w : World) (h : EPerson.AS w lo hi A xs) (h' : EUnion.AS w lo hi B ys) (hh : hi ≤ w.heap.size) (hk : 1 ≤ kd ∧ kd ≤ 8) (hn : xs.length ≤ 40) :
    Calls Try.prog 135 #[.agg #[.slice A xs.length c, .slice B ys.length d], .agg #[.int .i64 kd, .int .i64 ag]] w fun e w' => ∃ A' c', e = .returned (.slice A' xs.length c') ∧ EBoolS.OS w' w.heap.size w'.heap.size (.slice A' xs.length c') (mat xs.length (leadM xs ys ⟨kd, ag⟩)) ∧ Below w.heap.size w w' := by
  rw [← fillA_end]
  have hHX := Lib.hid h; have hHY := Lib.hid h'
  have hnn := Lib.hid hn
  go_enter Try.func135, Try.ntmps135
  go_wp2_with (go_at_call 99; refine (l2Blank_any xs.length _ hnn.out).mono ?_; rintro e w1 ⟨A1, c1, rfl, ho1, hb1⟩; rw [mat_blank] at ho1; (have hz1 := hb1.size))
  have E0 : w1.cell? ⟨w.heap.size, 0, none⟩ = some (.slice A xs.length c) := by rw [hb1.cell (p := ⟨w.heap.size, 0, none⟩) (by simp; omega)]; simp [go_sem]
  have E1 : w1.cell? ⟨w.heap.size, 1, none⟩ = some (.slice B ys.length d) := by rw [hb1.cell (p := ⟨w.heap.size, 1, none⟩) (by simp; omega)]; simp [go_sem]
  have S0 : w1.cell? ⟨w.heap.size + 1, 0, none⟩ = some (.int .i64 kd) := by rw [hb1.cell (p := ⟨w.heap.size + 1, 0, none⟩) (by simp)]; simp [go_sem]
  have S1 : w1.cell? ⟨w.heap.size + 1, 1, none⟩ = some (.int .i64 ag) := by rw [hb1.cell (p := ⟨w.heap.size + 1, 1, none⟩) (by simp)]; simp [go_sem]
  have hbw : Below w.heap.size w w1 := by (with_reducible repeat' first | exact Below.refl _ _ | assumption | (refine Below.setCell ?_ (by first | omega | (simp; omega) | (simp; done) | (dsimp only; omega)) _) | (refine Below.alloc ?_ (by first | omega | (simp; omega) | (simp; done) | (dsimp only; omega)) _) | (refine below_drewN ?_ _) | (refine Below.drew ?_) | (refine Below.trans ?_ (hb1.mono (by first | omega | (simp; omega) | (simp; done) | (dsimp only; omega)))))
  have hX1 := hHX.out.same (Same.of_below hbw hh)
  have hY1 := hHY.out.same (Same.of_below hbw hh)
  simp only [szs] at ho1 hz1
  clear hb1 h h'
  go_loopw [14] (fun i wr => TabRel (fillA (leadM xs ys ⟨kd, ag⟩) xs.length) xs.length (w.heap.size + 1 + 1) w1.heap.size A1 c1 w1 i wr) (fun i _ => xs.length - (intOf i).toNat)
  case atStart => exact ⟨0, Nat.zero_le _, rfl, ho1, Chg.refl _ _ _, Nat.le_refl _⟩
  case round =>
    obtain ⟨a, ha, rfl, ho, hch, hsz⟩ := hrel
    by_cases hla : a < xs.length
    · go_wp2
      obtain ⟨wo, rfl⟩ : ∃ wo : World, wo = wr := ⟨_, rfl⟩
      go_loopw [19] (fun i w2 => TabRel (fillB (leadM xs ys ⟨kd, ag⟩) (fillA (leadM xs ys ⟨kd, ag⟩) xs.length a) a) xs.length (w.heap.size + 1 + 1) w1.heap.size A1 c1 w1 i w2) (fun i _ => xs.length - (intOf i).toNat)
      case atStart => exact ⟨0, Nat.zero_le _, rfl, ho, hch, hsz⟩
      case round =>
        obtain ⟨b, hb, rfl, ho2, hch2, hsz2⟩ := hrel
        by_cases hlb : b < xs.length
        · obtain ⟨gg, r, cc, cc', hv, g1, g2, r1, r2, k1, k2, k3, k4, hset⟩ := mat_own ho2 hsz2 hla hlb
          injection hv with hv _ hcc
          subst hv; subst hcc
          clear hset k2 k3
          have zr := Nat.le_trans (show w.heap.size ≤ w1.heap.size by omega) hch2.size
          have zr2 : w.heap.size + 1 + 1 ≤ wr.heap.size := by omega
          have zrd : hi ≤ wr.drew.heap.size := Nat.le_trans hh zr
          have hX := hX1.same (Same.of_chg hch2 (by omega) (.inl (by omega)))
          have hY := hY1.same (Same.of_chg hch2 (by omega) (.inl (by omega)))
          have e0 := (hch2.cell (p := ⟨w.heap.size, 0, none⟩) (by simp; omega) (.inl (by simp; omega))).trans E0
          have e1 := (hch2.cell (p := ⟨w.heap.size, 1, none⟩) (by simp; omega) (.inl (by simp; omega))).trans E1
          have s0 := (hch2.cell (p := ⟨w.heap.size + 1, 0, none⟩) (by simp; omega) (.inl (by simp))).trans S0
          have s1 := (hch2.cell (p := ⟨w.heap.size + 1, 1, none⟩) (by simp; omega) (.inl (by simp))).trans S1
          have lr : r < wr.heap.size := by omega
          have lg : gg < wr.heap.size := by omega
          have i1 : (0 : Int) ≤ (a : Int) ∧ (a : Int) < (xs.length : Int) := by omega
          have i2 : (0 : Int) ≤ (b : Int) ∧ (b : Int) < (xs.length : Int) := by omega
          go_wp2_with fail
          refine wp_region_held_drew (S := fun w' => w'.cell? ⟨gg, a, none⟩ = some (.slice (some ⟨r, 0, none⟩) xs.length cc') ∧ w'.cell? ⟨w.heap.size, 0, none⟩ = some (.slice A xs.length c) ∧ w'.cell? ⟨w.heap.size, 1, none⟩ = some (.slice B ys.length d) ∧ w'.cell? ⟨w.heap.size + 1, 0, none⟩ = some (.int .i64 kd) ∧ w'.cell? ⟨w.heap.size + 1, 1, none⟩ = some (.int .i64 ag)) (by kernel_rfl) ⟨k1, e0, e1, s0, s1⟩ (fun hHeld => ?_)
          refine wpAnyH_take (i := 0) (oi := { dst := some 22, op := _, type := _, pos := _, after := _, guard := _ }) (v := ?_) rfl (by kernel_rfl) (by kernel_rfl) (by kernel_rfl) (fun _ _ _ h => h) (Or.inl ⟨by rfl, ?_⟩) (by assumption) ?_; rotate_left; (intro w hSw; (try dsimp only at hSw); go_simp); (try with_reducible rfl); (try simp only [Act.put, List.setIfInBounds_toArray, List.set_cons_zero, List.set_cons_succ])
          refine wpAnyH_take (i := 1) (oi := { dst := some 23, op := _, type := _, pos := _, after := _, guard := _ }) (v := ?_) rfl (by kernel_rfl) (by kernel_rfl) (by kernel_rfl) (fun _ _ _ h => h) (Or.inl ⟨by rfl, ?_⟩) (by assumption) ?_; rotate_left; (intro w hSw; (try dsimp only at hSw); go_simp); (try with_reducible rfl); (try simp only [Act.put, List.setIfInBounds_toArray, List.set_cons_zero, List.set_cons_succ])
          refine wpAnyH_take (i := 2) (oi := { dst := some 24, op := _, type := _, pos := _, after := _, guard := _ }) (v := ?_) rfl (by kernel_rfl) (by kernel_rfl) (by kernel_rfl) (fun _ _ _ h => h) (Or.inl ⟨by rfl, ?_⟩) (by assumption) ?_; rotate_left; (intro w hSw; (try dsimp only at hSw); go_simp); (try with_reducible rfl); (try simp only [Act.put, List.setIfInBounds_toArray, List.set_cons_zero, List.set_cons_succ])
          refine wpAnyH_take (i := 3) (oi := { dst := some 25, op := _, type := _, pos := _, after := _, guard := _ }) (v := ?_) rfl (by kernel_rfl) (by kernel_rfl) (by kernel_rfl) (fun _ _ _ h => h) (Or.inl ⟨by rfl, ?_⟩) (by assumption) ?_; rotate_left; (intro w hSw; (try dsimp only at hSw); go_simp); (try with_reducible rfl); (try simp only [Act.put, List.setIfInBounds_toArray, List.set_cons_zero, List.set_cons_succ])
          refine wpAnyH_take (i := 4) (oi := { dst := some 26, op := _, type := _, pos := _, after := _, guard := _ }) (v := ?_) rfl (by kernel_rfl) (by kernel_rfl) (by kernel_rfl) (fun _ _ _ h => h) (Or.inl ⟨by rfl, ?_⟩) (by assumption) ?_; rotate_left; (intro w hSw; (try dsimp only at hSw); go_simp); (try with_reducible rfl); (try simp only [Act.put, List.setIfInBounds_toArray, List.set_cons_zero, List.set_cons_succ])
          refine wpAnyH_take (i := 5) (oi := { dst := some 27, op := _, type := _, pos := _, after := _, guard := _ }) (v := ?_) rfl (by kernel_rfl) (by kernel_rfl) (by kernel_rfl) (fun _ _ _ h => h) (Or.inl ⟨by rfl, ?_⟩) (by assumption) ?_; rotate_left; (intro w hSw; (try dsimp only at hSw); go_simp); (try with_reducible rfl); (try simp only [Act.put, List.setIfInBounds_toArray, List.set_cons_zero, List.set_cons_succ])
          refine wpAnyH_take (i := 6) (oi := { dst := some 28, op := _, type := _, pos := _, after := _, guard := _ }) (v := ?_) rfl (by kernel_rfl) (by kernel_rfl) (by kernel_rfl) (fun _ _ _ h => h) (Or.inl ⟨by rfl, ?_⟩) (by assumption) ?_; rotate_left; (intro w hSw; (try dsimp only at hSw); go_simp); (try with_reducible rfl); (try simp only [Act.put, List.setIfInBounds_toArray, List.set_cons_zero, List.set_cons_succ])
          refine wpAnyH_take (i := 7) (oi := { dst := some 29, op := _, type := _, pos := _, after := _, guard := _ }) (v := ?_) rfl (by kernel_rfl) (by kernel_rfl) (by kernel_rfl) (fun _ _ _ h => h) (Or.inl ⟨by rfl, ?_⟩) (by assumption) ?_; rotate_left; (intro w hSw; (try dsimp only at hSw); go_simp); (try with_reducible rfl); (try simp only [Act.put, List.setIfInBounds_toArray, List.set_cons_zero, List.set_cons_succ])
          refine wpAnyH_take (i := 8) (oi := { dst := some 30, op := _, type := _, pos := _, after := _, guard := _ }) (v := ?_) rfl (by kernel_rfl) (by kernel_rfl) (by kernel_rfl) (fun _ _ _ h => h) (Or.inl ⟨by rfl, ?_⟩) (by assumption) ?_; rotate_left; (intro w hSw; (try dsimp only at hSw); go_simp); (try with_reducible rfl); (try simp only [Act.put, List.setIfInBounds_toArray, List.set_cons_zero, List.set_cons_succ])
          refine wpAnyH_ready (rs := [9]) (by kernel_rfl) (by simp) ?_
          refine AllReadyH.cons (o := { dst := some 31, op := _, type := _, pos := _, after := _, guard := _ }) rfl (fun K hK => ?_) AllReadyH.nil
          go_simp
          (go_at_call 182; (with_reducible refine (l3Leads_any _ _ _ _ lo hi xs ys kd ag a b _ hX.drew hY.drew zrd hla hlb hk).mono ?_); rintro e w3 ⟨rfl, hb3⟩; replace hb3 := undrew hb3; (have ho3 := ho2.same (Same.of_below hb3 hsz2)); (obtain ⟨gg', r', cc1, cc2, hv', _, _, _, _, l1, l2, l3, _, hset'⟩ := mat_own ho3 (Nat.le_trans hsz2 hb3.size) hla hlb); (injection hv' with hv' _ hcc'; injection hv' with hv'; injection hv' with hv' _ _; subst hv'; subst hcc'); (replace k1 := (hb3.cell (p := ⟨gg, a, none⟩) (by simp; omega)).trans k1); (rw [k1] at l1; injection l1 with l1; injection l1 with l1 _ _; injection l1 with l1; injection l1 with l1 _ _; subst l1); (have HNE := Lib.hid (mat_apart ho3 hla k1)); (have HS' := Lib.hid @hset'); clear hset'; (replace e0 := (hb3.cell (p := ⟨w.heap.size, 0, none⟩) (by simp; omega)).trans e0); (replace e1 := (hb3.cell (p := ⟨w.heap.size, 1, none⟩) (by simp; omega)).trans e1); (replace s0 := (hb3.cell (p := ⟨w.heap.size + 1, 0, none⟩) (by simp; omega)).trans s0); (replace s1 := (hb3.cell (p := ⟨w.heap.size + 1, 1, none⟩) (by simp; omega)).trans s1); (have HB3 := Lib.hid hb3); (have z3 := hb3.size); clear hb3)
          try go_wp2_with fail
          refine hK.out _ _ (by first | exact ⟨k1, e0, e1, s0, s1⟩ | exact ⟨(World.cell?_of_block (Below.heap_setCell _ _ _ _ (HNE.out))).trans k1, (World.cell?_of_block (Below.heap_setCell _ _ _ _ (by simp; omega))).trans e0, (World.cell?_of_block (Below.heap_setCell _ _ _ _ (by simp; omega))).trans e1, (World.cell?_of_block (Below.heap_setCell _ _ _ _ (by simp; omega))).trans s0, (World.cell?_of_block (Below.heap_setCell _ _ _ _ (by simp; omega))).trans s1⟩) (fun hHeld => ?_)
          clear hK K; (try simp only [Act.put, List.setIfInBounds_toArray, List.set_cons_zero, List.set_cons_succ])
          refine wpAnyH_take (i := 10) (oi := { dst := some 32, op := _, type := _, pos := _, after := _, guard := _ }) (v := ?_) rfl (by kernel_rfl) (by kernel_rfl) (by kernel_rfl) (fun _ _ _ h => h) (Or.inl ⟨by rfl, ?_⟩) (by assumption) ?_; rotate_left; (intro w hSw; (try dsimp only at hSw); go_simp); (try with_reducible rfl); (try simp only [Act.put, List.setIfInBounds_toArray, List.set_cons_zero, List.set_cons_succ])
          refine wpAnyH_ready (rs := [11]) (by kernel_rfl) (by simp) ?_
          refine AllReadyH.cons (o := { dst := none, op := _, type := _, pos := _, after := _, guard := _ }) rfl (fun K hK => ?_) AllReadyH.nil
          go_simp
          refine hK.out _ _ (by first | exact ⟨k1, e0, e1, s0, s1⟩ | exact ⟨(World.cell?_of_block (Below.heap_setCell _ _ _ _ (HNE.out))).trans k1, (World.cell?_of_block (Below.heap_setCell _ _ _ _ (by simp; omega))).trans e0, (World.cell?_of_block (Below.heap_setCell _ _ _ _ (by simp; omega))).trans e1, (World.cell?_of_block (Below.heap_setCell _ _ _ _ (by simp; omega))).trans s0, (World.cell?_of_block (Below.heap_setCell _ _ _ _ (by simp; omega))).trans s1⟩) (fun hHeld => ?_)
          clear hK K; (try simp only [Act.put, List.setIfInBounds_toArray, List.set_cons_zero, List.set_cons_succ])
          refine wpAnyH_done (by kernel_rfl) ?_ _
          go_wp2_with fail
          exact ⟨⟨b + 1, by omega, by go_num, HS'.out _, (hch2.trans (Chg.of_below HB3.out)).setCell ⟨r1, r2⟩ _, by simpa [World.setCell] using Nat.le_trans hsz2 z3⟩, by simp [intOf]; omega⟩
        · obtain rfl : b = xs.length := by omega
          go_wp2
          exact ⟨⟨a + 1, by omega, by go_num, ho2, hch2, hsz2⟩, by simp [intOf]; omega⟩
    · obtain rfl : a = xs.length := by omega
      go_wp2
      go_ret
      exact ⟨_, _, rfl, ho.mono (by omega) hsz, hbw.trans (hch.below (by omega) (by omega))⟩

set_option maxHeartbeats 4000000 in
theorem specStepRelation_any (A B : Option Addr) (c d lo hi : Nat) (xs : List Person) (ys : List Union) (kd ag : Int) (w : World) (h : EPerson.AS w lo hi A xs) (h' : EUnion.AS w lo hi B ys) (hh : hi ≤ w.heap.size) (hs : totP xs ≤ 1048576) :
    Calls Try.prog 48 #[.agg #[.slice A xs.length c, .slice B ys.length d], .agg #[.int .i64 kd, .int .i64 ag]] w (RetRel w (stepRelM xs ys ⟨kd, ag⟩)) := by
  cases ho : famOk xs ys with
  | false =>
    have HO := Lib.hid ho
    have HN := Lib.hid (show stepRelM xs ys ⟨kd, ag⟩ = zeroRel by rw [stepRelM, ho]; rfl)
    clear ho
    rw [HN.out]
    go_enter Try.func48, Try.ntmps48
    go_wp2_with (go_at_call 133; (with_reducible refine (specIsFamily_any _ _ _ _ lo hi xs ys _ (h.same (by (with_reducible repeat' first | exact Same.refl _ _ _ | assumption | (refine Same.setCell ?_ (by first | omega | (simp; omega) | (simp; done) | (dsimp only; omega)) _) | (refine Same.alloc ?_ (by first | omega | (simp; omega) | (simp; done) | (dsimp only; omega)) _) | (refine Same.drewN ?_ _) | (refine Same.drew ?_)))) (h'.same (by (with_reducible repeat' first | exact Same.refl _ _ _ | assumption | (refine Same.setCell ?_ (by first | omega | (simp; omega) | (simp; done) | (dsimp only; omega)) _) | (refine Same.alloc ?_ (by first | omega | (simp; omega) | (simp; done) | (dsimp only; omega)) _) | (refine Same.drewN ?_ _) | (refine Same.drew ?_)))) (by first | omega | (simp; omega) | (simp; done) | (dsimp only; omega)) hs).mono ?_); rintro e w1 ⟨rfl, hb1⟩; simp only [HO.out]; (obtain ⟨hb1c, hb1f⟩ := bcell hb1); (have hb1z := hb1.size); (try simp only [szs] at hb1c hb1f hb1z); have lt1 : w.heap.size < w1.heap.size := (by omega))
    exact bodyPost_ret (v := .agg #[.int .i64 0, .slice none 0 0]) (by simp [results, Try.results48, go_sem, hb1c]) rfl (RetRel.zero (by (with_reducible repeat' first | exact Below.refl _ _ | assumption | (refine Below.setCell ?_ (by first | omega | (simp; omega) | (simp; done) | (dsimp only; omega)) _) | (refine Below.alloc ?_ (by first | omega | (simp; omega) | (simp; done) | (dsimp only; omega)) _) | (refine below_drewN ?_ _) | (refine Below.drew ?_) | (refine Below.trans ?_ (hb1.mono (by first | omega | (simp; omega) | (simp; done) | (dsimp only; omega)))))))
  | true =>
    have HO := Lib.hid ho
    have hn := Lib.hid (famOk_parts ho).1
    cases ht : stepOk ⟨kd, ag⟩ 0 with
    | false =>
      have HT := Lib.hid ht
      have HN := Lib.hid (show stepRelM xs ys ⟨kd, ag⟩ = zeroRel by rw [stepRelM, ht]; simp)
      clear ho ht
      rw [HN.out]
      go_enter Try.func48, Try.ntmps48
      go_wp2_with (first
        | (go_at_call 133; (with_reducible refine (specIsFamily_any _ _ _ _ lo hi xs ys _ (h.same (by (with_reducible repeat' first | exact Same.refl _ _ _ | assumption | (refine Same.setCell ?_ (by first | omega | (simp; omega) | (simp; done) | (dsimp only; omega)) _) | (refine Same.alloc ?_ (by first | omega | (simp; omega) | (simp; done) | (dsimp only; omega)) _) | (refine Same.drewN ?_ _) | (refine Same.drew ?_)))) (h'.same (by (with_reducible repeat' first | exact Same.refl _ _ _ | assumption | (refine Same.setCell ?_ (by first | omega | (simp; omega) | (simp; done) | (dsimp only; omega)) _) | (refine Same.alloc ?_ (by first | omega | (simp; omega) | (simp; done) | (dsimp only; omega)) _) | (refine Same.drewN ?_ _) | (refine Same.drew ?_)))) (by first | omega | (simp; omega) | (simp; done) | (dsimp only; omega)) hs).mono ?_); rintro e w1 ⟨rfl, hb1⟩; simp only [HO.out]; (obtain ⟨hb1c, hb1f⟩ := bcell hb1); (have hb1z := hb1.size); (try simp only [szs] at hb1c hb1f hb1z); (have lt1 : w.heap.size + 1 + 1 < w1.heap.size := (by omega)); (have lu1 : w.heap.size + 1 < w1.heap.size := (by omega)); (have lv1 : w.heap.size < w1.heap.size := (by omega)); (have r1 : Blk w1 (w.heap.size + 1 + 1) 38 #[.int .i64 0, .slice none 0 0] := (Blk.new _ (by simp)).below hb1 (by simp)))
        | (go_at_call 134; (with_reducible refine (l3Step_any _ _ _ _).mono ?_); rintro e w2 ⟨rfl, hb2⟩; simp only [HT.out]; (obtain ⟨hb2c, hb2f⟩ := bcell hb2); (have hb2z := hb2.size); (try simp only [szs] at hb2c hb2f hb2z); (have lt2 : w.heap.size + 1 + 1 < w2.heap.size := (by omega)); (have lu2 : w.heap.size + 1 < w2.heap.size := (by omega)); (have lv2 : w.heap.size < w2.heap.size := (by omega)); (have r2 := r1.below hb2 (by omega)); (have g0 := r2.cell (i := 0) rfl); (have g1 := r2.cell (i := 1) rfl); (have f0 := r2.free 0); (have f1 := r2.free 1)))
      have R := (r2.set 0 (.int .i64 0)).set 1 (.slice none 0 0)
      exact bodyPost_ret (v := .agg #[.int .i64 0, .slice none 0 0]) (by simp [results, Try.results48, go_sem, R.cell (i := 0) rfl, R.cell (i := 1) rfl]) rfl (RetRel.zero (by (with_reducible repeat' first | exact Below.refl _ _ | assumption | (refine Below.setCell ?_ (by first | omega | (simp; omega) | (simp; done) | (dsimp only; omega)) _) | (refine Below.alloc ?_ (by first | omega | (simp; omega) | (simp; done) | (dsimp only; omega)) _) | (refine below_drewN ?_ _) | (refine Below.drew ?_) | (refine Below.trans ?_ (hb2.mono (by first | omega | (simp; omega) | (simp; done) | (dsimp only; omega)))) | (refine Below.trans ?_ (hb1.mono (by first | omega | (simp; omega) | (simp; done) | (dsimp only; omega)))))))
    | true =>
      have HT := Lib.hid ht
      have HN := Lib.hid (show stepRelM xs ys ⟨kd, ag⟩ = ⟨xs.length, relM xs.length (leadM xs ys ⟨kd, ag⟩)⟩ by rw [stepRelM, if_pos ⟨ho, ht⟩])
      have hk := Lib.hid (stepOk_kind ht)
      clear ho ht
      rw [HN.out]
      go_enter Try.func48, Try.ntmps48
      go_wp2_with (first
        | (go_at_call 133; (with_reducible refine (specIsFamily_any _ _ _ _ lo hi xs ys _ (h.same (by (with_reducible repeat' first | exact Same.refl _ _ _ | assumption | (refine Same.setCell ?_ (by first | omega | (simp; omega) | (simp; done) | (dsimp only; omega)) _) | (refine Same.alloc ?_ (by first | omega | (simp; omega) | (simp; done) | (dsimp only; omega)) _) | (refine Same.drewN ?_ _) | (refine Same.drew ?_)))) (h'.same (by (with_reducible repeat' first | exact Same.refl _ _ _ | assumption | (refine Same.setCell ?_ (by first | omega | (simp; omega) | (simp; done) | (dsimp only; omega)) _) | (refine Same.alloc ?_ (by first | omega | (simp; omega) | (simp; done) | (dsimp only; omega)) _) | (refine Same.drewN ?_ _) | (refine Same.drew ?_)))) (by first | omega | (simp; omega) | (simp; done) | (dsimp only; omega)) hs).mono ?_); rintro e w1 ⟨rfl, hb1⟩; simp only [HO.out]; (obtain ⟨hb1c, hb1f⟩ := bcell hb1); (have hb1z := hb1.size); (try simp only [szs] at hb1c hb1f hb1z); (have lt1 : w.heap.size + 1 + 1 < w1.heap.size := (by omega)); (have lu1 : w.heap.size + 1 < w1.heap.size := (by omega)); (have lv1 : w.heap.size < w1.heap.size := (by omega)); (have r1 : Blk w1 (w.heap.size + 1 + 1) 38 #[.int .i64 0, .slice none 0 0] := (Blk.new _ (by simp)).below hb1 (by simp)))
        | (go_at_call 134; (with_reducible refine (l3Step_any _ _ _ _).mono ?_); rintro e w2 ⟨rfl, hb2⟩; simp only [HT.out]; (obtain ⟨hb2c, hb2f⟩ := bcell hb2); (have hb2z := hb2.size); (try simp only [szs] at hb2c hb2f hb2z); (have lt2 : w.heap.size + 1 + 1 < w2.heap.size := (by omega)); (have lu2 : w.heap.size + 1 < w2.heap.size := (by omega)); (have lv2 : w.heap.size < w2.heap.size := (by omega)); (have r2 := r1.below hb2 (by omega)); (have g0 := r2.cell (i := 0) rfl); (have g1 := r2.cell (i := 1) rfl); (have f0 := r2.free 0); (have f1 := r2.free 1))
        | (go_at_call 135; (with_reducible refine (l3Grid_any _ _ _ _ lo hi xs ys kd ag _ (h.same (by (with_reducible repeat' first | exact Same.refl _ _ _ | assumption | (refine Same.setCell ?_ (by first | omega | (simp; omega) | (simp; done) | (dsimp only; omega)) _) | (refine Same.alloc ?_ (by first | omega | (simp; omega) | (simp; done) | (dsimp only; omega)) _) | (refine Same.drewN ?_ _) | (refine Same.drew ?_) | (refine Same.trans ?_ (Same.of_below hb2 (by first | omega | (simp; omega) | (simp; done) | (dsimp only; omega)))) | (refine Same.trans ?_ (Same.of_below hb1 (by first | omega | (simp; omega) | (simp; done) | (dsimp only; omega))))))) (h'.same (by (with_reducible repeat' first | exact Same.refl _ _ _ | assumption | (refine Same.setCell ?_ (by first | omega | (simp; omega) | (simp; done) | (dsimp only; omega)) _) | (refine Same.alloc ?_ (by first | omega | (simp; omega) | (simp; done) | (dsimp only; omega)) _) | (refine Same.drewN ?_ _) | (refine Same.drew ?_) | (refine Same.trans ?_ (Same.of_below hb2 (by first | omega | (simp; omega) | (simp; done) | (dsimp only; omega)))) | (refine Same.trans ?_ (Same.of_below hb1 (by first | omega | (simp; omega) | (simp; done) | (dsimp only; omega))))))) (by first | omega | (simp; omega) | (simp; done) | (dsimp only; omega)) hk.out hn.out).mono ?_); rintro e w3 ⟨A3, c3, rfl, ho3, hb3⟩; (obtain ⟨hb3c, hb3f⟩ := bcell hb3); (have hb3z := hb3.size); (try simp only [szs] at hb3c hb3f hb3z); (have lt3 : w.heap.size + 1 + 1 < w3.heap.size := (by omega)); (have lu3 : w.heap.size + 1 < w3.heap.size := (by omega)); (have lv3 : w.heap.size < w3.heap.size := (by omega)); (have r3 := r2.below hb3 (by omega)))
        | (go_at_call 100; (with_reducible refine (l2OfM_at xs.length _ A3 c3 _ _ _ (ho3.read.as.same (by (with_reducible repeat' first | exact Same.refl _ _ _ | assumption | (refine Same.setCell ?_ (by first | omega | (simp; omega) | (simp; done) | (dsimp only; omega)) _) | (refine Same.alloc ?_ (by first | omega | (simp; omega) | (simp; done) | (dsimp only; omega)) _) | (refine Same.drewN ?_ _) | (refine Same.drew ?_)))) (by first | omega | (simp; omega) | (simp; done) | (dsimp only; omega)) hn.out).mono ?_); rintro e w6 ⟨A6, c6, rfl, ho6, hb6⟩; (obtain ⟨hb6c, hb6f⟩ := bcell hb6); (have hb6z := hb6.size); (try simp only [szs] at hb6c hb6f hb6z); (have lt6 : w.heap.size + 1 + 1 < w6.heap.size := (by omega)); (have lu6 : w.heap.size + 1 < w6.heap.size := (by omega)); (have lv6 : w.heap.size < w6.heap.size := (by omega)); (have r6 := r3.below hb6 (by omega)); (have g0 := r6.cell (i := 0) rfl); (have g1 := r6.cell (i := 1) rfl); (have f0 := r6.free 0); (have f1 := r6.free 1)))
      have R := (r6.set 0 (.int .i64 xs.length)).set 1 (.slice A6 xs.length c6)
      refine bodyPost_ret (v := .agg #[.int .i64 xs.length, .slice A6 xs.length c6]) (by simp [results, Try.results48, go_sem, R.cell (i := 0) rfl, R.cell (i := 1) rfl]) rfl ?_
      exact ⟨A6, c6, by simp only [relM_len], by simpa only [relM_len] using (ho6.same (by (with_reducible repeat' first | exact Same.refl _ _ _ | assumption | (refine Same.setCell ?_ (by first | omega | (simp; omega) | (simp; done) | (dsimp only; omega)) _) | (refine Same.alloc ?_ (by first | omega | (simp; omega) | (simp; done) | (dsimp only; omega)) _) | (refine Same.drewN ?_ _) | (refine Same.drew ?_)))).mono (by first | omega | (simp; omega) | (simp; done) | (dsimp only; omega)) (by first | omega | (simp; omega) | (simp; done) | (dsimp only; omega)), by (with_reducible repeat' first | exact Below.refl _ _ | assumption | (refine Below.setCell ?_ (by first | omega | (simp; omega) | (simp; done) | (dsimp only; omega)) _) | (refine Below.alloc ?_ (by first | omega | (simp; omega) | (simp; done) | (dsimp only; omega)) _) | (refine below_drewN ?_ _) | (refine Below.drew ?_) | (refine Below.trans ?_ (hb6.mono (by first | omega | (simp; omega) | (simp; done) | (dsimp only; omega)))) | (refine Below.trans ?_ (hb3.mono (by first | omega | (simp; omega) | (simp; done) | (dsimp only; omega)))) | (refine Below.trans ?_ (hb2.mono (by first | omega | (simp; omega) | (simp; done) | (dsimp only; omega)))) | (refine Below.trans ?_ (hb1.mono (by first | omega | (simp; omega) | (simp; done) | (dsimp only; omega)))))⟩
end Go.Proofs.Ytnnjilkjjdiblaa
