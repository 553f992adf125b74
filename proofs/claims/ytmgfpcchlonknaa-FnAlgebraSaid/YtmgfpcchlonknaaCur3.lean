/-
  A relation that is drawn is valid.
-/
import Derived.Test.YtmgfpcchlonknaaCur2
import Derived.Test.YtmgfpcchlonknaaAlg
namespace Go.Proofs.Ytmgfpcchlonknaa
set_option maxRecDepth 100000
open Go.RowKit

theorem Chg.setNew {w w' : World} {lo hi : Nat} (h : Chg lo hi w w') {p : Addr} (hp : w.heap.size ≤ p.block) (u : Value) : Chg lo hi w (w'.setCell p u) :=
  ⟨h.os, h.tape, h.output, by simpa [World.setCell] using h.size, fun k hk hd => (Below.heap_setCell _ _ _ _ (by omega)).trans (h.block k hk hd)⟩
theorem Chg.then {w w' w'' : World} {lo hi B : Nat} (h : Chg lo hi w w') (k : Below B w' w'') (hB : w.heap.size ≤ B) : Chg lo hi w w'' :=
  ⟨k.os.trans h.os, k.tape.trans h.tape, k.output.trans h.output, Nat.le_trans h.size k.size, fun i hi hd => (k.block i (by omega)).trans (h.block i hi hd)⟩
theorem made_ints (w : World) (xs : List Int) (hx : xs.length ≤ BIG) : EInt.OS (w.alloc (.cells (xs.map (Value.int .i64)).toArray 3)) w.heap.size (w.alloc (.cells (xs.map (Value.int .i64)).toArray 3)).heap.size (.slice (some ⟨w.heap.size, 0, none⟩) xs.length xs.length) xs := by
  have he : xs.flatMap (fun n => [Value.int .i64 n]) = xs.map (Value.int .i64) := by clear hx; induction xs <;> simp_all
  refine flat_os.2 (Fill.own (N := xs.length) (vs := xs.flatMap fun n => [Value.int .i64 n]) ⟨_, heap_alloc_new w _, by simp, fun i _ => by rw [he]; simp⟩ (by simp) (by rw [he]; simp) (Nat.le_refl _) hx)

theorem undrewC {w w' : World} {lo hi : Nat} (h : Chg lo hi w.drew w') : Chg lo hi w w' := ⟨h.os, h.tape, h.output, h.size, h.block⟩
theorem mat_apart {w : World} {lo hi n a gg r c cc : Nat} {p : Nat → Nat → Bool} (h : EBoolS.OS w lo hi (.slice (some ⟨gg, 0, none⟩) n c) (mat n p)) (ha : a < n) (hc : w.cell? ⟨gg, a, none⟩ = some (.slice (some ⟨r, 0, none⟩) n cc)) : gg ≠ r := by
  obtain ⟨css, h1, h2, h3⟩ := h
  obtain ⟨cs, hcs, v, rfl, _⟩ := h2.at_ a _ (mat_at ha)
  have hf := flatten_at h2.read.sizes hcs (j := 0) (u := v) rfl
  rw [mat_len] at h1
  have hcell := (h1.cell hf).1
  simp only [EBoolS, Elem.slice, Nat.mul_one, Nat.add_zero] at hcell
  rw [hc] at hcell
  injection hcell with hcell
  subst hcell
  exact fun e => h3 _ (List.mem_of_getElem? hcs) r (by simp [blocks, Value.ownBlock]) (by simp [Value.ownBlock, e])
/-- A valid relation of n numbers is drawn. -/
def RetDraw (g n : Nat) (w : World) (e : Ending) (w' : World) : Prop :=
  ∃ (A : Option Addr) (c : Nat) (p : Nat → Nat → Bool), e = .returned (.agg #[.int .i64 n, .slice A n c]) ∧ EIntS.OS w' w.heap.size w'.heap.size (.slice A n c) (relM n p) ∧ Cur w' g ∧ Chg g (g + 1) w w'
def DrawRel (g n r : Nat) (A : Option Addr) (c : Nat) (w : World) (i : Value) (wr : World) : Prop :=
  ∃ (k : Nat) (p : Nat → Nat → Bool), k ≤ n ∧ i = .int .i64 k ∧ Cur wr g ∧ EBoolS.OS wr (r + 1) wr.heap.size (.slice A n c) (mat n p) ∧ Chg g (g + 1) w wr ∧ Blk wr r 27 #[.int .i64 0, .slice none 0 0]

set_option maxHeartbeats 2000000 in
theorem l2Draw_any (g n : Nat) (w : World) (h : Cur w g) (hn : n ≤ 40) : Calls Try.prog 116 #[.pointer (some ⟨g, 0, none⟩), .int .i64 n] w (RetDraw g n w) := by
  have hg := h.lt
  go_enter Try.func116, Try.ntmps116
  go_wp2_with fail
  generalize hW : w.alloc (.cells #[.int .i64 0, .slice none 0 0] 27) = W
  have R : Blk W w.heap.size 27 #[.int .i64 0, .slice none 0 0] := by subst hW; exact Blk.new _ rfl
  have hb : Below w.heap.size w W := by subst hW; (with_reducible repeat' first | exact Below.refl _ _ | assumption | (refine Below.setCell ?_ (by first | omega | (simp; omega) | (simp; done) | (dsimp only; omega)) _) | (refine Below.alloc ?_ (by first | omega | (simp; omega) | (simp; done) | (dsimp only; omega)) _) | (refine below_drewN ?_ _) | (refine Below.drew ?_))
  have z0 : w.heap.size + 1 ≤ W.heap.size := by subst hW; simp
  clear hW
  replace h := h.below hb hg
  refine (l2Blank_any n _ hn).mono ?_
  rintro e w1 ⟨A1, c1, rfl, ho1, hb1⟩
  rw [mat_blank] at ho1
  have z1 := hb1.size
  replace h := h.below hb1 (by omega)
  replace R := R.below hb1 (by omega)
  replace hb := hb.trans (hb1.mono (by omega))
  go_wp2_with fail
  generalize hW2 : w1.alloc (.cells #[.int .i64 2, .int .i64 4, .int .i64 9] 3) = W2
  have hl : EInt.AS W2 w1.heap.size W2.heap.size (some ⟨w1.heap.size, 0, none⟩) [2, 4, 9] := by subst hW2; exact (made_ints w1 [2, 4, 9] (by simp [BIG])).read.as
  have hb2 : Below w1.heap.size w1 W2 := by subst hW2; (with_reducible repeat' first | exact Below.refl _ _ | assumption | (refine Below.setCell ?_ (by first | omega | (simp; omega) | (simp; done) | (dsimp only; omega)) _) | (refine Below.alloc ?_ (by first | omega | (simp; omega) | (simp; done) | (dsimp only; omega)) _) | (refine below_drewN ?_ _) | (refine Below.drew ?_))
  have z2 : w1.heap.size + 1 ≤ W2.heap.size := by subst hW2; simp
  clear hW2
  replace h := h.below hb2 (by omega)
  replace R := R.below hb2 (by omega)
  replace hb := hb.trans (hb2.mono (by omega))
  replace ho1 := ho1.same (Same.of_below hb2 (Nat.le_refl _))
  refine (l01Int_any g _ 3 _ _ [2, 4, 9] W2 h hl (Nat.le_refl _) (.inr (by omega)) (by simp) (by simp)).mono ?_
  rintro e w2 ⟨x, hx, rfl, hc, hch, hsz⟩
  have hx' : 1 ≤ x ∧ x ≤ 256 := by simp at hx; rcases hx with rfl | rfl | rfl <;> omega
  replace R := R.chg hch (by omega)
  replace ho1 := ho1.same (Same.of_chg hch (by omega) (.inr (by omega)))
  have hC : Chg g (g + 1) w w2 := (Chg.of_below hb).trans hch
  clear hl hx hch hb2 hb1 hb h
  obtain ⟨hx1, hx2⟩ := hx'
  go_wp2
  go_loopw [16] (fun i wr => DrawRel g n w.heap.size A1 c1 w i wr) (fun i _ => n - (intOf i).toNat)
  case atStart => exact ⟨0, _, Nat.zero_le _, rfl, hc, ho1.mono (by omega) (by omega), hC, R⟩
  case round =>
    obtain ⟨a, p, ha, rfl, hc, ho, hC, R⟩ := hrel
    by_cases hla : a < n
    · go_wp2
      obtain ⟨wo, rfl⟩ : ∃ wo : World, wo = wr := ⟨_, rfl⟩
      go_loopw [21] (fun i w2 => DrawRel g n w.heap.size A1 c1 w i w2) (fun i _ => n - (intOf i).toNat)
      case atStart => exact ⟨0, p, Nat.zero_le _, rfl, hc, ho, hC, R⟩
      case round =>
        obtain ⟨b, q, hb, rfl, hc2, ho2, hC2, R2⟩ := hrel
        by_cases hlb : b < n
        · obtain ⟨gg, r, cc, cc', hv, g1, g2, r1, r2, k1, k2, k3, k4, hset⟩ := mat_own ho2 (Nat.le_refl _) hla hlb
          injection hv with hv _ hcc
          subst hv; subst hcc
          have i1 : (0 : Int) ≤ (a : Int) ∧ (a : Int) < (n : Int) := by omega
          have i2 : (0 : Int) ≤ (b : Int) ∧ (b : Int) < (n : Int) := by omega
          have hC2s := hC2.size
          have HC2 := Lib.hid hc2; have HS := Lib.hid @hset; clear hset
          go_wp2
--@mark
          refine wp_region_held_drew (S := fun w' => w'.cell? ⟨gg, a, none⟩ = some (.slice (some ⟨r, 0, none⟩) n cc')) (by kernel_rfl) k1 (fun hHeld => ?_)
          refine wpAnyH_take (i := 0) (oi := { dst := some 24, op := _, type := _, pos := _, after := _, guard := _ }) (v := ?_) rfl (by kernel_rfl) (by kernel_rfl) (by kernel_rfl) (fun _ _ _ h => h) (Or.inl ⟨by rfl, ?_⟩) (by assumption) ?_; rotate_left; (intro w hSw; (try dsimp only at hSw); go_simp); (try with_reducible rfl); (try simp only [Act.put, List.setIfInBounds_toArray, List.set_cons_zero, List.set_cons_succ])
          refine wpAnyH_take (i := 1) (oi := { dst := some 25, op := _, type := _, pos := _, after := _, guard := _ }) (v := ?_) rfl (by kernel_rfl) (by kernel_rfl) (by kernel_rfl) (fun _ _ _ h => h) (Or.inl ⟨by rfl, ?_⟩) (by assumption) ?_; rotate_left; (intro w hSw; (try dsimp only at hSw); go_simp); (try with_reducible rfl); (try simp only [Act.put, List.setIfInBounds_toArray, List.set_cons_zero, List.set_cons_succ])
          refine wpAnyH_take (i := 2) (oi := { dst := some 26, op := _, type := _, pos := _, after := _, guard := _ }) (v := ?_) rfl (by kernel_rfl) (by kernel_rfl) (by kernel_rfl) (fun _ _ _ h => h) (Or.inl ⟨by rfl, ?_⟩) (by assumption) ?_; rotate_left; (intro w hSw; (try dsimp only at hSw); go_simp); (try with_reducible rfl); (try simp only [Act.put, List.setIfInBounds_toArray, List.set_cons_zero, List.set_cons_succ])
          refine wpAnyH_take (i := 3) (oi := { dst := some 27, op := _, type := _, pos := _, after := _, guard := _ }) (v := ?_) rfl (by kernel_rfl) (by kernel_rfl) (by kernel_rfl) (fun _ _ _ h => h) (Or.inl ⟨by rfl, ?_⟩) (by assumption) ?_; rotate_left; (intro w hSw; (try dsimp only at hSw); go_simp); (try with_reducible rfl); (try simp only [Act.put, List.setIfInBounds_toArray, List.set_cons_zero, List.set_cons_succ])
          refine wpAnyH_take (i := 4) (oi := { dst := some 28, op := _, type := _, pos := _, after := _, guard := _ }) (v := ?_) rfl (by kernel_rfl) (by kernel_rfl) (by kernel_rfl) (fun _ _ _ h => h) (Or.inl ⟨by rfl, ?_⟩) (by assumption) ?_; rotate_left; (intro w hSw; (try dsimp only at hSw); go_simp); (try with_reducible rfl); (try simp only [Act.put, List.setIfInBounds_toArray, List.set_cons_zero, List.set_cons_succ])
          refine wpAnyH_take (i := 5) (oi := { dst := some 29, op := _, type := _, pos := _, after := _, guard := _ }) (v := ?_) rfl (by kernel_rfl) (by kernel_rfl) (by kernel_rfl) (fun _ _ _ h => h) (Or.inl ⟨by rfl, ?_⟩) (by assumption) ?_; rotate_left; (intro w hSw; (try dsimp only at hSw); go_simp); (try with_reducible rfl); (try simp only [Act.put, List.setIfInBounds_toArray, List.set_cons_zero, List.set_cons_succ])
          refine wpAnyH_take (i := 6) (oi := { dst := some 30, op := _, type := _, pos := _, after := _, guard := _ }) (v := ?_) rfl (by kernel_rfl) (by kernel_rfl) (by kernel_rfl) (fun _ _ _ h => h) (Or.inl ⟨by rfl, ?_⟩) (by assumption) ?_; rotate_left; (intro w hSw; (try dsimp only at hSw); go_simp); (try with_reducible rfl); (try simp only [Act.put, List.setIfInBounds_toArray, List.set_cons_zero, List.set_cons_succ])
          refine wpAnyH_ready (rs := [7]) (by kernel_rfl) (by simp) ?_
          refine AllReadyH.cons (o := { dst := some 31, op := _, type := _, pos := _, after := _, guard := _ }) rfl (fun K hK => ?_) AllReadyH.nil
          go_simp
          (go_at_call 138; (with_reducible refine (l01Once_any g x _ HC2.out.drew hx1 hx2).mono ?_); rintro e w3 ⟨y, rfl, hc3, hch3, hsz3⟩; replace hch3 := undrewC hch3; (replace hsz3 : w3.heap.size = wr.heap.size := hsz3); (have ho3 := (ho2.same (Same.of_chg hch3 (Nat.le_refl _) (.inr (by omega)))).mono (Nat.le_refl _) (Nat.le_of_eq hsz3.symm)); (obtain ⟨gg', r', cc1, cc2, hv', _, _, _, _, l1, l2, l3, _, hset'⟩ := mat_own ho3 (Nat.le_refl _) hla hlb); (injection hv' with hv' _ hcc'; injection hv' with hv'; injection hv' with hv' _ _; subst hv'; subst hcc'); (replace k1 := (hch3.cell (p := ⟨gg, a, none⟩) (by simp; omega) (by simp; omega)).trans k1); (rw [k1] at l1; injection l1 with l1; injection l1 with l1 _ _; injection l1 with l1; injection l1 with l1 _ _; subst l1); (replace R2 := R2.chg hch3 (by omega)); (have HNE := Lib.hid (mat_apart ho3 hla k1)); (have HS' := Lib.hid @hset'); clear hset'; (have HC3 := Lib.hid hc3); clear hc3; (have HO3 := Lib.hid hch3); clear hch3; (have z3 : w3.heap.size ≤ wr.heap.size ∧ wr.heap.size ≤ w3.heap.size := by omega); clear hsz3)
          try go_wp2_with fail
          refine hK.out _ _ (by first | exact k1 | (rw [World.cell?_of_block (Below.heap_setCell _ _ _ _ (HNE.out))]; exact k1)) (fun hHeld => ?_)
          clear hK K; (try simp only [Act.put, List.setIfInBounds_toArray, List.set_cons_zero, List.set_cons_succ])
          refine wpAnyH_take (i := 8) (oi := { dst := some 32, op := _, type := _, pos := _, after := _, guard := _ }) (v := ?_) rfl (by kernel_rfl) (by kernel_rfl) (by kernel_rfl) (fun _ _ _ h => h) (Or.inl ⟨by rfl, ?_⟩) (by assumption) ?_; rotate_left; (intro w hSw; (try dsimp only at hSw); go_simp); (try with_reducible rfl); (try simp only [Act.put, List.setIfInBounds_toArray, List.set_cons_zero, List.set_cons_succ])
          refine wpAnyH_ready (rs := [9]) (by kernel_rfl) (by simp) ?_
          refine AllReadyH.cons (o := { dst := none, op := _, type := _, pos := _, after := _, guard := _ }) rfl (fun K hK => ?_) AllReadyH.nil
          go_simp
          refine hK.out _ _ (by first | exact k1 | (rw [World.cell?_of_block (Below.heap_setCell _ _ _ _ (HNE.out))]; exact k1)) (fun hHeld => ?_)
          clear hK K; (try simp only [Act.put, List.setIfInBounds_toArray, List.set_cons_zero, List.set_cons_succ])
          refine wpAnyH_done (by kernel_rfl) ?_ _
          have hrr : w.heap.size ≤ r := by omega
          go_wp2_with fail
          go_roundw
          case rel => exact ⟨b + 1, upd q a b y, by omega, by go_num, HC3.out.setCell (p := ⟨r, b, none⟩) (show g < r by omega) _, by simpa [World.setCell] using HS'.out y, (hC2.trans HO3.out).setNew (p := ⟨r, b, none⟩) hrr _, R2.far (p := ⟨r, b, none⟩) (show w.heap.size ≠ r by omega) _⟩
          case measure => simp [intOf]; omega
        · obtain rfl : n = b := by omega
          go_wp2
          exact ⟨⟨a + 1, q, by omega, by go_num, hc2, ho2, hC2, R2⟩, by simp [intOf]; omega⟩
    · obtain rfl : n = a := by omega
      go_wp2_with fail
      have hos := hC.size
      have H := l2Of_any A1 c1 _ _ (mat n p) wr ho.read.as (Nat.le_refl _) (by rw [mat_len]; exact hn) (fun r hr => Nat.le_trans (mat_row r hr) hn)
      simp only [mat_len, ofM_mat] at H
      (with_reducible refine H.mono ?_)
      rintro e w3 ⟨A3, c3, rfl, o3, hb3⟩
      have hrl := R.lt
      replace R := R.below hb3 hrl
      have f0 := R.free 0; have f1 := R.free 1; have q0 := R.cell (i := 0) rfl; have q1 := R.cell (i := 1) rfl
      have HC3 := Lib.hid (hc.below hb3 hc.lt); clear hc
      go_wp2_with fail
      have RR := (R.set 0 (.int .i64 n)).set 1 (.slice A3 n c3)
      exact bodyPost_ret (v := .agg #[.int .i64 n, .slice A3 n c3]) (by simp [results, Try.results116, go_sem, RR.cell (i := 0) rfl, RR.cell (i := 1) rfl]) rfl
        ⟨A3, c3, p, rfl, (o3.same (by (with_reducible repeat' first | exact Same.refl _ _ _ | assumption | (refine Same.setCell ?_ (by first | omega | (simp; omega) | (simp; done) | (dsimp only; omega)) _) | (refine Same.alloc ?_ (by first | omega | (simp; omega) | (simp; done) | (dsimp only; omega)) _) | (refine Same.drewN ?_ _) | (refine Same.drew ?_)))).mono (by first | omega | (simp; omega) | (simp; done) | (dsimp only; omega)) (by first | omega | (simp; omega) | (simp; done) | (dsimp only; omega)), (HC3.out.setCell (p := ⟨w.heap.size, 0, none⟩) hg _).setCell (p := ⟨w.heap.size, 1, none⟩) hg _, ((hC.then hb3 hos).setNew (p := ⟨w.heap.size, 0, none⟩) (Nat.le_refl _) _).setNew (p := ⟨w.heap.size, 1, none⟩) (Nat.le_refl _) _⟩
end Go.Proofs.Ytmgfpcchlonknaa
