/-
  Replacing steps where a rule fits, in the reference and in the program.
-/
import Derived.Test.YtnanlbglgflecaaFitA
import Derived.Test.YtnanlbglgflecaaSliceS
import Derived.Deep.RegionLaw
namespace Go.Proofs.Ytnanlbglgflecaa
set_option maxRecDepth 100000
open Go.RowKit

def replM (r : Rule) (t : KinType) (j : Nat) : KinType := ⟨egoM t, (t.steps.take j ++ r.dst) ++ t.steps.drop (j + r.src.length)⟩
def replAtM (r : Rule) (t : KinType) (i : Int) : KinType × Bool := if fitsAtM r t i = true then (replM r t i.toNat, true) else (zeroT, false)
theorem fitsAtM_parts {r : Rule} {t : KinType} {i : Int} (h : fitsAtM r t i = true) : ruleOk r = true ∧ typeOk t = true ∧ 0 ≤ i ∧ i + r.src.length ≤ t.steps.length := by
  simp only [fitsAtM, fitsM, Bool.and_eq_true, decide_eq_true_eq] at h
  exact ⟨h.1.1, h.1.2, h.2.1⟩
theorem replM_len {r : Rule} {t : KinType} {j : Nat} (h : j + r.src.length ≤ t.steps.length) (hd : r.dst.length ≤ r.src.length) : (replM r t j).steps.length ≤ t.steps.length := by
  simp only [replM, List.length_append, List.length_take, List.length_drop]; omega
theorem ruleOk_dst {r : Rule} (h : ruleOk r = true) : r.dst.length ≤ r.src.length := by
  simp only [ruleOk, Bool.and_eq_true] at h
  have h1 := h.1.1.1
  simp only [headOk, Bool.and_eq_true, decide_eq_true_eq] at h1
  have e := h1.2
  unfold beforeM at e
  split at e
  · omega
  · simp at e; omega
theorem replAtM_len (r : Rule) (t : KinType) (i : Int) : (replAtM r t i).1.steps.length ≤ 8 := by
  unfold replAtM; split
  · rename_i h
    obtain ⟨h1, h2, h3, h4⟩ := fitsAtM_parts h
    have := replM_len (r := r) (t := t) (j := i.toNat) (by omega) (ruleOk_dst h1)
    have := typeOk_len h2
    show (replM r t i.toNat).steps.length ≤ 8
    omega
  · simp [zeroT]

set_option maxHeartbeats 4000000 in
theorem l4Replace_any (x0 : ByteArray) (x1 x2 : Int) (A B : Option Addr) (c d lo hi : Nat) (xs ys : List Step) (s : Int) (C : Option Addr) (ec lo' hi' : Nat) (zs : List Step) (j : Nat) (w : World) (_h : EStep.AS w lo hi A xs) (h' : EStep.AS w lo hi B ys) (h2 : EStep.AS w lo' hi' C zs) (hh : hi ≤ w.heap.size) (hh' : hi' ≤ w.heap.size)
    (hec : zs.length ≤ ec ∧ ec ≤ maxLen) (hj : j + xs.length ≤ zs.length) (hz : zs.length ≤ 8) (hy : ys.length ≤ 4) (hx1 : 1 ≤ xs.length) :
    Calls Try.prog 184 #[.agg #[.string x0, .int .i64 x1, .int .i64 x2, .slice A xs.length c, .slice B ys.length d], .agg #[.int .i64 s, .slice C zs.length ec], .int .i64 j] w (RetType w (replM ⟨x0, x1, x2, xs, ys⟩ ⟨s, zs⟩ j)) := by
  obtain ⟨b, off, _, rfl, _, hbh, _, _, _, _⟩ := AStep.at_ h2 (show 0 < zs.length by omega)
  obtain ⟨hec1, hec2⟩ := hec
  unfold maxLen at hec2
  go_enter Try.func184, Try.ntmps184
  go_wp2_with fail
  generalize hW : ((w.alloc (.cells #[.string x0, .int .i64 x1, .int .i64 x2, .slice A xs.length c, .slice B ys.length d] 51)).alloc (.cells #[.int .i64 s, .slice (some ⟨b, off, none⟩) zs.length ec] 29)).alloc (.cells #[.int .i64 0, .slice none 0 0] 29) = W
  have a3 : W.cell? ⟨w.heap.size, 3, none⟩ = some (.slice A xs.length c) := by subst hW; simp [go_sem]
  have a4 : W.cell? ⟨w.heap.size, 4, none⟩ = some (.slice B ys.length d) := by subst hW; simp [go_sem]
  have b1 : W.cell? ⟨w.heap.size + 1, 1, none⟩ = some (.slice (some ⟨b, off, none⟩) zs.length ec) := by subst hW; simp [go_sem]
  have R : Blk W (w.heap.size + 1 + 1) 29 #[.int .i64 0, .slice none 0 0] := by subst hW; exact Blk.new _ (by simp)
  have hb : Below w.heap.size w W := by subst hW; (with_reducible repeat' first | exact Below.refl _ _ | assumption | (refine Below.setCell ?_ (by first | omega | (simp; omega) | (simp; done) | (dsimp only; omega)) _) | (refine Below.alloc ?_ (by first | omega | (simp; omega) | (simp; done) | (dsimp only; omega)) _) | (refine below_drewN ?_ _) | (refine Below.drew ?_))
  have z0 : w.heap.size + 1 + 1 + 1 ≤ W.heap.size := by subst hW; simp
  clear hW
  replace h' := h'.same (Same.of_below hb hh); replace h2 := h2.same (Same.of_below hb hh')
  refine (l3Ego_any s _ ec lo' hi' zs _ h2 (by first | omega | (simp; omega) | (simp; done) | (dsimp only; omega))).mono ?_
  rintro e w1 ⟨rfl, hb1⟩
  replace R := R.below hb1 (by first | omega | (simp; omega) | (simp; done) | (dsimp only; omega))
  (replace a3 := (hb1.cell (by first | omega | (simp; omega) | (simp; done) | (dsimp only; omega))).trans a3; replace a4 := (hb1.cell (by first | omega | (simp; omega) | (simp; done) | (dsimp only; omega))).trans a4; replace b1 := (hb1.cell (by first | omega | (simp; omega) | (simp; done) | (dsimp only; omega))).trans b1; replace h' := h'.same (Same.of_below hb1 (by first | omega | (simp; omega) | (simp; done) | (dsimp only; omega))); replace h2 := h2.same (Same.of_below hb1 (by first | omega | (simp; omega) | (simp; done) | (dsimp only; omega))); replace hb := hb.trans (hb1.mono (by first | omega | (simp; omega) | (simp; done) | (dsimp only; omega))); replace z0 := Nat.le_trans z0 hb1.size; have zhb1 := hb1.size; clear hb1)
  generalize hego : egoM ⟨s, zs⟩ = ego
  have HE := Lib.hid hego; clear hego
  go_wp2
  generalize hW2 : w1.alloc (.cells #[.int .i64 ego, .slice none 0 0] 29) = W2
  have O : Blk W2 w1.heap.size 29 #[.int .i64 ego, .slice none 0 0] := by subst hW2; exact Blk.new _ rfl
  have hb2 : Below w1.heap.size w1 W2 := by subst hW2; (with_reducible repeat' first | exact Below.refl _ _ | assumption | (refine Below.setCell ?_ (by first | omega | (simp; omega) | (simp; done) | (dsimp only; omega)) _) | (refine Below.alloc ?_ (by first | omega | (simp; omega) | (simp; done) | (dsimp only; omega)) _) | (refine below_drewN ?_ _) | (refine Below.drew ?_))
  have z2 : w1.heap.size + 1 ≤ W2.heap.size := by subst hW2; simp
  clear hW2
  replace R := R.below hb2 (by first | omega | (simp; omega) | (simp; done) | (dsimp only; omega))
  (replace a3 := (hb2.cell (by first | omega | (simp; omega) | (simp; done) | (dsimp only; omega))).trans a3; replace a4 := (hb2.cell (by first | omega | (simp; omega) | (simp; done) | (dsimp only; omega))).trans a4; replace b1 := (hb2.cell (by first | omega | (simp; omega) | (simp; done) | (dsimp only; omega))).trans b1; replace h' := h'.same (Same.of_below hb2 (by first | omega | (simp; omega) | (simp; done) | (dsimp only; omega))); replace h2 := h2.same (Same.of_below hb2 (by first | omega | (simp; omega) | (simp; done) | (dsimp only; omega))); replace hb := hb.trans (hb2.mono (by first | omega | (simp; omega) | (simp; done) | (dsimp only; omega))); have zhb2 := hb2.size; clear hb2)
  obtain ⟨b7, hb7⟩ : ∃ b7, b7 = w1.heap.size := ⟨_, rfl⟩
  rw [← hb7] at O z0 z2 ⊢
  clear hb7
  have e0 := O.cell (i := 0) rfl; have e1 := O.cell (i := 1) rfl; have f1 := O.free 1
  have hs1 := fun w => slice_to b off zs.length ec j zs (by omega) (by omega) w
  obtain ⟨tk, htk⟩ : ∃ tk, zs.take j = tk := ⟨_, rfl⟩
  simp only [htk] at hs1
  obtain ⟨D, hD, hs2⟩ := slice_from h2 (m := j + xs.length) hj hec1
  obtain ⟨dr, hdr⟩ : ∃ dr, zs.drop (j + xs.length) = dr := ⟨_, rfl⟩
  simp only [hdr] at hs2 hD
  have ltk : tk.length = j := by rw [← htk, List.length_take]; omega
  have ldr : dr.length = zs.length - (j + xs.length) := by rw [← hdr, List.length_drop]
  have HS2 := Lib.hid hs2; clear hs2
  have j0 : (0 : Int) ≤ (j : Int) := by omega
  have ht := h2.take j
  rw [htk] at ht
  obtain ⟨ty, hty⟩ : ∃ ty, tk ++ ys = ty := ⟨_, rfl⟩
  obtain ⟨tz, htz⟩ : ∃ tz, ty ++ dr = tz := ⟨_, rfl⟩
  have lty : ty.length = tk.length + ys.length := by rw [← hty, List.length_append]
  have HT := Lib.hid htk; have HDR := Lib.hid hdr; have LTK := Lib.hid ltk; have LDR := Lib.hid ldr; have HTY := Lib.hid hty; have HTZ := Lib.hid htz; have LTY := Lib.hid lty; clear htk hdr ltk ldr hty htz lty
  have T1 : EStep.OS W2.drew (b7 + 1) W2.heap.size (.slice none 0 0) [] := Elem.OS.nil
  have lt0 : w.heap.size + 1 + 1 < b7 := by omega
  go_region_law (refine step_appN flatStep tyStepS none [] ec T1 rfl ht.drew _ _ rfl rfl rfl rfl (by rw [LTK.out]; omega) (by decide) (show b7 + 1 ≤ W2.heap.size from z2) ?_; intro A3 c3 w3 o3 g3; rw [List.nil_append] at o3 ⊢; have O3 := O.drew.grown g3 (by simp [Value.ownBlock]); have k0 := O3.cell (i := 0) rfl; have k1 := O3.cell (i := 1) rfl; have kf := O3.free 1)
  all_goals
    have hb3 : Below W2.heap.size W2 w3 := Below.grown (w := W2.drew) (Below.refl _ _).drew g3 (Nat.le_refl _) (fun q hq => by simp [Value.ownBlock] at hq)
    have z3 := hb3.size
    replace R := R.below hb3 (by first | omega | (simp; omega) | (simp; done) | (dsimp only; omega))
    (replace a3 := (hb3.cell (by first | omega | (simp; omega) | (simp; done) | (dsimp only; omega))).trans a3; replace a4 := (hb3.cell (by first | omega | (simp; omega) | (simp; done) | (dsimp only; omega))).trans a4; replace b1 := (hb3.cell (by first | omega | (simp; omega) | (simp; done) | (dsimp only; omega))).trans b1; replace h' := h'.same (Same.of_below hb3 (by first | omega | (simp; omega) | (simp; done) | (dsimp only; omega))); replace hD := hD.same (Same.of_below hb3 (by first | omega | (simp; omega) | (simp; done) | (dsimp only; omega))); replace hb := hb.trans (hb3.mono (by first | omega | (simp; omega) | (simp; done) | (dsimp only; omega))); have zhb3 := hb3.size; clear hb3)
    clear e0 e1 f1 hs1 ht T1 O
    repeat ((fail_if_success (at_builtin)); (first | go_values | go_skip | go_guarded | go_step | go_upon))
    generalize hW4 : w3.setCell ⟨b7, 1, none⟩ (.slice A3 tk.length c3) = W4
    have O4 : Blk W4 b7 29 #[.int .i64 ego, .slice A3 tk.length c3] := by subst hW4; exact O3.set 1 _
    have o4 : EStep.OS W4 (b7 + 1) W4.heap.size (.slice A3 tk.length c3) (tk) := by subst hW4; exact (flatStep.far (i := 1) o3 O3 (by decide)).mono (Nat.le_refl _) (by simp [World.setCell])
    replace a3 : W4.cell? ⟨w.heap.size, 3, none⟩ = some (.slice A xs.length c) := by subst hW4; rw [World.cell?_of_block (Below.heap_setCell _ _ _ _ (show w.heap.size ≠ b7 by omega))]; exact a3
    replace a4 : W4.cell? ⟨w.heap.size, 4, none⟩ = some (.slice B ys.length d) := by subst hW4; rw [World.cell?_of_block (Below.heap_setCell _ _ _ _ (show w.heap.size ≠ b7 by omega))]; exact a4
    replace b1 : W4.cell? ⟨w.heap.size + 1, 1, none⟩ = some (.slice (some ⟨b, off, none⟩) zs.length ec) := by subst hW4; rw [World.cell?_of_block (Below.heap_setCell _ _ _ _ (show w.heap.size + 1 ≠ b7 by omega))]; exact b1
    replace R : Blk W4 (w.heap.size + 1 + 1) 29 #[.int .i64 0, .slice none 0 0] := by subst hW4; exact R.far (by simp; omega) _
    replace h' : EStep.AS W4 lo hi B ys := by subst hW4; exact h'.same (by (with_reducible repeat' first | exact Same.refl _ _ _ | assumption | (refine Same.setCell ?_ (by first | omega | (simp; omega) | (simp; done) | (dsimp only; omega)) _) | (refine Same.alloc ?_ (by first | omega | (simp; omega) | (simp; done) | (dsimp only; omega)) _) | (refine Same.drewN ?_ _) | (refine Same.drew ?_)))
    replace hD : EStep.AS W4 lo' hi' D (dr) := by subst hW4; exact hD.same (by (with_reducible repeat' first | exact Same.refl _ _ _ | assumption | (refine Same.setCell ?_ (by first | omega | (simp; omega) | (simp; done) | (dsimp only; omega)) _) | (refine Same.alloc ?_ (by first | omega | (simp; omega) | (simp; done) | (dsimp only; omega)) _) | (refine Same.drewN ?_ _) | (refine Same.drew ?_)))
    replace hb : Below w.heap.size w W4 := by subst hW4; (with_reducible repeat' first | exact Below.refl _ _ | assumption | (refine Below.setCell ?_ (by first | omega | (simp; omega) | (simp; done) | (dsimp only; omega)) _) | (refine Below.alloc ?_ (by first | omega | (simp; omega) | (simp; done) | (dsimp only; omega)) _) | (refine below_drewN ?_ _) | (refine Below.drew ?_) | (refine Below.trans ?_ (hb.mono (by first | omega | (simp; omega) | (simp; done) | (dsimp only; omega)))))
    have z4 : w3.heap.size ≤ W4.heap.size := by subst hW4; simp [World.setCell]
    clear hW4 k0 k1 kf O3 o3
    have e0 := O4.cell (i := 0) rfl; have e1 := O4.cell (i := 1) rfl; have f1 := O4.free 1
    have lw4 : w.heap.size < W4.heap.size := by omega
    have hl1 : tk.length + ys.length ≤ 1048576 := by rw [LTK.out]; omega
    have hnr : ∀ g, g ≤ b7 → some g ≠ (Value.slice A3 tk.length c3).ownBlock := fun g hg e => by have := (o4.blkv _ e.symm).1; omega
    have HNR := Lib.hid hnr; have HL1 := Lib.hid hl1; clear hnr hl1
    refine wpList_appN flatStep tyStepS A3 (tk) d o4 rfl (h'.same (by (with_reducible repeat' first | exact Same.refl _ _ _ | assumption | (refine Same.setCell ?_ (by first | omega | (simp; omega) | (simp; done) | (dsimp only; omega)) _) | (refine Same.alloc ?_ (by first | omega | (simp; omega) | (simp; done) | (dsimp only; omega)) _) | (refine Same.drewN ?_ _) | (refine Same.drew ?_)))) _ _ rfl rfl rfl rfl HL1.out (by decide) (by omega) ?_; intro A5 c5 w5 o5 g5; rw [HTY.out] at o5 ⊢; (have O5 := O4.grown g5 (HNR.out b7 (Nat.le_refl _))); (have k0 := O5.cell (i := 0) rfl); (have k1 := O5.cell (i := 1) rfl); (have kf := O5.free 1); (have a35 := g5.cell a3 (HNR.out w.heap.size (by omega))); (have b15 := g5.cell b1 (HNR.out (w.heap.size + 1) (by omega))); (have z5 := g5.size)
    go_wp2
    generalize hW6 : w5.setCell ⟨b7, 1, none⟩ (.slice A5 ty.length c5) = W6
    have O6 : Blk W6 b7 29 #[.int .i64 ego, .slice A5 ty.length c5] := by subst hW6; exact O5.set 1 _
    have o6 : EStep.OS W6 (b7 + 1) W6.heap.size (.slice A5 ty.length c5) ty := by subst hW6; exact (flatStep.far (i := 1) o5 O5 (by decide)).mono (Nat.le_refl _) (by simp [World.setCell])
    have a36 : W6.cell? ⟨w.heap.size, 3, none⟩ = some (.slice A xs.length c) := by subst hW6; rw [World.cell?_of_block (Below.heap_setCell _ _ _ _ (show w.heap.size ≠ b7 by omega))]; exact a35
    have b16 : W6.cell? ⟨w.heap.size + 1, 1, none⟩ = some (.slice (some ⟨b, off, none⟩) zs.length ec) := by subst hW6; rw [World.cell?_of_block (Below.heap_setCell _ _ _ _ (show w.heap.size + 1 ≠ b7 by omega))]; exact b15
    have R6 : Blk W6 (w.heap.size + 1 + 1) 29 #[.int .i64 0, .slice none 0 0] := by subst hW6; exact (R.grown g5 (HNR.out _ (by omega))).far (by simp; omega) _
    have hD5 : EStep.AS w5 lo' hi' D (dr) := hD.same (Same.of_grown g5 (by omega) (fun q hq => by have := (o4.blkv _ hq).1; omega))
    have hD6 : EStep.AS W6 lo' hi' D (dr) := by subst hW6; exact hD5.same (by (with_reducible repeat' first | exact Same.refl _ _ _ | assumption | (refine Same.setCell ?_ (by first | omega | (simp; omega) | (simp; done) | (dsimp only; omega)) _) | (refine Same.alloc ?_ (by first | omega | (simp; omega) | (simp; done) | (dsimp only; omega)) _) | (refine Same.drewN ?_ _) | (refine Same.drew ?_)))
    have hb5 : Below w.heap.size w w5 := Below.grown hb g5 (by omega) (fun q hq => by have := (o4.blkv _ hq).1; omega)
    have hb6 : Below w.heap.size w W6 := by subst hW6; (with_reducible repeat' first | exact Below.refl _ _ | assumption | (refine Below.setCell ?_ (by first | omega | (simp; omega) | (simp; done) | (dsimp only; omega)) _) | (refine Below.alloc ?_ (by first | omega | (simp; omega) | (simp; done) | (dsimp only; omega)) _) | (refine below_drewN ?_ _) | (refine Below.drew ?_) | (refine Below.trans ?_ (hb5.mono (by first | omega | (simp; omega) | (simp; done) | (dsimp only; omega)))))
    have z6 : w5.heap.size ≤ W6.heap.size := by subst hW6; simp [World.setCell]
    clear hW6 k0 k1 kf O5 o5 a35 b15 hD5 hD e0 e1 f1 O4 R
    have e0 := O6.cell (i := 0) rfl; have e1 := O6.cell (i := 1) rfl; have f1 := O6.free 1
    have lw6 : w.heap.size < W6.heap.size := by omega
    have lw7 : w.heap.size + 1 < W6.heap.size := by omega
    have hl2 : ty.length + dr.length ≤ 1048576 := by rw [LTY.out, LTK.out, LDR.out]; omega
    have hnr : ∀ g, g ≤ b7 → some g ≠ (Value.slice A5 ty.length c5).ownBlock := fun g hg e => by have := (o6.blkv _ e.symm).1; omega
    have HNR2 := Lib.hid hnr; have HL2 := Lib.hid hl2; clear hnr hl2
    have hs2 := HS2.out
    simp only [Int.natCast_add] at hs2
    have hwr : IntKind.i64.wrap ((j : Int) + (xs.length : Int)) = (j : Int) + (xs.length : Int) := by rw [IntWalk.i64_in _ (by omega)]
    have hz6 : b7 + 1 ≤ W6.drew.heap.size := show b7 + 1 ≤ W6.heap.size by omega
    go_region_law (refine step_appN flatStep tyStepS A5 ty (ec - (j + xs.length)) (o6.same ⟨Nat.le_refl _, fun _ _ _ => rfl⟩) rfl hD6.drew _ _ rfl rfl rfl rfl HL2.out (by decide) hz6 ?_; intro A7 c7 w7 o7 g7; rw [HTZ.out] at o7 ⊢; have O7 := O6.drew.grown g7 (HNR2.out b7 (Nat.le_refl _)); have k0 := O7.cell (i := 0) rfl; have k1 := O7.cell (i := 1) rfl; have kf := O7.free 1)
    all_goals
      have R7 := R6.drew.grown g7 (HNR2.out _ (by omega))
      have q0 := R7.cell (i := 0) rfl; have q1 := R7.cell (i := 1) rfl; have r0 := R7.free 0; have r1 := R7.free 1
      have hb7 : Below w.heap.size w w7 := Below.grown (w := W6.drew) hb6.drew g7 (show w.heap.size ≤ W6.heap.size by omega) (fun q hq => by have := (o6.blkv _ hq).1; omega)
      have ne7 : w.heap.size + 1 + 1 ≠ b7 := by omega
      clear hs2 hwr
      go_wp2_with fail
      have RR := ((R7.far (p := ⟨b7, 1, none⟩) ne7 (.slice A7 tz.length c7)).set 0 (.int .i64 ego)).set 1 (.slice A7 tz.length c7)
      refine bodyPost_ret (v := .agg #[.int .i64 ego, .slice A7 tz.length c7]) (by simp [results, Try.results184, go_sem, RR.cell (i := 0) rfl, RR.cell (i := 1) rfl]) rfl ?_
      have hrep : replM ⟨x0, x1, x2, xs, ys⟩ ⟨s, zs⟩ j = ⟨ego, tz⟩ := by rw [← HE.out, ← HTZ.out, ← HTY.out, ← HT.out, ← HDR.out]; rfl
      rw [hrep]
      refine ⟨A7, c7, rfl, ?_, by (with_reducible repeat' first | exact Below.refl _ _ | assumption | (refine Below.setCell ?_ (by first | omega | (simp; omega) | (simp; done) | (dsimp only; omega)) _) | (refine Below.alloc ?_ (by first | omega | (simp; omega) | (simp; done) | (dsimp only; omega)) _) | (refine below_drewN ?_ _) | (refine Below.drew ?_) | (refine Below.trans ?_ (hb7.mono (by first | omega | (simp; omega) | (simp; done) | (dsimp only; omega)))))⟩
      have t1 := flatStep.far (i := 1) (u := .slice A7 tz.length c7) o7 O7 (by decide)
      have R8 := R7.far (p := ⟨b7, 1, none⟩) ne7 (.slice A7 tz.length c7)
      have t2 := flatStep.far (i := 0) (u := .int .i64 ego) t1 R8 (by decide)
      have t3 := flatStep.far (i := 1) (u := .slice A7 tz.length c7) t2 (R8.set 0 _) (by decide)
      exact t3.mono (by omega) (by simp [World.setCell])

set_option maxHeartbeats 4000000 in
theorem replacedAt_any (x0 : ByteArray) (x1 x2 : Int) (A B : Option Addr) (c d lo hi : Nat) (xs ys : List Step) (s : Int) (C : Option Addr) (ec lo' hi' : Nat) (zs : List Step) (j : Nat) (w : World) (_h : EStep.AS w lo hi A xs) (h' : EStep.AS w lo hi B ys) (h2 : EStep.AS w lo' hi' C zs) (hh : hi ≤ w.heap.size) (hh' : hi' ≤ w.heap.size)
    (hec : zs.length ≤ ec ∧ ec ≤ maxLen) (hj : j + xs.length ≤ zs.length) (hz : zs.length ≤ 8) (hy : ys.length ≤ 4) (hx1 : 1 ≤ xs.length) :
    Calls Try.prog 186 #[.agg #[.string x0, .int .i64 x1, .int .i64 x2, .slice A xs.length c, .slice B ys.length d], .agg #[.int .i64 s, .slice C zs.length ec], .int .i64 j] w (RetType w (replM ⟨x0, x1, x2, xs, ys⟩ ⟨s, zs⟩ j)) := by
  obtain ⟨b, off, _, rfl, _, hbh, _, _, _, _⟩ := AStep.at_ h2 (show 0 < zs.length by omega)
  obtain ⟨hec1, hec2⟩ := hec
  unfold maxLen at hec2
  go_enter Try.func186, Try.ntmps186
  go_wp2_with fail
  generalize hW : ((w.alloc (.cells #[.string x0, .int .i64 x1, .int .i64 x2, .slice A xs.length c, .slice B ys.length d] 51)).alloc (.cells #[.int .i64 s, .slice (some ⟨b, off, none⟩) zs.length ec] 29)).alloc (.cells #[.int .i64 0, .slice none 0 0] 29) = W
  have a3 : W.cell? ⟨w.heap.size, 3, none⟩ = some (.slice A xs.length c) := by subst hW; simp [go_sem]
  have a4 : W.cell? ⟨w.heap.size, 4, none⟩ = some (.slice B ys.length d) := by subst hW; simp [go_sem]
  have b1 : W.cell? ⟨w.heap.size + 1, 1, none⟩ = some (.slice (some ⟨b, off, none⟩) zs.length ec) := by subst hW; simp [go_sem]
  have R : Blk W (w.heap.size + 1 + 1) 29 #[.int .i64 0, .slice none 0 0] := by subst hW; exact Blk.new _ (by simp)
  have hb : Below w.heap.size w W := by subst hW; (with_reducible repeat' first | exact Below.refl _ _ | assumption | (refine Below.setCell ?_ (by first | omega | (simp; omega) | (simp; done) | (dsimp only; omega)) _) | (refine Below.alloc ?_ (by first | omega | (simp; omega) | (simp; done) | (dsimp only; omega)) _) | (refine below_drewN ?_ _) | (refine Below.drew ?_))
  have z0 : w.heap.size + 1 + 1 + 1 ≤ W.heap.size := by subst hW; simp
  clear hW
  replace h' := h'.same (Same.of_below hb hh); replace h2 := h2.same (Same.of_below hb hh')
  refine (egoOf_any s _ ec lo' hi' zs _ h2 (by first | omega | (simp; omega) | (simp; done) | (dsimp only; omega))).mono ?_
  rintro e w1 ⟨rfl, hb1⟩
  replace R := R.below hb1 (by first | omega | (simp; omega) | (simp; done) | (dsimp only; omega))
  (replace a3 := (hb1.cell (by first | omega | (simp; omega) | (simp; done) | (dsimp only; omega))).trans a3; replace a4 := (hb1.cell (by first | omega | (simp; omega) | (simp; done) | (dsimp only; omega))).trans a4; replace b1 := (hb1.cell (by first | omega | (simp; omega) | (simp; done) | (dsimp only; omega))).trans b1; replace h' := h'.same (Same.of_below hb1 (by first | omega | (simp; omega) | (simp; done) | (dsimp only; omega))); replace h2 := h2.same (Same.of_below hb1 (by first | omega | (simp; omega) | (simp; done) | (dsimp only; omega))); replace hb := hb.trans (hb1.mono (by first | omega | (simp; omega) | (simp; done) | (dsimp only; omega))); replace z0 := Nat.le_trans z0 hb1.size; have zhb1 := hb1.size; clear hb1)
  generalize hego : egoM ⟨s, zs⟩ = ego
  have HE := Lib.hid hego; clear hego
  go_wp2
  generalize hW2 : w1.alloc (.cells #[.int .i64 ego, .slice none 0 0] 29) = W2
  have O : Blk W2 w1.heap.size 29 #[.int .i64 ego, .slice none 0 0] := by subst hW2; exact Blk.new _ rfl
  have hb2 : Below w1.heap.size w1 W2 := by subst hW2; (with_reducible repeat' first | exact Below.refl _ _ | assumption | (refine Below.setCell ?_ (by first | omega | (simp; omega) | (simp; done) | (dsimp only; omega)) _) | (refine Below.alloc ?_ (by first | omega | (simp; omega) | (simp; done) | (dsimp only; omega)) _) | (refine below_drewN ?_ _) | (refine Below.drew ?_))
  have z2 : w1.heap.size + 1 ≤ W2.heap.size := by subst hW2; simp
  clear hW2
  replace R := R.below hb2 (by first | omega | (simp; omega) | (simp; done) | (dsimp only; omega))
  (replace a3 := (hb2.cell (by first | omega | (simp; omega) | (simp; done) | (dsimp only; omega))).trans a3; replace a4 := (hb2.cell (by first | omega | (simp; omega) | (simp; done) | (dsimp only; omega))).trans a4; replace b1 := (hb2.cell (by first | omega | (simp; omega) | (simp; done) | (dsimp only; omega))).trans b1; replace h' := h'.same (Same.of_below hb2 (by first | omega | (simp; omega) | (simp; done) | (dsimp only; omega))); replace h2 := h2.same (Same.of_below hb2 (by first | omega | (simp; omega) | (simp; done) | (dsimp only; omega))); replace hb := hb.trans (hb2.mono (by first | omega | (simp; omega) | (simp; done) | (dsimp only; omega))); have zhb2 := hb2.size; clear hb2)
  obtain ⟨b7, hb7⟩ : ∃ b7, b7 = w1.heap.size := ⟨_, rfl⟩
  rw [← hb7] at O z0 z2 ⊢
  clear hb7
  have e0 := O.cell (i := 0) rfl; have e1 := O.cell (i := 1) rfl; have f1 := O.free 1
  have hs1 := fun w => slice_to b off zs.length ec j zs (by omega) (by omega) w
  obtain ⟨tk, htk⟩ : ∃ tk, zs.take j = tk := ⟨_, rfl⟩
  simp only [htk] at hs1
  obtain ⟨D, hD, hs2⟩ := slice_from h2 (m := j + xs.length) hj hec1
  obtain ⟨dr, hdr⟩ : ∃ dr, zs.drop (j + xs.length) = dr := ⟨_, rfl⟩
  simp only [hdr] at hs2 hD
  have ltk : tk.length = j := by rw [← htk, List.length_take]; omega
  have ldr : dr.length = zs.length - (j + xs.length) := by rw [← hdr, List.length_drop]
  have HS2 := Lib.hid hs2; clear hs2
  have j0 : (0 : Int) ≤ (j : Int) := by omega
  have ht := h2.take j
  rw [htk] at ht
  obtain ⟨ty, hty⟩ : ∃ ty, tk ++ ys = ty := ⟨_, rfl⟩
  obtain ⟨tz, htz⟩ : ∃ tz, ty ++ dr = tz := ⟨_, rfl⟩
  have lty : ty.length = tk.length + ys.length := by rw [← hty, List.length_append]
  have HT := Lib.hid htk; have HDR := Lib.hid hdr; have LTK := Lib.hid ltk; have LDR := Lib.hid ldr; have HTY := Lib.hid hty; have HTZ := Lib.hid htz; have LTY := Lib.hid lty; clear htk hdr ltk ldr hty htz lty
  have T1 : EStep.OS W2.drew (b7 + 1) W2.heap.size (.slice none 0 0) [] := Elem.OS.nil
  have lt0 : w.heap.size + 1 + 1 < b7 := by omega
  go_region_law (refine step_appN flatStep tyStepS none [] ec T1 rfl ht.drew _ _ rfl rfl rfl rfl (by rw [LTK.out]; omega) (by decide) (show b7 + 1 ≤ W2.heap.size from z2) ?_; intro A3 c3 w3 o3 g3; rw [List.nil_append] at o3 ⊢; have O3 := O.drew.grown g3 (by simp [Value.ownBlock]); have k0 := O3.cell (i := 0) rfl; have k1 := O3.cell (i := 1) rfl; have kf := O3.free 1)
  all_goals
    have hb3 : Below W2.heap.size W2 w3 := Below.grown (w := W2.drew) (Below.refl _ _).drew g3 (Nat.le_refl _) (fun q hq => by simp [Value.ownBlock] at hq)
    have z3 := hb3.size
    replace R := R.below hb3 (by first | omega | (simp; omega) | (simp; done) | (dsimp only; omega))
    (replace a3 := (hb3.cell (by first | omega | (simp; omega) | (simp; done) | (dsimp only; omega))).trans a3; replace a4 := (hb3.cell (by first | omega | (simp; omega) | (simp; done) | (dsimp only; omega))).trans a4; replace b1 := (hb3.cell (by first | omega | (simp; omega) | (simp; done) | (dsimp only; omega))).trans b1; replace h' := h'.same (Same.of_below hb3 (by first | omega | (simp; omega) | (simp; done) | (dsimp only; omega))); replace hD := hD.same (Same.of_below hb3 (by first | omega | (simp; omega) | (simp; done) | (dsimp only; omega))); replace hb := hb.trans (hb3.mono (by first | omega | (simp; omega) | (simp; done) | (dsimp only; omega))); have zhb3 := hb3.size; clear hb3)
    clear e0 e1 f1 hs1 ht T1 O
    repeat ((fail_if_success (at_builtin)); (first | go_values | go_skip | go_guarded | go_step | go_upon))
    generalize hW4 : w3.setCell ⟨b7, 1, none⟩ (.slice A3 tk.length c3) = W4
    have O4 : Blk W4 b7 29 #[.int .i64 ego, .slice A3 tk.length c3] := by subst hW4; exact O3.set 1 _
    have o4 : EStep.OS W4 (b7 + 1) W4.heap.size (.slice A3 tk.length c3) (tk) := by subst hW4; exact (flatStep.far (i := 1) o3 O3 (by decide)).mono (Nat.le_refl _) (by simp [World.setCell])
    replace a3 : W4.cell? ⟨w.heap.size, 3, none⟩ = some (.slice A xs.length c) := by subst hW4; rw [World.cell?_of_block (Below.heap_setCell _ _ _ _ (show w.heap.size ≠ b7 by omega))]; exact a3
    replace a4 : W4.cell? ⟨w.heap.size, 4, none⟩ = some (.slice B ys.length d) := by subst hW4; rw [World.cell?_of_block (Below.heap_setCell _ _ _ _ (show w.heap.size ≠ b7 by omega))]; exact a4
    replace b1 : W4.cell? ⟨w.heap.size + 1, 1, none⟩ = some (.slice (some ⟨b, off, none⟩) zs.length ec) := by subst hW4; rw [World.cell?_of_block (Below.heap_setCell _ _ _ _ (show w.heap.size + 1 ≠ b7 by omega))]; exact b1
    replace R : Blk W4 (w.heap.size + 1 + 1) 29 #[.int .i64 0, .slice none 0 0] := by subst hW4; exact R.far (by simp; omega) _
    replace h' : EStep.AS W4 lo hi B ys := by subst hW4; exact h'.same (by (with_reducible repeat' first | exact Same.refl _ _ _ | assumption | (refine Same.setCell ?_ (by first | omega | (simp; omega) | (simp; done) | (dsimp only; omega)) _) | (refine Same.alloc ?_ (by first | omega | (simp; omega) | (simp; done) | (dsimp only; omega)) _) | (refine Same.drewN ?_ _) | (refine Same.drew ?_)))
    replace hD : EStep.AS W4 lo' hi' D (dr) := by subst hW4; exact hD.same (by (with_reducible repeat' first | exact Same.refl _ _ _ | assumption | (refine Same.setCell ?_ (by first | omega | (simp; omega) | (simp; done) | (dsimp only; omega)) _) | (refine Same.alloc ?_ (by first | omega | (simp; omega) | (simp; done) | (dsimp only; omega)) _) | (refine Same.drewN ?_ _) | (refine Same.drew ?_)))
    replace hb : Below w.heap.size w W4 := by subst hW4; (with_reducible repeat' first | exact Below.refl _ _ | assumption | (refine Below.setCell ?_ (by first | omega | (simp; omega) | (simp; done) | (dsimp only; omega)) _) | (refine Below.alloc ?_ (by first | omega | (simp; omega) | (simp; done) | (dsimp only; omega)) _) | (refine below_drewN ?_ _) | (refine Below.drew ?_) | (refine Below.trans ?_ (hb.mono (by first | omega | (simp; omega) | (simp; done) | (dsimp only; omega)))))
    have z4 : w3.heap.size ≤ W4.heap.size := by subst hW4; simp [World.setCell]
    clear hW4 k0 k1 kf O3 o3
    have e0 := O4.cell (i := 0) rfl; have e1 := O4.cell (i := 1) rfl; have f1 := O4.free 1
    have lw4 : w.heap.size < W4.heap.size := by omega
    have hl1 : tk.length + ys.length ≤ 1048576 := by rw [LTK.out]; omega
    have hnr : ∀ g, g ≤ b7 → some g ≠ (Value.slice A3 tk.length c3).ownBlock := fun g hg e => by have := (o4.blkv _ e.symm).1; omega
    have HNR := Lib.hid hnr; have HL1 := Lib.hid hl1; clear hnr hl1
    refine wpList_appN flatStep tyStepS A3 (tk) d o4 rfl (h'.same (by (with_reducible repeat' first | exact Same.refl _ _ _ | assumption | (refine Same.setCell ?_ (by first | omega | (simp; omega) | (simp; done) | (dsimp only; omega)) _) | (refine Same.alloc ?_ (by first | omega | (simp; omega) | (simp; done) | (dsimp only; omega)) _) | (refine Same.drewN ?_ _) | (refine Same.drew ?_)))) _ _ rfl rfl rfl rfl HL1.out (by decide) (by omega) ?_; intro A5 c5 w5 o5 g5; rw [HTY.out] at o5 ⊢; (have O5 := O4.grown g5 (HNR.out b7 (Nat.le_refl _))); (have k0 := O5.cell (i := 0) rfl); (have k1 := O5.cell (i := 1) rfl); (have kf := O5.free 1); (have a35 := g5.cell a3 (HNR.out w.heap.size (by omega))); (have b15 := g5.cell b1 (HNR.out (w.heap.size + 1) (by omega))); (have z5 := g5.size)
    go_wp2
    generalize hW6 : w5.setCell ⟨b7, 1, none⟩ (.slice A5 ty.length c5) = W6
    have O6 : Blk W6 b7 29 #[.int .i64 ego, .slice A5 ty.length c5] := by subst hW6; exact O5.set 1 _
    have o6 : EStep.OS W6 (b7 + 1) W6.heap.size (.slice A5 ty.length c5) ty := by subst hW6; exact (flatStep.far (i := 1) o5 O5 (by decide)).mono (Nat.le_refl _) (by simp [World.setCell])
    have a36 : W6.cell? ⟨w.heap.size, 3, none⟩ = some (.slice A xs.length c) := by subst hW6; rw [World.cell?_of_block (Below.heap_setCell _ _ _ _ (show w.heap.size ≠ b7 by omega))]; exact a35
    have b16 : W6.cell? ⟨w.heap.size + 1, 1, none⟩ = some (.slice (some ⟨b, off, none⟩) zs.length ec) := by subst hW6; rw [World.cell?_of_block (Below.heap_setCell _ _ _ _ (show w.heap.size + 1 ≠ b7 by omega))]; exact b15
    have R6 : Blk W6 (w.heap.size + 1 + 1) 29 #[.int .i64 0, .slice none 0 0] := by subst hW6; exact (R.grown g5 (HNR.out _ (by omega))).far (by simp; omega) _
    have hD5 : EStep.AS w5 lo' hi' D (dr) := hD.same (Same.of_grown g5 (by omega) (fun q hq => by have := (o4.blkv _ hq).1; omega))
    have hD6 : EStep.AS W6 lo' hi' D (dr) := by subst hW6; exact hD5.same (by (with_reducible repeat' first | exact Same.refl _ _ _ | assumption | (refine Same.setCell ?_ (by first | omega | (simp; omega) | (simp; done) | (dsimp only; omega)) _) | (refine Same.alloc ?_ (by first | omega | (simp; omega) | (simp; done) | (dsimp only; omega)) _) | (refine Same.drewN ?_ _) | (refine Same.drew ?_)))
    have hb5 : Below w.heap.size w w5 := Below.grown hb g5 (by omega) (fun q hq => by have := (o4.blkv _ hq).1; omega)
    have hb6 : Below w.heap.size w W6 := by subst hW6; (with_reducible repeat' first | exact Below.refl _ _ | assumption | (refine Below.setCell ?_ (by first | omega | (simp; omega) | (simp; done) | (dsimp only; omega)) _) | (refine Below.alloc ?_ (by first | omega | (simp; omega) | (simp; done) | (dsimp only; omega)) _) | (refine below_drewN ?_ _) | (refine Below.drew ?_) | (refine Below.trans ?_ (hb5.mono (by first | omega | (simp; omega) | (simp; done) | (dsimp only; omega)))))
    have z6 : w5.heap.size ≤ W6.heap.size := by subst hW6; simp [World.setCell]
    clear hW6 k0 k1 kf O5 o5 a35 b15 hD5 hD e0 e1 f1 O4 R
    have e0 := O6.cell (i := 0) rfl; have e1 := O6.cell (i := 1) rfl; have f1 := O6.free 1
    have lw6 : w.heap.size < W6.heap.size := by omega
    have lw7 : w.heap.size + 1 < W6.heap.size := by omega
    have hl2 : ty.length + dr.length ≤ 1048576 := by rw [LTY.out, LTK.out, LDR.out]; omega
    have hnr : ∀ g, g ≤ b7 → some g ≠ (Value.slice A5 ty.length c5).ownBlock := fun g hg e => by have := (o6.blkv _ e.symm).1; omega
    have HNR2 := Lib.hid hnr; have HL2 := Lib.hid hl2; clear hnr hl2
    have hs2 := HS2.out
    simp only [Int.natCast_add] at hs2
    have hwr : IntKind.i64.wrap ((j : Int) + (xs.length : Int)) = (j : Int) + (xs.length : Int) := by rw [IntWalk.i64_in _ (by omega)]
    have hz6 : b7 + 1 ≤ W6.drew.heap.size := show b7 + 1 ≤ W6.heap.size by omega
    go_region_law (refine step_appN flatStep tyStepS A5 ty (ec - (j + xs.length)) (o6.same ⟨Nat.le_refl _, fun _ _ _ => rfl⟩) rfl hD6.drew _ _ rfl rfl rfl rfl HL2.out (by decide) hz6 ?_; intro A7 c7 w7 o7 g7; rw [HTZ.out] at o7 ⊢; have O7 := O6.drew.grown g7 (HNR2.out b7 (Nat.le_refl _)); have k0 := O7.cell (i := 0) rfl; have k1 := O7.cell (i := 1) rfl; have kf := O7.free 1)
    all_goals
      have R7 := R6.drew.grown g7 (HNR2.out _ (by omega))
      have q0 := R7.cell (i := 0) rfl; have q1 := R7.cell (i := 1) rfl; have r0 := R7.free 0; have r1 := R7.free 1
      have hb7 : Below w.heap.size w w7 := Below.grown (w := W6.drew) hb6.drew g7 (show w.heap.size ≤ W6.heap.size by omega) (fun q hq => by have := (o6.blkv _ hq).1; omega)
      have ne7 : w.heap.size + 1 + 1 ≠ b7 := by omega
      clear hs2 hwr
      go_wp2_with fail
      have RR := ((R7.far (p := ⟨b7, 1, none⟩) ne7 (.slice A7 tz.length c7)).set 0 (.int .i64 ego)).set 1 (.slice A7 tz.length c7)
      refine bodyPost_ret (v := .agg #[.int .i64 ego, .slice A7 tz.length c7]) (by simp [results, Try.results186, go_sem, RR.cell (i := 0) rfl, RR.cell (i := 1) rfl]) rfl ?_
      have hrep : replM ⟨x0, x1, x2, xs, ys⟩ ⟨s, zs⟩ j = ⟨ego, tz⟩ := by rw [← HE.out, ← HTZ.out, ← HTY.out, ← HT.out, ← HDR.out]; rfl
      rw [hrep]
      refine ⟨A7, c7, rfl, ?_, by (with_reducible repeat' first | exact Below.refl _ _ | assumption | (refine Below.setCell ?_ (by first | omega | (simp; omega) | (simp; done) | (dsimp only; omega)) _) | (refine Below.alloc ?_ (by first | omega | (simp; omega) | (simp; done) | (dsimp only; omega)) _) | (refine below_drewN ?_ _) | (refine Below.drew ?_) | (refine Below.trans ?_ (hb7.mono (by first | omega | (simp; omega) | (simp; done) | (dsimp only; omega)))))⟩
      have t1 := flatStep.far (i := 1) (u := .slice A7 tz.length c7) o7 O7 (by decide)
      have R8 := R7.far (p := ⟨b7, 1, none⟩) ne7 (.slice A7 tz.length c7)
      have t2 := flatStep.far (i := 0) (u := .int .i64 ego) t1 R8 (by decide)
      have t3 := flatStep.far (i := 1) (u := .slice A7 tz.length c7) t2 (R8.set 0 _) (by decide)
      exact t3.mono (by omega) (by simp [World.setCell])

end Go.Proofs.Ytnanlbglgflecaa
