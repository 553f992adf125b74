/-
  Partners, parents, the end of a union, in the program.
-/
import Derived.Test.YtkdgjbbjbghdnaaKin
import Derived.Test.YtkdgjbbjbghdnaaHasI
import Derived.Deep.Cut
import Derived.Deep.DeepCutAuto
namespace Go.Proofs.Ytkdgjbbjbghdnaa
set_option maxRecDepth 100000
open Go.RowKit

set_option maxHeartbeats 1000000 in
theorem other_any (m f s t p : Int) (w : World) :
    Calls Try.prog 76 #[.agg #[.int .i64 m, .int .i64 f, .int .i64 s, .int .i64 t], .int .i64 p] w fun e w' => e = .returned (.int .i64 (otherI ⟨m, f, s, t⟩ p)) ∧ Below w.heap.size w w' := by
  by_cases hm : p = m
  · have HN := Lib.hid (show otherI ⟨m, f, s, t⟩ p = f from if_pos hm.symm)
    have n1 : (p == m) = true := by simp [hm]
    rw [HN.out]
    clear hm
    go_enter Try.func76, Try.ntmps76
    go_wp2
    go_ret
    exact ⟨rfl, by (with_reducible repeat' first | exact Below.refl _ _ | assumption | (refine Below.setCell ?_ (by first | omega | (simp; omega) | (simp; done) | (dsimp only; omega)) _) | (refine Below.alloc ?_ (by first | omega | (simp; omega) | (simp; done) | (dsimp only; omega)) _) | (refine below_drewN ?_ _) | (refine Below.drew ?_))⟩
  · have n1 : (p == m) = false := by simp [hm]
    by_cases hf : p = f
    · have HN := Lib.hid (show otherI ⟨m, f, s, t⟩ p = m by rw [otherI, if_neg (fun e => hm e.symm), if_pos hf.symm])
      have n2 : (p == f) = true := by simp [hf]
      rw [HN.out]
      clear hm hf
      go_enter Try.func76, Try.ntmps76
      go_wp2
      go_ret
      exact ⟨rfl, by (with_reducible repeat' first | exact Below.refl _ _ | assumption | (refine Below.setCell ?_ (by first | omega | (simp; omega) | (simp; done) | (dsimp only; omega)) _) | (refine Below.alloc ?_ (by first | omega | (simp; omega) | (simp; done) | (dsimp only; omega)) _) | (refine below_drewN ?_ _) | (refine Below.drew ?_))⟩
    · have HN := Lib.hid (show otherI ⟨m, f, s, t⟩ p = -1 by rw [otherI, if_neg (fun e => hm e.symm), if_neg (fun e => hf e.symm)])
      have n2 : (p == f) = false := by simp [hf]
      rw [HN.out]
      clear hm hf
      go_enter Try.func76, Try.ntmps76
      go_wp2
      go_ret
      exact ⟨rfl, by (with_reducible repeat' first | exact Below.refl _ _ | assumption | (refine Below.setCell ?_ (by first | omega | (simp; omega) | (simp; done) | (dsimp only; omega)) _) | (refine Below.alloc ?_ (by first | omega | (simp; omega) | (simp; done) | (dsimp only; omega)) _) | (refine below_drewN ?_ _) | (refine Below.drew ?_))⟩

set_option maxHeartbeats 4000000 in
theorem parentsOf_any (A B : Option Addr) (c d lo hi : Nat) (xs : List Person) (ys : List Union) (p : Nat) (w : World) (h : EPerson.AS w lo hi A xs) (_h' : EUnion.AS w lo hi B ys) (hh : hi ≤ w.heap.size) (hp : p < xs.length) :
    Calls Try.prog 72 #[.agg #[.slice A xs.length c, .slice B ys.length d], .int .i64 p] w (RetIntS w (parentsAt xs p)) := by
  have hx := h.le
  unfold BIG at hx
  obtain ⟨b, off, ⟨x0, x1, x2, x3, x4, x5⟩, rfl, g1, g2, _, hxk, _, _, hc2, hc3, _, _⟩ := APerson.at_ h hp
  rw [parentsAt_of hxk]
  clear hxk
  simp only at hc2 hc3
  have lb : b < w.heap.size := by omega
  have i1 : (0 : Int) ≤ (p : Int) ∧ (p : Int) < (xs.length : Int) := by omega
  generalize hR : parentsL ⟨x0, x1, x2, x3, x4, x5⟩ = R
  have HR := Lib.hid hR; clear hR
  go_enter Try.func72, Try.ntmps72
  go_upto_region 1 with fail
  generalize hW : w.alloc (.cells #[.slice (some ⟨b, off, none⟩) xs.length c, .slice B ys.length d] 31) = W
  have e0 : W.cell? ⟨w.heap.size, 0, none⟩ = some (.slice (some ⟨b, off, none⟩) xs.length c) := by subst hW; simp [go_sem]
  have hbW : Below w.heap.size w W := by subst hW; (with_reducible repeat' first | exact Below.refl _ _ | assumption | (refine Below.setCell ?_ (by first | omega | (simp; omega) | (simp; done) | (dsimp only; omega)) _) | (refine Below.alloc ?_ (by first | omega | (simp; omega) | (simp; done) | (dsimp only; omega)) _) | (refine below_drewN ?_ _) | (refine Below.drew ?_))
  have zW2 : w.heap.size < W.heap.size := by subst hW; simp
  replace hc2 := (hbW.cell (p := ⟨b, off + p * 6 + 2, none⟩) lb).trans hc2
  replace hc3 := (hbW.cell (p := ⟨b, off + p * 6 + 3, none⟩) lb).trans hc3
  have lbW : b < W.heap.size := by omega
  clear hW
  have ho : EInt.OS W W.heap.size W.heap.size (.slice none 0 0) [] := Elem.OS.nil
  by_cases f0 : 0 ≤ x2 <;> by_cases m0 : 0 ≤ x3
  · have HN := Lib.hid (HR.out.symm.trans (show _ = [x2, x3] by simp [parentsL, f0, m0]))
    go_wp2_with (first
      | (at_builtin; refine wpList_app1 tyIntS _ ([] : List Int) _ [.int .i64 _] ⟨W.heap.size, 0, none⟩ 1 (lo := W.heap.size) (hi := W.heap.size) (ho.same (by (with_reducible repeat' first | exact Same.refl _ _ _ | assumption | (refine Same.setCell ?_ (by first | omega | (simp; omega) | (simp; done) | (dsimp only; omega)) _) | (refine Same.alloc ?_ (by first | omega | (simp; omega) | (simp; done) | (dsimp only; omega)) _) | (refine Same.drewN ?_ _) | (refine Same.drew ?_)))) rfl (by (first | omega | (simp; omega) | (simp; done) | (dsimp only; omega))) (by simp) rfl _ _ rfl rfl rfl rfl (cell_one_at _ _ _ _ (by simp)) (by first | rfl | (simp; done) | (simp; rfl)) (by simp) (by decide) (fun A' c' w5 ho5 hg5 hc5 hm5 => ?_); have hb5 : Below W.heap.size W w5 := Below.grown (w := (W).alloc _) (by (with_reducible repeat' first | exact Below.refl _ _ | assumption | (refine Below.setCell ?_ (by first | omega | (simp; omega) | (simp; done) | (dsimp only; omega)) _) | (refine Below.alloc ?_ (by first | omega | (simp; omega) | (simp; done) | (dsimp only; omega)) _) | (refine below_drewN ?_ _) | (refine Below.drew ?_))) hg5 (by first | (simp; done) | (simp; omega)) (fun k hk => (ho.blkv k hk).1); replace e0 := (hb5.cell (p := ⟨w.heap.size, 0, none⟩) zW2).trans e0; replace hc3 := (hb5.cell (p := ⟨b, off + p * 6 + 3, none⟩) lbW).trans hc3; have z5 := hb5.size; have lb5 : b < w5.heap.size := (by omega); have l5 : w.heap.size < w5.heap.size := (by omega))
      | (at_builtin; refine wpList_app1 tyIntS _ [x2] _ [.int .i64 _] ⟨w5.heap.size, 0, none⟩ 1 (lo := W.heap.size) (hi := w5.heap.size) (ho5.same (by (with_reducible repeat' first | exact Same.refl _ _ _ | assumption | (refine Same.setCell ?_ (by first | omega | (simp; omega) | (simp; done) | (dsimp only; omega)) _) | (refine Same.alloc ?_ (by first | omega | (simp; omega) | (simp; done) | (dsimp only; omega)) _) | (refine Same.drewN ?_ _) | (refine Same.drew ?_)))) rfl (by (first | omega | (simp; omega) | (simp; done) | (dsimp only; omega))) z5 rfl _ _ rfl rfl rfl rfl (cell_one_at _ _ _ _ (by simp)) (by first | rfl | (simp; done) | (simp; rfl)) (by simp) (by decide) (fun A' c' w6 ho6 hg6 hc6 hm6 => ?_); have hb6 : Below W.heap.size W w6 := Below.grown (w := w5.alloc _) (by (with_reducible repeat' first | exact Below.refl _ _ | assumption | (refine Below.setCell ?_ (by first | omega | (simp; omega) | (simp; done) | (dsimp only; omega)) _) | (refine Below.alloc ?_ (by first | omega | (simp; omega) | (simp; done) | (dsimp only; omega)) _) | (refine below_drewN ?_ _) | (refine Below.drew ?_) | (refine Below.trans ?_ (hb5.mono (by first | omega | (simp; omega) | (simp; done) | (dsimp only; omega)))))) hg6 (by simp; omega) (fun k hk => (ho5.blkv k hk).1)))
    all_goals
      go_ret
      rw [HN.out]
      exact ⟨_, _, rfl, ho6.mono (by omega) (Nat.le_refl _), hbW.trans (hb6.mono (by omega))⟩
  · have HN := Lib.hid (HR.out.symm.trans (show _ = [x2] by simp [parentsL, f0, m0]))
    go_wp2_with (at_builtin; refine wpList_app1 tyIntS _ ([] : List Int) _ [.int .i64 _] ⟨W.heap.size, 0, none⟩ 1 (lo := W.heap.size) (hi := W.heap.size) (ho.same (by (with_reducible repeat' first | exact Same.refl _ _ _ | assumption | (refine Same.setCell ?_ (by first | omega | (simp; omega) | (simp; done) | (dsimp only; omega)) _) | (refine Same.alloc ?_ (by first | omega | (simp; omega) | (simp; done) | (dsimp only; omega)) _) | (refine Same.drewN ?_ _) | (refine Same.drew ?_)))) rfl (by (first | omega | (simp; omega) | (simp; done) | (dsimp only; omega))) (by simp) rfl _ _ rfl rfl rfl rfl (cell_one_at _ _ _ _ (by simp)) (by first | rfl | (simp; done) | (simp; rfl)) (by simp) (by decide) (fun A' c' w5 ho5 hg5 hc5 hm5 => ?_); have hb5 : Below W.heap.size W w5 := Below.grown (w := (W).alloc _) (by (with_reducible repeat' first | exact Below.refl _ _ | assumption | (refine Below.setCell ?_ (by first | omega | (simp; omega) | (simp; done) | (dsimp only; omega)) _) | (refine Below.alloc ?_ (by first | omega | (simp; omega) | (simp; done) | (dsimp only; omega)) _) | (refine below_drewN ?_ _) | (refine Below.drew ?_))) hg5 (by first | (simp; done) | (simp; omega)) (fun k hk => (ho.blkv k hk).1); replace e0 := (hb5.cell (p := ⟨w.heap.size, 0, none⟩) zW2).trans e0; replace hc3 := (hb5.cell (p := ⟨b, off + p * 6 + 3, none⟩) lbW).trans hc3; have z5 := hb5.size; have lb5 : b < w5.heap.size := (by omega); have l5 : w.heap.size < w5.heap.size := (by omega))
    all_goals
      go_ret
      rw [HN.out]
      exact ⟨_, _, rfl, ho5.mono (by omega) (Nat.le_refl _), hbW.trans (hb5.mono (by omega))⟩
  · have HN := Lib.hid (HR.out.symm.trans (show _ = [x3] by simp [parentsL, f0, m0]))
    go_wp2_with (at_builtin; refine wpList_app1 tyIntS _ ([] : List Int) _ [.int .i64 _] ⟨W.heap.size, 0, none⟩ 1 (lo := W.heap.size) (hi := W.heap.size) (ho.same (by (with_reducible repeat' first | exact Same.refl _ _ _ | assumption | (refine Same.setCell ?_ (by first | omega | (simp; omega) | (simp; done) | (dsimp only; omega)) _) | (refine Same.alloc ?_ (by first | omega | (simp; omega) | (simp; done) | (dsimp only; omega)) _) | (refine Same.drewN ?_ _) | (refine Same.drew ?_)))) rfl (by (first | omega | (simp; omega) | (simp; done) | (dsimp only; omega))) (by simp) rfl _ _ rfl rfl rfl rfl (cell_one_at _ _ _ _ (by simp)) (by first | rfl | (simp; done) | (simp; rfl)) (by simp) (by decide) (fun A' c' w5 ho5 hg5 hc5 hm5 => ?_); have hb5 : Below W.heap.size W w5 := Below.grown (w := (W).alloc _) (by (with_reducible repeat' first | exact Below.refl _ _ | assumption | (refine Below.setCell ?_ (by first | omega | (simp; omega) | (simp; done) | (dsimp only; omega)) _) | (refine Below.alloc ?_ (by first | omega | (simp; omega) | (simp; done) | (dsimp only; omega)) _) | (refine below_drewN ?_ _) | (refine Below.drew ?_))) hg5 (by first | (simp; done) | (simp; omega)) (fun k hk => (ho.blkv k hk).1); replace e0 := (hb5.cell (p := ⟨w.heap.size, 0, none⟩) zW2).trans e0; replace hc3 := (hb5.cell (p := ⟨b, off + p * 6 + 3, none⟩) lbW).trans hc3; have z5 := hb5.size; have lb5 : b < w5.heap.size := (by omega); have l5 : w.heap.size < w5.heap.size := (by omega))
    all_goals
      go_ret
      rw [HN.out]
      exact ⟨_, _, rfl, ho5.mono (by omega) (Nat.le_refl _), hbW.trans (hb5.mono (by omega))⟩
  · have HN := Lib.hid (HR.out.symm.trans (show _ = [] by simp [parentsL, f0, m0]))
    go_wp2
    go_ret
    rw [HN.out]
    exact ⟨_, _, rfl, ho.mono (by omega) (by simp), by (with_reducible repeat' first | exact Below.refl _ _ | assumption | (refine Below.setCell ?_ (by first | omega | (simp; omega) | (simp; done) | (dsimp only; omega)) _) | (refine Below.alloc ?_ (by first | omega | (simp; omega) | (simp; done) | (dsimp only; omega)) _) | (refine below_drewN ?_ _) | (refine Below.drew ?_) | (refine Below.trans ?_ (hbW.mono (by first | omega | (simp; omega) | (simp; done) | (dsimp only; omega)))))⟩

set_option maxHeartbeats 2000000 in
theorem implParentsOf_any (A B : Option Addr) (c d lo hi : Nat) (xs : List Person) (ys : List Union) (p : Int) (w : World) (h : EPerson.AS w lo hi A xs) (h' : EUnion.AS w lo hi B ys) (hh : hi ≤ w.heap.size) (hdc : ys.length ≤ d ∧ d ≤ maxLen) (hs : totP xs ≤ 1048576) :
    Calls Try.prog 32 #[.agg #[.slice A xs.length c, .slice B ys.length d], .int .i64 p] w (RetIntS w (parentsM xs ys p)) := by
  cases ho : hasOk xs ys p with
  | false =>
    have HO := Lib.hid ho
    have HN := Lib.hid (show parentsM xs ys p = [] by rw [parentsM, ho]; rfl)
    clear ho
    rw [HN.out]
    go_enter Try.func32, Try.ntmps32
    go_wp2_with (go_at_call 63; refine (has_any _ _ _ _ lo hi xs ys (some ⟨w.heap.size + 1, 0, none⟩) _ _ _ [p] _ (h.same (by (with_reducible repeat' first | exact Same.refl _ _ _ | assumption | (refine Same.setCell ?_ (by first | omega | (simp; omega) | (simp; done) | (dsimp only; omega)) _) | (refine Same.alloc ?_ (by first | omega | (simp; omega) | (simp; done) | (dsimp only; omega)) _) | (refine Same.drewN ?_ _) | (refine Same.drew ?_)))) (h'.same (by (with_reducible repeat' first | exact Same.refl _ _ _ | assumption | (refine Same.setCell ?_ (by first | omega | (simp; omega) | (simp; done) | (dsimp only; omega)) _) | (refine Same.alloc ?_ (by first | omega | (simp; omega) | (simp; done) | (dsimp only; omega)) _) | (refine Same.drewN ?_ _) | (refine Same.drew ?_)))) (by first | omega | (simp; omega) | (simp; done) | (dsimp only; omega)) hdc hs (ints_as' _ _ [p] rfl (by simp [BIG]) _ (by simp)) (by first | omega | (simp; omega) | (simp; done) | (dsimp only; omega))).mono ?_; rintro e w1 ⟨rfl, hb1⟩; simp only [hasOk_all, HO.out]; (obtain ⟨hb1c, hb1f⟩ := bcell hb1); (have hb1z := hb1.size); (try simp only [szs] at hb1c hb1f hb1z); have lt1 : w.heap.size < w1.heap.size := (by omega))
    go_ret
    exact ⟨none, 0, rfl, Elem.OS.nil, by (with_reducible repeat' first | exact Below.refl _ _ | assumption | (refine Below.setCell ?_ (by first | omega | (simp; omega) | (simp; done) | (dsimp only; omega)) _) | (refine Below.alloc ?_ (by first | omega | (simp; omega) | (simp; done) | (dsimp only; omega)) _) | (refine below_drewN ?_ _) | (refine Below.drew ?_) | (refine Below.trans ?_ (hb1.mono (by first | omega | (simp; omega) | (simp; done) | (dsimp only; omega)))))⟩
  | true =>
    have HO := Lib.hid ho
    have HN := Lib.hid (show parentsM xs ys p = parentsAt xs p.toNat by rw [parentsM, if_pos ho])
    obtain ⟨_, p1, p2⟩ := hasOk_fam ho
    clear ho
    obtain ⟨p, rfl⟩ := Int.eq_ofNat_of_zero_le p1
    rw [HN.out]
    go_enter Try.func32, Try.ntmps32
    go_wp2_with (first
      | (go_at_call 63; refine (has_any _ _ _ _ lo hi xs ys (some ⟨w.heap.size + 1, 0, none⟩) _ _ _ [p] _ (h.same (by (with_reducible repeat' first | exact Same.refl _ _ _ | assumption | (refine Same.setCell ?_ (by first | omega | (simp; omega) | (simp; done) | (dsimp only; omega)) _) | (refine Same.alloc ?_ (by first | omega | (simp; omega) | (simp; done) | (dsimp only; omega)) _) | (refine Same.drewN ?_ _) | (refine Same.drew ?_)))) (h'.same (by (with_reducible repeat' first | exact Same.refl _ _ _ | assumption | (refine Same.setCell ?_ (by first | omega | (simp; omega) | (simp; done) | (dsimp only; omega)) _) | (refine Same.alloc ?_ (by first | omega | (simp; omega) | (simp; done) | (dsimp only; omega)) _) | (refine Same.drewN ?_ _) | (refine Same.drew ?_)))) (by first | omega | (simp; omega) | (simp; done) | (dsimp only; omega)) hdc hs (ints_as' _ _ [p] rfl (by simp [BIG]) _ (by simp)) (by first | omega | (simp; omega) | (simp; done) | (dsimp only; omega))).mono ?_; rintro e w1 ⟨rfl, hb1⟩; simp only [hasOk_all, HO.out]; (obtain ⟨hb1c, hb1f⟩ := bcell hb1); (have hb1z := hb1.size); (try simp only [szs] at hb1c hb1f hb1z); have lt1 : w.heap.size < w1.heap.size := (by omega))
      | (go_at_call 72; (with_reducible refine (parentsOf_any _ _ _ _ lo hi xs ys _ _ (h.same (by (with_reducible repeat' first | exact Same.refl _ _ _ | assumption | (refine Same.setCell ?_ (by first | omega | (simp; omega) | (simp; done) | (dsimp only; omega)) _) | (refine Same.alloc ?_ (by first | omega | (simp; omega) | (simp; done) | (dsimp only; omega)) _) | (refine Same.drewN ?_ _) | (refine Same.drew ?_) | (refine Same.trans ?_ (Same.of_below hb1 (by first | omega | (simp; omega) | (simp; done) | (dsimp only; omega))))))) (h'.same (by (with_reducible repeat' first | exact Same.refl _ _ _ | assumption | (refine Same.setCell ?_ (by first | omega | (simp; omega) | (simp; done) | (dsimp only; omega)) _) | (refine Same.alloc ?_ (by first | omega | (simp; omega) | (simp; done) | (dsimp only; omega)) _) | (refine Same.drewN ?_ _) | (refine Same.drew ?_) | (refine Same.trans ?_ (Same.of_below hb1 (by first | omega | (simp; omega) | (simp; done) | (dsimp only; omega))))))) (by first | omega | (simp; omega) | (simp; done) | (dsimp only; omega)) (by omega)).mono ?_); rintro e w2 ⟨A2, c2, rfl, ho2, hb2⟩; have hz2 := hb2.size))
    go_ret
    exact ⟨A2, c2, rfl, ho2.mono (by omega) (Nat.le_refl _), by (with_reducible repeat' first | exact Below.refl _ _ | assumption | (refine Below.setCell ?_ (by first | omega | (simp; omega) | (simp; done) | (dsimp only; omega)) _) | (refine Below.alloc ?_ (by first | omega | (simp; omega) | (simp; done) | (dsimp only; omega)) _) | (refine below_drewN ?_ _) | (refine Below.drew ?_) | (refine Below.trans ?_ (hb2.mono (by first | omega | (simp; omega) | (simp; done) | (dsimp only; omega)))) | (refine Below.trans ?_ (hb1.mono (by first | omega | (simp; omega) | (simp; done) | (dsimp only; omega)))))⟩

set_option maxHeartbeats 4000000 in
theorem implPartnersOf_any (A B : Option Addr) (c d lo hi : Nat) (xs : List Person) (ys : List Union) (p : Int) (w : World) (h : EPerson.AS w lo hi A xs) (h' : EUnion.AS w lo hi B ys) (hh : hi ≤ w.heap.size) (hdc : ys.length ≤ d ∧ d ≤ maxLen) (hs : totP xs ≤ 1048576) :
    Calls Try.prog 38 #[.agg #[.slice A xs.length c, .slice B ys.length d], .int .i64 p] w (RetIntS w (partnersM xs ys p)) := by
  cases ho : hasOk xs ys p with
  | false =>
    have HO := Lib.hid ho
    have HN := Lib.hid (show partnersM xs ys p = [] by rw [partnersM, ho]; rfl)
    clear ho
    rw [HN.out]
    go_enter Try.func38, Try.ntmps38
    go_wp2_with (go_at_call 63; refine (has_any _ _ _ _ lo hi xs ys (some ⟨w.heap.size + 1, 0, none⟩) _ _ _ [p] _ (h.same (by (with_reducible repeat' first | exact Same.refl _ _ _ | assumption | (refine Same.setCell ?_ (by first | omega | (simp; omega) | (simp; done) | (dsimp only; omega)) _) | (refine Same.alloc ?_ (by first | omega | (simp; omega) | (simp; done) | (dsimp only; omega)) _) | (refine Same.drewN ?_ _) | (refine Same.drew ?_)))) (h'.same (by (with_reducible repeat' first | exact Same.refl _ _ _ | assumption | (refine Same.setCell ?_ (by first | omega | (simp; omega) | (simp; done) | (dsimp only; omega)) _) | (refine Same.alloc ?_ (by first | omega | (simp; omega) | (simp; done) | (dsimp only; omega)) _) | (refine Same.drewN ?_ _) | (refine Same.drew ?_)))) (by first | omega | (simp; omega) | (simp; done) | (dsimp only; omega)) hdc hs (ints_as' _ _ [p] rfl (by simp [BIG]) _ (by simp)) (by first | omega | (simp; omega) | (simp; done) | (dsimp only; omega))).mono ?_; rintro e w1 ⟨rfl, hb1⟩; simp only [hasOk_all, HO.out]; (obtain ⟨hb1c, hb1f⟩ := bcell hb1); (have hb1z := hb1.size); (try simp only [szs] at hb1c hb1f hb1z); have lt1 : w.heap.size < w1.heap.size := (by omega))
    go_ret
    exact ⟨none, 0, rfl, Elem.OS.nil, by (with_reducible repeat' first | exact Below.refl _ _ | assumption | (refine Below.setCell ?_ (by first | omega | (simp; omega) | (simp; done) | (dsimp only; omega)) _) | (refine Below.alloc ?_ (by first | omega | (simp; omega) | (simp; done) | (dsimp only; omega)) _) | (refine below_drewN ?_ _) | (refine Below.drew ?_) | (refine Below.trans ?_ (hb1.mono (by first | omega | (simp; omega) | (simp; done) | (dsimp only; omega)))))⟩
  | true =>
    have HO := Lib.hid ho
    have HN := Lib.hid (show partnersM xs ys p = partL ys p ys.length by rw [partnersM, if_pos ho])
    obtain ⟨hfam, _, _⟩ := hasOk_fam ho
    have hl60 := (famOk_parts hfam).2.1
    have HFAM := Lib.hid hfam
    clear ho hfam
    rw [HN.out]
    have hHY := Lib.hid h'
    go_enter Try.func38, Try.ntmps38
    go_wp2_with (go_at_call 63; refine (has_any _ _ _ _ lo hi xs ys (some ⟨w.heap.size + 1, 0, none⟩) _ _ _ [p] _ (h.same (by (with_reducible repeat' first | exact Same.refl _ _ _ | assumption | (refine Same.setCell ?_ (by first | omega | (simp; omega) | (simp; done) | (dsimp only; omega)) _) | (refine Same.alloc ?_ (by first | omega | (simp; omega) | (simp; done) | (dsimp only; omega)) _) | (refine Same.drewN ?_ _) | (refine Same.drew ?_)))) (h'.same (by (with_reducible repeat' first | exact Same.refl _ _ _ | assumption | (refine Same.setCell ?_ (by first | omega | (simp; omega) | (simp; done) | (dsimp only; omega)) _) | (refine Same.alloc ?_ (by first | omega | (simp; omega) | (simp; done) | (dsimp only; omega)) _) | (refine Same.drewN ?_ _) | (refine Same.drew ?_)))) (by first | omega | (simp; omega) | (simp; done) | (dsimp only; omega)) hdc hs (ints_as' _ _ [p] rfl (by simp [BIG]) _ (by simp)) (by first | omega | (simp; omega) | (simp; done) | (dsimp only; omega))).mono ?_; rintro e w1 ⟨rfl, hb1⟩; simp only [hasOk_all, HO.out]; (obtain ⟨hb1c, hb1f⟩ := bcell hb1); (have hb1z := hb1.size); (try simp only [szs] at hb1c hb1f hb1z); have lt1 : w.heap.size < w1.heap.size := (by omega))
    have hbw : Below w.heap.size w w1 := by (with_reducible repeat' first | exact Below.refl _ _ | assumption | (refine Below.setCell ?_ (by first | omega | (simp; omega) | (simp; done) | (dsimp only; omega)) _) | (refine Below.alloc ?_ (by first | omega | (simp; omega) | (simp; done) | (dsimp only; omega)) _) | (refine below_drewN ?_ _) | (refine Below.drew ?_) | (refine Below.trans ?_ (hb1.mono (by first | omega | (simp; omega) | (simp; done) | (dsimp only; omega)))))
    have hY1 := hHY.out.same (Same.of_below hbw hh)
    have z1 := hbw.size
    clear hb1 hb1c hb1f
    go_loopw [5, 17] (fun v i wr => AccRel EInt (partL ys p) ys.length w1 v i wr) (fun _ i _ => ys.length - (intOf i).toNat)
    case atStart => exact ⟨0, _, _, Nat.zero_le _, rfl, rfl, Elem.OS.nil, by (with_reducible repeat' first | exact Below.refl _ _ | assumption | (refine Below.setCell ?_ (by first | omega | (simp; omega) | (simp; done) | (dsimp only; omega)) _) | (refine Below.alloc ?_ (by first | omega | (simp; omega) | (simp; done) | (dsimp only; omega)) _) | (refine below_drewN ?_ _) | (refine Below.drew ?_))⟩
    case round =>
      obtain ⟨k, A1, c1, hk, rfl, rfl, ho, hbk⟩ := hrel
      have hz := hbk.size
      have hpl := partL_len ys p k
      by_cases hlt : k < ys.length
      · obtain ⟨b, off, ⟨m, f, s', t'⟩, rfl, g1, g2, _, hyk, hc0, hc1, hc2, hc3⟩ := AUnion.at_ (hY1.same (Same.of_below hbk (by omega))) hlt
        obtain ⟨m', f', _, _, hm0, hf0, _⟩ := famOk_union HFAM.out hyk
        simp only at hm0 hf0 hc0 hc1 hc2 hc3
        subst hm0; subst hf0
        have HK := Lib.hid hyk; clear hyk
        have lb : b < wr.heap.size := by omega
        by_cases hm : (m' : Int) = p
        · skip
          have HOM := Lib.hid (show otherM ⟨m', f', s', t'⟩ p = some (f' : Int) from if_pos hm)
          have HQ := Lib.hid (show otherI ⟨m', f', s', t'⟩ p = (f' : Int) by exact if_pos hm)
          clear hm
          have HP := Lib.hid (show partL ys p (k + 1) = partL ys p k ++ [(f' : Int)] by rw [partL_succ HK.out, HOM.out]; rfl)
          go_wp2_with (first
            | (go_at_call 76; (with_reducible refine (other_any _ _ _ _ _ _).mono ?_); rintro e w3 ⟨rfl, hb3⟩; simp only [HQ.out]; have z3 := hb3.size; (try simp only [szs] at z3))
            | (at_builtin; go_loud (refine wpList_app1 tyIntS _ (partL ys p k) _ [.int .i64 _] ⟨w3.heap.size, 0, none⟩ 1 (lo := w1.heap.size) (hi := wr.heap.size) (ho.same (by (with_reducible repeat' first | exact Same.refl _ _ _ | assumption | (refine Same.setCell ?_ (by first | omega | (simp; omega) | (simp; done) | (dsimp only; omega)) _) | (refine Same.alloc ?_ (by first | omega | (simp; omega) | (simp; done) | (dsimp only; omega)) _) | (refine Same.drewN ?_ _) | (refine Same.drew ?_) | (refine Same.trans ?_ (Same.of_below hb3 (by first | omega | (simp; omega) | (simp; done) | (dsimp only; omega))))))) rfl (by (first | omega | (simp; omega) | (simp; done) | (dsimp only; omega))) hz rfl _ _ rfl rfl rfl rfl (cell_one_at _ _ _ _ (by simp)) (by first | rfl | (simp; done) | (simp; rfl)) (by omega) (by decide) (fun A' c' w5 ho5 hg5 hc5 hm5 => ?_))))
          all_goals
            refine ⟨⟨k + 1, A', c', by omega, by go_num, by rw [HP.out]; simp, ?_, ?_⟩, by simp [intOf]; omega⟩
            · rw [HP.out]; simpa using ho5
            · exact Below.grown (w := World.alloc _ _) (by (with_reducible repeat' first | exact Below.refl _ _ | assumption | (refine Below.setCell ?_ (by first | omega | (simp; omega) | (simp; done) | (dsimp only; omega)) _) | (refine Below.alloc ?_ (by first | omega | (simp; omega) | (simp; done) | (dsimp only; omega)) _) | (refine below_drewN ?_ _) | (refine Below.drew ?_) | (refine Below.trans ?_ (hb3.mono (by first | omega | (simp; omega) | (simp; done) | (dsimp only; omega)))) | (refine Below.trans ?_ (hbk.mono (by first | omega | (simp; omega) | (simp; done) | (dsimp only; omega)))))) hg5 (by simp; omega) (fun k hk => (ho.blkv k hk).1)
        · by_cases hf : (f' : Int) = p
          · skip
            have HOM := Lib.hid (show otherM ⟨m', f', s', t'⟩ p = some (m' : Int) by rw [otherM, if_neg hm, if_pos hf])
            have HQ := Lib.hid (show otherI ⟨m', f', s', t'⟩ p = (m' : Int) by rw [otherI, if_neg hm, if_pos hf])
            clear hm hf
            have HP := Lib.hid (show partL ys p (k + 1) = partL ys p k ++ [(m' : Int)] by rw [partL_succ HK.out, HOM.out]; rfl)
            go_wp2_with (first
              | (go_at_call 76; (with_reducible refine (other_any _ _ _ _ _ _).mono ?_); rintro e w3 ⟨rfl, hb3⟩; simp only [HQ.out]; have z3 := hb3.size; (try simp only [szs] at z3))
              | (at_builtin; go_loud (refine wpList_app1 tyIntS _ (partL ys p k) _ [.int .i64 _] ⟨w3.heap.size, 0, none⟩ 1 (lo := w1.heap.size) (hi := wr.heap.size) (ho.same (by (with_reducible repeat' first | exact Same.refl _ _ _ | assumption | (refine Same.setCell ?_ (by first | omega | (simp; omega) | (simp; done) | (dsimp only; omega)) _) | (refine Same.alloc ?_ (by first | omega | (simp; omega) | (simp; done) | (dsimp only; omega)) _) | (refine Same.drewN ?_ _) | (refine Same.drew ?_) | (refine Same.trans ?_ (Same.of_below hb3 (by first | omega | (simp; omega) | (simp; done) | (dsimp only; omega))))))) rfl (by (first | omega | (simp; omega) | (simp; done) | (dsimp only; omega))) hz rfl _ _ rfl rfl rfl rfl (cell_one_at _ _ _ _ (by simp)) (by first | rfl | (simp; done) | (simp; rfl)) (by omega) (by decide) (fun A' c' w5 ho5 hg5 hc5 hm5 => ?_))))
            all_goals
              refine ⟨⟨k + 1, A', c', by omega, by go_num, by rw [HP.out]; simp, ?_, ?_⟩, by simp [intOf]; omega⟩
              · rw [HP.out]; simpa using ho5
              · exact Below.grown (w := World.alloc _ _) (by (with_reducible repeat' first | exact Below.refl _ _ | assumption | (refine Below.setCell ?_ (by first | omega | (simp; omega) | (simp; done) | (dsimp only; omega)) _) | (refine Below.alloc ?_ (by first | omega | (simp; omega) | (simp; done) | (dsimp only; omega)) _) | (refine below_drewN ?_ _) | (refine Below.drew ?_) | (refine Below.trans ?_ (hb3.mono (by first | omega | (simp; omega) | (simp; done) | (dsimp only; omega)))) | (refine Below.trans ?_ (hbk.mono (by first | omega | (simp; omega) | (simp; done) | (dsimp only; omega)))))) hg5 (by simp; omega) (fun k hk => (ho.blkv k hk).1)
          · skip
            have HOM := Lib.hid (show otherM ⟨m', f', s', t'⟩ p = none by rw [otherM, if_neg hm, if_neg hf])
            have HQ := Lib.hid (show otherI ⟨m', f', s', t'⟩ p = -1 by rw [otherI, if_neg hm, if_neg hf])
            clear hm hf
            have HP := Lib.hid (show partL ys p (k + 1) = partL ys p k by rw [partL_succ HK.out, HOM.out]; simp)
            go_wp2_with (go_at_call 76; (with_reducible refine (other_any _ _ _ _ _ _).mono ?_); rintro e w3 ⟨rfl, hb3⟩; simp only [HQ.out]; have z3 := hb3.size; (try simp only [szs] at z3))
            refine ⟨⟨k + 1, A1, c1, by omega, by go_num, by rw [HP.out], ?_, by (with_reducible repeat' first | exact Below.refl _ _ | assumption | (refine Below.setCell ?_ (by first | omega | (simp; omega) | (simp; done) | (dsimp only; omega)) _) | (refine Below.alloc ?_ (by first | omega | (simp; omega) | (simp; done) | (dsimp only; omega)) _) | (refine below_drewN ?_ _) | (refine Below.drew ?_) | (refine Below.trans ?_ (hb3.mono (by first | omega | (simp; omega) | (simp; done) | (dsimp only; omega)))) | (refine Below.trans ?_ (hbk.mono (by first | omega | (simp; omega) | (simp; done) | (dsimp only; omega)))))⟩, by simp [intOf]; omega⟩
            rw [HP.out]; exact (ho.same (by (with_reducible repeat' first | exact Same.refl _ _ _ | assumption | (refine Same.setCell ?_ (by first | omega | (simp; omega) | (simp; done) | (dsimp only; omega)) _) | (refine Same.alloc ?_ (by first | omega | (simp; omega) | (simp; done) | (dsimp only; omega)) _) | (refine Same.drewN ?_ _) | (refine Same.drew ?_) | (refine Same.trans ?_ (Same.of_below hb3 (by first | omega | (simp; omega) | (simp; done) | (dsimp only; omega))))))).mono (Nat.le_refl _) (by have := hb3.size; simp at this; omega)

      · obtain rfl : k = ys.length := by omega
        go_wp2
        go_ret
        exact ⟨_, _, rfl, ho.mono z1 (Nat.le_refl _), by (with_reducible repeat' first | exact Below.refl _ _ | assumption | (refine Below.setCell ?_ (by first | omega | (simp; omega) | (simp; done) | (dsimp only; omega)) _) | (refine Below.alloc ?_ (by first | omega | (simp; omega) | (simp; done) | (dsimp only; omega)) _) | (refine below_drewN ?_ _) | (refine Below.drew ?_) | (refine Below.trans ?_ (hbk.mono (by first | omega | (simp; omega) | (simp; done) | (dsimp only; omega)))) | (refine Below.trans ?_ (hbw.mono (by first | omega | (simp; omega) | (simp; done) | (dsimp only; omega)))))⟩
end Go.Proofs.Ytkdgjbbjbghdnaa
