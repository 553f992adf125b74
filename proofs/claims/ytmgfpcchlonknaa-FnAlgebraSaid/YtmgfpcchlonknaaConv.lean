/-
  The converse of a relation, in the program and in the reference.
-/
import Derived.Test.YtmgfpcchlonknaaMixS
namespace Go.Proofs.Ytmgfpcchlonknaa
set_option maxRecDepth 100000
open Go.RowKit

theorem ruleConverse (W : World) (n b1 : Nat) (A : Option Addr) (c : Nat) (xs : List (List Int)) (hx : xs.length = n)
    (c1 : W.cell? ⟨b1, 1, none⟩ = some (.slice A n c)) (h : EIntS.AS W 0 W.heap.size A xs) (l1 : b1 < W.heap.size) :
    Rule2 W n 0 W.heap.size 97 #[] #[.pointer (some ⟨b1, 0, none⟩)] (fun a b => gridP xs b a) where
  enter := fun args w' => by kernel_rfl
  ans := fun a b w' ha hb hs => by
    have d1 := (hs.cell (p := ⟨b1, 1, none⟩) (Nat.zero_le _) l1).trans c1
    obtain ⟨g1, o1, r1, B1, e1, rfl, _, m1, _, x1, k1, _, _, q1⟩ := AIntS.at_ (k := b) (h.same hs) (by omega)
    have i1 : (0 : Int) ≤ (b : Int) ∧ (b : Int) < (n : Int) := by omega
    have HP := Lib.hid (gridP_at x1 a); clear x1 hx
    go_enter Try.func97, Try.ntmps97
    go_wp2_with (go_at_call 72; (with_reducible refine (hasInt_any B1 e1 0 W.heap.size r1 a _ q1).mono ?_); rintro e w2 ⟨rfl, rfl⟩)
    go_ret
    exact ⟨ret_bool HP.out.symm, Below.refl _ _⟩

theorem implConverseRelation_any (s : Int) (A : Option Addr) (c lo hi : Nat) (xs : List (List Int)) (w : World) (h : EIntS.AS w lo hi A xs) (hh : hi ≤ w.heap.size) :
    Calls Try.prog 47 #[.agg #[.int .i64 s, .slice A xs.length c]] w (RetRel w (convM ⟨s, xs⟩)) := by
  cases hok : relOk ⟨s, xs⟩ with
  | false =>
    rw [convM_out hok]
    have HO := Lib.hid hok; clear hok
    go_enter Try.func47, Try.ntmps47
    go_wp2_with (go_at_call 90; (with_reducible refine (implIsRelation_any s A c lo hi xs _ (h.same (by (with_reducible repeat' first | exact Same.refl _ _ _ | assumption | (refine Same.setCell ?_ (by first | omega | (simp; omega) | (simp; done) | (dsimp only; omega)) _) | (refine Same.alloc ?_ (by first | omega | (simp; omega) | (simp; done) | (dsimp only; omega)) _) | (refine Same.drewN ?_ _) | (refine Same.drew ?_)))) (by first | omega | (simp; omega) | (simp; done) | (dsimp only; omega))).mono ?_); rintro e w1 ⟨rfl, hb1⟩; simp only [HO.out]; (obtain ⟨hb1c, hb1f⟩ := bcell hb1); (have hb1z := hb1.size); (try simp only [szs] at hb1c hb1f hb1z))
    exact bodyPost_ret (v := .agg #[.int .i64 0, .slice none 0 0]) (by simp [results, Try.results47, go_sem, hb1c]) rfl (RetRel.zero (by (with_reducible repeat' first | exact Below.refl _ _ | assumption | (refine Below.setCell ?_ (by first | omega | (simp; omega) | (simp; done) | (dsimp only; omega)) _) | (refine Below.alloc ?_ (by first | omega | (simp; omega) | (simp; done) | (dsimp only; omega)) _) | (refine below_drewN ?_ _) | (refine Below.drew ?_) | (refine Below.trans ?_ (hb1.mono (by first | omega | (simp; omega) | (simp; done) | (dsimp only; omega)))))))
  | true =>
    obtain ⟨n, rfl, hn, hl, _⟩ := relOk_parts hok
    rw [convM_in hok]
    have HO := Lib.hid hok; clear hok
    have HL := Lib.hid hl; clear hl
    go_enter Try.func47, Try.ntmps47
    go_wp2_with (first
      | (go_at_call 90; (with_reducible refine (implIsRelation_any n A c lo hi xs _ (h.same (by (with_reducible repeat' first | exact Same.refl _ _ _ | assumption | (refine Same.setCell ?_ (by first | omega | (simp; omega) | (simp; done) | (dsimp only; omega)) _) | (refine Same.alloc ?_ (by first | omega | (simp; omega) | (simp; done) | (dsimp only; omega)) _) | (refine Same.drewN ?_ _) | (refine Same.drew ?_)))) (by first | omega | (simp; omega) | (simp; done) | (dsimp only; omega))).mono ?_); rintro e w1 ⟨rfl, hb1⟩; simp only [HO.out]; (obtain ⟨hb1c, hb1f⟩ := bcell hb1); (have hb1z := hb1.size); (try simp only [szs] at hb1c hb1f hb1z); (have g1 : EIntS.AS w1 lo hi A xs := h.same (by (with_reducible repeat' first | exact Same.refl _ _ _ | assumption | (refine Same.setCell ?_ (by first | omega | (simp; omega) | (simp; done) | (dsimp only; omega)) _) | (refine Same.alloc ?_ (by first | omega | (simp; omega) | (simp; done) | (dsimp only; omega)) _) | (refine Same.drewN ?_ _) | (refine Same.drew ?_) | (refine Same.trans ?_ (Same.of_below hb1 (by first | omega | (simp; omega) | (simp; done) | (dsimp only; omega))))))))
      | (go_at_call 78; refine (related_any _ #[] _ n 0 w1.heap.size _ w1 hn (ruleConverse w1 n w.heap.size A c xs HL.out ?_ (g1.mono (Nat.zero_le _) (by omega)) (by omega)) (Nat.le_refl _)).mono ?_; (rw [hb1c _ _ (by omega)]; simp [go_sem, HL.out]); rintro e w2 ⟨A2, c2, rfl, ho2, hb2⟩; (obtain ⟨hb2c, hb2f⟩ := bcell hb2); (have hb2z := hb2.size); (try simp only [szs] at hb2c hb2f hb2z); (have lt2 : w.heap.size + 1 < w1.heap.size := (by omega))))
    exact bodyPost_ret (v := .agg #[.int .i64 n, .slice A2 n c2]) (by simp [results, Try.results47, go_sem, hb1c, hb2c, lt2]) rfl ⟨A2, c2, by simp only [relM_len], by simpa only [relM_len] using (ho2.same (by (with_reducible repeat' first | exact Same.refl _ _ _ | assumption | (refine Same.setCell ?_ (by first | omega | (simp; omega) | (simp; done) | (dsimp only; omega)) _) | (refine Same.alloc ?_ (by first | omega | (simp; omega) | (simp; done) | (dsimp only; omega)) _) | (refine Same.drewN ?_ _) | (refine Same.drew ?_)))).mono (by first | omega | (simp; omega) | (simp; done) | (dsimp only; omega)) (by first | omega | (simp; omega) | (simp; done) | (dsimp only; omega)), by (with_reducible repeat' first | exact Below.refl _ _ | assumption | (refine Below.setCell ?_ (by first | omega | (simp; omega) | (simp; done) | (dsimp only; omega)) _) | (refine Below.alloc ?_ (by first | omega | (simp; omega) | (simp; done) | (dsimp only; omega)) _) | (refine below_drewN ?_ _) | (refine Below.drew ?_) | (refine Below.trans ?_ (hb2.mono (by first | omega | (simp; omega) | (simp; done) | (dsimp only; omega)))) | (refine Below.trans ?_ (hb1.mono (by first | omega | (simp; omega) | (simp; done) | (dsimp only; omega)))))⟩

def flip2 (p : Nat → Nat → Bool) : Nat → Nat → Bool := fun a b => p b a
theorem upd_flip (p : Nat → Nat → Bool) (a b : Nat) (x : Bool) : upd (flip2 p) b a x = flip2 (upd p a b x) := by
  funext i j
  show (if i = b ∧ j = a then x else p j i) = if j = a ∧ i = b then x else p j i
  by_cases h : i = b ∧ j = a
  · rw [if_pos h, if_pos ⟨h.2, h.1⟩]
  · rw [if_neg h, if_neg fun k => h ⟨k.2, k.1⟩]
theorem mat_flip {n : Nat} {p q : Nat → Nat → Bool} (h : mat n p = mat n q) : mat n (flip2 p) = mat n (flip2 q) :=
  mat_congr fun a b ha hb => by
    have h1 : (mat n p)[b]? = (mat n q)[b]? := by rw [h]
    rw [mat_at hb, mat_at hb] at h1
    injection h1 with h1
    have h2 : ((List.range n).map (p b))[a]? = ((List.range n).map (q b))[a]? := by rw [h1]
    show p b a = q b a
    simpa [ha] using h2

set_option maxHeartbeats 1000000 in
theorem specConverseRelation_any (s : Int) (A : Option Addr) (c lo hi : Nat) (xs : List (List Int)) (w : World) (h : EIntS.AS w lo hi A xs) (hh : hi ≤ w.heap.size) :
    Calls Try.prog 46 #[.agg #[.int .i64 s, .slice A xs.length c]] w (RetRel w (convM ⟨s, xs⟩)) := by
  cases hok : relOk ⟨s, xs⟩ with
  | false =>
    rw [convM_out hok]
    have HO := Lib.hid hok; clear hok
    go_enter Try.func46, Try.ntmps46
    go_wp2_with (go_at_call 89; (with_reducible refine (specIsRelation_any s A c lo hi xs _ (h.same (by (with_reducible repeat' first | exact Same.refl _ _ _ | assumption | (refine Same.setCell ?_ (by first | omega | (simp; omega) | (simp; done) | (dsimp only; omega)) _) | (refine Same.alloc ?_ (by first | omega | (simp; omega) | (simp; done) | (dsimp only; omega)) _) | (refine Same.drewN ?_ _) | (refine Same.drew ?_)))) (by first | omega | (simp; omega) | (simp; done) | (dsimp only; omega))).mono ?_); rintro e w1 ⟨rfl, hb1⟩; simp only [HO.out]; (obtain ⟨hb1c, hb1f⟩ := bcell hb1); (have hb1z := hb1.size); (try simp only [szs] at hb1c hb1f hb1z))
    exact bodyPost_ret (v := .agg #[.int .i64 0, .slice none 0 0]) (by simp [results, Try.results46, go_sem, hb1c]) rfl (RetRel.zero (by (with_reducible repeat' first | exact Below.refl _ _ | assumption | (refine Below.setCell ?_ (by first | omega | (simp; omega) | (simp; done) | (dsimp only; omega)) _) | (refine Below.alloc ?_ (by first | omega | (simp; omega) | (simp; done) | (dsimp only; omega)) _) | (refine below_drewN ?_ _) | (refine Below.drew ?_) | (refine Below.trans ?_ (hb1.mono (by first | omega | (simp; omega) | (simp; done) | (dsimp only; omega)))))))
  | true =>
    obtain ⟨n, rfl, hn, hl, hrows⟩ := relOk_parts hok
    rw [convM_in hok]
    have HO := Lib.hid hok; clear hok
    have HL := Lib.hid hl; clear hl
    go_enter Try.func46, Try.ntmps46
    go_wp2_with (go_at_call 89; (with_reducible refine (specIsRelation_any n A c lo hi xs _ (h.same (by (with_reducible repeat' first | exact Same.refl _ _ _ | assumption | (refine Same.setCell ?_ (by first | omega | (simp; omega) | (simp; done) | (dsimp only; omega)) _) | (refine Same.alloc ?_ (by first | omega | (simp; omega) | (simp; done) | (dsimp only; omega)) _) | (refine Same.drewN ?_ _) | (refine Same.drew ?_)))) (by first | omega | (simp; omega) | (simp; done) | (dsimp only; omega))).mono ?_); rintro e w1 ⟨rfl, hb1⟩; simp only [HO.out]; (obtain ⟨hb1c, hb1f⟩ := bcell hb1); (have hb1z := hb1.size); (try simp only [szs] at hb1c hb1f hb1z))
    replace h : EIntS.AS w1 lo hi A xs := h.same (by (with_reducible repeat' first | exact Same.refl _ _ _ | assumption | (refine Same.setCell ?_ (by first | omega | (simp; omega) | (simp; done) | (dsimp only; omega)) _) | (refine Same.alloc ?_ (by first | omega | (simp; omega) | (simp; done) | (dsimp only; omega)) _) | (refine Same.drewN ?_ _) | (refine Same.drew ?_) | (refine Same.trans ?_ (Same.of_below hb1 (by first | omega | (simp; omega) | (simp; done) | (dsimp only; omega))))))
    have d0 : w1.cell? ⟨w.heap.size, 0, none⟩ = some (.int .i64 n) := by rw [hb1c _ _ (by omega)]; simp [go_sem]
    have d1 : w1.cell? ⟨w.heap.size, 1, none⟩ = some (.slice A n c) := by rw [hb1c _ _ (by omega)]; simp [go_sem, HL.out]
    have r0 : Blk w1 (w.heap.size + 1) 27 #[.int .i64 0, .slice none 0 0] := (Blk.new _ (by simp)).below hb1 (by simp)
    have hbw : Below w.heap.size w w1 := by (with_reducible repeat' first | exact Below.refl _ _ | assumption | (refine Below.setCell ?_ (by first | omega | (simp; omega) | (simp; done) | (dsimp only; omega)) _) | (refine Below.alloc ?_ (by first | omega | (simp; omega) | (simp; done) | (dsimp only; omega)) _) | (refine below_drewN ?_ _) | (refine Below.drew ?_) | (refine Below.trans ?_ (hb1.mono (by first | omega | (simp; omega) | (simp; done) | (dsimp only; omega)))))
    clear hb1 hb1c hb1f
    have hx := h.le
    rw [HL.out] at hx
    unfold BIG at hx
    refine (l2Blank_any n w1 hn).mono ?_
    rintro e w2 ⟨A2, c2, rfl, ho2, hb2⟩
    rw [mat_blank] at ho2
    replace d0 := (hb2.cell (by first | omega | (simp; omega) | (simp; done) | (dsimp only; omega))).trans d0
    replace d1 := (hb2.cell (by first | omega | (simp; omega) | (simp; done) | (dsimp only; omega))).trans d1
    replace h := h.same (Same.of_below hb2 (by omega))
    replace r0 := r0.below hb2 (by omega)
    replace hbw := hbw.trans (hb2.mono (by omega))
    have z2 := hb2.size
    clear hb2
    go_wp2
    go_loopw [18] (fun i wr => TabRel (fun k => flip2 (gridTo xs k)) n w1.heap.size w2.heap.size A2 c2 w2 i wr) (fun i _ => n - (intOf i).toNat)
    case atStart => exact ⟨0, Nat.zero_le _, rfl, by rw [show mat n (flip2 (gridTo xs 0)) = mat n fun _ _ => false from mat_congr (by simp [gridTo, flip2])]; exact ho2, Chg.refl _ _ _, Nat.le_refl _⟩
    case round =>
      obtain ⟨k, hk, rfl, ho, hch, hsz⟩ := hrel
      by_cases hlt : k < n
      · obtain ⟨b, off, row, B, cx, rfl, _, _, _, hxk, hc, _, _, hr⟩ := AIntS.at_ (h.same (Same.of_chg hch (by omega) (by omega))) (by rw [HL.out]; exact hlt)
        have hmem := rowOk_mem (hrows row (List.mem_of_getElem? hxk))
        have HXK := Lib.hid hxk; clear hxk
        have hrl := hr.le
        unfold BIG at hrl
        rw [mat_flip (gridIn_start xs n k row)] at ho
        go_wp2
        obtain ⟨wo, rfl⟩ : ∃ wo : World, wo = wr := ⟨_, rfl⟩
        go_loopw [25] (fun i w5 => GridRelT (fun j => flip2 (gridIn xs k row j)) n row.length w1.heap.size w2.heap.size A2 c2 wo i w5) (fun i _ => row.length - (intOf i).toNat)
        case atStart => exact ⟨0, Nat.zero_le _, rfl, ho, Chg.refl _ _ _, hsz⟩
        case round =>
          obtain ⟨j, hj, rfl, ho5, hch5, hsz5⟩ := hrel
          by_cases hlt2 : j < row.length
          · obtain ⟨b2, off2, x, rfl, _, _, _, hxj, hc2⟩ := AInt.at_ (hr.same (Same.of_chg hch5 (by omega) (by omega))) hlt2
            have hxb := hmem x (List.mem_of_getElem? hxj)
            obtain ⟨m, rfl⟩ := Int.eq_ofNat_of_zero_le (by omega : 0 ≤ x)
            have hmn : m < n := by omega
            have HXJ := Lib.hid hxj; clear hxj
            obtain ⟨g, r, c', c'', hv, g1, g2, r1, r2, k1, k2, k3, k4, hset⟩ := mat_own ho5 hsz5 hmn hlt
            injection hv with hv _ hcc
            subst hv; subst hcc
            go_wp2
            refine ⟨⟨j + 1, by omega, by go_num, ?_, hch5.setCell ⟨r1, r2⟩ _, by simpa [World.setCell] using hsz5⟩, by simp [intOf]; omega⟩
            rw [← mat_flip (gridIn_step HXJ.out), ← upd_flip]; exact hset true
          · obtain rfl : j = row.length := by omega
            rw [mat_flip (gridIn_end HXK.out)] at ho5
            go_wp2
            exact ⟨⟨k + 1, by omega, by go_num, ho5, hch.trans hch5, hsz5⟩, by simp [intOf]; omega⟩
      · obtain rfl : k = n := by omega
        rw [show mat k (flip2 (gridTo xs k)) = mat k fun a b => gridP xs b a from mat_congr fun a b _ hb => by simp [gridTo, flip2, hb]] at ho
        replace r0 := r0.chg hch (.inl (by omega))
        replace hbw := hbw.trans (hch.below (by omega) (by omega))
        have hlw : w.heap.size + 1 < wr.heap.size := r0.lt
        clear h
        go_wp2_with fail
        have hl := Lib.hid (mat_len k fun a b => gridP xs b a)
        rw [← hl.out]
        refine (l2Of_any A2 c2 _ _ (mat k fun a b => gridP xs b a) wr ho.read.as hsz (by rw [hl.out]; exact hn) (fun r hr => Nat.le_trans (mat_row r hr) hn)).mono ?_
        rw [hl.out]
        rintro e w6 ⟨A6, c6, rfl, ho6, hb6⟩
        rw [ofM_mat] at ho6
        have hz6 := hb6.size
        have q0 := (r0.below hb6 hlw).cell (i := 0) rfl
        have q1 := (r0.below hb6 hlw).cell (i := 1) rfl
        have f0 := (r0.below hb6 hlw).free 0
        have f1 := (r0.below hb6 hlw).free 1
        go_wp2_with fail
        exact bodyPost_ret (v := .agg #[.int .i64 k, .slice A6 k c6]) (by simp [results, Try.results46, go_sem, q0, q1]) rfl ⟨A6, c6, by simp only [relM_len], by simpa only [relM_len] using (ho6.same (by (with_reducible repeat' first | exact Same.refl _ _ _ | assumption | (refine Same.setCell ?_ (by first | omega | (simp; omega) | (simp; done) | (dsimp only; omega)) _) | (refine Same.alloc ?_ (by first | omega | (simp; omega) | (simp; done) | (dsimp only; omega)) _) | (refine Same.drewN ?_ _) | (refine Same.drew ?_)))).mono (by first | omega | (simp; omega) | (simp; done) | (dsimp only; omega)) (by first | omega | (simp; omega) | (simp; done) | (dsimp only; omega)), by (with_reducible repeat' first | exact Below.refl _ _ | assumption | (refine Below.setCell ?_ (by first | omega | (simp; omega) | (simp; done) | (dsimp only; omega)) _) | (refine Below.alloc ?_ (by first | omega | (simp; omega) | (simp; done) | (dsimp only; omega)) _) | (refine below_drewN ?_ _) | (refine Below.drew ?_) | (refine Below.trans ?_ (hb6.mono (by first | omega | (simp; omega) | (simp; done) | (dsimp only; omega)))))⟩
end Go.Proofs.Ytmgfpcchlonknaa
