/-
  The composition of relations, in the reference.
-/
import Derived.Test.YtmgfpcchlonknaaComp
namespace Go.Proofs.Ytmgfpcchlonknaa
set_option maxRecDepth 100000
open Go.RowKit

def cmpC (p q t : Nat → Nat → Bool) (a b : Nat) : Nat → (Nat → Nat → Bool)
  | 0 => t
  | c + 1 => if (p a b && q b c) = true then upd (cmpC p q t a b c) a c true else cmpC p q t a b c
def cmpB (p q : Nat → Nat → Bool) (n : Nat) (t : Nat → Nat → Bool) (a : Nat) : Nat → (Nat → Nat → Bool)
  | 0 => t
  | b + 1 => cmpC p q (cmpB p q n t a b) a b n
def cmpA (p q : Nat → Nat → Bool) (n : Nat) : Nat → (Nat → Nat → Bool)
  | 0 => fun _ _ => false
  | a + 1 => cmpB p q n (cmpA p q n a) a n
theorem cmpC_at (p q t : Nat → Nat → Bool) (a b i j : Nat) : ∀ c, cmpC p q t a b c i j = (t i j || (decide (i = a) && decide (j < c) && (p a b && q b j))) := by
  intro c
  induction c with
  | zero => simp [cmpC]
  | succ c ih =>
    rw [cmpC]
    by_cases hv : (p a b && q b c) = true
    · rw [if_pos hv]
      by_cases hij : i = a ∧ j = c
      · obtain ⟨rfl, rfl⟩ := hij
        rw [upd, if_pos ⟨rfl, rfl⟩, hv]; simp
      · rw [upd, if_neg hij, ih]
        congr 2
        by_cases hi : i = a
        · simp only [hi, decide_true, Bool.true_and, decide_eq_decide]; omega
        · simp [hi]
    · rw [if_neg hv, ih]
      by_cases hij : i = a ∧ j = c
      · obtain ⟨rfl, rfl⟩ := hij
        rw [show (p i b && q b j) = false from by simpa using hv]; simp
      · congr 2
        by_cases hi : i = a
        · simp only [hi, decide_true, Bool.true_and, decide_eq_decide]; omega
        · simp [hi]
theorem cmpB_at (p q : Nat → Nat → Bool) (n : Nat) (t : Nat → Nat → Bool) (a i j : Nat) (hj : j < n) : ∀ b, cmpB p q n t a b i j = (t i j || (decide (i = a) && (List.range b).any fun b' => p a b' && q b' j)) := by
  intro b
  induction b with
  | zero => simp [cmpB]
  | succ b ih =>
    rw [cmpB, cmpC_at, ih, List.range_succ, List.any_append, Bool.or_assoc]
    congr 1
    by_cases hi : i = a <;> simp [hi, hj]
theorem cmpA_at (p q : Nat → Nat → Bool) (n i j : Nat) (hj : j < n) : ∀ a, cmpA p q n a i j = (decide (i < a) && stepP n p q i j) := by
  intro a
  induction a with
  | zero => simp [cmpA]
  | succ a ih =>
    rw [cmpA, cmpB_at _ _ _ _ _ _ _ hj, ih]
    by_cases hi : i = a
    · subst hi; simp [stepP]
    · by_cases h1 : i < a
      · simp [hi, h1, Nat.lt_succ_of_lt h1]
      · simp [hi, h1, show ¬ i < a + 1 by omega]
theorem cmpA_end (p q : Nat → Nat → Bool) (n : Nat) : mat n (cmpA p q n n) = mat n (stepP n p q) := mat_congr fun a b ha hb => by rw [cmpA_at _ _ _ _ _ hb]; simp [ha]

set_option maxHeartbeats 1000000 in
theorem l2Compose_any (A B : Option Addr) (c d lo hi lo' hi' n : Nat) (p q : Nat → Nat → Bool) (w : World) (hn : n ≤ 40) (h : EBoolS.AS w lo hi A (mat n p)) (h' : EBoolS.AS w lo' hi' B (mat n q)) (hh : hi ≤ w.heap.size) (hh' : hi' ≤ w.heap.size) :
    Calls Try.prog 103 #[.slice A n c, .slice B n d] w fun e w' => ∃ A' c', e = .returned (.slice A' n c') ∧ EBoolS.OS w' w.heap.size w'.heap.size (.slice A' n c') (mat n (stepP n p q)) ∧ Below w.heap.size w w' := by
  rw [← cmpA_end]
  go_enter Try.func103, Try.ntmps103
  go_wp2_with (go_at_call 75; refine (l2Blank_any n _ hn).mono ?_; rintro e w1 ⟨A1, c1, rfl, ho1, hb1⟩; rw [mat_blank] at ho1; (have hz1 := hb1.size))
  replace h := h.same (Same.of_below hb1 hh)
  replace h' := h'.same (Same.of_below hb1 hh')
  go_loopw [14] (fun i wr => TabRel (cmpA p q n) n w.heap.size w1.heap.size A1 c1 w1 i wr) (fun i _ => n - (intOf i).toNat)
  case atStart => exact ⟨0, Nat.zero_le _, rfl, ho1, Chg.refl _ _ _, Nat.le_refl _⟩
  case round =>
    obtain ⟨a, ha, rfl, ho, hch, hsz⟩ := hrel
    by_cases hla : a < n
    · go_wp2
      obtain ⟨wo, rfl⟩ : ∃ wo : World, wo = wr := ⟨_, rfl⟩
      go_loopw [19] (fun i w2 => TabRel (cmpB p q n (cmpA p q n a) a) n w.heap.size w1.heap.size A1 c1 w1 i w2) (fun i _ => n - (intOf i).toNat)
      case atStart => exact ⟨0, Nat.zero_le _, rfl, ho, hch, hsz⟩
      case round =>
        obtain ⟨b, hb, rfl, ho2, hch2, hsz2⟩ := hrel
        by_cases hlb : b < n
        · go_wp2
          obtain ⟨wo2, rfl⟩ : ∃ wo2 : World, wo2 = wr := ⟨_, rfl⟩
          go_loopw [24] (fun i w3 => TabRel (cmpC p q (cmpB p q n (cmpA p q n a) a b) a b) n w.heap.size w1.heap.size A1 c1 w1 i w3) (fun i _ => n - (intOf i).toNat)
          case atStart => exact ⟨0, Nat.zero_le _, rfl, ho2, hch2, hsz2⟩
          case round =>
            obtain ⟨k, hk, rfl, ho3, hch3, hsz3⟩ := hrel
            by_cases hlk : k < n
            · obtain ⟨x1, xo, xr, xq, xc, rfl, _, _, _, _, _, _, m1, m2⟩ := mat_read (h.same (Same.of_chg hch3 (by omega) (.inl (by omega)))) hla hlb
              obtain ⟨y1, yo, yr, yq, yc, rfl, _, _, _, _, _, _, m3, m4⟩ := mat_read (h'.same (Same.of_chg hch3 (by omega) (.inl (by omega)))) hlb hlk
              obtain ⟨g, r, cc, cc', hv, _, _, r1, r2, k1, k2, k3, k4, hset⟩ := mat_own ho3 hsz3 hla hlk
              injection hv with hv _ hcc
              subst hv; subst hcc
              have HS := Lib.hid (show cmpC p q (cmpB p q n (cmpA p q n a) a b) a b (k + 1) = if (p a b && q b k) = true then upd (cmpC p q (cmpB p q n (cmpA p q n a) a b) a b k) a k true else cmpC p q (cmpB p q n (cmpA p q n a) a b) a b k from rfl)
              cases hp : p a b <;> cases hq : q b k
              all_goals
                rw [hp] at m2; rw [hq] at m4
                have HP := Lib.hid hp; have HQ := Lib.hid hq; clear hp hq
                go_wp2
              iterate 3 exact ⟨⟨k + 1, by omega, by go_num, by rw [HS.out, HP.out, HQ.out]; exact ho3, hch3, hsz3⟩, by simp [intOf]; omega⟩
              exact ⟨⟨k + 1, by omega, by go_num, by rw [HS.out, HP.out, HQ.out]; exact hset _, hch3.setCell ⟨r1, r2⟩ _, by simpa [World.setCell] using hsz3⟩, by simp [intOf]; omega⟩
            · obtain rfl : k = n := by omega
              go_wp2
              exact ⟨⟨b + 1, by omega, by go_num, ho3, hch3, hsz3⟩, by simp [intOf]; omega⟩
        · obtain rfl : b = n := by omega
          go_wp2
          exact ⟨⟨a + 1, by omega, by go_num, ho2, hch2, hsz2⟩, by simp [intOf]; omega⟩
    · obtain rfl : a = n := by omega
      go_wp2
      go_ret
      exact ⟨_, _, rfl, ho.mono (Nat.le_refl _) hsz, hb1.trans (hch.below (by omega) (Nat.le_refl _))⟩

set_option maxHeartbeats 2000000 in
theorem specComposeRelations_any (s t : Int) (A B : Option Addr) (c d lo hi lo' hi' : Nat) (xs ys : List (List Int)) (w : World) (h : EIntS.AS w lo hi A xs) (h' : EIntS.AS w lo' hi' B ys) (hh : hi ≤ w.heap.size) (hh' : hi' ≤ w.heap.size) :
    Calls Try.prog 56 #[.agg #[.int .i64 s, .slice A xs.length c], .agg #[.int .i64 t, .slice B ys.length d]] w (RetRel w (compM ⟨s, xs⟩ ⟨t, ys⟩)) := by
  cases hok : bothOk ⟨s, xs⟩ ⟨t, ys⟩ with
  | false =>
    rw [compM_out hok]
    have HO := Lib.hid hok; clear hok
    go_enter Try.func56, Try.ntmps56
    go_wp2_with (go_at_call 68; refine (l2Both_any s t A B c d lo hi lo' hi' xs ys _ (h.same (by (with_reducible repeat' first | exact Same.refl _ _ _ | assumption | (refine Same.setCell ?_ (by first | omega | (simp; omega) | (simp; done) | (dsimp only; omega)) _) | (refine Same.alloc ?_ (by first | omega | (simp; omega) | (simp; done) | (dsimp only; omega)) _) | (refine Same.drewN ?_ _) | (refine Same.drew ?_)))) (h'.same (by (with_reducible repeat' first | exact Same.refl _ _ _ | assumption | (refine Same.setCell ?_ (by first | omega | (simp; omega) | (simp; done) | (dsimp only; omega)) _) | (refine Same.alloc ?_ (by first | omega | (simp; omega) | (simp; done) | (dsimp only; omega)) _) | (refine Same.drewN ?_ _) | (refine Same.drew ?_)))) (by first | omega | (simp; omega) | (simp; done) | (dsimp only; omega)) (by first | omega | (simp; omega) | (simp; done) | (dsimp only; omega))).mono ?_; rintro e w1 ⟨rfl, hb1⟩; simp only [HO.out]; (obtain ⟨hb1c, hb1f⟩ := bcell hb1); (have hb1z := hb1.size); (try simp only [szs] at hb1c hb1f hb1z))
    exact bodyPost_ret (v := .agg #[.int .i64 0, .slice none 0 0]) (by simp [results, Try.results56, go_sem, hb1c]) rfl (RetRel.zero (by (with_reducible repeat' first | exact Below.refl _ _ | assumption | (refine Below.setCell ?_ (by first | omega | (simp; omega) | (simp; done) | (dsimp only; omega)) _) | (refine Below.alloc ?_ (by first | omega | (simp; omega) | (simp; done) | (dsimp only; omega)) _) | (refine below_drewN ?_ _) | (refine Below.drew ?_) | (refine Below.trans ?_ (hb1.mono (by first | omega | (simp; omega) | (simp; done) | (dsimp only; omega)))))))
  | true =>
    obtain ⟨o1, o2, hst⟩ := bothOk_parts hok
    obtain ⟨n, rfl, hn, hl, _⟩ := relOk_parts o1
    obtain ⟨n', hnn, _, hl', _⟩ := relOk_parts o2
    obtain rfl : t = (n : Int) := hst.symm
    obtain rfl : n' = n := by omega
    clear hst hnn
    rw [compM_in hok]
    have HO := Lib.hid hok; clear hok
    have HL := Lib.hid hl; have HL' := Lib.hid hl'; clear hl hl'
    have R1 := Lib.hid o1; have R2 := Lib.hid o2; clear o1 o2
    go_enter Try.func56, Try.ntmps56
    go_wp2_with (go_at_call 68; refine (l2Both_any n' n' A B c d lo hi lo' hi' xs ys _ (h.same (by (with_reducible repeat' first | exact Same.refl _ _ _ | assumption | (refine Same.setCell ?_ (by first | omega | (simp; omega) | (simp; done) | (dsimp only; omega)) _) | (refine Same.alloc ?_ (by first | omega | (simp; omega) | (simp; done) | (dsimp only; omega)) _) | (refine Same.drewN ?_ _) | (refine Same.drew ?_)))) (h'.same (by (with_reducible repeat' first | exact Same.refl _ _ _ | assumption | (refine Same.setCell ?_ (by first | omega | (simp; omega) | (simp; done) | (dsimp only; omega)) _) | (refine Same.alloc ?_ (by first | omega | (simp; omega) | (simp; done) | (dsimp only; omega)) _) | (refine Same.drewN ?_ _) | (refine Same.drew ?_)))) (by first | omega | (simp; omega) | (simp; done) | (dsimp only; omega)) (by first | omega | (simp; omega) | (simp; done) | (dsimp only; omega))).mono ?_; rintro e w1 ⟨rfl, hb1⟩; simp only [HO.out]; (obtain ⟨hb1c, hb1f⟩ := bcell hb1); (have hb1z := hb1.size); (try simp only [szs] at hb1c hb1f hb1z))
    have g1 : EIntS.AS w1 lo hi A xs := h.same (by (with_reducible repeat' first | exact Same.refl _ _ _ | assumption | (refine Same.setCell ?_ (by first | omega | (simp; omega) | (simp; done) | (dsimp only; omega)) _) | (refine Same.alloc ?_ (by first | omega | (simp; omega) | (simp; done) | (dsimp only; omega)) _) | (refine Same.drewN ?_ _) | (refine Same.drew ?_) | (refine Same.trans ?_ (Same.of_below hb1 (by first | omega | (simp; omega) | (simp; done) | (dsimp only; omega))))))
    have g2 : EIntS.AS w1 lo' hi' B ys := h'.same (by (with_reducible repeat' first | exact Same.refl _ _ _ | assumption | (refine Same.setCell ?_ (by first | omega | (simp; omega) | (simp; done) | (dsimp only; omega)) _) | (refine Same.alloc ?_ (by first | omega | (simp; omega) | (simp; done) | (dsimp only; omega)) _) | (refine Same.drewN ?_ _) | (refine Same.drew ?_) | (refine Same.trans ?_ (Same.of_below hb1 (by first | omega | (simp; omega) | (simp; done) | (dsimp only; omega))))))
    have a0 : w1.cell? ⟨w.heap.size, 0, none⟩ = some (.int .i64 n') := by rw [hb1c _ _ (by omega)]; simp [go_sem]
    have a1 : w1.cell? ⟨w.heap.size, 1, none⟩ = some (.slice A xs.length c) := by rw [hb1c _ _ (by omega)]; simp [go_sem]
    have d0 : w1.cell? ⟨w.heap.size + 1, 0, none⟩ = some (.int .i64 n') := by rw [hb1c _ _ (by omega)]; simp [go_sem]
    have d1 : w1.cell? ⟨w.heap.size + 1, 1, none⟩ = some (.slice B ys.length d) := by rw [hb1c _ _ (by omega)]; simp [go_sem]
    have r0 : Blk w1 (w.heap.size + 1 + 1) 27 #[.int .i64 0, .slice none 0 0] := (Blk.new _ (by simp)).below hb1 (by simp)
    have hbw : Below w.heap.size w w1 := by (with_reducible repeat' first | exact Below.refl _ _ | assumption | (refine Below.setCell ?_ (by first | omega | (simp; omega) | (simp; done) | (dsimp only; omega)) _) | (refine Below.alloc ?_ (by first | omega | (simp; omega) | (simp; done) | (dsimp only; omega)) _) | (refine below_drewN ?_ _) | (refine Below.drew ?_) | (refine Below.trans ?_ (hb1.mono (by first | omega | (simp; omega) | (simp; done) | (dsimp only; omega)))))
    have z1 := hb1z
    clear hb1 hb1c hb1f
    have tk1 : True := True.intro
    have tk2 : True := True.intro
    have lr := r0.lt
    go_wp2_with fail
    go_region_held3 (fun w' => w'.cell? ⟨w.heap.size, 0, none⟩ = some (.int .i64 n') ∧ w'.cell? ⟨w.heap.size, 1, none⟩ = some (.slice A xs.length c) ∧ w'.cell? ⟨w.heap.size + 1, 0, none⟩ = some (.int .i64 n') ∧ w'.cell? ⟨w.heap.size + 1, 1, none⟩ = some (.slice B ys.length d)) (first | exact ⟨a0, a1, d0, d1⟩ | exact ⟨(World.cell?_of_block ((Below.heap_setCell _ _ _ _ (by first | omega | (simp; omega) | (simp; done) | (dsimp only; omega))).trans (Below.heap_setCell _ _ _ _ (by first | omega | (simp; omega) | (simp; done) | (dsimp only; omega))))).trans a0, (World.cell?_of_block ((Below.heap_setCell _ _ _ _ (by first | omega | (simp; omega) | (simp; done) | (dsimp only; omega))).trans (Below.heap_setCell _ _ _ _ (by first | omega | (simp; omega) | (simp; done) | (dsimp only; omega))))).trans a1, (World.cell?_of_block ((Below.heap_setCell _ _ _ _ (by first | omega | (simp; omega) | (simp; done) | (dsimp only; omega))).trans (Below.heap_setCell _ _ _ _ (by first | omega | (simp; omega) | (simp; done) | (dsimp only; omega))))).trans d0, (World.cell?_of_block ((Below.heap_setCell _ _ _ _ (by first | omega | (simp; omega) | (simp; done) | (dsimp only; omega))).trans (Below.heap_setCell _ _ _ _ (by first | omega | (simp; omega) | (simp; done) | (dsimp only; omega))))).trans d1⟩ | go_keep)
      (first
        | (clear tk1; go_at_call 69; (with_reducible refine (l2Grid_any n' A c lo hi xs _ g1.drew (by first | omega | (simp; omega) | (simp; done) | (dsimp only; omega)) R1.out).mono ?_); rintro e w2 ⟨A2, c2, rfl, o2, hb2⟩; rw [HL.out] at o2 ⊢; replace hb2 := undrew hb2; replace r0 := r0.below hb2 (by omega); (replace a0 := (hb2.cell (by first | omega | (simp; omega) | (simp; done) | (dsimp only; omega))).trans a0; replace a1 := (hb2.cell (by first | omega | (simp; omega) | (simp; done) | (dsimp only; omega))).trans a1; replace d0 := (hb2.cell (by first | omega | (simp; omega) | (simp; done) | (dsimp only; omega))).trans d0; replace d1 := (hb2.cell (by first | omega | (simp; omega) | (simp; done) | (dsimp only; omega))).trans d1; replace g2 := g2.same (Same.of_below hb2 (by first | omega | (simp; omega) | (simp; done) | (dsimp only; omega))); replace hbw := hbw.trans (hb2.mono (by first | omega | (simp; omega) | (simp; done) | (dsimp only; omega))); have zhb2 := hb2.size; clear hb2))
        | (clear tk2; go_at_call 69; (with_reducible refine (l2Grid_any n' B d lo' hi' ys _ g2 (by first | omega | (simp; omega) | (simp; done) | (dsimp only; omega)) R2.out).mono ?_); rintro e w3 ⟨A3, c3, rfl, o3, hb3⟩; rw [HL'.out] at o3 ⊢; replace r0 := r0.below hb3 (by omega); (replace a0 := (hb3.cell (by first | omega | (simp; omega) | (simp; done) | (dsimp only; omega))).trans a0; replace a1 := (hb3.cell (by first | omega | (simp; omega) | (simp; done) | (dsimp only; omega))).trans a1; replace d0 := (hb3.cell (by first | omega | (simp; omega) | (simp; done) | (dsimp only; omega))).trans d0; replace d1 := (hb3.cell (by first | omega | (simp; omega) | (simp; done) | (dsimp only; omega))).trans d1; replace o2 := o2.same (Same.of_below hb3 (by first | omega | (simp; omega) | (simp; done) | (dsimp only; omega))); replace hbw := hbw.trans (hb3.mono (by first | omega | (simp; omega) | (simp; done) | (dsimp only; omega))); have zhb3 := hb3.size; clear hb3))
        | (go_at_call 103; (with_reducible refine (l2Compose_any A2 A3 c2 c3 _ _ _ _ n' (gridP xs) (gridP ys) _ hn o2.read.as o3.read.as (by first | omega | (simp; omega) | (simp; done) | (dsimp only; omega)) (Nat.le_refl _)).mono ?_); rintro e w4 ⟨A4, c4, rfl, o4, hb4⟩; replace r0 := r0.below hb4 (by omega); (replace a0 := (hb4.cell (by first | omega | (simp; omega) | (simp; done) | (dsimp only; omega))).trans a0; replace a1 := (hb4.cell (by first | omega | (simp; omega) | (simp; done) | (dsimp only; omega))).trans a1; replace d0 := (hb4.cell (by first | omega | (simp; omega) | (simp; done) | (dsimp only; omega))).trans d0; replace d1 := (hb4.cell (by first | omega | (simp; omega) | (simp; done) | (dsimp only; omega))).trans d1; replace hbw := hbw.trans (hb4.mono (by first | omega | (simp; omega) | (simp; done) | (dsimp only; omega))); have zhb4 := hb4.size; clear hb4); (have hl := Lib.hid (mat_len n' (stepP n' (gridP xs) (gridP ys)))); rw [← hl.out])
        | (go_at_call 76; (with_reducible refine (l2Of_any A4 c4 _ _ (mat n' (stepP n' (gridP xs) (gridP ys))) _ o4.read.as (Nat.le_refl _) (by rw [hl.out]; exact hn) (fun r hr => Nat.le_trans (mat_row r hr) hn)).mono ?_); rw [hl.out]; rintro e w5 ⟨A5, c5, rfl, o5, hb5⟩; rw [ofM_mat] at o5; replace r0 := r0.below hb5 (by omega); (replace a0 := (hb5.cell (by first | omega | (simp; omega) | (simp; done) | (dsimp only; omega))).trans a0; replace a1 := (hb5.cell (by first | omega | (simp; omega) | (simp; done) | (dsimp only; omega))).trans a1; replace d0 := (hb5.cell (by first | omega | (simp; omega) | (simp; done) | (dsimp only; omega))).trans d0; replace d1 := (hb5.cell (by first | omega | (simp; omega) | (simp; done) | (dsimp only; omega))).trans d1; replace hbw := hbw.trans (hb5.mono (by first | omega | (simp; omega) | (simp; done) | (dsimp only; omega))); have zhb5 := hb5.size; clear hb5); have f0 := r0.free 0; have f1 := r0.free 1; have q0 := r0.cell (i := 0) rfl; have q1 := r0.cell (i := 1) rfl; have lr5 := r0.lt))
    go_wp2
    have R := (r0.set 0 (.int .i64 n')).set 1 (.slice A5 n' c5)
    exact bodyPost_ret (v := .agg #[.int .i64 n', .slice A5 n' c5]) (by simp [results, Try.results56, go_sem, R.cell (i := 0) rfl, R.cell (i := 1) rfl]) rfl ⟨A5, c5, by simp only [relM_len], by simpa only [relM_len] using (o5.same (by (with_reducible repeat' first | exact Same.refl _ _ _ | assumption | (refine Same.setCell ?_ (by first | omega | (simp; omega) | (simp; done) | (dsimp only; omega)) _) | (refine Same.alloc ?_ (by first | omega | (simp; omega) | (simp; done) | (dsimp only; omega)) _) | (refine Same.drewN ?_ _) | (refine Same.drew ?_)))).mono (by first | omega | (simp; omega) | (simp; done) | (dsimp only; omega)) (by first | omega | (simp; omega) | (simp; done) | (dsimp only; omega)), by (with_reducible repeat' first | exact Below.refl _ _ | assumption | (refine Below.setCell ?_ (by first | omega | (simp; omega) | (simp; done) | (dsimp only; omega)) _) | (refine Below.alloc ?_ (by first | omega | (simp; omega) | (simp; done) | (dsimp only; omega)) _) | (refine below_drewN ?_ _) | (refine Below.drew ?_) | (refine Below.trans ?_ (hbw.mono (by first | omega | (simp; omega) | (simp; done) | (dsimp only; omega)))))⟩
end Go.Proofs.Ytmgfpcchlonknaa
