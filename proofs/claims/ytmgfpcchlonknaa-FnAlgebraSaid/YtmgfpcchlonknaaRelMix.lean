/-
  Joining, meeting and subtracting relations; the converse and the composition, in the program.
-/
import Derived.Test.YtmgfpcchlonknaaRel5
namespace Go.Proofs.Ytmgfpcchlonknaa
set_option maxRecDepth 100000
open Go.RowKit

theorem gridP_at {xs : List (List Int)} {a : Nat} {r : List Int} (h : xs[a]? = some r) (b : Nat) : gridP xs a b = hasB r b := by simp [gridP, List.getD, h]
def mixM (f : Bool → Bool → Bool) (r s : Relation) : Relation := if bothOk r s = true then ⟨r.size, relM r.size.toNat fun a b => f (gridP r.rows a b) (gridP s.rows a b)⟩ else zeroRel
theorem mixM_in {f : Bool → Bool → Bool} {n : Nat} {xs ys : List (List Int)} (h : bothOk ⟨n, xs⟩ ⟨n, ys⟩ = true) : mixM f ⟨n, xs⟩ ⟨n, ys⟩ = ⟨n, relM n fun a b => f (gridP xs a b) (gridP ys a b)⟩ := by rw [mixM, if_pos h]; simp
theorem mixM_out {f : Bool → Bool → Bool} {r s : Relation} (h : bothOk r s = false) : mixM f r s = zeroRel := by rw [mixM, if_neg (by rw [h]; simp)]
def convM (r : Relation) : Relation := if relOk r = true then ⟨r.size, relM r.size.toNat fun a b => gridP r.rows b a⟩ else zeroRel
theorem convM_in {n : Nat} {xs : List (List Int)} (h : relOk ⟨n, xs⟩ = true) : convM ⟨n, xs⟩ = ⟨n, relM n fun a b => gridP xs b a⟩ := by rw [convM, if_pos h]; simp
theorem convM_out {r : Relation} (h : relOk r = false) : convM r = zeroRel := by rw [convM, if_neg (by rw [h]; simp)]
def stepP (n : Nat) (p q : Nat → Nat → Bool) : Nat → Nat → Bool := fun a c => (List.range n).any fun b => p a b && q b c
def compM (r s : Relation) : Relation := if bothOk r s = true then ⟨r.size, relM r.size.toNat (stepP r.size.toNat (gridP r.rows) (gridP s.rows))⟩ else zeroRel
theorem compM_in {n : Nat} {xs ys : List (List Int)} (h : bothOk ⟨n, xs⟩ ⟨n, ys⟩ = true) : compM ⟨n, xs⟩ ⟨n, ys⟩ = ⟨n, relM n (stepP n (gridP xs) (gridP ys))⟩ := by rw [compM, if_pos h]; simp
theorem compM_out {r s : Relation} (h : bothOk r s = false) : compM r s = zeroRel := by rw [compM, if_neg (by rw [h]; simp)]

set_option maxHeartbeats 1000000 in
theorem ruleJoinRelations (W : World) (n b1 b2 : Nat) (A B : Option Addr) (c d : Nat) (xs ys : List (List Int)) (hx : xs.length = n) (hy : ys.length = n)
    (c1 : W.cell? ⟨b1, 1, none⟩ = some (.slice A n c)) (c2 : W.cell? ⟨b2, 1, none⟩ = some (.slice B n d)) (h : EIntS.AS W 0 W.heap.size A xs) (h' : EIntS.AS W 0 W.heap.size B ys) (l1 : b1 < W.heap.size) (l2 : b2 < W.heap.size) :
    Rule2 W n 0 W.heap.size 100 #[] #[.pointer (some ⟨b1, 0, none⟩), .pointer (some ⟨b2, 0, none⟩)] (fun a b => gridP xs a b || gridP ys a b) where
  enter := fun args w' => by kernel_rfl
  ans := fun a b w' ha hb hs => by
    have d1 := (hs.cell (p := ⟨b1, 1, none⟩) (Nat.zero_le _) l1).trans c1
    have d2 := (hs.cell (p := ⟨b2, 1, none⟩) (Nat.zero_le _) l2).trans c2
    obtain ⟨g1, o1, r1, B1, e1, rfl, _, m1, _, x1, k1, _, _, q1⟩ := AIntS.at_ (k := a) (h.same hs) (by omega)
    obtain ⟨g2, o2, r2, B2, e2, rfl, _, m2, _, x2, k2, _, _, q2⟩ := AIntS.at_ (k := a) (h'.same hs) (by omega)
    have i1 : (0 : Int) ≤ (a : Int) ∧ (a : Int) < (n : Int) := by omega
    have X1 := Lib.hid x1; have X2 := Lib.hid x2; clear x1 x2 hx hy
    have hp : (gridP xs a b || gridP ys a b) = (hasB r1 b || hasB r2 b) := by rw [gridP_at X1.out, gridP_at X2.out]
    have HP := Lib.hid hp; clear hp
    cases v1 : hasB r1 b <;> cases v2 : hasB r2 b
    all_goals
      have V1 := Lib.hid v1; have V2 := Lib.hid v2; clear v1 v2
      go_enter Try.func100, Try.ntmps100
      go_wp2_with (go_at_call 72; first | ((with_reducible refine (hasInt_any B1 e1 0 W.heap.size r1 b _ q1).mono ?_); rintro e w2 ⟨rfl, rfl⟩; simp only [V1.out]) | ((with_reducible refine (hasInt_any B2 e2 0 W.heap.size r2 b _ q2).mono ?_); rintro e w2 ⟨rfl, rfl⟩; simp only [V2.out]))
      go_ret
      exact ⟨ret_bool (by rw [HP.out, V1.out, V2.out]; rfl), Below.refl _ _⟩
theorem implJoinRelations_any (s t : Int) (A B : Option Addr) (c d lo hi lo' hi' : Nat) (xs ys : List (List Int)) (w : World) (h : EIntS.AS w lo hi A xs) (h' : EIntS.AS w lo' hi' B ys) (hh : hi ≤ w.heap.size) (hh' : hi' ≤ w.heap.size) :
    Calls Try.prog 51 #[.agg #[.int .i64 s, .slice A xs.length c], .agg #[.int .i64 t, .slice B ys.length d]] w (RetRel w ((mixM fun x y => x || y) ⟨s, xs⟩ ⟨t, ys⟩)) := by
  cases hok : bothOk ⟨s, xs⟩ ⟨t, ys⟩ with
  | false =>
    rw [mixM_out hok]
    have HO := Lib.hid hok; clear hok
    go_enter Try.func51, Try.ntmps51
    go_wp2_with (go_at_call 71; refine (two_any s t A B c d lo hi lo' hi' xs ys _ (h.same (by (with_reducible repeat' first | exact Same.refl _ _ _ | assumption | (refine Same.setCell ?_ (by first | omega | (simp; omega) | (simp; done) | (dsimp only; omega)) _) | (refine Same.alloc ?_ (by first | omega | (simp; omega) | (simp; done) | (dsimp only; omega)) _) | (refine Same.drewN ?_ _) | (refine Same.drew ?_)))) (h'.same (by (with_reducible repeat' first | exact Same.refl _ _ _ | assumption | (refine Same.setCell ?_ (by first | omega | (simp; omega) | (simp; done) | (dsimp only; omega)) _) | (refine Same.alloc ?_ (by first | omega | (simp; omega) | (simp; done) | (dsimp only; omega)) _) | (refine Same.drewN ?_ _) | (refine Same.drew ?_)))) (by first | omega | (simp; omega) | (simp; done) | (dsimp only; omega)) (by first | omega | (simp; omega) | (simp; done) | (dsimp only; omega))).mono ?_; rintro e w1 ⟨rfl, hb1⟩; simp only [HO.out]; (obtain ⟨hb1c, hb1f⟩ := bcell hb1); (have hb1z := hb1.size); (try simp only [szs] at hb1c hb1f hb1z))
    exact bodyPost_ret (v := .agg #[.int .i64 0, .slice none 0 0]) (by simp [results, Try.results51, go_sem, hb1c]) rfl (RetRel.zero (by (with_reducible repeat' first | exact Below.refl _ _ | assumption | (refine Below.setCell ?_ (by first | omega | (simp; omega) | (simp; done) | (dsimp only; omega)) _) | (refine Below.alloc ?_ (by first | omega | (simp; omega) | (simp; done) | (dsimp only; omega)) _) | (refine below_drewN ?_ _) | (refine Below.drew ?_) | (refine Below.trans ?_ (hb1.mono (by first | omega | (simp; omega) | (simp; done) | (dsimp only; omega)))))))
  | true =>
    obtain ⟨o1, o2, hst⟩ := bothOk_parts hok
    obtain ⟨n, rfl, hn, hl, _⟩ := relOk_parts o1
    obtain ⟨n', hnn, _, hl', _⟩ := relOk_parts o2
    obtain rfl : t = (n : Int) := hst.symm
    obtain rfl : n' = n := by omega
    clear hst hnn o1 o2
    rw [mixM_in hok]
    have HO := Lib.hid hok; clear hok
    have HL := Lib.hid hl; have HL' := Lib.hid hl'; clear hl hl'
    go_enter Try.func51, Try.ntmps51
    go_wp2_with (first
      | (go_at_call 71; (with_reducible refine (two_any n' n' A B c d lo hi lo' hi' xs ys _ (h.same (by (with_reducible repeat' first | exact Same.refl _ _ _ | assumption | (refine Same.setCell ?_ (by first | omega | (simp; omega) | (simp; done) | (dsimp only; omega)) _) | (refine Same.alloc ?_ (by first | omega | (simp; omega) | (simp; done) | (dsimp only; omega)) _) | (refine Same.drewN ?_ _) | (refine Same.drew ?_)))) (h'.same (by (with_reducible repeat' first | exact Same.refl _ _ _ | assumption | (refine Same.setCell ?_ (by first | omega | (simp; omega) | (simp; done) | (dsimp only; omega)) _) | (refine Same.alloc ?_ (by first | omega | (simp; omega) | (simp; done) | (dsimp only; omega)) _) | (refine Same.drewN ?_ _) | (refine Same.drew ?_)))) (by first | omega | (simp; omega) | (simp; done) | (dsimp only; omega)) (by first | omega | (simp; omega) | (simp; done) | (dsimp only; omega))).mono ?_); rintro e w1 ⟨rfl, hb1⟩; simp only [HO.out]; (obtain ⟨hb1c, hb1f⟩ := bcell hb1); (have hb1z := hb1.size); (try simp only [szs] at hb1c hb1f hb1z); (have g1 : EIntS.AS w1 lo hi A xs := h.same (by (with_reducible repeat' first | exact Same.refl _ _ _ | assumption | (refine Same.setCell ?_ (by first | omega | (simp; omega) | (simp; done) | (dsimp only; omega)) _) | (refine Same.alloc ?_ (by first | omega | (simp; omega) | (simp; done) | (dsimp only; omega)) _) | (refine Same.drewN ?_ _) | (refine Same.drew ?_) | (refine Same.trans ?_ (Same.of_below hb1 (by first | omega | (simp; omega) | (simp; done) | (dsimp only; omega))))))); (have g2 : EIntS.AS w1 lo' hi' B ys := h'.same (by (with_reducible repeat' first | exact Same.refl _ _ _ | assumption | (refine Same.setCell ?_ (by first | omega | (simp; omega) | (simp; done) | (dsimp only; omega)) _) | (refine Same.alloc ?_ (by first | omega | (simp; omega) | (simp; done) | (dsimp only; omega)) _) | (refine Same.drewN ?_ _) | (refine Same.drew ?_) | (refine Same.trans ?_ (Same.of_below hb1 (by first | omega | (simp; omega) | (simp; done) | (dsimp only; omega))))))))
      | (go_at_call 78; refine (related_any _ #[] _ n' 0 w1.heap.size _ w1 hn (ruleJoinRelations w1 n' w.heap.size (w.heap.size + 1) A B c d xs ys HL.out HL'.out ?_ ?_ (g1.mono (Nat.zero_le _) (by omega)) (g2.mono (Nat.zero_le _) (by omega)) (by omega) (by omega)) (Nat.le_refl _)).mono ?_; (rw [hb1c _ _ (by omega)]; simp [go_sem, HL.out]); (rw [hb1c _ _ (by omega)]; simp [go_sem, HL'.out]); rintro e w2 ⟨A2, c2, rfl, ho2, hb2⟩; (obtain ⟨hb2c, hb2f⟩ := bcell hb2); (have hb2z := hb2.size); (try simp only [szs] at hb2c hb2f hb2z); (have lt2 : w.heap.size + 2 < w1.heap.size := (by omega))))
    exact bodyPost_ret (v := .agg #[.int .i64 n', .slice A2 n' c2]) (by simp [results, Try.results51, go_sem, hb1c, hb2c, lt2]) rfl ⟨A2, c2, by simp only [relM_len], by simpa only [relM_len] using (ho2.same (by (with_reducible repeat' first | exact Same.refl _ _ _ | assumption | (refine Same.setCell ?_ (by first | omega | (simp; omega) | (simp; done) | (dsimp only; omega)) _) | (refine Same.alloc ?_ (by first | omega | (simp; omega) | (simp; done) | (dsimp only; omega)) _) | (refine Same.drewN ?_ _) | (refine Same.drew ?_)))).mono (by first | omega | (simp; omega) | (simp; done) | (dsimp only; omega)) (by first | omega | (simp; omega) | (simp; done) | (dsimp only; omega)), by (with_reducible repeat' first | exact Below.refl _ _ | assumption | (refine Below.setCell ?_ (by first | omega | (simp; omega) | (simp; done) | (dsimp only; omega)) _) | (refine Below.alloc ?_ (by first | omega | (simp; omega) | (simp; done) | (dsimp only; omega)) _) | (refine below_drewN ?_ _) | (refine Below.drew ?_) | (refine Below.trans ?_ (hb2.mono (by first | omega | (simp; omega) | (simp; done) | (dsimp only; omega)))) | (refine Below.trans ?_ (hb1.mono (by first | omega | (simp; omega) | (simp; done) | (dsimp only; omega)))))⟩

set_option maxHeartbeats 1000000 in
theorem ruleMeetRelations (W : World) (n b1 b2 : Nat) (A B : Option Addr) (c d : Nat) (xs ys : List (List Int)) (hx : xs.length = n) (hy : ys.length = n)
    (c1 : W.cell? ⟨b1, 1, none⟩ = some (.slice A n c)) (c2 : W.cell? ⟨b2, 1, none⟩ = some (.slice B n d)) (h : EIntS.AS W 0 W.heap.size A xs) (h' : EIntS.AS W 0 W.heap.size B ys) (l1 : b1 < W.heap.size) (l2 : b2 < W.heap.size) :
    Rule2 W n 0 W.heap.size 102 #[] #[.pointer (some ⟨b1, 0, none⟩), .pointer (some ⟨b2, 0, none⟩)] (fun a b => gridP xs a b && gridP ys a b) where
  enter := fun args w' => by kernel_rfl
  ans := fun a b w' ha hb hs => by
    have d1 := (hs.cell (p := ⟨b1, 1, none⟩) (Nat.zero_le _) l1).trans c1
    have d2 := (hs.cell (p := ⟨b2, 1, none⟩) (Nat.zero_le _) l2).trans c2
    obtain ⟨g1, o1, r1, B1, e1, rfl, _, m1, _, x1, k1, _, _, q1⟩ := AIntS.at_ (k := a) (h.same hs) (by omega)
    obtain ⟨g2, o2, r2, B2, e2, rfl, _, m2, _, x2, k2, _, _, q2⟩ := AIntS.at_ (k := a) (h'.same hs) (by omega)
    have i1 : (0 : Int) ≤ (a : Int) ∧ (a : Int) < (n : Int) := by omega
    have X1 := Lib.hid x1; have X2 := Lib.hid x2; clear x1 x2 hx hy
    have hp : (gridP xs a b && gridP ys a b) = (hasB r1 b && hasB r2 b) := by rw [gridP_at X1.out, gridP_at X2.out]
    have HP := Lib.hid hp; clear hp
    cases v1 : hasB r1 b <;> cases v2 : hasB r2 b
    all_goals
      have V1 := Lib.hid v1; have V2 := Lib.hid v2; clear v1 v2
      go_enter Try.func102, Try.ntmps102
      go_wp2_with (go_at_call 72; first | ((with_reducible refine (hasInt_any B1 e1 0 W.heap.size r1 b _ q1).mono ?_); rintro e w2 ⟨rfl, rfl⟩; simp only [V1.out]) | ((with_reducible refine (hasInt_any B2 e2 0 W.heap.size r2 b _ q2).mono ?_); rintro e w2 ⟨rfl, rfl⟩; simp only [V2.out]))
      go_ret
      exact ⟨ret_bool (by rw [HP.out, V1.out, V2.out]; rfl), Below.refl _ _⟩
theorem implMeetRelations_any (s t : Int) (A B : Option Addr) (c d lo hi lo' hi' : Nat) (xs ys : List (List Int)) (w : World) (h : EIntS.AS w lo hi A xs) (h' : EIntS.AS w lo' hi' B ys) (hh : hi ≤ w.heap.size) (hh' : hi' ≤ w.heap.size) :
    Calls Try.prog 55 #[.agg #[.int .i64 s, .slice A xs.length c], .agg #[.int .i64 t, .slice B ys.length d]] w (RetRel w ((mixM fun x y => x && y) ⟨s, xs⟩ ⟨t, ys⟩)) := by
  cases hok : bothOk ⟨s, xs⟩ ⟨t, ys⟩ with
  | false =>
    rw [mixM_out hok]
    have HO := Lib.hid hok; clear hok
    go_enter Try.func55, Try.ntmps55
    go_wp2_with (go_at_call 71; refine (two_any s t A B c d lo hi lo' hi' xs ys _ (h.same (by (with_reducible repeat' first | exact Same.refl _ _ _ | assumption | (refine Same.setCell ?_ (by first | omega | (simp; omega) | (simp; done) | (dsimp only; omega)) _) | (refine Same.alloc ?_ (by first | omega | (simp; omega) | (simp; done) | (dsimp only; omega)) _) | (refine Same.drewN ?_ _) | (refine Same.drew ?_)))) (h'.same (by (with_reducible repeat' first | exact Same.refl _ _ _ | assumption | (refine Same.setCell ?_ (by first | omega | (simp; omega) | (simp; done) | (dsimp only; omega)) _) | (refine Same.alloc ?_ (by first | omega | (simp; omega) | (simp; done) | (dsimp only; omega)) _) | (refine Same.drewN ?_ _) | (refine Same.drew ?_)))) (by first | omega | (simp; omega) | (simp; done) | (dsimp only; omega)) (by first | omega | (simp; omega) | (simp; done) | (dsimp only; omega))).mono ?_; rintro e w1 ⟨rfl, hb1⟩; simp only [HO.out]; (obtain ⟨hb1c, hb1f⟩ := bcell hb1); (have hb1z := hb1.size); (try simp only [szs] at hb1c hb1f hb1z))
    exact bodyPost_ret (v := .agg #[.int .i64 0, .slice none 0 0]) (by simp [results, Try.results55, go_sem, hb1c]) rfl (RetRel.zero (by (with_reducible repeat' first | exact Below.refl _ _ | assumption | (refine Below.setCell ?_ (by first | omega | (simp; omega) | (simp; done) | (dsimp only; omega)) _) | (refine Below.alloc ?_ (by first | omega | (simp; omega) | (simp; done) | (dsimp only; omega)) _) | (refine below_drewN ?_ _) | (refine Below.drew ?_) | (refine Below.trans ?_ (hb1.mono (by first | omega | (simp; omega) | (simp; done) | (dsimp only; omega)))))))
  | true =>
    obtain ⟨o1, o2, hst⟩ := bothOk_parts hok
    obtain ⟨n, rfl, hn, hl, _⟩ := relOk_parts o1
    obtain ⟨n', hnn, _, hl', _⟩ := relOk_parts o2
    obtain rfl : t = (n : Int) := hst.symm
    obtain rfl : n' = n := by omega
    clear hst hnn o1 o2
    rw [mixM_in hok]
    have HO := Lib.hid hok; clear hok
    have HL := Lib.hid hl; have HL' := Lib.hid hl'; clear hl hl'
    go_enter Try.func55, Try.ntmps55
    go_wp2_with (first
      | (go_at_call 71; (with_reducible refine (two_any n' n' A B c d lo hi lo' hi' xs ys _ (h.same (by (with_reducible repeat' first | exact Same.refl _ _ _ | assumption | (refine Same.setCell ?_ (by first | omega | (simp; omega) | (simp; done) | (dsimp only; omega)) _) | (refine Same.alloc ?_ (by first | omega | (simp; omega) | (simp; done) | (dsimp only; omega)) _) | (refine Same.drewN ?_ _) | (refine Same.drew ?_)))) (h'.same (by (with_reducible repeat' first | exact Same.refl _ _ _ | assumption | (refine Same.setCell ?_ (by first | omega | (simp; omega) | (simp; done) | (dsimp only; omega)) _) | (refine Same.alloc ?_ (by first | omega | (simp; omega) | (simp; done) | (dsimp only; omega)) _) | (refine Same.drewN ?_ _) | (refine Same.drew ?_)))) (by first | omega | (simp; omega) | (simp; done) | (dsimp only; omega)) (by first | omega | (simp; omega) | (simp; done) | (dsimp only; omega))).mono ?_); rintro e w1 ⟨rfl, hb1⟩; simp only [HO.out]; (obtain ⟨hb1c, hb1f⟩ := bcell hb1); (have hb1z := hb1.size); (try simp only [szs] at hb1c hb1f hb1z); (have g1 : EIntS.AS w1 lo hi A xs := h.same (by (with_reducible repeat' first | exact Same.refl _ _ _ | assumption | (refine Same.setCell ?_ (by first | omega | (simp; omega) | (simp; done) | (dsimp only; omega)) _) | (refine Same.alloc ?_ (by first | omega | (simp; omega) | (simp; done) | (dsimp only; omega)) _) | (refine Same.drewN ?_ _) | (refine Same.drew ?_) | (refine Same.trans ?_ (Same.of_below hb1 (by first | omega | (simp; omega) | (simp; done) | (dsimp only; omega))))))); (have g2 : EIntS.AS w1 lo' hi' B ys := h'.same (by (with_reducible repeat' first | exact Same.refl _ _ _ | assumption | (refine Same.setCell ?_ (by first | omega | (simp; omega) | (simp; done) | (dsimp only; omega)) _) | (refine Same.alloc ?_ (by first | omega | (simp; omega) | (simp; done) | (dsimp only; omega)) _) | (refine Same.drewN ?_ _) | (refine Same.drew ?_) | (refine Same.trans ?_ (Same.of_below hb1 (by first | omega | (simp; omega) | (simp; done) | (dsimp only; omega))))))))
      | (go_at_call 78; refine (related_any _ #[] _ n' 0 w1.heap.size _ w1 hn (ruleMeetRelations w1 n' w.heap.size (w.heap.size + 1) A B c d xs ys HL.out HL'.out ?_ ?_ (g1.mono (Nat.zero_le _) (by omega)) (g2.mono (Nat.zero_le _) (by omega)) (by omega) (by omega)) (Nat.le_refl _)).mono ?_; (rw [hb1c _ _ (by omega)]; simp [go_sem, HL.out]); (rw [hb1c _ _ (by omega)]; simp [go_sem, HL'.out]); rintro e w2 ⟨A2, c2, rfl, ho2, hb2⟩; (obtain ⟨hb2c, hb2f⟩ := bcell hb2); (have hb2z := hb2.size); (try simp only [szs] at hb2c hb2f hb2z); (have lt2 : w.heap.size + 2 < w1.heap.size := (by omega))))
    exact bodyPost_ret (v := .agg #[.int .i64 n', .slice A2 n' c2]) (by simp [results, Try.results55, go_sem, hb1c, hb2c, lt2]) rfl ⟨A2, c2, by simp only [relM_len], by simpa only [relM_len] using (ho2.same (by (with_reducible repeat' first | exact Same.refl _ _ _ | assumption | (refine Same.setCell ?_ (by first | omega | (simp; omega) | (simp; done) | (dsimp only; omega)) _) | (refine Same.alloc ?_ (by first | omega | (simp; omega) | (simp; done) | (dsimp only; omega)) _) | (refine Same.drewN ?_ _) | (refine Same.drew ?_)))).mono (by first | omega | (simp; omega) | (simp; done) | (dsimp only; omega)) (by first | omega | (simp; omega) | (simp; done) | (dsimp only; omega)), by (with_reducible repeat' first | exact Below.refl _ _ | assumption | (refine Below.setCell ?_ (by first | omega | (simp; omega) | (simp; done) | (dsimp only; omega)) _) | (refine Below.alloc ?_ (by first | omega | (simp; omega) | (simp; done) | (dsimp only; omega)) _) | (refine below_drewN ?_ _) | (refine Below.drew ?_) | (refine Below.trans ?_ (hb2.mono (by first | omega | (simp; omega) | (simp; done) | (dsimp only; omega)))) | (refine Below.trans ?_ (hb1.mono (by first | omega | (simp; omega) | (simp; done) | (dsimp only; omega)))))⟩

set_option maxHeartbeats 1000000 in
theorem ruleLessRelation (W : World) (n b1 b2 : Nat) (A B : Option Addr) (c d : Nat) (xs ys : List (List Int)) (hx : xs.length = n) (hy : ys.length = n)
    (c1 : W.cell? ⟨b1, 1, none⟩ = some (.slice A n c)) (c2 : W.cell? ⟨b2, 1, none⟩ = some (.slice B n d)) (h : EIntS.AS W 0 W.heap.size A xs) (h' : EIntS.AS W 0 W.heap.size B ys) (l1 : b1 < W.heap.size) (l2 : b2 < W.heap.size) :
    Rule2 W n 0 W.heap.size 101 #[] #[.pointer (some ⟨b1, 0, none⟩), .pointer (some ⟨b2, 0, none⟩)] (fun a b => gridP xs a b && !gridP ys a b) where
  enter := fun args w' => by kernel_rfl
  ans := fun a b w' ha hb hs => by
    have d1 := (hs.cell (p := ⟨b1, 1, none⟩) (Nat.zero_le _) l1).trans c1
    have d2 := (hs.cell (p := ⟨b2, 1, none⟩) (Nat.zero_le _) l2).trans c2
    obtain ⟨g1, o1, r1, B1, e1, rfl, _, m1, _, x1, k1, _, _, q1⟩ := AIntS.at_ (k := a) (h.same hs) (by omega)
    obtain ⟨g2, o2, r2, B2, e2, rfl, _, m2, _, x2, k2, _, _, q2⟩ := AIntS.at_ (k := a) (h'.same hs) (by omega)
    have i1 : (0 : Int) ≤ (a : Int) ∧ (a : Int) < (n : Int) := by omega
    have X1 := Lib.hid x1; have X2 := Lib.hid x2; clear x1 x2 hx hy
    have hp : (gridP xs a b && !gridP ys a b) = (hasB r1 b && !hasB r2 b) := by rw [gridP_at X1.out, gridP_at X2.out]
    have HP := Lib.hid hp; clear hp
    cases v1 : hasB r1 b <;> cases v2 : hasB r2 b
    all_goals
      have V1 := Lib.hid v1; have V2 := Lib.hid v2; clear v1 v2
      go_enter Try.func101, Try.ntmps101
      go_wp2_with (go_at_call 72; first | ((with_reducible refine (hasInt_any B1 e1 0 W.heap.size r1 b _ q1).mono ?_); rintro e w2 ⟨rfl, rfl⟩; simp only [V1.out]) | ((with_reducible refine (hasInt_any B2 e2 0 W.heap.size r2 b _ q2).mono ?_); rintro e w2 ⟨rfl, rfl⟩; simp only [V2.out]))
      go_ret
      exact ⟨ret_bool (by rw [HP.out, V1.out, V2.out]; rfl), Below.refl _ _⟩
theorem implLessRelation_any (s t : Int) (A B : Option Addr) (c d lo hi lo' hi' : Nat) (xs ys : List (List Int)) (w : World) (h : EIntS.AS w lo hi A xs) (h' : EIntS.AS w lo' hi' B ys) (hh : hi ≤ w.heap.size) (hh' : hi' ≤ w.heap.size) :
    Calls Try.prog 53 #[.agg #[.int .i64 s, .slice A xs.length c], .agg #[.int .i64 t, .slice B ys.length d]] w (RetRel w ((mixM fun x y => x && !y) ⟨s, xs⟩ ⟨t, ys⟩)) := by
  cases hok : bothOk ⟨s, xs⟩ ⟨t, ys⟩ with
  | false =>
    rw [mixM_out hok]
    have HO := Lib.hid hok; clear hok
    go_enter Try.func53, Try.ntmps53
    go_wp2_with (go_at_call 71; refine (two_any s t A B c d lo hi lo' hi' xs ys _ (h.same (by (with_reducible repeat' first | exact Same.refl _ _ _ | assumption | (refine Same.setCell ?_ (by first | omega | (simp; omega) | (simp; done) | (dsimp only; omega)) _) | (refine Same.alloc ?_ (by first | omega | (simp; omega) | (simp; done) | (dsimp only; omega)) _) | (refine Same.drewN ?_ _) | (refine Same.drew ?_)))) (h'.same (by (with_reducible repeat' first | exact Same.refl _ _ _ | assumption | (refine Same.setCell ?_ (by first | omega | (simp; omega) | (simp; done) | (dsimp only; omega)) _) | (refine Same.alloc ?_ (by first | omega | (simp; omega) | (simp; done) | (dsimp only; omega)) _) | (refine Same.drewN ?_ _) | (refine Same.drew ?_)))) (by first | omega | (simp; omega) | (simp; done) | (dsimp only; omega)) (by first | omega | (simp; omega) | (simp; done) | (dsimp only; omega))).mono ?_; rintro e w1 ⟨rfl, hb1⟩; simp only [HO.out]; (obtain ⟨hb1c, hb1f⟩ := bcell hb1); (have hb1z := hb1.size); (try simp only [szs] at hb1c hb1f hb1z))
    exact bodyPost_ret (v := .agg #[.int .i64 0, .slice none 0 0]) (by simp [results, Try.results53, go_sem, hb1c]) rfl (RetRel.zero (by (with_reducible repeat' first | exact Below.refl _ _ | assumption | (refine Below.setCell ?_ (by first | omega | (simp; omega) | (simp; done) | (dsimp only; omega)) _) | (refine Below.alloc ?_ (by first | omega | (simp; omega) | (simp; done) | (dsimp only; omega)) _) | (refine below_drewN ?_ _) | (refine Below.drew ?_) | (refine Below.trans ?_ (hb1.mono (by first | omega | (simp; omega) | (simp; done) | (dsimp only; omega)))))))
  | true =>
    obtain ⟨o1, o2, hst⟩ := bothOk_parts hok
    obtain ⟨n, rfl, hn, hl, _⟩ := relOk_parts o1
    obtain ⟨n', hnn, _, hl', _⟩ := relOk_parts o2
    obtain rfl : t = (n : Int) := hst.symm
    obtain rfl : n' = n := by omega
    clear hst hnn o1 o2
    rw [mixM_in hok]
    have HO := Lib.hid hok; clear hok
    have HL := Lib.hid hl; have HL' := Lib.hid hl'; clear hl hl'
    go_enter Try.func53, Try.ntmps53
    go_wp2_with (first
      | (go_at_call 71; (with_reducible refine (two_any n' n' A B c d lo hi lo' hi' xs ys _ (h.same (by (with_reducible repeat' first | exact Same.refl _ _ _ | assumption | (refine Same.setCell ?_ (by first | omega | (simp; omega) | (simp; done) | (dsimp only; omega)) _) | (refine Same.alloc ?_ (by first | omega | (simp; omega) | (simp; done) | (dsimp only; omega)) _) | (refine Same.drewN ?_ _) | (refine Same.drew ?_)))) (h'.same (by (with_reducible repeat' first | exact Same.refl _ _ _ | assumption | (refine Same.setCell ?_ (by first | omega | (simp; omega) | (simp; done) | (dsimp only; omega)) _) | (refine Same.alloc ?_ (by first | omega | (simp; omega) | (simp; done) | (dsimp only; omega)) _) | (refine Same.drewN ?_ _) | (refine Same.drew ?_)))) (by first | omega | (simp; omega) | (simp; done) | (dsimp only; omega)) (by first | omega | (simp; omega) | (simp; done) | (dsimp only; omega))).mono ?_); rintro e w1 ⟨rfl, hb1⟩; simp only [HO.out]; (obtain ⟨hb1c, hb1f⟩ := bcell hb1); (have hb1z := hb1.size); (try simp only [szs] at hb1c hb1f hb1z); (have g1 : EIntS.AS w1 lo hi A xs := h.same (by (with_reducible repeat' first | exact Same.refl _ _ _ | assumption | (refine Same.setCell ?_ (by first | omega | (simp; omega) | (simp; done) | (dsimp only; omega)) _) | (refine Same.alloc ?_ (by first | omega | (simp; omega) | (simp; done) | (dsimp only; omega)) _) | (refine Same.drewN ?_ _) | (refine Same.drew ?_) | (refine Same.trans ?_ (Same.of_below hb1 (by first | omega | (simp; omega) | (simp; done) | (dsimp only; omega))))))); (have g2 : EIntS.AS w1 lo' hi' B ys := h'.same (by (with_reducible repeat' first | exact Same.refl _ _ _ | assumption | (refine Same.setCell ?_ (by first | omega | (simp; omega) | (simp; done) | (dsimp only; omega)) _) | (refine Same.alloc ?_ (by first | omega | (simp; omega) | (simp; done) | (dsimp only; omega)) _) | (refine Same.drewN ?_ _) | (refine Same.drew ?_) | (refine Same.trans ?_ (Same.of_below hb1 (by first | omega | (simp; omega) | (simp; done) | (dsimp only; omega))))))))
      | (go_at_call 78; refine (related_any _ #[] _ n' 0 w1.heap.size _ w1 hn (ruleLessRelation w1 n' w.heap.size (w.heap.size + 1) A B c d xs ys HL.out HL'.out ?_ ?_ (g1.mono (Nat.zero_le _) (by omega)) (g2.mono (Nat.zero_le _) (by omega)) (by omega) (by omega)) (Nat.le_refl _)).mono ?_; (rw [hb1c _ _ (by omega)]; simp [go_sem, HL.out]); (rw [hb1c _ _ (by omega)]; simp [go_sem, HL'.out]); rintro e w2 ⟨A2, c2, rfl, ho2, hb2⟩; (obtain ⟨hb2c, hb2f⟩ := bcell hb2); (have hb2z := hb2.size); (try simp only [szs] at hb2c hb2f hb2z); (have lt2 : w.heap.size + 2 < w1.heap.size := (by omega))))
    exact bodyPost_ret (v := .agg #[.int .i64 n', .slice A2 n' c2]) (by simp [results, Try.results53, go_sem, hb1c, hb2c, lt2]) rfl ⟨A2, c2, by simp only [relM_len], by simpa only [relM_len] using (ho2.same (by (with_reducible repeat' first | exact Same.refl _ _ _ | assumption | (refine Same.setCell ?_ (by first | omega | (simp; omega) | (simp; done) | (dsimp only; omega)) _) | (refine Same.alloc ?_ (by first | omega | (simp; omega) | (simp; done) | (dsimp only; omega)) _) | (refine Same.drewN ?_ _) | (refine Same.drew ?_)))).mono (by first | omega | (simp; omega) | (simp; done) | (dsimp only; omega)) (by first | omega | (simp; omega) | (simp; done) | (dsimp only; omega)), by (with_reducible repeat' first | exact Below.refl _ _ | assumption | (refine Below.setCell ?_ (by first | omega | (simp; omega) | (simp; done) | (dsimp only; omega)) _) | (refine Below.alloc ?_ (by first | omega | (simp; omega) | (simp; done) | (dsimp only; omega)) _) | (refine below_drewN ?_ _) | (refine Below.drew ?_) | (refine Below.trans ?_ (hb2.mono (by first | omega | (simp; omega) | (simp; done) | (dsimp only; omega)))) | (refine Below.trans ?_ (hb1.mono (by first | omega | (simp; omega) | (simp; done) | (dsimp only; omega)))))⟩

end Go.Proofs.Ytmgfpcchlonknaa
