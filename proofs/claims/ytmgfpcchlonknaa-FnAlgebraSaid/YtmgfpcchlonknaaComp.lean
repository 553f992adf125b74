/-
  The composition of relations, in the program.
-/
import Derived.Test.YtmgfpcchlonknaaMixS2
namespace Go.Proofs.Ytmgfpcchlonknaa
set_option maxRecDepth 100000
open Go.RowKit

/-- Whether a step from one of a row leads to c. -/
def compB (ys : List (List Int)) (row : List Int) (c : Nat) : Bool := row.any fun b => hasB (ys.getD b.toNat []) c
theorem compB_cons (ys : List (List Int)) (b : Int) (row : List Int) (c : Nat) : compB ys (b :: row) c = (hasB (ys.getD b.toNat []) c || compB ys row c) := by simp [compB]
theorem compB_eq {n a : Nat} {xs ys : List (List Int)} {row : List Int} (c : Nat) (hr : xs[a]? = some row) (hm : ∀ x ∈ row, 0 ≤ x ∧ x < (n : Int)) : stepP n (gridP xs) (gridP ys) a c = compB ys row c := by
  rw [Bool.eq_iff_iff]
  simp only [stepP, compB, List.any_eq_true, Bool.and_eq_true, List.mem_range, gridP_at hr]
  constructor
  · rintro ⟨b, hb, h1, h2⟩
    exact ⟨b, of_decide_eq_true h1, by simpa [gridP] using h2⟩
  · rintro ⟨x, hx, h2⟩
    have hxb := hm x hx
    obtain ⟨b, rfl⟩ := Int.eq_ofNat_of_zero_le hxb.1
    exact ⟨b, by omega, decide_eq_true hx, by simpa [gridP] using h2⟩
theorem relOk_mem {n : Nat} {xs : List (List Int)} (h : relOk ⟨n, xs⟩ = true) : ∀ r ∈ xs, ∀ x ∈ r, 0 ≤ x ∧ x < (n : Int) := by
  obtain ⟨m, hm, _, _, hr⟩ := relOk_parts h
  obtain rfl : m = n := by omega
  intro r h1 x h2
  have := rowOk_mem (hr r h1) x h2
  omega

def CompRel (ys : List (List Int)) (row : List Int) (c : Nat) (w : World) (i : Value) (wr : World) : Prop :=
  ∃ k : Nat, k ≤ row.length ∧ i = .int .i64 k ∧ w = wr ∧ compB ys (row.drop k) c = compB ys row c

set_option maxHeartbeats 1000000 in
theorem ruleComposeRelations (W : World) (n b1 b2 : Nat) (A B : Option Addr) (c d : Nat) (xs ys : List (List Int)) (hx : xs.length = n) (hy : ys.length = n)
    (c1 : W.cell? ⟨b1, 1, none⟩ = some (.slice A n c)) (c2 : W.cell? ⟨b2, 1, none⟩ = some (.slice B n d)) (h : EIntS.AS W 0 W.heap.size A xs) (h' : EIntS.AS W 0 W.heap.size B ys) (l1 : b1 < W.heap.size) (l2 : b2 < W.heap.size) (hm : ∀ r ∈ xs, ∀ x ∈ r, 0 ≤ x ∧ x < (n : Int)) :
    Rule2 W n 0 W.heap.size 104 #[] #[.pointer (some ⟨b1, 0, none⟩), .pointer (some ⟨b2, 0, none⟩)] (stepP n (gridP xs) (gridP ys)) where
  enter := fun args w' => by kernel_rfl
  ans := fun a cc w' ha hb hs => by
    have d1 := (hs.cell (p := ⟨b1, 1, none⟩) (Nat.zero_le _) l1).trans c1
    have d2 := (hs.cell (p := ⟨b2, 1, none⟩) (Nat.zero_le _) l2).trans c2
    obtain ⟨g1, o1, r1, B1, e1, rfl, _, m1, _, x1, k1, _, _, q1⟩ := AIntS.at_ (k := a) (h.same hs) (by omega)
    have i1 : (0 : Int) ≤ (a : Int) ∧ (a : Int) < (n : Int) := by omega
    have hm1 := hm r1 (List.mem_of_getElem? x1)
    have HP := Lib.hid (compB_eq (ys := ys) cc x1 hm1)
    have h2 := h'.same hs
    have hrl := q1.le
    unfold BIG at hrl
    clear x1 hx
    go_enter Try.func104, Try.ntmps104
    go_wp2
    go_loopw [15] (fun i wr => CompRel ys r1 cc w' i wr) (fun i _ => r1.length - (intOf i).toNat)
    case atStart => exact ⟨0, Nat.zero_le _, rfl, rfl, rfl⟩
    case round =>
      obtain ⟨k, hk, rfl, rfl, he⟩ := hrel
      have HE := Lib.hid he; clear he
      by_cases hlt : k < r1.length
      · obtain ⟨b3, o3, x, rfl, _, _, hxd, hxk, hc3⟩ := AInt.at_ q1 hlt
        have hxb := hm1 x (List.mem_of_getElem? hxk)
        obtain ⟨m, rfl⟩ := Int.eq_ofNat_of_zero_le hxb.1
        obtain ⟨g2, o2, r2, B2, e2, rfl, _, m2, _, x2, k2, _, _, q2⟩ := AIntS.at_ (k := m) h2 (by omega)
        have HD := Lib.hid hxd; have HY := Lib.hid (show hasB (ys.getD (m : Int).toNat []) cc = hasB r2 cc by simp [List.getD, x2])
        clear hxd hxk x2 hm1 hm
        cases v1 : hasB r2 cc
        all_goals
          have V1 := Lib.hid v1; clear v1
          go_wp2_with (go_at_call 72; (with_reducible refine (hasInt_any B2 e2 0 W.heap.size r2 cc _ q2).mono ?_); rintro e w2 ⟨rfl, rfl⟩; simp only [V1.out])
        · exact ⟨⟨k + 1, by omega, by go_num, rfl, by rw [← HE.out, HD.out, compB_cons, HY.out, V1.out]; rfl⟩, by simp [intOf]; omega⟩
        · go_ret
          exact ⟨ret_bool (by rw [HP.out, ← HE.out, HD.out, compB_cons, HY.out, V1.out]; rfl), Below.refl _ _⟩
      · go_wp2
        go_ret
        exact ⟨ret_bool (by rw [HP.out, ← HE.out, List.drop_eq_nil_of_le (by omega)]; rfl), Below.refl _ _⟩
theorem implComposeRelations_any (s t : Int) (A B : Option Addr) (c d lo hi lo' hi' : Nat) (xs ys : List (List Int)) (w : World) (h : EIntS.AS w lo hi A xs) (h' : EIntS.AS w lo' hi' B ys) (hh : hi ≤ w.heap.size) (hh' : hi' ≤ w.heap.size) :
    Calls Try.prog 57 #[.agg #[.int .i64 s, .slice A xs.length c], .agg #[.int .i64 t, .slice B ys.length d]] w (RetRel w (compM ⟨s, xs⟩ ⟨t, ys⟩)) := by
  cases hok : bothOk ⟨s, xs⟩ ⟨t, ys⟩ with
  | false =>
    rw [compM_out hok]
    have HO := Lib.hid hok; clear hok
    go_enter Try.func57, Try.ntmps57
    go_wp2_with (go_at_call 71; refine (two_any s t A B c d lo hi lo' hi' xs ys _ (h.same (by (with_reducible repeat' first | exact Same.refl _ _ _ | assumption | (refine Same.setCell ?_ (by first | omega | (simp; omega) | (simp; done) | (dsimp only; omega)) _) | (refine Same.alloc ?_ (by first | omega | (simp; omega) | (simp; done) | (dsimp only; omega)) _) | (refine Same.drewN ?_ _) | (refine Same.drew ?_)))) (h'.same (by (with_reducible repeat' first | exact Same.refl _ _ _ | assumption | (refine Same.setCell ?_ (by first | omega | (simp; omega) | (simp; done) | (dsimp only; omega)) _) | (refine Same.alloc ?_ (by first | omega | (simp; omega) | (simp; done) | (dsimp only; omega)) _) | (refine Same.drewN ?_ _) | (refine Same.drew ?_)))) (by first | omega | (simp; omega) | (simp; done) | (dsimp only; omega)) (by first | omega | (simp; omega) | (simp; done) | (dsimp only; omega))).mono ?_; rintro e w1 ⟨rfl, hb1⟩; simp only [HO.out]; (obtain ⟨hb1c, hb1f⟩ := bcell hb1); (have hb1z := hb1.size); (try simp only [szs] at hb1c hb1f hb1z))
    exact bodyPost_ret (v := .agg #[.int .i64 0, .slice none 0 0]) (by simp [results, Try.results57, go_sem, hb1c]) rfl (RetRel.zero (by (with_reducible repeat' first | exact Below.refl _ _ | assumption | (refine Below.setCell ?_ (by first | omega | (simp; omega) | (simp; done) | (dsimp only; omega)) _) | (refine Below.alloc ?_ (by first | omega | (simp; omega) | (simp; done) | (dsimp only; omega)) _) | (refine below_drewN ?_ _) | (refine Below.drew ?_) | (refine Below.trans ?_ (hb1.mono (by first | omega | (simp; omega) | (simp; done) | (dsimp only; omega)))))))
  | true =>
    obtain ⟨o1, o2, hst⟩ := bothOk_parts hok
    obtain ⟨n, rfl, hn, hl, _⟩ := relOk_parts o1
    obtain ⟨n', hnn, _, hl', _⟩ := relOk_parts o2
    obtain rfl : t = (n : Int) := hst.symm
    obtain rfl : n' = n := by omega
    clear hst hnn o2
    have HM := Lib.hid (relOk_mem o1); clear o1
    rw [compM_in hok]
    have HO := Lib.hid hok; clear hok
    have HL := Lib.hid hl; have HL' := Lib.hid hl'; clear hl hl'
    go_enter Try.func57, Try.ntmps57
    go_wp2_with (first
      | (go_at_call 71; (with_reducible refine (two_any n' n' A B c d lo hi lo' hi' xs ys _ (h.same (by (with_reducible repeat' first | exact Same.refl _ _ _ | assumption | (refine Same.setCell ?_ (by first | omega | (simp; omega) | (simp; done) | (dsimp only; omega)) _) | (refine Same.alloc ?_ (by first | omega | (simp; omega) | (simp; done) | (dsimp only; omega)) _) | (refine Same.drewN ?_ _) | (refine Same.drew ?_)))) (h'.same (by (with_reducible repeat' first | exact Same.refl _ _ _ | assumption | (refine Same.setCell ?_ (by first | omega | (simp; omega) | (simp; done) | (dsimp only; omega)) _) | (refine Same.alloc ?_ (by first | omega | (simp; omega) | (simp; done) | (dsimp only; omega)) _) | (refine Same.drewN ?_ _) | (refine Same.drew ?_)))) (by first | omega | (simp; omega) | (simp; done) | (dsimp only; omega)) (by first | omega | (simp; omega) | (simp; done) | (dsimp only; omega))).mono ?_); rintro e w1 ⟨rfl, hb1⟩; simp only [HO.out]; (obtain ⟨hb1c, hb1f⟩ := bcell hb1); (have hb1z := hb1.size); (try simp only [szs] at hb1c hb1f hb1z); (have g1 : EIntS.AS w1 lo hi A xs := h.same (by (with_reducible repeat' first | exact Same.refl _ _ _ | assumption | (refine Same.setCell ?_ (by first | omega | (simp; omega) | (simp; done) | (dsimp only; omega)) _) | (refine Same.alloc ?_ (by first | omega | (simp; omega) | (simp; done) | (dsimp only; omega)) _) | (refine Same.drewN ?_ _) | (refine Same.drew ?_) | (refine Same.trans ?_ (Same.of_below hb1 (by first | omega | (simp; omega) | (simp; done) | (dsimp only; omega))))))); (have g2 : EIntS.AS w1 lo' hi' B ys := h'.same (by (with_reducible repeat' first | exact Same.refl _ _ _ | assumption | (refine Same.setCell ?_ (by first | omega | (simp; omega) | (simp; done) | (dsimp only; omega)) _) | (refine Same.alloc ?_ (by first | omega | (simp; omega) | (simp; done) | (dsimp only; omega)) _) | (refine Same.drewN ?_ _) | (refine Same.drew ?_) | (refine Same.trans ?_ (Same.of_below hb1 (by first | omega | (simp; omega) | (simp; done) | (dsimp only; omega))))))))
      | (go_at_call 78; refine (related_any _ #[] _ n' 0 w1.heap.size _ w1 hn (ruleComposeRelations w1 n' w.heap.size (w.heap.size + 1) A B c d xs ys HL.out HL'.out ?_ ?_ (g1.mono (Nat.zero_le _) (by omega)) (g2.mono (Nat.zero_le _) (by omega)) (by omega) (by omega) HM.out) (Nat.le_refl _)).mono ?_; (rw [hb1c _ _ (by omega)]; simp [go_sem, HL.out]); (rw [hb1c _ _ (by omega)]; simp [go_sem, HL'.out]); rintro e w2 ⟨A2, c2, rfl, ho2, hb2⟩; (obtain ⟨hb2c, hb2f⟩ := bcell hb2); (have hb2z := hb2.size); (try simp only [szs] at hb2c hb2f hb2z); (have lt2 : w.heap.size + 2 < w1.heap.size := (by omega))))
    exact bodyPost_ret (v := .agg #[.int .i64 n', .slice A2 n' c2]) (by simp [results, Try.results57, go_sem, hb1c, hb2c, lt2]) rfl ⟨A2, c2, by simp only [relM_len], by simpa only [relM_len] using (ho2.same (by (with_reducible repeat' first | exact Same.refl _ _ _ | assumption | (refine Same.setCell ?_ (by first | omega | (simp; omega) | (simp; done) | (dsimp only; omega)) _) | (refine Same.alloc ?_ (by first | omega | (simp; omega) | (simp; done) | (dsimp only; omega)) _) | (refine Same.drewN ?_ _) | (refine Same.drew ?_)))).mono (by first | omega | (simp; omega) | (simp; done) | (dsimp only; omega)) (by first | omega | (simp; omega) | (simp; done) | (dsimp only; omega)), by (with_reducible repeat' first | exact Below.refl _ _ | assumption | (refine Below.setCell ?_ (by first | omega | (simp; omega) | (simp; done) | (dsimp only; omega)) _) | (refine Below.alloc ?_ (by first | omega | (simp; omega) | (simp; done) | (dsimp only; omega)) _) | (refine below_drewN ?_ _) | (refine Below.drew ?_) | (refine Below.trans ?_ (hb2.mono (by first | omega | (simp; omega) | (simp; done) | (dsimp only; omega)))) | (refine Below.trans ?_ (hb1.mono (by first | omega | (simp; omega) | (simp; done) | (dsimp only; omega)))))⟩

end Go.Proofs.Ytmgfpcchlonknaa
