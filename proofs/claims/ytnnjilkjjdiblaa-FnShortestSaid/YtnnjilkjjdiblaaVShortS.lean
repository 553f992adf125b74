/-
  The shortest kin type between two persons, in the reference.
-/
import Derived.Test.YtnnjilkjjdiblaaVAwayS
import Derived.Test.YtnnjilkjjdiblaaVGFamS
import Derived.Test.YtnnjilkjjdiblaaJoinT
import Derived.Test.YtnnjilkjjdiblaaVGFrom
namespace Go.Proofs.Ytnnjilkjjdiblaa
set_option maxRecDepth 100000
open Go.RowKit

theorem shortM_no {xs : List Person} {ys : List Union} {a b : Int} (h : (hasOk xs ys a && hasOk xs ys b) = false) : shortM xs ys a b = (zeroT, false) := by
  rw [shortM, if_neg]; rintro ⟨h1, h2, _⟩; rw [h1, h2] at h; cases h
theorem shortM_far {xs : List Person} {ys : List Union} {a b : Nat} (h : awayM xs ys b a < 0) : shortM xs ys a b = (zeroT, false) := by
  rw [shortM, if_neg]; rintro ⟨_, _, h3⟩; simp only [Int.toNat_natCast] at h3; omega
theorem shortM_in {xs : List Person} {ys : List Union} {a b v : Nat} {x : Person} (h : (hasOk xs ys a && hasOk xs ys b) = true) (hv : awayM xs ys b a = (v : Int)) (hx : xs[a]? = some x) : shortM xs ys a b = (⟨x.sex, pathS xs.length (leadK xs ys) (awayM xs ys b) v (onlyP a)⟩, true) := by
  rw [Bool.and_eq_true] at h
  rw [shortM, if_pos ⟨h.1, h.2, by simp only [Int.toNat_natCast]; omega⟩]
  simp only [Int.toNat_natCast]
  rw [sexAt_of hx, hv]; simp
theorem pathS_none {n m : Nat} {L : Nat → Nat → Nat → Bool} {F : Nat → Int} {q : Nat → Bool} (h : ∀ j, j < 8 → hitsB F m n (reachP n q (L j)) = false) : pathS n L F (m + 1) q = pathS n L F m q := by
  simp only [pathS]; rw [find_none h]
theorem pathS_some {n m k : Nat} {L : Nat → Nat → Nat → Bool} {F : Nat → Int} {q : Nat → Bool} (hk : k < 8) (h : ∀ j, j < k → hitsB F m n (reachP n q (L j)) = false) (hh : hitsB F m n (reachP n q (L k)) = true) : pathS n L F (m + 1) q = kindS k :: pathS n L F m (atS n L F m q k) := by
  simp only [pathS]; rw [find_some hk hh h]
theorem pathI_none {n m : Nat} {L : Nat → Nat → Nat → Bool} {F : Nat → Int} {q : Nat → Bool} (h : ∀ j, j < 8 → hitsB F m n (reachP n q (L j)) = false) : pathI n L F (m + 1) q = pathI n L F m q := by
  simp only [pathI]; rw [find_none h]
theorem pathI_some {n m k : Nat} {L : Nat → Nat → Nat → Bool} {F : Nat → Int} {q : Nat → Bool} (hk : k < 8) (h : ∀ j, j < k → hitsB F m n (reachP n q (L j)) = false) (hh : hitsB F m n (reachP n q (L k)) = true) : pathI n L F (m + 1) q = kindS k :: pathI n L F m (reachP n q (L k)) := by
  simp only [pathI]; rw [find_some hk hh h]
theorem listed_pos {n k m : Nat} {L : Nat → Nat → Nat → Bool} {F : Nat → Int} {q : Nat → Bool} (h : hitsB F m n (reachP n q (L k)) = true) : 0 < (idxTo (atS n L F m q k) n).length := by
  obtain ⟨x, hx, h1, h2⟩ := hitsB_iff.1 h
  have : (x : Int) ∈ idxTo (atS n L F m q k) n := mem_idxTo.2 ⟨x, hx, by unfold atS; rw [h1]; simp [h2], rfl⟩
  exact List.length_pos_of_mem this
theorem listed_zero {n k m : Nat} {L : Nat → Nat → Nat → Bool} {F : Nat → Int} {q : Nat → Bool} (h : hitsB F m n (reachP n q (L k)) = false) : (idxTo (atS n L F m q k) n).length = 0 := by
  rw [List.length_eq_zero_iff, List.eq_nil_iff_forall_not_mem]
  intro z hz
  obtain ⟨x, hx, h1, _⟩ := mem_idxTo.1 hz
  unfold atS at h1
  simp only [Bool.and_eq_true, decide_eq_true_eq] at h1
  have := hitsB_iff.2 ⟨x, hx, h1.1, h1.2⟩
  rw [h] at this; cases this
/-- The marks while they are being sifted. -/
def siftP (F : Nat → Int) (m : Int) (r : Nat → Bool) (x : Nat) : Nat → Bool := fun y => if y < x then r y && decide (F y = m) else r y
theorem siftP_end {n k m : Nat} {L : Nat → Nat → Nat → Bool} {F : Nat → Int} {q : Nat → Bool} : row1 n (siftP F m (reachP n q (L k)) n) = row1 n (atS n L F m q k) := row1_congr fun y hy => by
  unfold siftP atS; rw [if_pos hy]
theorem siftP_succ {n x : Nat} {F : Nat → Int} {m : Int} {r : Nat → Bool} : row1 n (upd1 (siftP F m r x) x (r x && decide (F x = m))) = row1 n (siftP F m r (x + 1)) := row1_congr fun y _ => by
  unfold upd1 siftP
  by_cases hy : y = x
  · subst hy; rw [if_pos rfl, if_pos (by omega)]
  · rw [if_neg hy]
    by_cases h : y < x
    · rw [if_pos h, if_pos (by omega)]
    · rw [if_neg h, if_neg (by omega)]
theorem siftP_at {F : Nat → Int} {m : Int} {r : Nat → Bool} {x : Nat} : siftP F m r x x = r x := by unfold siftP; rw [if_neg (by omega)]
def PathRel (path : Nat → (Nat → Bool) → List Step) (P : List Step) (sex : Int) (n bo : Nat) (W : World) (v i : Value) (wr : World) : Prop :=
  ∃ (l : Nat) (q : Nat → Bool) (acc : List Step) (A : Option Addr) (c : Nat) (As : Option Addr) (cs : Nat), i = .int .i64 ((l : Int) - 1) ∧ v = .slice A n c ∧ EBool.OS wr (bo + 1) wr.heap.size (.slice A n c) (row1 n q) ∧
    Blk wr bo 30 #[.int .i64 sex, .slice As acc.length cs] ∧ EStep.OS wr (bo + 1) wr.heap.size (.slice As acc.length cs) acc ∧ acc ++ path l q = P ∧ acc.length + l ≤ 8 ∧ Below bo W wr

set_option maxHeartbeats 8000000 in
theorem specShortestType_any (A B : Option Addr) (c d lo hi : Nat) (xs : List Person) (ys : List Union) (a b : Int) (w : World) (h : EPerson.AS w lo hi A xs) (h' : EUnion.AS w lo hi B ys) (hh : hi ≤ w.heap.size) (hs : totP xs ≤ 1048576) :
    Calls Try.prog 27 #[.agg #[.slice A xs.length c, .slice B ys.length d], .int .i64 a, .int .i64 b] w (RetTypB w (shortM xs ys a b)) := by
  cases ho : (hasOk xs ys a && hasOk xs ys b) with
  | false =>
    have HN := Lib.hid (shortM_no ho)
    rw [HN.out]
    cases hoa : hasOk xs ys a with
    | false =>
      have HA := Lib.hid hoa
      clear ho hoa
      go_enter Try.func27, Try.ntmps27
      go_wp2_with (go_at_call 105; (with_reducible refine (l1Has_any _ _ _ _ lo hi xs ys a _ (h.same (by (with_reducible repeat' first | exact Same.refl _ _ _ | assumption | (refine Same.setCell ?_ (by first | omega | (simp; omega) | (simp; done) | (dsimp only; omega)) _) | (refine Same.alloc ?_ (by first | omega | (simp; omega) | (simp; done) | (dsimp only; omega)) _) | (refine Same.drewN ?_ _) | (refine Same.drew ?_)))) (h'.same (by (with_reducible repeat' first | exact Same.refl _ _ _ | assumption | (refine Same.setCell ?_ (by first | omega | (simp; omega) | (simp; done) | (dsimp only; omega)) _) | (refine Same.alloc ?_ (by first | omega | (simp; omega) | (simp; done) | (dsimp only; omega)) _) | (refine Same.drewN ?_ _) | (refine Same.drew ?_)))) (by first | omega | (simp; omega) | (simp; done) | (dsimp only; omega)) hs).mono ?_); rintro e w1 ⟨rfl, hb1⟩; simp only [HA.out]; (obtain ⟨hb1c, hb1f⟩ := bcell hb1); (have hb1z := hb1.size); (try simp only [szs] at hb1c hb1f hb1z); (have r1 := (Blk.new (t := 30) (cs := #[.int .i64 0, .slice none 0 0]) (w.alloc (.cells #[.slice A xs.length c, .slice B ys.length d] 26)) (by simp : w.heap.size + 1 = _)).below hb1 (by simp)); (have g0 := r1.cell (i := 0) rfl); (have g1 := r1.cell (i := 1) rfl); (have f0 := r1.free 0); (have f1 := r1.free 1))
      have R := (r1.set 0 (.int .i64 0)).set 1 (.slice none 0 0)
      exact bodyPost_ret (v := .tuple #[.agg #[.int .i64 0, .slice none 0 0], .bool false]) (by simp [results, Try.results27, go_sem, R.cell (i := 0) rfl, R.cell (i := 1) rfl]) rfl (RetTypB.zero (by (with_reducible repeat' first | exact Below.refl _ _ | assumption | (refine Below.setCell ?_ (by first | omega | (simp; omega) | (simp; done) | (dsimp only; omega)) _) | (refine Below.alloc ?_ (by first | omega | (simp; omega) | (simp; done) | (dsimp only; omega)) _) | (refine below_drewN ?_ _) | (refine Below.drew ?_) | (refine Below.trans ?_ (hb1.mono (by first | omega | (simp; omega) | (simp; done) | (dsimp only; omega)))))))
    | true =>
      have hob : hasOk xs ys b = false := by rw [hoa] at ho; simpa using ho
      have HA := Lib.hid hoa; have HB := Lib.hid hob
      clear ho hoa hob
      go_enter Try.func27, Try.ntmps27
      go_wp2_with (first
        | (go_at_call 105; (with_reducible refine (l1Has_any _ _ _ _ lo hi xs ys a _ (h.same (by (with_reducible repeat' first | exact Same.refl _ _ _ | assumption | (refine Same.setCell ?_ (by first | omega | (simp; omega) | (simp; done) | (dsimp only; omega)) _) | (refine Same.alloc ?_ (by first | omega | (simp; omega) | (simp; done) | (dsimp only; omega)) _) | (refine Same.drewN ?_ _) | (refine Same.drew ?_)))) (h'.same (by (with_reducible repeat' first | exact Same.refl _ _ _ | assumption | (refine Same.setCell ?_ (by first | omega | (simp; omega) | (simp; done) | (dsimp only; omega)) _) | (refine Same.alloc ?_ (by first | omega | (simp; omega) | (simp; done) | (dsimp only; omega)) _) | (refine Same.drewN ?_ _) | (refine Same.drew ?_)))) (by first | omega | (simp; omega) | (simp; done) | (dsimp only; omega)) hs).mono ?_); rintro e w1 ⟨rfl, hb1⟩; simp only [HA.out]; (obtain ⟨hb1c, hb1f⟩ := bcell hb1); (have hb1z := hb1.size); (try simp only [szs] at hb1c hb1f hb1z); (have lt1 : w.heap.size < w1.heap.size := (by omega)); (have r1 := (Blk.new (t := 30) (cs := #[.int .i64 0, .slice none 0 0]) (w.alloc (.cells #[.slice A xs.length c, .slice B ys.length d] 26)) (by simp : w.heap.size + 1 = _)).below hb1 (by simp)))
        | (go_at_call 105; (with_reducible refine (l1Has_any _ _ _ _ lo hi xs ys b _ (h.same (by (with_reducible repeat' first | exact Same.refl _ _ _ | assumption | (refine Same.setCell ?_ (by first | omega | (simp; omega) | (simp; done) | (dsimp only; omega)) _) | (refine Same.alloc ?_ (by first | omega | (simp; omega) | (simp; done) | (dsimp only; omega)) _) | (refine Same.drewN ?_ _) | (refine Same.drew ?_) | (refine Same.trans ?_ (Same.of_below hb1 (by first | omega | (simp; omega) | (simp; done) | (dsimp only; omega))))))) (h'.same (by (with_reducible repeat' first | exact Same.refl _ _ _ | assumption | (refine Same.setCell ?_ (by first | omega | (simp; omega) | (simp; done) | (dsimp only; omega)) _) | (refine Same.alloc ?_ (by first | omega | (simp; omega) | (simp; done) | (dsimp only; omega)) _) | (refine Same.drewN ?_ _) | (refine Same.drew ?_) | (refine Same.trans ?_ (Same.of_below hb1 (by first | omega | (simp; omega) | (simp; done) | (dsimp only; omega))))))) (by first | omega | (simp; omega) | (simp; done) | (dsimp only; omega)) hs).mono ?_); rintro e w2 ⟨rfl, hb2⟩; simp only [HB.out]; (obtain ⟨hb2c, hb2f⟩ := bcell hb2); (have hb2z := hb2.size); (try simp only [szs] at hb2c hb2f hb2z); (have r2 := r1.below hb2 r1.lt); (have g0 := r2.cell (i := 0) rfl); (have g1 := r2.cell (i := 1) rfl); (have f0 := r2.free 0); (have f1 := r2.free 1)))
      have R := (r2.set 0 (.int .i64 0)).set 1 (.slice none 0 0)
      exact bodyPost_ret (v := .tuple #[.agg #[.int .i64 0, .slice none 0 0], .bool false]) (by simp [results, Try.results27, go_sem, R.cell (i := 0) rfl, R.cell (i := 1) rfl]) rfl (RetTypB.zero (by (with_reducible repeat' first | exact Below.refl _ _ | assumption | (refine Below.setCell ?_ (by first | omega | (simp; omega) | (simp; done) | (dsimp only; omega)) _) | (refine Below.alloc ?_ (by first | omega | (simp; omega) | (simp; done) | (dsimp only; omega)) _) | (refine below_drewN ?_ _) | (refine Below.drew ?_) | (refine Below.trans ?_ (hb2.mono (by first | omega | (simp; omega) | (simp; done) | (dsimp only; omega)))) | (refine Below.trans ?_ (hb1.mono (by first | omega | (simp; omega) | (simp; done) | (dsimp only; omega)))))))
  | true =>
    have hoa : hasOk xs ys a = true := (Bool.and_eq_true _ _ ▸ ho : hasOk xs ys a = true ∧ hasOk xs ys b = true).1
    have hob : hasOk xs ys b = true := (Bool.and_eq_true _ _ ▸ ho : hasOk xs ys a = true ∧ hasOk xs ys b = true).2
    obtain ⟨hfam, p1, p2⟩ := hasOk_fam hoa
    obtain ⟨_, p3, p4⟩ := hasOk_fam hob
    obtain ⟨a, rfl⟩ := Int.eq_ofNat_of_zero_le p1
    obtain ⟨b, rfl⟩ := Int.eq_ofNat_of_zero_le p3
    have HA := Lib.hid hoa; have HB := Lib.hid hob; have HOK := Lib.hid ho
    have ha : a < xs.length := by omega
    have hb : b < xs.length := by omega
    have hn := (famOk_parts hfam).1
    clear ho hoa hob hfam
    obtain ⟨F, hF⟩ : ∃ F, awayM xs ys b = F := ⟨_, rfl⟩
    have HF := Lib.hid hF
    have hFle : -1 ≤ F a ∧ F a ≤ 8 := by rw [← hF]; exact farM_le (n := xs.length) (L := leadK xs ys) (b := b) a 8
    clear hF
    obtain ⟨ba, off, ⟨x0, x1, x2, x3, x4, x5⟩, rfl, f1, f2, _, hxk, hc0, hc1, hc2, hc3, hc4, hc5⟩ := APerson.at_ h ha
    simp only at hc1
    have HXK := Lib.hid hxk
    clear hxk hc0 hc2 hc3 hc4 hc5
    have hPX := Lib.hid h; have hPY := Lib.hid h'
    go_enter Try.func27, Try.ntmps27
    go_upto_region 3 with (first
      | (go_at_call 105; (with_reducible refine (l1Has_any _ _ _ _ lo hi xs ys (a : Int) _ (h.same (by (with_reducible repeat' first | exact Same.refl _ _ _ | assumption | (refine Same.setCell ?_ (by first | omega | (simp; omega) | (simp; done) | (dsimp only; omega)) _) | (refine Same.alloc ?_ (by first | omega | (simp; omega) | (simp; done) | (dsimp only; omega)) _) | (refine Same.drewN ?_ _) | (refine Same.drew ?_)))) (h'.same (by (with_reducible repeat' first | exact Same.refl _ _ _ | assumption | (refine Same.setCell ?_ (by first | omega | (simp; omega) | (simp; done) | (dsimp only; omega)) _) | (refine Same.alloc ?_ (by first | omega | (simp; omega) | (simp; done) | (dsimp only; omega)) _) | (refine Same.drewN ?_ _) | (refine Same.drew ?_)))) (by first | omega | (simp; omega) | (simp; done) | (dsimp only; omega)) hs).mono ?_); rintro e w0 ⟨rfl, hb0⟩; simp only [HA.out]; (obtain ⟨hb0c, hb0f⟩ := bcell hb0); (have hb0z := hb0.size); (try simp only [szs] at hb0c hb0f hb0z); (have lt0 : w.heap.size < w0.heap.size := (by omega)); (have q0 := (Blk.new (t := 30) (cs := #[.int .i64 0, .slice none 0 0]) (w.alloc (.cells #[.slice (some ⟨ba, off, none⟩) xs.length c, .slice B ys.length d] 26)) (by simp : w.heap.size + 1 = _)).below hb0 (by simp)); (have t0 := ((Blk.new w rfl : Blk _ w.heap.size 26 #[.slice (some ⟨ba, off, none⟩) xs.length c, .slice B ys.length d]).alloc (.cells #[.int .i64 0, .slice none 0 0] 30)).below hb0 (by simp; omega)))
      | (go_at_call 105; (with_reducible refine (l1Has_any _ _ _ _ lo hi xs ys (b : Int) _ (h.same (by (with_reducible repeat' first | exact Same.refl _ _ _ | assumption | (refine Same.setCell ?_ (by first | omega | (simp; omega) | (simp; done) | (dsimp only; omega)) _) | (refine Same.alloc ?_ (by first | omega | (simp; omega) | (simp; done) | (dsimp only; omega)) _) | (refine Same.drewN ?_ _) | (refine Same.drew ?_) | (refine Same.trans ?_ (Same.of_below hb0 (by first | omega | (simp; omega) | (simp; done) | (dsimp only; omega))))))) (h'.same (by (with_reducible repeat' first | exact Same.refl _ _ _ | assumption | (refine Same.setCell ?_ (by first | omega | (simp; omega) | (simp; done) | (dsimp only; omega)) _) | (refine Same.alloc ?_ (by first | omega | (simp; omega) | (simp; done) | (dsimp only; omega)) _) | (refine Same.drewN ?_ _) | (refine Same.drew ?_) | (refine Same.trans ?_ (Same.of_below hb0 (by first | omega | (simp; omega) | (simp; done) | (dsimp only; omega))))))) (by first | omega | (simp; omega) | (simp; done) | (dsimp only; omega)) hs).mono ?_); rintro e w1 ⟨rfl, hb1⟩; simp only [HB.out]))
    have t1 : Blk w1 w.heap.size 26 #[.slice (some ⟨ba, off, none⟩) xs.length c, .slice B ys.length d] := t0.below hb1 t0.lt
    have q1 : Blk w1 (w.heap.size + 1) 30 #[.int .i64 0, .slice none 0 0] := q0.below hb1 q0.lt
    have hbw : Below w.heap.size w w1 := by (with_reducible repeat' first | exact Below.refl _ _ | assumption | (refine Below.setCell ?_ (by first | omega | (simp; omega) | (simp; done) | (dsimp only; omega)) _) | (refine Below.alloc ?_ (by first | omega | (simp; omega) | (simp; done) | (dsimp only; omega)) _) | (refine below_drewN ?_ _) | (refine Below.drew ?_) | (refine Below.trans ?_ (hb1.mono (by first | omega | (simp; omega) | (simp; done) | (dsimp only; omega)))) | (refine Below.trans ?_ (hb0.mono (by first | omega | (simp; omega) | (simp; done) | (dsimp only; omega)))))
    have z1 : w.heap.size + 1 < w1.heap.size := q1.lt
    clear hb0 hb0c hb0f hb0z hb1 lt0 h h' t0 q0
    have u0 := t1.cell (i := 0) rfl; have u1 := t1.cell (i := 1) rfl
    have hX1 := hPX.out.same (Same.of_below hbw hh)
    have hY1 := hPY.out.same (Same.of_below hbw hh)
    have lf1 : w.heap.size < w1.heap.size := by omega
    go_upto_region 4 with (go_at_call 106; (with_reducible refine (l3Away_any _ _ _ _ lo hi xs ys b _ hX1 hY1 (by first | omega | (simp; omega) | (simp; done) | (dsimp only; omega)) hb hn).mono ?_); rintro e w2 ⟨A2, c2, rfl, ho2, hb2⟩)
    rw [HF.out] at ho2
    obtain ⟨g2, og2, rfl, e1, e2, hFa⟩ := rowI_read ho2.read.as ha
    have t2 := t1.below hb2 lf1
    have q2 := q1.below hb2 z1
    have z2 := hb2.size
    have hbw2 := hbw.trans (hb2.mono (by omega))
    have hX2 := hPX.out.same (Same.of_below hbw2 hh)
    have hY2 := hPY.out.same (Same.of_below hbw2 hh)
    have hc1' := (hbw2.cell (p := ⟨ba, off + a * 6 + 1, none⟩) (by simp; omega)).trans hc1
    clear hb2 t1 q1 hX1 hY1 hc1 u0 u1
    have u0 := t2.cell (i := 0) rfl; have u1 := t2.cell (i := 1) rfl
    have g0 := q2.cell (i := 0) rfl; have g1 := q2.cell (i := 1) rfl; have f0 := q2.free 0; have f1' := q2.free 1
    have i1 : (0 : Int) ≤ (a : Int) ∧ (a : Int) < (xs.length : Int) := by omega
    have lg2 : g2 < w2.heap.size := by omega
    have lf2 : w.heap.size < w2.heap.size := by omega
    have lq2 : w.heap.size + 1 < w2.heap.size := by omega
    have lba : ba < w2.heap.size := by omega
    by_cases hneg : F a < 0
    · have HN := Lib.hid (shortM_far (xs := xs) (ys := ys) (a := a) (b := b) (by rw [HF.out]; exact hneg))
      obtain ⟨fa, hfa⟩ : ∃ fa, F a = fa := ⟨_, rfl⟩
      rw [hfa] at hFa hneg
      clear hfa hFle
      go_wp2_with fail
      have R := (q2.set 0 (.int .i64 0)).set 1 (.slice none 0 0)
      rw [HN.out]
      exact bodyPost_ret (v := .tuple #[.agg #[.int .i64 0, .slice none 0 0], .bool false]) (by simp [results, Try.results27, go_sem, R.cell (i := 0) rfl, R.cell (i := 1) rfl]) rfl (RetTypB.zero (by (with_reducible repeat' first | exact Below.refl _ _ | assumption | (refine Below.setCell ?_ (by first | omega | (simp; omega) | (simp; done) | (dsimp only; omega)) _) | (refine Below.alloc ?_ (by first | omega | (simp; omega) | (simp; done) | (dsimp only; omega)) _) | (refine below_drewN ?_ _) | (refine Below.drew ?_) | (refine Below.trans ?_ (hbw2.mono (by first | omega | (simp; omega) | (simp; done) | (dsimp only; omega)))))))
    · obtain ⟨v, hv⟩ := Int.eq_ofNat_of_zero_le (by omega : 0 ≤ F a)
      have HN := Lib.hid (shortM_in HOK.out (by rw [HF.out]; exact hv) HXK.out)
      have hv8 : v ≤ 8 := by omega
      rw [hv] at hFa
      clear hneg hFle
      simp only at HN
      obtain ⟨i0, hi0, hz0, hz1, hz2⟩ := info_parts bool_info
      have hmk := run_mk (P := Try.prog) 112 4 i0 _ 1 1 Try.underlying112 hi0 hz0 hz1 hz2 xs.length (by omega) (by unfold BIG; omega)
      clear hi0 hz0 hz1 hz2
      have hvn : ¬ (v : Int) < 0 := by omega
      have HV := Lib.hid hv; clear hv
      go_upto_region 8 with fail
      have hm0 := made_one xs.length (w2.alloc (.cells #[.int .i64 x1, .slice none 0 0] 30)) hn
      simp only [szs] at hm0
      generalize hW : (w2.alloc (.cells #[.int .i64 x1, .slice none 0 0] 30)).alloc (.cells (madeCells #[Value.bool false] xs.length) 4) = w3 at hm0 ⊢
      have hb3 : Below w2.heap.size w2 w3 := by subst hW; (with_reducible repeat' first | exact Below.refl _ _ | assumption | (refine Below.setCell ?_ (by first | omega | (simp; omega) | (simp; done) | (dsimp only; omega)) _) | (refine Below.alloc ?_ (by first | omega | (simp; omega) | (simp; done) | (dsimp only; omega)) _) | (refine below_drewN ?_ _) | (refine Below.drew ?_))
      have z3 : w2.heap.size + 1 + 1 = w3.heap.size := by subst hW; simp
      have r3 : Blk w3 w2.heap.size 30 #[.int .i64 x1, .slice none 0 0] := by subst hW; exact (Blk.new _ rfl).alloc _
      clear hW hmk
      rw [row1_blank] at hm0
      obtain ⟨g', cc, hv, _, _, k1, k2, hset⟩ := row1_own hm0 ha
      injection hv with hv _ hcc
      injection hv with hv
      injection hv with hv _ _
      subst hv
      subst hcc
      have ho3 := hset true
      rw [show row1 xs.length (upd1 (fun _ => false) a true) = row1 xs.length (onlyP a) from row1_congr fun x _ => by
        unfold upd1 onlyP; by_cases hx : x = a <;> simp [hx]] at ho3
      clear hset
      replace hFa := (hb3.cell (p := ⟨g2, og2 + a, none⟩) lg2).trans hFa
      have lg3 : g2 < w3.heap.size := by omega
      have lw3 : w2.heap.size + 1 < w3.heap.size := by omega
      go_upto_region 10 with fail
      generalize hW : w3.setCell ⟨w2.heap.size + 1, a, none⟩ (.bool true) = w4 at ho3 ⊢
      have hb4 : Below w2.heap.size w2 w4 := by subst hW; (with_reducible repeat' first | exact Below.refl _ _ | assumption | (refine Below.setCell ?_ (by first | omega | (simp; omega) | (simp; done) | (dsimp only; omega)) _) | (refine Below.alloc ?_ (by first | omega | (simp; omega) | (simp; done) | (dsimp only; omega)) _) | (refine below_drewN ?_ _) | (refine Below.drew ?_) | (refine Below.trans ?_ (hb3.mono (by first | omega | (simp; omega) | (simp; done) | (dsimp only; omega)))))
      have z4 : w3.heap.size = w4.heap.size := by subst hW; simp [World.setCell]
      have r4 : Blk w4 w2.heap.size 30 #[.int .i64 x1, .slice none 0 0] := by subst hW; exact r3.far (by simp) _
      clear hW k1 k2 hb3 r3 hm0 hFa
      have hX4 := hX2.same (Same.of_below hb4 (by omega))
      have hY4 := hY2.same (Same.of_below hb4 (by omega))
      have t4 := t2.below hb4 lf2
      have q4 := q2.below hb4 lq2
      have hF4 := ho2.read.as.same (Same.of_below hb4 (Nat.le_refl _))
      have hbw4 := hbw2.trans (hb4.mono (by omega))
      clear u0 u1 g0 g1 f0 f1'
      go_loopw [10, 11] (fun v10 v11 wr => PathRel (pathS xs.length (leadK xs ys) F) (pathS xs.length (leadK xs ys) F v (onlyP a)) x1 xs.length w2.heap.size w4 v10 v11 wr) (fun _ i _ => (intOf i + 1).toNat)
      case atStart => exact ⟨v, onlyP a, [], _, _, _, _, by first | rfl | (simp; done), rfl, ho3.mono (Nat.le_refl _) (by omega), r4, Elem.OS.nil, rfl, by simpa using hv8, Below.refl _ _⟩
      case round =>
        obtain ⟨l, q, acc, A5, c5, As, cs, rfl, rfl, hat, hB, hst, hP, hln, hbr⟩ := hrel
        have z5 := hbr.size
        cases l with
        | zero =>
          have hneg : ¬ (0 : Int) ≤ ((0 : Nat) : Int) - 1 := by omega
          simp only [pathS, List.append_nil] at hP
          have g0 := hB.cell (i := 0) rfl; have g1 := hB.cell (i := 1) rfl
          have q5 := q4.below hbr (by omega)
          have e0 := q5.cell (i := 0) rfl; have e1' := q5.cell (i := 1) rfl; have f0 := q5.free 0; have f1' := q5.free 1
          have lq5 : w2.heap.size < wr.heap.size := by omega
          go_wp2_with fail
          have R := (q5.set 0 (.int .i64 x1)).set 1 (.slice As acc.length cs)
          rw [HN.out, HF.out, ← hP]
          exact bodyPost_ret (v := .tuple #[.agg #[.int .i64 x1, .slice As acc.length cs], .bool true]) (by simp [results, Try.results27, go_sem, R.cell (i := 0) rfl, R.cell (i := 1) rfl]) rfl ⟨As, cs, rfl, (hst.same (by (with_reducible repeat' first | exact Same.refl _ _ _ | assumption | (refine Same.setCell ?_ (by first | omega | (simp; omega) | (simp; done) | (dsimp only; omega)) _) | (refine Same.alloc ?_ (by first | omega | (simp; omega) | (simp; done) | (dsimp only; omega)) _) | (refine Same.drewN ?_ _) | (refine Same.drew ?_)))).mono (by omega) (by simp [World.setCell]), by (with_reducible repeat' first | exact Below.refl _ _ | assumption | (refine Below.setCell ?_ (by first | omega | (simp; omega) | (simp; done) | (dsimp only; omega)) _) | (refine Below.alloc ?_ (by first | omega | (simp; omega) | (simp; done) | (dsimp only; omega)) _) | (refine below_drewN ?_ _) | (refine Below.drew ?_) | (refine Below.trans ?_ (hbr.mono (by first | omega | (simp; omega) | (simp; done) | (dsimp only; omega)))) | (refine Below.trans ?_ (hbw4.mono (by first | omega | (simp; omega) | (simp; done) | (dsimp only; omega)))))⟩
        | succ m =>
          obtain ⟨wo, rfl⟩ : ∃ x, x = wr := ⟨_, rfl⟩
          rw [show ((m + 1 : Nat) : Int) - 1 = (m : Int) by omega]
          have hm0 : (0 : Int) ≤ (m : Int) := by omega
          go_upto_region 13 with fail
          go_loopw [10, 12] (fun v10 v12 wk => ∃ k : Nat, k ≤ 8 ∧ v12 = .int .i64 ((k : Int) + 1) ∧ v10 = .slice A5 xs.length c5 ∧ (∀ j, j < k → hitsB F m xs.length (reachP xs.length q (leadK xs ys j)) = false) ∧ Below wo.heap.size wo wk) (fun _ i _ => 9 - (intOf i).toNat)
          case atStart => exact ⟨0, by omega, rfl, rfl, fun j hj => by omega, Below.refl _ _⟩
          case round =>
            obtain ⟨k, hk, rfl, rfl, hno, hbk⟩ := hrel
            obtain ⟨wk, rfl⟩ : ∃ x, x = wr := ⟨_, rfl⟩
            have hbk4 : Below w2.heap.size w4 wk := hbr.trans (hbk.mono (by omega))
            have zk := hbk.size
            by_cases hk8 : k < 8
            · obtain ⟨R, hR⟩ : ∃ R, reachP xs.length q (leadK xs ys k) = R := ⟨_, rfl⟩
              have HR := Lib.hid (show reachP xs.length q (leadM xs ys ⟨(k : Int) + 1, 0⟩) = R from hR)
              have HR2 := Lib.hid hR
              clear hR
              have t5 := t4.below hbk4 (by omega)
              have hX5 := hX4.same (Same.of_below hbk4 (by omega))
              have hY5 := hY4.same (Same.of_below hbk4 (by omega))
              have hF5 := hF4.same (Same.of_below hbk4 (by omega))
              have hB5 := hB.below hbk (by omega)
              have hat5 := hat.same (Same.of_below hbk (Nat.le_refl _))
              have hst5 := hst.same (Same.of_below hbk (Nat.le_refl _))
              have lwk : w.heap.size < wk.heap.size := by omega
              have u0 := t5.cell (i := 0) rfl; have u1 := t5.cell (i := 1) rfl
              go_upto_region 16 with (go_at_call 107; (with_reducible refine (l3Reach_any _ _ _ _ lo hi xs ys _ 0 A5 _ _ _ q _ (hX5.same (by (with_reducible repeat' first | exact Same.refl _ _ _ | assumption | (refine Same.setCell ?_ (by first | omega | (simp; omega) | (simp; done) | (dsimp only; omega)) _) | (refine Same.alloc ?_ (by first | omega | (simp; omega) | (simp; done) | (dsimp only; omega)) _) | (refine Same.drewN ?_ _) | (refine Same.drew ?_)))) (hY5.same (by (with_reducible repeat' first | exact Same.refl _ _ _ | assumption | (refine Same.setCell ?_ (by first | omega | (simp; omega) | (simp; done) | (dsimp only; omega)) _) | (refine Same.alloc ?_ (by first | omega | (simp; omega) | (simp; done) | (dsimp only; omega)) _) | (refine Same.drewN ?_ _) | (refine Same.drew ?_)))) (by first | omega | (simp; omega) | (simp; done) | (dsimp only; omega)) (hat5.read.as.same (by (with_reducible repeat' first | exact Same.refl _ _ _ | assumption | (refine Same.setCell ?_ (by first | omega | (simp; omega) | (simp; done) | (dsimp only; omega)) _) | (refine Same.alloc ?_ (by first | omega | (simp; omega) | (simp; done) | (dsimp only; omega)) _) | (refine Same.drewN ?_ _) | (refine Same.drew ?_)))) (by first | omega | (simp; omega) | (simp; done) | (dsimp only; omega)) (by omega) hn).mono ?_); rintro e w6 ⟨A6, c6, rfl, ho6, hb6⟩)
              rw [HR.out] at ho6
              obtain ⟨g6, c6', hv6, e3, e4, -, -, -⟩ := row1_own ho6 ha
              injection hv6 with hv6 _ hc6
              subst hv6; subst hc6
              have hb6' : Below wk.heap.size wk w6 := by (with_reducible repeat' first | exact Below.refl _ _ | assumption | (refine Below.setCell ?_ (by first | omega | (simp; omega) | (simp; done) | (dsimp only; omega)) _) | (refine Below.alloc ?_ (by first | omega | (simp; omega) | (simp; done) | (dsimp only; omega)) _) | (refine below_drewN ?_ _) | (refine Below.drew ?_) | (refine Below.trans ?_ (hb6.mono (by first | omega | (simp; omega) | (simp; done) | (dsimp only; omega)))))
              obtain ⟨wn, hwn⟩ : ∃ x, x = w6 := ⟨_, rfl⟩
              have ho0 : EBool.OS w6 wk.heap.size w6.heap.size (.slice (some ⟨g6, 0, none⟩) xs.length c6) (row1 xs.length (siftP F m R 0)) := by
                rw [show siftP F m R 0 = R from funext fun y => by unfold siftP; rw [if_neg (by omega)]]; exact ho6
              have z6 := hb6'.size
              have hF6 := hF5.same (Same.of_below hb6' (by omega))
              go_upto_region 17 with fail
              go_loopw [69] (fun i w2 => MarkTab (siftP F m R) xs.length wk.heap.size w6.heap.size (some ⟨g6, 0, none⟩) c6 w6 i w2) (fun i _ => xs.length - (intOf i).toNat)
              case atStart => exact ⟨0, Nat.zero_le _, rfl, ho0, Chg.refl _ _ _, Nat.le_refl _⟩
              case round =>
                obtain ⟨x, hx, rfl, ho7, hch7, hz7⟩ := hrel
                obtain ⟨wx, rfl⟩ : ∃ x, x = wr := ⟨_, rfl⟩
                by_cases hxl : x < xs.length
                · obtain ⟨g', c', hv7, e5, e6, kx1, kx2, hset⟩ := row1_own ho7 hxl
                  injection hv7 with hv7 _ hc7
                  injection hv7 with hv7
                  injection hv7 with hv7 _ _
                  subst hv7; subst hc7
                  rw [siftP_at] at kx1
                  have hF7 := hF6.same (Same.of_chg hch7 (by omega) (.inl (by omega)))
                  obtain ⟨g8, og8, hv8, e7, e8, kf⟩ := rowI_read hF7 hxl
                  injection hv8 with hv8
                  injection hv8 with hv8 hv9 _
                  subst hv8; subst hv9
                  have j1 : (0 : Int) ≤ (x : Int) ∧ (x : Int) < (xs.length : Int) := by omega
                  have lg6 : g6 < wx.heap.size := by omega
                  have lg7 : g2 < wx.heap.size := by omega
                  have hs := hset (R x && decide (F x = (m : Int)))
                  rw [siftP_succ] at hs
                  clear hset
                  have HO7 := Lib.hid ho7; clear ho7
                  cases hRx : R x with
                  | false =>
                    rw [hRx] at kx1 hs
                    simp only [Bool.false_and] at hs
                    go_wp2_with fail
                    exact ⟨⟨x + 1, by omega, by go_num, hs, hch7.setCell ⟨e3, e4⟩ _, by simpa [World.setCell] using hz7⟩, by simp [intOf]; omega⟩
                  | true =>
                    rw [hRx] at kx1 hs
                    simp only [Bool.true_and] at hs
                    obtain ⟨fx, hfx⟩ : ∃ fx, F x = fx := ⟨_, rfl⟩
                    rw [hfx] at kf hs
                    clear hfx
                    by_cases hc : fx = (m : Int)
                    · have n1 : (fx == (m : Int)) = true := by rw [beq_iff_eq]; exact hc
                      rw [decide_eq_true hc] at hs
                      clear hc
                      go_wp2_with fail
                      exact ⟨⟨x + 1, by omega, by go_num, hs, hch7.setCell ⟨e3, e4⟩ _, by simpa [World.setCell] using hz7⟩, by simp [intOf]; omega⟩
                    · have n1 : (fx == (m : Int)) = false := by rw [beq_eq_false_iff_ne]; exact hc
                      rw [decide_eq_false hc] at hs
                      clear hc
                      go_wp2_with fail
                      exact ⟨⟨x + 1, by omega, by go_num, hs, hch7.setCell ⟨e3, e4⟩ _, by simpa [World.setCell] using hz7⟩, by simp [intOf]; omega⟩
                · obtain rfl : x = xs.length := by omega
                  rw [← HR2.out, siftP_end] at ho7
                  obtain ⟨S, hS⟩ : ∃ S, atS xs.length (leadK xs ys) F m q k = S := ⟨_, rfl⟩
                  rw [hS] at ho7
                  have hbx : Below wk.heap.size wk wx := hb6'.trans (hch7.below (by omega) (Nat.le_refl _))
                  have zx := hch7.size
                  obtain ⟨ls, hls⟩ : ∃ ls, idxTo S xs.length = ls := ⟨_, rfl⟩
                  have HLS := Lib.hid hls
                  cases hh : hitsB F m xs.length (reachP xs.length q (leadK xs ys k)) with
                  | false =>
                    have hz := listed_zero hh
                    rw [hS, hls] at hz
                    have hl0 : ¬ (0 : Int) < (ls.length : Int) := by omega
                    have hno' : ∀ j, j < k + 1 → hitsB F m xs.length (reachP xs.length q (leadK xs ys j)) = false := fun j hj => by
                      by_cases e : j = k
                      · subst e; exact hh
                      · exact hno j (by omega)
                    clear hz hls hS
                    go_wp2_with (go_at_call 108; (with_reducible refine (l3Listed_any _ _ wk.heap.size w6.heap.size xs.length S _ (ho7.read.as.same (by (with_reducible repeat' first | exact Same.refl _ _ _ | assumption | (refine Same.setCell ?_ (by first | omega | (simp; omega) | (simp; done) | (dsimp only; omega)) _) | (refine Same.alloc ?_ (by first | omega | (simp; omega) | (simp; done) | (dsimp only; omega)) _) | (refine Same.drewN ?_ _) | (refine Same.drew ?_)))) (by first | omega | (simp; omega) | (simp; done) | (dsimp only; omega)) hn).mono ?_); rintro e w8 ⟨A8, c8, rfl, -, hb8⟩; simp only [HLS.out])
                    exact ⟨⟨k + 1, by omega, by go_num, rfl, hno', hbk.trans ((hbx.trans (hb8.mono (by omega))).mono zk)⟩, by simp [intOf]; omega⟩
                  | true =>
                    have hz := listed_pos hh
                    rw [hS, hls] at hz
                    have hl0 : (0 : Int) < (ls.length : Int) := by omega
                    have HP := Lib.hid (pathS_some hk8 hno hh)
                    rw [hS] at HP
                    clear hz hls hS
                    go_upto_region 22 with (go_at_call 108; (with_reducible refine (l3Listed_any _ _ wk.heap.size w6.heap.size xs.length S _ (ho7.read.as.same (by (with_reducible repeat' first | exact Same.refl _ _ _ | assumption | (refine Same.setCell ?_ (by first | omega | (simp; omega) | (simp; done) | (dsimp only; omega)) _) | (refine Same.alloc ?_ (by first | omega | (simp; omega) | (simp; done) | (dsimp only; omega)) _) | (refine Same.drewN ?_ _) | (refine Same.drew ?_)))) (by first | omega | (simp; omega) | (simp; done) | (dsimp only; omega)) hn).mono ?_); rintro e w8 ⟨A8, c8, rfl, -, hb8⟩; simp only [HLS.out])
                    have hbx8 := hbx.trans (hb8.mono (by omega))
                    have z8 := hb8.size
                    have B8 := hB5.below hbx8 (by omega)
                    have hst8 := hst5.same (Same.of_below hbx8 (by omega))
                    have ho8 := ho7.same (Same.of_below hb8 (by omega))
                    have p1 := B8.cell (i := 1) rfl; have p2 := B8.free 1
                    have lb8 := B8.lt
                    obtain ⟨us, hus⟩ : ∃ us, acc ++ [kindS k] = us := ⟨_, rfl⟩
                    have HUS := Lib.hid hus
                    have HUL := Lib.hid (show us.length = acc.length + 1 by rw [← hus]; simp)
                    clear hus
                    have hacc : acc.length + 1 ≤ 1048576 := by omega
                    go_wp2_with (at_builtin; refine wpList_app1b tyStepS As acc (kindS k) [.int .i64 ((k : Int) + 1), .int .i64 0] ⟨w8.heap.size, 0, none⟩ 1 (lo := w2.heap.size + 1) (hi := wo.heap.size) (hst8.same (by (with_reducible repeat' first | exact Same.refl _ _ _ | assumption | (refine Same.setCell ?_ (by first | omega | (simp; omega) | (simp; done) | (dsimp only; omega)) _) | (refine Same.alloc ?_ (by first | omega | (simp; omega) | (simp; done) | (dsimp only; omega)) _) | (refine Same.drewN ?_ _) | (refine Same.drew ?_)))) rfl (by first | omega | (simp; omega) | (simp; done) | (dsimp only; omega)) (by omega) rfl _ _ rfl rfl rfl rfl (cell_row_at _ #[.int .i64 ((k : Int) + 1), .int .i64 0] _ _ rfl) (by simp; exact ⟨rfl, rfl⟩) hacc (by decide) (fun A9 c9 w9 o9 hg9 hv9 => ?_); rw [HUS.out] at o9; rw [← HUL.out]; (have hb9 : Below (w2.heap.size + 1) w8 w9 := Below.grown (by (with_reducible repeat' first | exact Below.refl _ _ | assumption | (refine Below.setCell ?_ (by first | omega | (simp; omega) | (simp; done) | (dsimp only; omega)) _) | (refine Below.alloc ?_ (by first | omega | (simp; omega) | (simp; done) | (dsimp only; omega)) _) | (refine below_drewN ?_ _) | (refine Below.drew ?_))) hg9 (by simp; omega) (fun k hk => by have := (hst8.blkv k hk).1; omega)); (have B9 := B8.below hb9 (Nat.lt_succ_self _)); (have p3' := B9.cell (i := 1) rfl); (have p4' := B9.free 1); (have z9 := hb9.size); (have lb9 := B9.lt))
                    rw [← HUL.out] at o9
                    have hsa : EBool.OS w9 wk.heap.size w6.heap.size _ (row1 xs.length S) := (ho8.same ((Same.refl _ _ _).alloc (by omega) _)).same (Same.of_grown hg9 (by simp; omega) (fun j hj => by have := (hst8.blkv j hj).2; omega))
                    have hsb := hsa.same ((Same.refl _ _ _).setCell (p := ⟨w2.heap.size, 1, none⟩) (.inl (by simp; omega)) (.slice A9 us.length c9))
                    have hsc := o9.same ((Same.refl _ _ _).setCell (p := ⟨w2.heap.size, 1, none⟩) (.inl (by simp)) (.slice A9 us.length c9))
                    have zz : (w9.setCell ⟨w2.heap.size, 1, none⟩ (.slice A9 us.length c9)).heap.size = w9.heap.size := by simp [World.setCell]
                    have hbz : Below w2.heap.size w4 w9 := hbk4.trans ((hbx8.mono (by omega)).trans (hb9.mono (by omega)))
                    refine ⟨⟨m, S, us, _, _, A9, c9, rfl, rfl, hsb.mono (by omega) (by omega), B9.set 1 _, hsc.mono (Nat.le_refl _) (by omega), ?_, ?_, ?_⟩, by simp [intOf]⟩
                    · rw [← HUS.out, ← hP, HP.out]; simp
                    · rw [HUL.out]; omega
                    · (with_reducible repeat' first | exact Below.refl _ _ | assumption | (refine Below.setCell ?_ (by first | omega | (simp; omega) | (simp; done) | (dsimp only; omega)) _) | (refine Below.alloc ?_ (by first | omega | (simp; omega) | (simp; done) | (dsimp only; omega)) _) | (refine below_drewN ?_ _) | (refine Below.drew ?_) | (refine Below.trans ?_ (hbz.mono (by first | omega | (simp; omega) | (simp; done) | (dsimp only; omega)))))
            · obtain rfl : k = 8 := by omega
              rw [pathS_none hno] at hP
              go_wp2_with fail
              exact ⟨⟨m, q, acc, A5, c5, As, cs, by go_num, rfl, (hat.same (Same.of_below hbk (Nat.le_refl _))).mono (Nat.le_refl _) zk, hB.below hbk (by omega), (hst.same (Same.of_below hbk (Nat.le_refl _))).mono (Nat.le_refl _) zk, hP, by omega, hbk4⟩, by simp [intOf]⟩
end Go.Proofs.Ytnnjilkjjdiblaa
