/-
  The reference's children and siblings.
-/
import Derived.Test.YthpcippgifmabaaSibM
import Derived.Test.YthpcippgifmabaaLeadS
namespace Go.Proofs.Ythpcippgifmabaa
set_option maxRecDepth 100000
open Go.RowKit

set_option maxHeartbeats 8000000 in
theorem specChildrenOf_any (A B : Option Addr) (c d lo hi : Nat) (xs : List Person) (ys : List Union) (p : Int) (w : World) (h : EPerson.AS w lo hi A xs) (h' : EUnion.AS w lo hi B ys) (hh : hi ≤ w.heap.size) (hs : totP xs ≤ 1048576) :
    Calls Try.prog 15 #[.agg #[.slice A xs.length c, .slice B ys.length d], .int .i64 p] w (RetIntS w (childM xs ys p)) := by
  cases ho : hasOk xs ys p with
  | false =>
    have HO := Lib.hid ho
    have HN := Lib.hid (show childM xs ys p = [] by rw [childM, ho]; rfl)
    clear ho
    rw [HN.out]
    go_enter Try.func15, Try.ntmps15
    go_wp2_with (go_at_call 37; (with_reducible refine (l1Has_any _ _ _ _ lo hi xs ys p _ (h.same (by (with_reducible repeat' first | exact Same.refl _ _ _ | assumption | (refine Same.setCell ?_ (by first | omega | (simp; omega) | (simp; done) | (dsimp only; omega)) _) | (refine Same.alloc ?_ (by first | omega | (simp; omega) | (simp; done) | (dsimp only; omega)) _) | (refine Same.drewN ?_ _) | (refine Same.drew ?_)))) (h'.same (by (with_reducible repeat' first | exact Same.refl _ _ _ | assumption | (refine Same.setCell ?_ (by first | omega | (simp; omega) | (simp; done) | (dsimp only; omega)) _) | (refine Same.alloc ?_ (by first | omega | (simp; omega) | (simp; done) | (dsimp only; omega)) _) | (refine Same.drewN ?_ _) | (refine Same.drew ?_)))) (by first | omega | (simp; omega) | (simp; done) | (dsimp only; omega)) hs).mono ?_); rintro e w1 ⟨rfl, hb1⟩; simp only [HO.out]; (obtain ⟨hb1c, hb1f⟩ := bcell hb1); (have hb1z := hb1.size); (try simp only [szs] at hb1c hb1f hb1z); have lt1 : w.heap.size < w1.heap.size := (by omega))
    go_ret
    exact ⟨none, 0, rfl, Elem.OS.nil, by (with_reducible repeat' first | exact Below.refl _ _ | assumption | (refine Below.setCell ?_ (by first | omega | (simp; omega) | (simp; done) | (dsimp only; omega)) _) | (refine Below.alloc ?_ (by first | omega | (simp; omega) | (simp; done) | (dsimp only; omega)) _) | (refine below_drewN ?_ _) | (refine Below.drew ?_) | (refine Below.trans ?_ (hb1.mono (by first | omega | (simp; omega) | (simp; done) | (dsimp only; omega)))))⟩
  | true =>
    have HO := Lib.hid ho
    have HN := Lib.hid (show childM xs ys p = kidsM xs (kidP xs p) xs.length by rw [childM, if_pos ho])
    obtain ⟨hfam, p1, p2⟩ := hasOk_fam ho
    have hn := (famOk_parts hfam).1
    clear ho hfam
    obtain ⟨p, rfl⟩ := Int.eq_ofNat_of_zero_le p1
    rw [HN.out]
    go_enter Try.func15, Try.ntmps15
    go_wp2_with (first
      | (go_at_call 37; (with_reducible refine (l1Has_any _ _ _ _ lo hi xs ys p _ (h.same (by (with_reducible repeat' first | exact Same.refl _ _ _ | assumption | (refine Same.setCell ?_ (by first | omega | (simp; omega) | (simp; done) | (dsimp only; omega)) _) | (refine Same.alloc ?_ (by first | omega | (simp; omega) | (simp; done) | (dsimp only; omega)) _) | (refine Same.drewN ?_ _) | (refine Same.drew ?_)))) (h'.same (by (with_reducible repeat' first | exact Same.refl _ _ _ | assumption | (refine Same.setCell ?_ (by first | omega | (simp; omega) | (simp; done) | (dsimp only; omega)) _) | (refine Same.alloc ?_ (by first | omega | (simp; omega) | (simp; done) | (dsimp only; omega)) _) | (refine Same.drewN ?_ _) | (refine Same.drew ?_)))) (by first | omega | (simp; omega) | (simp; done) | (dsimp only; omega)) hs).mono ?_); rintro e w1 ⟨rfl, hb1⟩; simp only [HO.out]; (obtain ⟨hb1c, hb1f⟩ := bcell hb1); (have hb1z := hb1.size); (try simp only [szs] at hb1c hb1f hb1z); have lt1 : w.heap.size < w1.heap.size := (by omega))
      | (go_at_call 38; (with_reducible refine (l1Children_any _ _ _ _ lo hi xs ys _ _ (h.same (by (with_reducible repeat' first | exact Same.refl _ _ _ | assumption | (refine Same.setCell ?_ (by first | omega | (simp; omega) | (simp; done) | (dsimp only; omega)) _) | (refine Same.alloc ?_ (by first | omega | (simp; omega) | (simp; done) | (dsimp only; omega)) _) | (refine Same.drewN ?_ _) | (refine Same.drew ?_) | (refine Same.trans ?_ (Same.of_below hb1 (by first | omega | (simp; omega) | (simp; done) | (dsimp only; omega))))))) (h'.same (by (with_reducible repeat' first | exact Same.refl _ _ _ | assumption | (refine Same.setCell ?_ (by first | omega | (simp; omega) | (simp; done) | (dsimp only; omega)) _) | (refine Same.alloc ?_ (by first | omega | (simp; omega) | (simp; done) | (dsimp only; omega)) _) | (refine Same.drewN ?_ _) | (refine Same.drew ?_) | (refine Same.trans ?_ (Same.of_below hb1 (by first | omega | (simp; omega) | (simp; done) | (dsimp only; omega))))))) (by first | omega | (simp; omega) | (simp; done) | (dsimp only; omega)) hn).mono ?_); rintro e w2 ⟨A2, c2, rfl, ho2, hb2⟩; have hz2 := hb2.size))
    go_ret
    exact ⟨A2, c2, rfl, ho2.mono (by omega) (Nat.le_refl _), by (with_reducible repeat' first | exact Below.refl _ _ | assumption | (refine Below.setCell ?_ (by first | omega | (simp; omega) | (simp; done) | (dsimp only; omega)) _) | (refine Below.alloc ?_ (by first | omega | (simp; omega) | (simp; done) | (dsimp only; omega)) _) | (refine below_drewN ?_ _) | (refine Below.drew ?_) | (refine Below.trans ?_ (hb2.mono (by first | omega | (simp; omega) | (simp; done) | (dsimp only; omega)))) | (refine Below.trans ?_ (hb1.mono (by first | omega | (simp; omega) | (simp; done) | (dsimp only; omega)))))⟩

set_option maxHeartbeats 8000000 in
theorem specFullSiblings_any (A B : Option Addr) (c d lo hi : Nat) (xs : List Person) (ys : List Union) (p : Int) (w : World) (h : EPerson.AS w lo hi A xs) (h' : EUnion.AS w lo hi B ys) (hh : hi ≤ w.heap.size) (hs : totP xs ≤ 1048576) :
    Calls Try.prog 23 #[.agg #[.slice A xs.length c, .slice B ys.length d], .int .i64 p] w (RetIntS w (fullsM xs ys p)) := by
  cases ho : hasOk xs ys p with
  | false =>
    have HO := Lib.hid ho
    have HN := Lib.hid (show fullsM xs ys p = [] by rw [fullsM, ho]; rfl)
    clear ho
    rw [HN.out]
    go_enter Try.func23, Try.ntmps23
    go_wp2_with (go_at_call 37; (with_reducible refine (l1Has_any _ _ _ _ lo hi xs ys p _ (h.same (by (with_reducible repeat' first | exact Same.refl _ _ _ | assumption | (refine Same.setCell ?_ (by first | omega | (simp; omega) | (simp; done) | (dsimp only; omega)) _) | (refine Same.alloc ?_ (by first | omega | (simp; omega) | (simp; done) | (dsimp only; omega)) _) | (refine Same.drewN ?_ _) | (refine Same.drew ?_)))) (h'.same (by (with_reducible repeat' first | exact Same.refl _ _ _ | assumption | (refine Same.setCell ?_ (by first | omega | (simp; omega) | (simp; done) | (dsimp only; omega)) _) | (refine Same.alloc ?_ (by first | omega | (simp; omega) | (simp; done) | (dsimp only; omega)) _) | (refine Same.drewN ?_ _) | (refine Same.drew ?_)))) (by first | omega | (simp; omega) | (simp; done) | (dsimp only; omega)) hs).mono ?_); rintro e w1 ⟨rfl, hb1⟩; simp only [HO.out]; (obtain ⟨hb1c, hb1f⟩ := bcell hb1); (have hb1z := hb1.size); (try simp only [szs] at hb1c hb1f hb1z); have lt1 : w.heap.size < w1.heap.size := (by omega))
    go_ret
    exact ⟨none, 0, rfl, Elem.OS.nil, by (with_reducible repeat' first | exact Below.refl _ _ | assumption | (refine Below.setCell ?_ (by first | omega | (simp; omega) | (simp; done) | (dsimp only; omega)) _) | (refine Below.alloc ?_ (by first | omega | (simp; omega) | (simp; done) | (dsimp only; omega)) _) | (refine below_drewN ?_ _) | (refine Below.drew ?_) | (refine Below.trans ?_ (hb1.mono (by first | omega | (simp; omega) | (simp; done) | (dsimp only; omega)))))⟩
  | true =>
    have HO := Lib.hid ho
    have HN := Lib.hid (show fullsM xs ys p = kidsM xs (fullAt xs p.toNat) xs.length by rw [fullsM, if_pos ho])
    obtain ⟨hfam, p1, p2⟩ := hasOk_fam ho
    have hn := (famOk_parts hfam).1
    clear ho hfam
    obtain ⟨p, rfl⟩ := Int.eq_ofNat_of_zero_le p1
    rw [HN.out, Int.toNat_natCast]
    go_enter Try.func23, Try.ntmps23
    go_upto_region 3 with (go_at_call 37; (with_reducible refine (l1Has_any _ _ _ _ lo hi xs ys p _ (h.same (by (with_reducible repeat' first | exact Same.refl _ _ _ | assumption | (refine Same.setCell ?_ (by first | omega | (simp; omega) | (simp; done) | (dsimp only; omega)) _) | (refine Same.alloc ?_ (by first | omega | (simp; omega) | (simp; done) | (dsimp only; omega)) _) | (refine Same.drewN ?_ _) | (refine Same.drew ?_)))) (h'.same (by (with_reducible repeat' first | exact Same.refl _ _ _ | assumption | (refine Same.setCell ?_ (by first | omega | (simp; omega) | (simp; done) | (dsimp only; omega)) _) | (refine Same.alloc ?_ (by first | omega | (simp; omega) | (simp; done) | (dsimp only; omega)) _) | (refine Same.drewN ?_ _) | (refine Same.drew ?_)))) (by first | omega | (simp; omega) | (simp; done) | (dsimp only; omega)) hs).mono ?_); rintro e w1 ⟨rfl, hb1⟩; simp only [HO.out]; (obtain ⟨hb1c, hb1f⟩ := bcell hb1); (have hb1z := hb1.size); (try simp only [szs] at hb1c hb1f hb1z); have lt1 : w.heap.size < w1.heap.size := (by omega))
    have F : Blk (w.alloc (.cells #[.slice A xs.length c, .slice B ys.length d] 26)) w.heap.size 26 #[.slice A xs.length c, .slice B ys.length d] := Blk.new _ rfl
    replace F := F.below hb1 (by simp)
    have hb2 : Below w.heap.size w w1 := by (with_reducible repeat' first | exact Below.refl _ _ | assumption | (refine Below.setCell ?_ (by first | omega | (simp; omega) | (simp; done) | (dsimp only; omega)) _) | (refine Below.alloc ?_ (by first | omega | (simp; omega) | (simp; done) | (dsimp only; omega)) _) | (refine below_drewN ?_ _) | (refine Below.drew ?_) | (refine Below.trans ?_ (hb1.mono (by first | omega | (simp; omega) | (simp; done) | (dsimp only; omega)))))
    clear hb1c hb1f hb1z hb1
    have zw := hb2.size
    replace h := h.same (Same.of_below hb2 hh)
    replace h' := h'.same (Same.of_below hb2 hh)
    have q0 := F.cell (i := 0) rfl
    go_wp2
    go_loopw [5, 15] (fun v i wr => AccRel EInt (kidsM xs (fullAt xs p)) xs.length w1 v i wr) (fun _ i _ => xs.length - (intOf i).toNat)
    case atStart => exact ⟨0, _, _, Nat.zero_le _, rfl, rfl, Elem.OS.made0 _, by (with_reducible repeat' first | exact Below.refl _ _ | assumption | (refine Below.setCell ?_ (by first | omega | (simp; omega) | (simp; done) | (dsimp only; omega)) _) | (refine Below.alloc ?_ (by first | omega | (simp; omega) | (simp; done) | (dsimp only; omega)) _) | (refine below_drewN ?_ _) | (refine Below.drew ?_))⟩
    case round =>
      obtain ⟨k, A1, c1, hk, rfl, rfl, ho, hbk⟩ := hrel
      have hz := hbk.size
      have Fr := F.below hbk lt1
      have e0 := Fr.cell (i := 0) rfl; have e1 := Fr.cell (i := 1) rfl
      by_cases hlt : k < xs.length
      · have i1 : (k : Int) < (xs.length : Int) := by omega
        have lw : w.heap.size < wr.heap.size := by omega
        have HM := Lib.hid (fun q (hq : q ∈ kidsM xs (fullAt xs p) k) => kidsM_mem.1 hq)
        have hkl := kidsM_len (xs := xs) (P := fullAt xs p) k
        have h2 := h.same (Same.of_below hbk (by omega)); have h2' := h'.same (Same.of_below hbk (by omega))
        have hF := l1Full_any A B c d lo hi xs ys p k wr h2 h2' (by omega) (by omega) hlt
        cases hf : fullAt xs p k with
        | true =>
          rw [hf] at hF
          have HS := Lib.hid (show kidsM xs (fullAt xs p) (k + 1) = insA xs k (kidsM xs (fullAt xs p) k) by rw [kidsM, if_pos hf])
          clear hf
          go_wp2_with (first
            | (go_at_call 47; (with_reducible refine hF.mono ?_); rintro e w2 ⟨rfl, hbq⟩; (replace e0 := (hbq.cell (p := ⟨w.heap.size, 0, none⟩) lw).trans e0); (replace e1 := (hbq.cell (p := ⟨w.heap.size, 1, none⟩) lw).trans e1); (have hA := l1ByAge_any A B A1 c d c1 lo hi w1.heap.size wr.heap.size xs ys (kidsM xs (fullAt xs p) k) k w2 (h2.same (Same.of_below hbq (by omega))) (h2'.same (Same.of_below hbq (by omega))) (by have := hbq.size; omega) (ho.read.as.same (Same.of_below hbq (Nat.le_refl _))) hbq.size hlt (fun q hq => by obtain ⟨i, hi1, _, rfl⟩ := HM.out q hq; omega) (by omega)))
            | (go_at_call 48; (with_reducible refine hA.mono ?_); rintro e w3 ⟨A3, c3, rfl, o3, hb3⟩))
          have zq := hbq.size
          exact ⟨⟨k + 1, A3, c3, by omega, by go_num, by rw [HS.out], by rw [HS.out]; exact o3.mono (by omega) (Nat.le_refl _), hbk.trans ((hbq.trans (hb3.mono zq)).mono hz)⟩, by simp [intOf]; omega⟩
        | false =>
          rw [hf] at hF
          have HS := Lib.hid (show kidsM xs (fullAt xs p) (k + 1) = kidsM xs (fullAt xs p) k by rw [kidsM, if_neg (by rw [hf]; simp)])
          clear hf
          go_wp2_with (go_at_call 47; (with_reducible refine hF.mono ?_); rintro e w2 ⟨rfl, hbq⟩)
          exact ⟨⟨k + 1, A1, c1, by omega, by go_num, by rw [HS.out], by rw [HS.out]; exact (ho.same (Same.of_below hbq (Nat.le_refl _))).mono (Nat.le_refl _) hbq.size, hbk.trans (hbq.mono hz)⟩, by simp [intOf]; omega⟩
      · obtain rfl : k = xs.length := by omega
        go_wp2
        go_ret
        exact ⟨_, _, rfl, ho.mono (by omega) (Nat.le_refl _), hb2.trans (hbk.mono (by omega))⟩

set_option maxHeartbeats 8000000 in
theorem specHalfSiblings_any (A B : Option Addr) (c d lo hi : Nat) (xs : List Person) (ys : List Union) (p : Int) (w : World) (h : EPerson.AS w lo hi A xs) (h' : EUnion.AS w lo hi B ys) (hh : hi ≤ w.heap.size) (hs : totP xs ≤ 1048576) :
    Calls Try.prog 24 #[.agg #[.slice A xs.length c, .slice B ys.length d], .int .i64 p] w (RetIntS w (halvesM xs ys p)) := by
  cases ho : hasOk xs ys p with
  | false =>
    have HO := Lib.hid ho
    have HN := Lib.hid (show halvesM xs ys p = [] by rw [halvesM, ho]; rfl)
    clear ho
    rw [HN.out]
    go_enter Try.func24, Try.ntmps24
    go_wp2_with (go_at_call 37; (with_reducible refine (l1Has_any _ _ _ _ lo hi xs ys p _ (h.same (by (with_reducible repeat' first | exact Same.refl _ _ _ | assumption | (refine Same.setCell ?_ (by first | omega | (simp; omega) | (simp; done) | (dsimp only; omega)) _) | (refine Same.alloc ?_ (by first | omega | (simp; omega) | (simp; done) | (dsimp only; omega)) _) | (refine Same.drewN ?_ _) | (refine Same.drew ?_)))) (h'.same (by (with_reducible repeat' first | exact Same.refl _ _ _ | assumption | (refine Same.setCell ?_ (by first | omega | (simp; omega) | (simp; done) | (dsimp only; omega)) _) | (refine Same.alloc ?_ (by first | omega | (simp; omega) | (simp; done) | (dsimp only; omega)) _) | (refine Same.drewN ?_ _) | (refine Same.drew ?_)))) (by first | omega | (simp; omega) | (simp; done) | (dsimp only; omega)) hs).mono ?_); rintro e w1 ⟨rfl, hb1⟩; simp only [HO.out]; (obtain ⟨hb1c, hb1f⟩ := bcell hb1); (have hb1z := hb1.size); (try simp only [szs] at hb1c hb1f hb1z); have lt1 : w.heap.size < w1.heap.size := (by omega))
    go_ret
    exact ⟨none, 0, rfl, Elem.OS.nil, by (with_reducible repeat' first | exact Below.refl _ _ | assumption | (refine Below.setCell ?_ (by first | omega | (simp; omega) | (simp; done) | (dsimp only; omega)) _) | (refine Below.alloc ?_ (by first | omega | (simp; omega) | (simp; done) | (dsimp only; omega)) _) | (refine below_drewN ?_ _) | (refine Below.drew ?_) | (refine Below.trans ?_ (hb1.mono (by first | omega | (simp; omega) | (simp; done) | (dsimp only; omega)))))⟩
  | true =>
    have HO := Lib.hid ho
    have HN := Lib.hid (show halvesM xs ys p = kidsM xs (halfAt xs p.toNat) xs.length by rw [halvesM, if_pos ho])
    obtain ⟨hfam, p1, p2⟩ := hasOk_fam ho
    have hn := (famOk_parts hfam).1
    clear ho hfam
    obtain ⟨p, rfl⟩ := Int.eq_ofNat_of_zero_le p1
    rw [HN.out, Int.toNat_natCast]
    go_enter Try.func24, Try.ntmps24
    go_upto_region 3 with (go_at_call 37; (with_reducible refine (l1Has_any _ _ _ _ lo hi xs ys p _ (h.same (by (with_reducible repeat' first | exact Same.refl _ _ _ | assumption | (refine Same.setCell ?_ (by first | omega | (simp; omega) | (simp; done) | (dsimp only; omega)) _) | (refine Same.alloc ?_ (by first | omega | (simp; omega) | (simp; done) | (dsimp only; omega)) _) | (refine Same.drewN ?_ _) | (refine Same.drew ?_)))) (h'.same (by (with_reducible repeat' first | exact Same.refl _ _ _ | assumption | (refine Same.setCell ?_ (by first | omega | (simp; omega) | (simp; done) | (dsimp only; omega)) _) | (refine Same.alloc ?_ (by first | omega | (simp; omega) | (simp; done) | (dsimp only; omega)) _) | (refine Same.drewN ?_ _) | (refine Same.drew ?_)))) (by first | omega | (simp; omega) | (simp; done) | (dsimp only; omega)) hs).mono ?_); rintro e w1 ⟨rfl, hb1⟩; simp only [HO.out]; (obtain ⟨hb1c, hb1f⟩ := bcell hb1); (have hb1z := hb1.size); (try simp only [szs] at hb1c hb1f hb1z); have lt1 : w.heap.size < w1.heap.size := (by omega))
    have F : Blk (w.alloc (.cells #[.slice A xs.length c, .slice B ys.length d] 26)) w.heap.size 26 #[.slice A xs.length c, .slice B ys.length d] := Blk.new _ rfl
    replace F := F.below hb1 (by simp)
    have hb2 : Below w.heap.size w w1 := by (with_reducible repeat' first | exact Below.refl _ _ | assumption | (refine Below.setCell ?_ (by first | omega | (simp; omega) | (simp; done) | (dsimp only; omega)) _) | (refine Below.alloc ?_ (by first | omega | (simp; omega) | (simp; done) | (dsimp only; omega)) _) | (refine below_drewN ?_ _) | (refine Below.drew ?_) | (refine Below.trans ?_ (hb1.mono (by first | omega | (simp; omega) | (simp; done) | (dsimp only; omega)))))
    clear hb1c hb1f hb1z hb1
    have zw := hb2.size
    replace h := h.same (Same.of_below hb2 hh)
    replace h' := h'.same (Same.of_below hb2 hh)
    have hpn : p < xs.length := by omega
    obtain ⟨pb, po, ⟨x0, x1, x2, x3, x4, x5⟩, rfl, g1, g2, _, hxp, hp0, hp1, hp2, hp3, hp4, hp5⟩ := APerson.at_ h hpn
    simp only at hp0 hp1 hp2 hp3 hp4 hp5
    have q0 := F.cell (i := 0) rfl; have q1 := F.cell (i := 1) rfl
    have j1 : (p : Int) < (xs.length : Int) := by omega
    have lpb : pb < w1.heap.size := by omega
    go_upto_region 6 with fail
    generalize hV : (w1.alloc (.cells #[] 3)).alloc (.cells #[.string x0, .int .i64 x1, .int .i64 x2, .int .i64 x3, .int .i64 x4, .int .i64 x5] 48) = W2
    have X : Blk W2 (w1.heap.size + 1) 48 #[.string x0, .int .i64 x1, .int .i64 x2, .int .i64 x3, .int .i64 x4, .int .i64 x5] := by subst hV; exact Blk.new _ (by simp)
    have o0 : EInt.OS W2 w1.heap.size W2.heap.size (.slice (some ⟨w1.heap.size, 0, none⟩) 0 0) [] := by subst hV; exact ((Elem.OS.made0 (E := EInt) w1).same (Same.alloc (Same.refl _ _ _) (Nat.le_refl _) _)).mono (Nat.le_refl _) (by simp)
    have hbV : Below w1.heap.size w1 W2 := by subst hV; (with_reducible repeat' first | exact Below.refl _ _ | assumption | (refine Below.setCell ?_ (by first | omega | (simp; omega) | (simp; done) | (dsimp only; omega)) _) | (refine Below.alloc ?_ (by first | omega | (simp; omega) | (simp; done) | (dsimp only; omega)) _) | (refine below_drewN ?_ _) | (refine Below.drew ?_))
    have zV : w1.heap.size + 2 ≤ W2.heap.size := by subst hV; simp
    clear hV q0 q1 hp0 hp1 hp2 hp3 hp4 hp5
    have F2 := F.below hbV (by omega)
    replace h := h.same (Same.of_below hbV (by omega))
    replace h' := h'.same (Same.of_below hbV (by omega))
    go_loopw [5, 22] (fun v i wr => ∃ (k : Nat) (A1 : Option Addr) (c1 : Nat), k ≤ xs.length ∧ i = .int .i64 k ∧ v = .slice A1 (kidsM xs (halfAt xs p) k).length c1 ∧ EInt.OS wr w1.heap.size wr.heap.size (.slice A1 (kidsM xs (halfAt xs p) k).length c1) (kidsM xs (halfAt xs p) k) ∧ Below W2.heap.size W2 wr) (fun _ i _ => xs.length - (intOf i).toNat)
    case atStart => exact ⟨0, _, _, Nat.zero_le _, rfl, rfl, o0, Below.refl _ _⟩
    case round =>
      obtain ⟨k, A1, c1, hk, rfl, rfl, ho, hbk⟩ := hrel
      clear o0
      have hz := hbk.size
      have Fr := F2.below hbk (by omega)
      have Xr := X.below hbk (by omega)
      have lw : w.heap.size < wr.heap.size := by omega
      have lX := Xr.lt
      by_cases hlt : k < xs.length
      · have i1 : (k : Int) < (xs.length : Int) := by omega
        have HM := Lib.hid (fun q (hq : q ∈ kidsM xs (halfAt xs p) k) => kidsM_mem.1 hq)
        have hkl := kidsM_len (xs := xs) (P := halfAt xs p) k
        have h2 := h.same (Same.of_below hbk (by omega)); have h2' := h'.same (Same.of_below hbk (by omega))
        have HF := Lib.hid (l1Full_any (some ⟨pb, po, none⟩) B c d lo hi xs ys p k)
        obtain ⟨kb, ko, ⟨y0, y1, y2, y3, y4, y5⟩, he, _, kk2, _, hxk, hk0, hk1, hk2, hk3, hk4, hk5⟩ := APerson.at_ h2 hlt
        injection he with he; injection he with he1 he2 _
        subst he1; subst he2
        simp only at hk0 hk1 hk2 hk3 hk4 hk5
        have HH := halfAt_of hxp hxk
        have HU := fullAt_of hxp hxk
        have HFL := Lib.hid HU
        simp only [halfOf, ← HU] at HH
        clear HU hxk
        have e0 := Fr.cell (i := 0) rfl; have e1 := Fr.cell (i := 1) rfl
        have lkb : pb < wr.heap.size := by omega
        go_upto_region 8 with fail
        generalize hV : wr.alloc (.cells #[.string y0, .int .i64 y1, .int .i64 y2, .int .i64 y3, .int .i64 y4, .int .i64 y5] 48) = W3
        obtain ⟨yb, hyb⟩ : ∃ m, m = wr.heap.size := ⟨_, rfl⟩
        rw [← hyb]
        have Y : Blk W3 yb 48 #[.string y0, .int .i64 y1, .int .i64 y2, .int .i64 y3, .int .i64 y4, .int .i64 y5] := by subst hV; rw [hyb]; exact Blk.new _ rfl
        clear hyb
        have hb3 : Below wr.heap.size wr W3 := by subst hV; (with_reducible repeat' first | exact Below.refl _ _ | assumption | (refine Below.setCell ?_ (by first | omega | (simp; omega) | (simp; done) | (dsimp only; omega)) _) | (refine Below.alloc ?_ (by first | omega | (simp; omega) | (simp; done) | (dsimp only; omega)) _) | (refine below_drewN ?_ _) | (refine Below.drew ?_))
        have ho3 : EInt.OS W3 w1.heap.size W3.heap.size (.slice A1 (kidsM xs (halfAt xs p) k).length c1) (kidsM xs (halfAt xs p) k) := (ho.same (Same.of_below hb3 (Nat.le_refl _))).mono (Nat.le_refl _) hb3.size
        clear hV hk0 hk1 hk2 hk3 hk4 hk5 e0 e1 ho
        have F3 := Fr.below hb3 lw
        have X3 := Xr.below hb3 lX
        have h3 := h2.same (Same.of_below hb3 (by omega)); have h3' := h2'.same (Same.of_below hb3 (by omega))
        have z3 := hb3.size
        have hbw3 : Below W2.heap.size W2 W3 := hbk.trans (hb3.mono hz)
        have lF3 := F3.lt; have lX3 := X3.lt; have lY := Y.lt
        have e0 := F3.cell (i := 0) rfl; have e1 := F3.cell (i := 1) rfl
        have a2 := X3.cell (i := 2) rfl; have a3 := X3.cell (i := 3) rfl; have b2 := Y.cell (i := 2) rfl; have b3 := Y.cell (i := 3) rfl
        clear h2 h2' Fr Xr F2 X
        by_cases hkp : k = p
        · have n1 : ((k : Int) == (p : Int)) = true := by simp [hkp]
          have HS := Lib.hid (show kidsM xs (halfAt xs p) (k + 1) = kidsM xs (halfAt xs p) k by rw [kidsM, if_neg (by rw [HH]; simp [hkp])])
          clear HH
          go_wp2
          exact ⟨⟨k + 1, A1, c1, by omega, by go_num, by rw [HS.out], by rw [HS.out]; exact ho3, hbw3⟩, by simp [intOf]; omega⟩
        · have n1 : ((k : Int) == (p : Int)) = false := by rw [beq_eq_false_iff_ne]; omega
          have hF := HF.out W3 h3 h3' (by omega) hpn hlt
          cases hf : fullAt xs p k with
          | true =>
            rw [hf] at hF HH
            have HS := Lib.hid (show kidsM xs (halfAt xs p) (k + 1) = kidsM xs (halfAt xs p) k by rw [kidsM, if_neg (by rw [HH]; simp)])
            clear HH hf
            go_wp2_with (go_at_call 47; (with_reducible refine hF.mono ?_); rintro e w4 ⟨rfl, hbq⟩)
            exact ⟨⟨k + 1, A1, c1, by omega, by go_num, by rw [HS.out], by rw [HS.out]; exact (ho3.same (Same.of_below hbq (Nat.le_refl _))).mono (Nat.le_refl _) hbq.size, hbw3.trans (hbq.mono (by omega))⟩, by simp [intOf]; omega⟩
          | false =>
            rw [hf] at hF HH
            clear hf
            have hdk : decide (k ≠ p) = true := decide_eq_true hkp
            rw [hdk] at HH
            simp only [Bool.true_and, Bool.not_false] at HH
            by_cases f0 : 0 ≤ x2
            · by_cases qf : x2 = y2
              · have f : (x2 == y2) = true := by simpa using qf
                have HS := Lib.hid (show kidsM xs (halfAt xs p) (k + 1) = insA xs k (kidsM xs (halfAt xs p) k) by rw [kidsM, if_pos (by rw [HH]; simp; omega)])
                clear HH qf
                go_wp2_with (first
                  | (go_at_call 47; (with_reducible refine hF.mono ?_); rintro e w4 ⟨rfl, hbq⟩; (replace e0 := (hbq.cell (p := ⟨w.heap.size, 0, none⟩) (by omega)).trans e0); (replace e1 := (hbq.cell (p := ⟨w.heap.size, 1, none⟩) (by omega)).trans e1); (replace a2 := (hbq.cell (p := ⟨w1.heap.size + 1, 2, none⟩) lX3).trans a2); (replace a3 := (hbq.cell (p := ⟨w1.heap.size + 1, 3, none⟩) lX3).trans a3); (replace b2 := (hbq.cell (p := ⟨yb, 2, none⟩) lY).trans b2); (replace b3 := (hbq.cell (p := ⟨yb, 3, none⟩) lY).trans b3); (have hA := l1ByAge_any (some ⟨pb, po, none⟩) B A1 c d c1 lo hi w1.heap.size W3.heap.size xs ys (kidsM xs (halfAt xs p) k) k w4 (h3.same (Same.of_below hbq (by omega))) (h3'.same (Same.of_below hbq (by omega))) (by have := hbq.size; omega) (ho3.read.as.same (Same.of_below hbq (Nat.le_refl _))) hbq.size hlt (fun q hq => by obtain ⟨i, hi1, _, rfl⟩ := HM.out q hq; omega) (by omega)))
                  | (go_at_call 48; (with_reducible refine hA.mono ?_); rintro e w5 ⟨A5, c5, rfl, o5, hb5⟩))
                have zq := hbq.size
                exact ⟨⟨k + 1, A5, c5, by omega, by go_num, by rw [HS.out], by rw [HS.out]; exact o5.mono (by omega) (Nat.le_refl _), hbw3.trans ((hbq.trans (hb5.mono zq)).mono (by omega))⟩, by simp [intOf]; omega⟩
              · have f : (x2 == y2) = false := by simpa using qf
                by_cases m0 : 0 ≤ x3
                · by_cases qm : x3 = y3
                  · have m : (x3 == y3) = true := by simpa using qm
                    have HS := Lib.hid (show kidsM xs (halfAt xs p) (k + 1) = insA xs k (kidsM xs (halfAt xs p) k) by rw [kidsM, if_pos (by rw [HH]; simp; omega)])
                    clear HH qm
                    go_wp2_with (first
                      | (go_at_call 47; (with_reducible refine hF.mono ?_); rintro e w4 ⟨rfl, hbq⟩; (replace e0 := (hbq.cell (p := ⟨w.heap.size, 0, none⟩) (by omega)).trans e0); (replace e1 := (hbq.cell (p := ⟨w.heap.size, 1, none⟩) (by omega)).trans e1); (replace a2 := (hbq.cell (p := ⟨w1.heap.size + 1, 2, none⟩) lX3).trans a2); (replace a3 := (hbq.cell (p := ⟨w1.heap.size + 1, 3, none⟩) lX3).trans a3); (replace b2 := (hbq.cell (p := ⟨yb, 2, none⟩) lY).trans b2); (replace b3 := (hbq.cell (p := ⟨yb, 3, none⟩) lY).trans b3); (have hA := l1ByAge_any (some ⟨pb, po, none⟩) B A1 c d c1 lo hi w1.heap.size W3.heap.size xs ys (kidsM xs (halfAt xs p) k) k w4 (h3.same (Same.of_below hbq (by omega))) (h3'.same (Same.of_below hbq (by omega))) (by have := hbq.size; omega) (ho3.read.as.same (Same.of_below hbq (Nat.le_refl _))) hbq.size hlt (fun q hq => by obtain ⟨i, hi1, _, rfl⟩ := HM.out q hq; omega) (by omega)))
                      | (go_at_call 48; (with_reducible refine hA.mono ?_); rintro e w5 ⟨A5, c5, rfl, o5, hb5⟩))
                    have zq := hbq.size
                    exact ⟨⟨k + 1, A5, c5, by omega, by go_num, by rw [HS.out], by rw [HS.out]; exact o5.mono (by omega) (Nat.le_refl _), hbw3.trans ((hbq.trans (hb5.mono zq)).mono (by omega))⟩, by simp [intOf]; omega⟩
                  · have m : (x3 == y3) = false := by simpa using qm
                    have HS := Lib.hid (show kidsM xs (halfAt xs p) (k + 1) = kidsM xs (halfAt xs p) k by rw [kidsM, if_neg (by rw [HH]; simp; omega)])
                    clear HH
                    go_wp2_with (go_at_call 47; (with_reducible refine hF.mono ?_); rintro e w4 ⟨rfl, hbq⟩; (replace e0 := (hbq.cell (p := ⟨w.heap.size, 0, none⟩) (by omega)).trans e0); (replace e1 := (hbq.cell (p := ⟨w.heap.size, 1, none⟩) (by omega)).trans e1); (replace a2 := (hbq.cell (p := ⟨w1.heap.size + 1, 2, none⟩) lX3).trans a2); (replace a3 := (hbq.cell (p := ⟨w1.heap.size + 1, 3, none⟩) lX3).trans a3); (replace b2 := (hbq.cell (p := ⟨yb, 2, none⟩) lY).trans b2); (replace b3 := (hbq.cell (p := ⟨yb, 3, none⟩) lY).trans b3); (have hA := l1ByAge_any (some ⟨pb, po, none⟩) B A1 c d c1 lo hi w1.heap.size W3.heap.size xs ys (kidsM xs (halfAt xs p) k) k w4 (h3.same (Same.of_below hbq (by omega))) (h3'.same (Same.of_below hbq (by omega))) (by have := hbq.size; omega) (ho3.read.as.same (Same.of_below hbq (Nat.le_refl _))) hbq.size hlt (fun q hq => by obtain ⟨i, hi1, _, rfl⟩ := HM.out q hq; omega) (by omega)))
                    exact ⟨⟨k + 1, A1, c1, by omega, by go_num, by rw [HS.out], by rw [HS.out]; exact (ho3.same (Same.of_below hbq (Nat.le_refl _))).mono (Nat.le_refl _) hbq.size, hbw3.trans (hbq.mono (by omega))⟩, by simp [intOf]; omega⟩
                · skip
                  have HS := Lib.hid (show kidsM xs (halfAt xs p) (k + 1) = kidsM xs (halfAt xs p) k by rw [kidsM, if_neg (by rw [HH]; simp; omega)])
                  clear HH
                  go_wp2_with (go_at_call 47; (with_reducible refine hF.mono ?_); rintro e w4 ⟨rfl, hbq⟩; (replace e0 := (hbq.cell (p := ⟨w.heap.size, 0, none⟩) (by omega)).trans e0); (replace e1 := (hbq.cell (p := ⟨w.heap.size, 1, none⟩) (by omega)).trans e1); (replace a2 := (hbq.cell (p := ⟨w1.heap.size + 1, 2, none⟩) lX3).trans a2); (replace a3 := (hbq.cell (p := ⟨w1.heap.size + 1, 3, none⟩) lX3).trans a3); (replace b2 := (hbq.cell (p := ⟨yb, 2, none⟩) lY).trans b2); (replace b3 := (hbq.cell (p := ⟨yb, 3, none⟩) lY).trans b3); (have hA := l1ByAge_any (some ⟨pb, po, none⟩) B A1 c d c1 lo hi w1.heap.size W3.heap.size xs ys (kidsM xs (halfAt xs p) k) k w4 (h3.same (Same.of_below hbq (by omega))) (h3'.same (Same.of_below hbq (by omega))) (by have := hbq.size; omega) (ho3.read.as.same (Same.of_below hbq (Nat.le_refl _))) hbq.size hlt (fun q hq => by obtain ⟨i, hi1, _, rfl⟩ := HM.out q hq; omega) (by omega)))
                  exact ⟨⟨k + 1, A1, c1, by omega, by go_num, by rw [HS.out], by rw [HS.out]; exact (ho3.same (Same.of_below hbq (Nat.le_refl _))).mono (Nat.le_refl _) hbq.size, hbw3.trans (hbq.mono (by omega))⟩, by simp [intOf]; omega⟩
            · skip
              by_cases m0 : 0 ≤ x3
              · by_cases qm : x3 = y3
                · have m : (x3 == y3) = true := by simpa using qm
                  have HS := Lib.hid (show kidsM xs (halfAt xs p) (k + 1) = insA xs k (kidsM xs (halfAt xs p) k) by rw [kidsM, if_pos (by rw [HH]; simp; omega)])
                  clear HH qm
                  go_wp2_with (first
                    | (go_at_call 47; (with_reducible refine hF.mono ?_); rintro e w4 ⟨rfl, hbq⟩; (replace e0 := (hbq.cell (p := ⟨w.heap.size, 0, none⟩) (by omega)).trans e0); (replace e1 := (hbq.cell (p := ⟨w.heap.size, 1, none⟩) (by omega)).trans e1); (replace a2 := (hbq.cell (p := ⟨w1.heap.size + 1, 2, none⟩) lX3).trans a2); (replace a3 := (hbq.cell (p := ⟨w1.heap.size + 1, 3, none⟩) lX3).trans a3); (replace b2 := (hbq.cell (p := ⟨yb, 2, none⟩) lY).trans b2); (replace b3 := (hbq.cell (p := ⟨yb, 3, none⟩) lY).trans b3); (have hA := l1ByAge_any (some ⟨pb, po, none⟩) B A1 c d c1 lo hi w1.heap.size W3.heap.size xs ys (kidsM xs (halfAt xs p) k) k w4 (h3.same (Same.of_below hbq (by omega))) (h3'.same (Same.of_below hbq (by omega))) (by have := hbq.size; omega) (ho3.read.as.same (Same.of_below hbq (Nat.le_refl _))) hbq.size hlt (fun q hq => by obtain ⟨i, hi1, _, rfl⟩ := HM.out q hq; omega) (by omega)))
                    | (go_at_call 48; (with_reducible refine hA.mono ?_); rintro e w5 ⟨A5, c5, rfl, o5, hb5⟩))
                  have zq := hbq.size
                  exact ⟨⟨k + 1, A5, c5, by omega, by go_num, by rw [HS.out], by rw [HS.out]; exact o5.mono (by omega) (Nat.le_refl _), hbw3.trans ((hbq.trans (hb5.mono zq)).mono (by omega))⟩, by simp [intOf]; omega⟩
                · have m : (x3 == y3) = false := by simpa using qm
                  have HS := Lib.hid (show kidsM xs (halfAt xs p) (k + 1) = kidsM xs (halfAt xs p) k by rw [kidsM, if_neg (by rw [HH]; simp; omega)])
                  clear HH
                  go_wp2_with (go_at_call 47; (with_reducible refine hF.mono ?_); rintro e w4 ⟨rfl, hbq⟩; (replace e0 := (hbq.cell (p := ⟨w.heap.size, 0, none⟩) (by omega)).trans e0); (replace e1 := (hbq.cell (p := ⟨w.heap.size, 1, none⟩) (by omega)).trans e1); (replace a2 := (hbq.cell (p := ⟨w1.heap.size + 1, 2, none⟩) lX3).trans a2); (replace a3 := (hbq.cell (p := ⟨w1.heap.size + 1, 3, none⟩) lX3).trans a3); (replace b2 := (hbq.cell (p := ⟨yb, 2, none⟩) lY).trans b2); (replace b3 := (hbq.cell (p := ⟨yb, 3, none⟩) lY).trans b3); (have hA := l1ByAge_any (some ⟨pb, po, none⟩) B A1 c d c1 lo hi w1.heap.size W3.heap.size xs ys (kidsM xs (halfAt xs p) k) k w4 (h3.same (Same.of_below hbq (by omega))) (h3'.same (Same.of_below hbq (by omega))) (by have := hbq.size; omega) (ho3.read.as.same (Same.of_below hbq (Nat.le_refl _))) hbq.size hlt (fun q hq => by obtain ⟨i, hi1, _, rfl⟩ := HM.out q hq; omega) (by omega)))
                  exact ⟨⟨k + 1, A1, c1, by omega, by go_num, by rw [HS.out], by rw [HS.out]; exact (ho3.same (Same.of_below hbq (Nat.le_refl _))).mono (Nat.le_refl _) hbq.size, hbw3.trans (hbq.mono (by omega))⟩, by simp [intOf]; omega⟩
              · skip
                have HS := Lib.hid (show kidsM xs (halfAt xs p) (k + 1) = kidsM xs (halfAt xs p) k by rw [kidsM, if_neg (by rw [HH]; simp; omega)])
                clear HH
                go_wp2_with (go_at_call 47; (with_reducible refine hF.mono ?_); rintro e w4 ⟨rfl, hbq⟩; (replace e0 := (hbq.cell (p := ⟨w.heap.size, 0, none⟩) (by omega)).trans e0); (replace e1 := (hbq.cell (p := ⟨w.heap.size, 1, none⟩) (by omega)).trans e1); (replace a2 := (hbq.cell (p := ⟨w1.heap.size + 1, 2, none⟩) lX3).trans a2); (replace a3 := (hbq.cell (p := ⟨w1.heap.size + 1, 3, none⟩) lX3).trans a3); (replace b2 := (hbq.cell (p := ⟨yb, 2, none⟩) lY).trans b2); (replace b3 := (hbq.cell (p := ⟨yb, 3, none⟩) lY).trans b3); (have hA := l1ByAge_any (some ⟨pb, po, none⟩) B A1 c d c1 lo hi w1.heap.size W3.heap.size xs ys (kidsM xs (halfAt xs p) k) k w4 (h3.same (Same.of_below hbq (by omega))) (h3'.same (Same.of_below hbq (by omega))) (by have := hbq.size; omega) (ho3.read.as.same (Same.of_below hbq (Nat.le_refl _))) hbq.size hlt (fun q hq => by obtain ⟨i, hi1, _, rfl⟩ := HM.out q hq; omega) (by omega)))
                exact ⟨⟨k + 1, A1, c1, by omega, by go_num, by rw [HS.out], by rw [HS.out]; exact (ho3.same (Same.of_below hbq (Nat.le_refl _))).mono (Nat.le_refl _) hbq.size, hbw3.trans (hbq.mono (by omega))⟩, by simp [intOf]; omega⟩
      · obtain rfl : k = xs.length := by omega
        go_wp2
        go_ret
        exact ⟨_, _, rfl, ho.mono (by omega) (Nat.le_refl _), hb2.trans ((hbV.trans (hbk.mono (by omega))).mono (by omega))⟩
end Go.Proofs.Ythpcippgifmabaa
