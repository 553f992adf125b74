/-
  ChildrenOf, FullSiblings, HalfSiblings: what the program's answer.
-/
import Derived.Test.YthpcippgifmabaaChosen
import Derived.Test.YthpcippgifmabaaGFamI
namespace Go.Proofs.Ythpcippgifmabaa
set_option maxRecDepth 100000
open Go.RowKit

theorem kidsM_congr {xs : List Person} {P Q : Nat → Bool} : ∀ {k : Nat}, (∀ i, i < k → P i = Q i) → kidsM xs P k = kidsM xs Q k := by
  intro k
  induction k with
  | zero => intro _; rfl
  | succ k ih =>
    intro h
    rw [kidsM, kidsM, ih fun i hi => h i (by omega), h k (by omega)]
theorem childM_len (xs : List Person) (ys : List Union) (p : Int) : (childM xs ys p).length ≤ 40 := by
  rw [childM]; split
  · rename_i h
    have := kidsM_len (xs := xs) (P := kidP xs p) xs.length
    have := (famOk_parts (hasOk_fam h).1).1
    omega
  · simp
theorem fullsM_len (xs : List Person) (ys : List Union) (p : Int) : (fullsM xs ys p).length ≤ 40 := by
  rw [fullsM]; split
  · rename_i h
    have := kidsM_len (xs := xs) (P := fullAt xs p.toNat) xs.length
    have := (famOk_parts (hasOk_fam h).1).1
    omega
  · simp
theorem halvesM_len (xs : List Person) (ys : List Union) (p : Int) : (halvesM xs ys p).length ≤ 40 := by
  rw [halvesM]; split
  · rename_i h
    have := kidsM_len (xs := xs) (P := halfAt xs p.toNat) xs.length
    have := (famOk_parts (hasOk_fam h).1).1
    omega
  · simp

set_option maxHeartbeats 4000000 in
theorem childrenOf_any (A B : Option Addr) (c d lo hi : Nat) (xs : List Person) (ys : List Union) (p : Nat) (w : World) (h : EPerson.AS w lo hi A xs) (h' : EUnion.AS w lo hi B ys) (hh : hi ≤ w.heap.size) (hn : xs.length ≤ 40) (hp : p < xs.length) :
    Calls Try.prog 34 #[.agg #[.slice A xs.length c, .slice B ys.length d], .int .i64 p] w (RetIntS w (kidsM xs (kidAt xs p) xs.length)) := by
  obtain ⟨R, hR⟩ : ∃ R, kidsM xs (kidAt xs p) xs.length = R := ⟨_, rfl⟩
  have HR := Lib.hid hR
  rw [hR]
  clear hR
  have hHX := Lib.hid h
  have hHY := Lib.hid h'
  clear h h'
  go_enter Try.func34, Try.ntmps34
  go_wp2_with fail
  generalize hW : (w.alloc (.cells #[.slice A xs.length c, .slice B ys.length d] 26)).alloc (.cells #[.int .i64 p] 3) = W
  have Ff : Blk W w.heap.size 26 #[.slice A xs.length c, .slice B ys.length d] := by subst hW; exact (Blk.new w rfl).alloc _
  have Fp : Blk W (w.heap.size + 1) 3 #[.int .i64 p] := by subst hW; exact Blk.new _ (by simp)
  have hbw : Below w.heap.size w W := by subst hW; (with_reducible repeat' first | exact Below.refl _ _ | assumption | (refine Below.setCell ?_ (by first | omega | (simp; omega) | (simp; done) | (dsimp only; omega)) _) | (refine Below.alloc ?_ (by first | omega | (simp; omega) | (simp; done) | (dsimp only; omega)) _) | (refine below_drewN ?_ _) | (refine Below.drew ?_))
  have z1 : w.heap.size + 2 ≤ W.heap.size := by subst hW; simp
  have e0 := Ff.cell (i := 0) rfl; have e1 := Ff.cell (i := 1) rfl; have e2 := Fp.cell (i := 0) rfl
  clear hW
  have hX := hHX.out.same (Same.of_below hbw hh)
  have hY := hHY.out.same (Same.of_below hbw hh)
  have hc := chosen_any A B c d lo hi 55 #[.pointer (some ⟨w.heap.size, 0, none⟩), .pointer (some ⟨w.heap.size + 1, 0, none⟩)] (kidAt xs p) xs ys W hX hY (by omega) hn (fun args w' => by kernel_rfl) (fun W' k hb hk => childrenOfFn_any A B c d lo hi _ _ xs ys p k W' (hX.same (Same.of_below hb (by omega))) (hY.same (Same.of_below hb (by omega))) (by have := hb.size; omega) hp hk (Ff.below hb (by omega)) (Fp.below hb (by omega)))
  rw [HR.out] at hc
  go_wp2_with (go_at_call 29; (with_reducible refine hc.mono ?_); rintro e w5 ⟨A5, c5, rfl, ho5, hb5⟩)
  go_ret
  exact ⟨A5, c5, rfl, ho5.mono (by omega) (Nat.le_refl _), by (with_reducible repeat' first | exact Below.refl _ _ | assumption | (refine Below.setCell ?_ (by first | omega | (simp; omega) | (simp; done) | (dsimp only; omega)) _) | (refine Below.alloc ?_ (by first | omega | (simp; omega) | (simp; done) | (dsimp only; omega)) _) | (refine below_drewN ?_ _) | (refine Below.drew ?_) | (refine Below.trans ?_ (hb5.mono (by first | omega | (simp; omega) | (simp; done) | (dsimp only; omega)))) | (refine Below.trans ?_ (hbw.mono (by first | omega | (simp; omega) | (simp; done) | (dsimp only; omega)))))⟩

set_option maxHeartbeats 8000000 in
theorem implChildrenOf_any (A B : Option Addr) (c d lo hi : Nat) (xs : List Person) (ys : List Union) (p : Int) (w : World) (h : EPerson.AS w lo hi A xs) (h' : EUnion.AS w lo hi B ys) (hh : hi ≤ w.heap.size) (hdc : ys.length ≤ d ∧ d ≤ maxLen) (hs : totP xs ≤ 1048576) :
    Calls Try.prog 12 #[.agg #[.slice A xs.length c, .slice B ys.length d], .int .i64 p] w (RetIntS w (childM xs ys p)) := by
  cases ho : hasOk xs ys p with
  | false =>
    have HO := Lib.hid ho
    have HN := Lib.hid (show childM xs ys p = [] by rw [childM, ho]; rfl)
    clear ho
    rw [HN.out]
    go_enter Try.func12, Try.ntmps12
    go_wp2_with (go_at_call 28; refine (has_any _ _ _ _ lo hi xs ys (some ⟨w.heap.size + 1, 0, none⟩) _ _ _ [p] _ (h.same (by (with_reducible repeat' first | exact Same.refl _ _ _ | assumption | (refine Same.setCell ?_ (by first | omega | (simp; omega) | (simp; done) | (dsimp only; omega)) _) | (refine Same.alloc ?_ (by first | omega | (simp; omega) | (simp; done) | (dsimp only; omega)) _) | (refine Same.drewN ?_ _) | (refine Same.drew ?_)))) (h'.same (by (with_reducible repeat' first | exact Same.refl _ _ _ | assumption | (refine Same.setCell ?_ (by first | omega | (simp; omega) | (simp; done) | (dsimp only; omega)) _) | (refine Same.alloc ?_ (by first | omega | (simp; omega) | (simp; done) | (dsimp only; omega)) _) | (refine Same.drewN ?_ _) | (refine Same.drew ?_)))) (by first | omega | (simp; omega) | (simp; done) | (dsimp only; omega)) hdc hs (ints_as' _ _ [p] rfl (by simp [BIG]) _ (by simp)) (by first | omega | (simp; omega) | (simp; done) | (dsimp only; omega))).mono ?_; rintro e w1 ⟨rfl, hb1⟩; simp only [hasOk_all, HO.out]; (obtain ⟨hb1c, hb1f⟩ := bcell hb1); (have hb1z := hb1.size); (try simp only [szs] at hb1c hb1f hb1z); have lt1 : w.heap.size < w1.heap.size := (by omega))
    go_ret
    exact ⟨none, 0, rfl, Elem.OS.nil, by (with_reducible repeat' first | exact Below.refl _ _ | assumption | (refine Below.setCell ?_ (by first | omega | (simp; omega) | (simp; done) | (dsimp only; omega)) _) | (refine Below.alloc ?_ (by first | omega | (simp; omega) | (simp; done) | (dsimp only; omega)) _) | (refine below_drewN ?_ _) | (refine Below.drew ?_) | (refine Below.trans ?_ (hb1.mono (by first | omega | (simp; omega) | (simp; done) | (dsimp only; omega)))))⟩
  | true =>
    have HO := Lib.hid ho
    obtain ⟨hfam, hp0, hpl⟩ := hasOk_fam ho
    have hl40 := (famOk_parts hfam).1
    obtain ⟨q, rfl⟩ : ∃ q : Nat, p = q := ⟨p.toNat, by omega⟩
    have hqn : q < xs.length := by omega
    have hN0 : childM xs ys q = kidsM xs (kidAt xs q) xs.length := by rw [childM, if_pos ho]; exact kidsM_congr fun i hi => kidP_kidAt hi
    rw [hN0]
    clear ho hfam hN0 hp0 hpl
    have hHX := Lib.hid h
    have hHY := Lib.hid h'
    obtain ⟨R, hR⟩ : ∃ R, kidsM xs (kidAt xs q) xs.length = R := ⟨_, rfl⟩
    have HR := Lib.hid hR
    rw [hR]
    clear hR
    go_enter Try.func12, Try.ntmps12
    go_wp2_with (first
      | (go_at_call 28; refine (has_any _ _ _ _ lo hi xs ys (some ⟨w.heap.size + 1, 0, none⟩) _ _ _ [(q : Int)] _ (h.same (by (with_reducible repeat' first | exact Same.refl _ _ _ | assumption | (refine Same.setCell ?_ (by first | omega | (simp; omega) | (simp; done) | (dsimp only; omega)) _) | (refine Same.alloc ?_ (by first | omega | (simp; omega) | (simp; done) | (dsimp only; omega)) _) | (refine Same.drewN ?_ _) | (refine Same.drew ?_)))) (h'.same (by (with_reducible repeat' first | exact Same.refl _ _ _ | assumption | (refine Same.setCell ?_ (by first | omega | (simp; omega) | (simp; done) | (dsimp only; omega)) _) | (refine Same.alloc ?_ (by first | omega | (simp; omega) | (simp; done) | (dsimp only; omega)) _) | (refine Same.drewN ?_ _) | (refine Same.drew ?_)))) (by first | omega | (simp; omega) | (simp; done) | (dsimp only; omega)) hdc hs (ints_as' _ _ [(q : Int)] rfl (by simp [BIG]) _ (by simp)) (by first | omega | (simp; omega) | (simp; done) | (dsimp only; omega))).mono ?_; rintro e w1 ⟨rfl, hb1⟩; simp only [hasOk_all, HO.out]; (obtain ⟨hb1c, hb1f⟩ := bcell hb1); (have hb1z := hb1.size); (try simp only [szs] at hb1c hb1f hb1z); have lt1 : w.heap.size < w1.heap.size := (by omega))
      | (go_at_call 34; have hbw : Below w.heap.size w w1 := (by (with_reducible repeat' first | exact Below.refl _ _ | assumption | (refine Below.setCell ?_ (by first | omega | (simp; omega) | (simp; done) | (dsimp only; omega)) _) | (refine Below.alloc ?_ (by first | omega | (simp; omega) | (simp; done) | (dsimp only; omega)) _) | (refine below_drewN ?_ _) | (refine Below.drew ?_) | (refine Below.trans ?_ (hb1.mono (by first | omega | (simp; omega) | (simp; done) | (dsimp only; omega)))))); have hc := childrenOf_any A B c d lo hi xs ys q w1 (hHX.out.same (Same.of_below hbw hh)) (hHY.out.same (Same.of_below hbw hh)) (by omega) hl40 hqn; rw [HR.out] at hc; (with_reducible refine hc.mono ?_); rintro e w5 ⟨A5, c5, rfl, ho5, hb5⟩))
    go_ret
    exact ⟨A5, c5, rfl, ho5.mono (by omega) (Nat.le_refl _), by (with_reducible repeat' first | exact Below.refl _ _ | assumption | (refine Below.setCell ?_ (by first | omega | (simp; omega) | (simp; done) | (dsimp only; omega)) _) | (refine Below.alloc ?_ (by first | omega | (simp; omega) | (simp; done) | (dsimp only; omega)) _) | (refine below_drewN ?_ _) | (refine Below.drew ?_) | (refine Below.trans ?_ (hb5.mono (by first | omega | (simp; omega) | (simp; done) | (dsimp only; omega)))) | (refine Below.trans ?_ (hbw.mono (by first | omega | (simp; omega) | (simp; done) | (dsimp only; omega)))))⟩

set_option maxHeartbeats 8000000 in
theorem implFullSiblings_any (A B : Option Addr) (c d lo hi : Nat) (xs : List Person) (ys : List Union) (p : Int) (w : World) (h : EPerson.AS w lo hi A xs) (h' : EUnion.AS w lo hi B ys) (hh : hi ≤ w.heap.size) (hdc : ys.length ≤ d ∧ d ≤ maxLen) (hs : totP xs ≤ 1048576) :
    Calls Try.prog 9 #[.agg #[.slice A xs.length c, .slice B ys.length d], .int .i64 p] w (RetIntS w (fullsM xs ys p)) := by
  cases ho : hasOk xs ys p with
  | false =>
    have HO := Lib.hid ho
    have HN := Lib.hid (show fullsM xs ys p = [] by rw [fullsM, ho]; rfl)
    clear ho
    rw [HN.out]
    go_enter Try.func9, Try.ntmps9
    go_wp2_with (go_at_call 28; refine (has_any _ _ _ _ lo hi xs ys (some ⟨w.heap.size + 1 + 1, 0, none⟩) _ _ _ [p] _ (h.same (by (with_reducible repeat' first | exact Same.refl _ _ _ | assumption | (refine Same.setCell ?_ (by first | omega | (simp; omega) | (simp; done) | (dsimp only; omega)) _) | (refine Same.alloc ?_ (by first | omega | (simp; omega) | (simp; done) | (dsimp only; omega)) _) | (refine Same.drewN ?_ _) | (refine Same.drew ?_)))) (h'.same (by (with_reducible repeat' first | exact Same.refl _ _ _ | assumption | (refine Same.setCell ?_ (by first | omega | (simp; omega) | (simp; done) | (dsimp only; omega)) _) | (refine Same.alloc ?_ (by first | omega | (simp; omega) | (simp; done) | (dsimp only; omega)) _) | (refine Same.drewN ?_ _) | (refine Same.drew ?_)))) (by first | omega | (simp; omega) | (simp; done) | (dsimp only; omega)) hdc hs (ints_as' _ _ [p] rfl (by simp [BIG]) _ (by simp)) (by first | omega | (simp; omega) | (simp; done) | (dsimp only; omega))).mono ?_; rintro e w1 ⟨rfl, hb1⟩; simp only [hasOk_all, HO.out]; (obtain ⟨hb1c, hb1f⟩ := bcell hb1); (have hb1z := hb1.size); (try simp only [szs] at hb1c hb1f hb1z); have lt1 : w.heap.size < w1.heap.size := (by omega))
    go_ret
    exact ⟨none, 0, rfl, Elem.OS.nil, by (with_reducible repeat' first | exact Below.refl _ _ | assumption | (refine Below.setCell ?_ (by first | omega | (simp; omega) | (simp; done) | (dsimp only; omega)) _) | (refine Below.alloc ?_ (by first | omega | (simp; omega) | (simp; done) | (dsimp only; omega)) _) | (refine below_drewN ?_ _) | (refine Below.drew ?_) | (refine Below.trans ?_ (hb1.mono (by first | omega | (simp; omega) | (simp; done) | (dsimp only; omega)))))⟩
  | true =>
    have HO := Lib.hid ho
    obtain ⟨hfam, hp0, hpl⟩ := hasOk_fam ho
    have hl40 := (famOk_parts hfam).1
    obtain ⟨q, rfl⟩ : ∃ q : Nat, p = q := ⟨p.toNat, by omega⟩
    have hqn : q < xs.length := by omega
    have hN0 : fullsM xs ys q = kidsM xs (fullAt xs q) xs.length := by rw [fullsM, if_pos ho]; rfl
    rw [hN0]
    clear ho hfam hN0 hp0 hpl
    have hHX := Lib.hid h
    have hHY := Lib.hid h'
    obtain ⟨R, hR⟩ : ∃ R, kidsM xs (fullAt xs q) xs.length = R := ⟨_, rfl⟩
    have HR := Lib.hid hR
    rw [hR]
    clear hR
    go_enter Try.func9, Try.ntmps9
    go_wp2_with (go_at_call 28; refine (has_any _ _ _ _ lo hi xs ys (some ⟨w.heap.size + 1 + 1, 0, none⟩) _ _ _ [(q : Int)] _ (h.same (by (with_reducible repeat' first | exact Same.refl _ _ _ | assumption | (refine Same.setCell ?_ (by first | omega | (simp; omega) | (simp; done) | (dsimp only; omega)) _) | (refine Same.alloc ?_ (by first | omega | (simp; omega) | (simp; done) | (dsimp only; omega)) _) | (refine Same.drewN ?_ _) | (refine Same.drew ?_)))) (h'.same (by (with_reducible repeat' first | exact Same.refl _ _ _ | assumption | (refine Same.setCell ?_ (by first | omega | (simp; omega) | (simp; done) | (dsimp only; omega)) _) | (refine Same.alloc ?_ (by first | omega | (simp; omega) | (simp; done) | (dsimp only; omega)) _) | (refine Same.drewN ?_ _) | (refine Same.drew ?_)))) (by first | omega | (simp; omega) | (simp; done) | (dsimp only; omega)) hdc hs (ints_as' _ _ [(q : Int)] rfl (by simp [BIG]) _ (by simp)) (by first | omega | (simp; omega) | (simp; done) | (dsimp only; omega))).mono ?_; rintro e w1 ⟨rfl, hb1⟩; simp only [hasOk_all, HO.out]; (obtain ⟨hb1c, hb1f⟩ := bcell hb1); (have hb1z := hb1.size); (try simp only [szs] at hb1c hb1f hb1z); have lt1 : w.heap.size < w1.heap.size := (by omega); have lt2 : w.heap.size + 1 < w1.heap.size := (by omega))
    have hbw : Below w.heap.size w w1 := by (with_reducible repeat' first | exact Below.refl _ _ | assumption | (refine Below.setCell ?_ (by first | omega | (simp; omega) | (simp; done) | (dsimp only; omega)) _) | (refine Below.alloc ?_ (by first | omega | (simp; omega) | (simp; done) | (dsimp only; omega)) _) | (refine below_drewN ?_ _) | (refine Below.drew ?_) | (refine Below.trans ?_ (hb1.mono (by first | omega | (simp; omega) | (simp; done) | (dsimp only; omega)))))
    have Ff : Blk w1 w.heap.size 26 #[.slice A xs.length c, .slice B ys.length d] := (((Blk.new w rfl).alloc _).alloc _).below hb1 (by simp; omega)
    have Fp : Blk w1 (w.heap.size + 1) 3 #[.int .i64 q] := ((Blk.new (w.alloc _) (by simp)).alloc _).below hb1 (by simp)
    have hX := hHX.out.same (Same.of_below hbw hh)
    have hY := hHY.out.same (Same.of_below hbw hh)
    have zz := hbw.size
    have hc := chosen_any A B c d lo hi 30 #[.pointer (some ⟨w.heap.size, 0, none⟩), .pointer (some ⟨w.heap.size + 1, 0, none⟩)] (fullAt xs q) xs ys w1 hX hY (by omega) hl40 (fun args w' => by kernel_rfl) (fun W' k hb hk => FullSiblingsFn_any A B c d lo hi _ _ xs ys q k W' (hX.same (Same.of_below hb (by omega))) (hY.same (Same.of_below hb (by omega))) (by have := hb.size; omega) hqn hk (Ff.below hb (by omega)) (Fp.below hb (by omega)))
    rw [HR.out] at hc
    go_wp2_with (go_at_call 29; (with_reducible refine hc.mono ?_); rintro e w5 ⟨A5, c5, rfl, ho5, hb5⟩)
    go_ret
    exact ⟨A5, c5, rfl, ho5.mono (by omega) (Nat.le_refl _), by (with_reducible repeat' first | exact Below.refl _ _ | assumption | (refine Below.setCell ?_ (by first | omega | (simp; omega) | (simp; done) | (dsimp only; omega)) _) | (refine Below.alloc ?_ (by first | omega | (simp; omega) | (simp; done) | (dsimp only; omega)) _) | (refine below_drewN ?_ _) | (refine Below.drew ?_) | (refine Below.trans ?_ (hb5.mono (by first | omega | (simp; omega) | (simp; done) | (dsimp only; omega)))) | (refine Below.trans ?_ (hbw.mono (by first | omega | (simp; omega) | (simp; done) | (dsimp only; omega)))))⟩

set_option maxHeartbeats 8000000 in
theorem implHalfSiblings_any (A B : Option Addr) (c d lo hi : Nat) (xs : List Person) (ys : List Union) (p : Int) (w : World) (h : EPerson.AS w lo hi A xs) (h' : EUnion.AS w lo hi B ys) (hh : hi ≤ w.heap.size) (hdc : ys.length ≤ d ∧ d ≤ maxLen) (hs : totP xs ≤ 1048576) :
    Calls Try.prog 10 #[.agg #[.slice A xs.length c, .slice B ys.length d], .int .i64 p] w (RetIntS w (halvesM xs ys p)) := by
  cases ho : hasOk xs ys p with
  | false =>
    have HO := Lib.hid ho
    have HN := Lib.hid (show halvesM xs ys p = [] by rw [halvesM, ho]; rfl)
    clear ho
    rw [HN.out]
    go_enter Try.func10, Try.ntmps10
    go_wp2_with (go_at_call 28; refine (has_any _ _ _ _ lo hi xs ys (some ⟨w.heap.size + 1 + 1, 0, none⟩) _ _ _ [p] _ (h.same (by (with_reducible repeat' first | exact Same.refl _ _ _ | assumption | (refine Same.setCell ?_ (by first | omega | (simp; omega) | (simp; done) | (dsimp only; omega)) _) | (refine Same.alloc ?_ (by first | omega | (simp; omega) | (simp; done) | (dsimp only; omega)) _) | (refine Same.drewN ?_ _) | (refine Same.drew ?_)))) (h'.same (by (with_reducible repeat' first | exact Same.refl _ _ _ | assumption | (refine Same.setCell ?_ (by first | omega | (simp; omega) | (simp; done) | (dsimp only; omega)) _) | (refine Same.alloc ?_ (by first | omega | (simp; omega) | (simp; done) | (dsimp only; omega)) _) | (refine Same.drewN ?_ _) | (refine Same.drew ?_)))) (by first | omega | (simp; omega) | (simp; done) | (dsimp only; omega)) hdc hs (ints_as' _ _ [p] rfl (by simp [BIG]) _ (by simp)) (by first | omega | (simp; omega) | (simp; done) | (dsimp only; omega))).mono ?_; rintro e w1 ⟨rfl, hb1⟩; simp only [hasOk_all, HO.out]; (obtain ⟨hb1c, hb1f⟩ := bcell hb1); (have hb1z := hb1.size); (try simp only [szs] at hb1c hb1f hb1z); have lt1 : w.heap.size < w1.heap.size := (by omega))
    go_ret
    exact ⟨none, 0, rfl, Elem.OS.nil, by (with_reducible repeat' first | exact Below.refl _ _ | assumption | (refine Below.setCell ?_ (by first | omega | (simp; omega) | (simp; done) | (dsimp only; omega)) _) | (refine Below.alloc ?_ (by first | omega | (simp; omega) | (simp; done) | (dsimp only; omega)) _) | (refine below_drewN ?_ _) | (refine Below.drew ?_) | (refine Below.trans ?_ (hb1.mono (by first | omega | (simp; omega) | (simp; done) | (dsimp only; omega)))))⟩
  | true =>
    have HO := Lib.hid ho
    obtain ⟨hfam, hp0, hpl⟩ := hasOk_fam ho
    have hl40 := (famOk_parts hfam).1
    obtain ⟨q, rfl⟩ : ∃ q : Nat, p = q := ⟨p.toNat, by omega⟩
    have hqn : q < xs.length := by omega
    have hN0 : halvesM xs ys q = kidsM xs (halfAt xs q) xs.length := by rw [halvesM, if_pos ho]; rfl
    rw [hN0]
    clear ho hfam hN0 hp0 hpl
    have hHX := Lib.hid h
    have hHY := Lib.hid h'
    obtain ⟨R, hR⟩ : ∃ R, kidsM xs (halfAt xs q) xs.length = R := ⟨_, rfl⟩
    have HR := Lib.hid hR
    rw [hR]
    clear hR
    go_enter Try.func10, Try.ntmps10
    go_wp2_with (go_at_call 28; refine (has_any _ _ _ _ lo hi xs ys (some ⟨w.heap.size + 1 + 1, 0, none⟩) _ _ _ [(q : Int)] _ (h.same (by (with_reducible repeat' first | exact Same.refl _ _ _ | assumption | (refine Same.setCell ?_ (by first | omega | (simp; omega) | (simp; done) | (dsimp only; omega)) _) | (refine Same.alloc ?_ (by first | omega | (simp; omega) | (simp; done) | (dsimp only; omega)) _) | (refine Same.drewN ?_ _) | (refine Same.drew ?_)))) (h'.same (by (with_reducible repeat' first | exact Same.refl _ _ _ | assumption | (refine Same.setCell ?_ (by first | omega | (simp; omega) | (simp; done) | (dsimp only; omega)) _) | (refine Same.alloc ?_ (by first | omega | (simp; omega) | (simp; done) | (dsimp only; omega)) _) | (refine Same.drewN ?_ _) | (refine Same.drew ?_)))) (by first | omega | (simp; omega) | (simp; done) | (dsimp only; omega)) hdc hs (ints_as' _ _ [(q : Int)] rfl (by simp [BIG]) _ (by simp)) (by first | omega | (simp; omega) | (simp; done) | (dsimp only; omega))).mono ?_; rintro e w1 ⟨rfl, hb1⟩; simp only [hasOk_all, HO.out]; (obtain ⟨hb1c, hb1f⟩ := bcell hb1); (have hb1z := hb1.size); (try simp only [szs] at hb1c hb1f hb1z); have lt1 : w.heap.size < w1.heap.size := (by omega); have lt2 : w.heap.size + 1 < w1.heap.size := (by omega))
    have hbw : Below w.heap.size w w1 := by (with_reducible repeat' first | exact Below.refl _ _ | assumption | (refine Below.setCell ?_ (by first | omega | (simp; omega) | (simp; done) | (dsimp only; omega)) _) | (refine Below.alloc ?_ (by first | omega | (simp; omega) | (simp; done) | (dsimp only; omega)) _) | (refine below_drewN ?_ _) | (refine Below.drew ?_) | (refine Below.trans ?_ (hb1.mono (by first | omega | (simp; omega) | (simp; done) | (dsimp only; omega)))))
    have Ff : Blk w1 w.heap.size 26 #[.slice A xs.length c, .slice B ys.length d] := (((Blk.new w rfl).alloc _).alloc _).below hb1 (by simp; omega)
    have Fp : Blk w1 (w.heap.size + 1) 3 #[.int .i64 q] := ((Blk.new (w.alloc _) (by simp)).alloc _).below hb1 (by simp)
    have hX := hHX.out.same (Same.of_below hbw hh)
    have hY := hHY.out.same (Same.of_below hbw hh)
    have zz := hbw.size
    have hc := chosen_any A B c d lo hi 32 #[.pointer (some ⟨w.heap.size, 0, none⟩), .pointer (some ⟨w.heap.size + 1, 0, none⟩)] (halfAt xs q) xs ys w1 hX hY (by omega) hl40 (fun args w' => by kernel_rfl) (fun W' k hb hk => HalfSiblingsFn_any A B c d lo hi _ _ xs ys q k W' (hX.same (Same.of_below hb (by omega))) (hY.same (Same.of_below hb (by omega))) (by have := hb.size; omega) hqn hk (Ff.below hb (by omega)) (Fp.below hb (by omega)))
    rw [HR.out] at hc
    go_wp2_with (go_at_call 29; (with_reducible refine hc.mono ?_); rintro e w5 ⟨A5, c5, rfl, ho5, hb5⟩)
    go_ret
    exact ⟨A5, c5, rfl, ho5.mono (by omega) (Nat.le_refl _), by (with_reducible repeat' first | exact Below.refl _ _ | assumption | (refine Below.setCell ?_ (by first | omega | (simp; omega) | (simp; done) | (dsimp only; omega)) _) | (refine Below.alloc ?_ (by first | omega | (simp; omega) | (simp; done) | (dsimp only; omega)) _) | (refine below_drewN ?_ _) | (refine Below.drew ?_) | (refine Below.trans ?_ (hb5.mono (by first | omega | (simp; omega) | (simp; done) | (dsimp only; omega)))) | (refine Below.trans ?_ (hbw.mono (by first | omega | (simp; omega) | (simp; done) | (dsimp only; omega)))))⟩
end Go.Proofs.Ythpcippgifmabaa
