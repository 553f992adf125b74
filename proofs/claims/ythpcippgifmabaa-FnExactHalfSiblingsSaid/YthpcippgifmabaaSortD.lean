/-
  sort.Slice's family: the pivot.
-/
import Derived.Test.YthpcippgifmabaaSortA
import Derived.Sort.LotD4
namespace Go.Proofs.Ythpcippgifmabaa
set_option maxRecDepth 100000
open Go.RowKit
open Go.Sort (Holds swp order2 median choosePivot Hint hintCode size_swp)
variable {m9 : Nat}

section
variable {wb w w' W : World} {r off n g t : Nat} {d : Array (Fin (m9 + 1))} {cs : Array Value}
theorem Srt.far (h : Srt wb r off d w) (hr : r < wb.heap.size) (k : Chg g (g + 1) w w') (hg : wb.heap.size ≤ g) : Srt wb r off d w' := by
  refine ⟨⟨k.os.trans h.chg.os, k.tape.trans h.chg.tape, k.output.trans h.chg.output, Nat.le_trans h.chg.size k.size, fun i hi hd => (k.block i (Nat.lt_of_lt_of_le hi h.chg.size) (by omega)).trans (h.chg.block i hi hd)⟩, fun j hj => ?_, h.frm.trans (Frm.of_eq (k.block r (Nat.lt_of_lt_of_le hr h.chg.size) (by omega)))⟩
  have e := k.block r (Nat.lt_of_lt_of_le hr h.chg.size) (by omega)
  have h1 := (h.holds j hj).1
  have h2 := (h.holds j hj).2
  refine ⟨(World.cell?_of_block e).trans h1, ?_⟩
  simp only [World.frozen?, e] at h2 ⊢
  exact h2
theorem Chg.of_set {p : Addr} (u : Value) (hp : p.block = g) : Chg g (g + 1) w (w.setCell p u) := (Chg.refl g (g + 1) w).setCell (by omega) u
end

set_option maxHeartbeats 4000000 in
theorem order2_any (lt : Fin (m9 + 1) → Fin (m9 + 1) → Bool) (lb sb : Array Value) (r off g t a b n : Nat) (d : Array (Fin (m9 + 1))) (wb w : World) (hL : Less lt lb r off d.size wb) (hw : Srt wb r off d w) (_hg : wb.heap.size ≤ g) (G : Blk w g t #[.int .i64 n]) (ha : a < d.size) (hb : b < d.size) (hn : n < 100) :
    Calls Try.prog 113 #[.agg #[.func (.func 54) #[] lb, .func (.func 90) #[] sb], .int .i64 a, .int .i64 b, .pointer (some ⟨g, 0, none⟩)] w fun e w' =>
      e = .returned (.tuple #[.int .i64 (order2 lt d a b n).1, .int .i64 (order2 lt d a b n).2.1]) ∧ Chg g (g + 1) w w' ∧ Blk w' g t #[.int .i64 (order2 lt d a b n).2.2] := by
  have hr := hL.row
  have lG := G.lt
  have hzb := hw.size
  go_enter Try.func113, Try.ntmps113
  go_upto_region 1 with fail
  have F : Blk (w.alloc (.cells #[.func (.func 54) #[] lb, .func (.func 90) #[] sb] 103)) w.heap.size 103 #[.func (.func 54) #[] lb, .func (.func 90) #[] sb] := Blk.new _ rfl
  have hb0 : Below w.heap.size w (w.alloc (.cells #[.func (.func 54) #[] lb, .func (.func 90) #[] sb] 103)) := by (with_reducible repeat' first | exact Below.refl _ _ | assumption | (refine Below.setCell ?_ (by first | omega | (simp; omega) | (simp; done) | (dsimp only; omega)) _) | (refine Below.alloc ?_ (by first | omega | (simp; omega) | (simp; done) | (dsimp only; omega)) _) | (refine below_drewN ?_ _) | (refine Below.drew ?_))
  generalize (w.alloc (.cells #[.func (.func 54) #[] lb, .func (.func 90) #[] sb] 103)) = w0 at F hb0
  have e0 := F.cell (i := 0) rfl
  have hz0 := hb0.size
  have hl := hL.at (hw.below hr hb0) rfl b a hb ha
  have G0 := G.below hb0 lG
  cases hv : lt d[b]! d[a]! with
  | true =>
    rw [hv] at hl
    have HO := Lib.hid (show order2 lt d a b n = (b, a, n + 1) by rw [order2, if_pos hv])
    go_upto_region 2 with (go_at_call 54; (with_reducible refine (hl _ _ (by omega) (by omega)).mono ?_); rintro e w1 ⟨rfl, hq⟩)
    have G1 := G0.below hq (by omega)
    have g0 := G1.cell (i := 0) rfl
    have gf := G1.free 0
    go_wp2
    (try simp only [Exit.inBlock, Exit.then]); refine bodyPost_ret (v := .tuple #[.int .i64 b, .int .i64 a]) (by simp [results, Try.results113, go_sem]) rfl ?_
    rw [HO.out]
    refine ⟨rfl, ((Chg.of_below hb0).trans (Chg.of_below hq)).setCell (p := ⟨g, 0, none⟩) ⟨Nat.le_refl _, Nat.lt_succ_self _⟩ _, ?_⟩
    have := G1.set 0 (.int .i64 ((n : Int) + 1))
    exact this
  | false =>
    rw [hv] at hl
    have HO := Lib.hid (show order2 lt d a b n = (a, b, n) by rw [order2, if_neg (by rw [hv]; simp)])
    go_wp2_with (go_at_call 54; (with_reducible refine (hl _ _ (by omega) (by omega)).mono ?_); rintro e w1 ⟨rfl, hq⟩)
    (try simp only [Exit.inBlock, Exit.then]); refine bodyPost_ret (v := .tuple #[.int .i64 a, .int .i64 b]) (by simp [results, Try.results113, go_sem]) rfl ?_
    rw [HO.out]
    exact ⟨rfl, (Chg.of_below hb0).trans (Chg.of_below hq), G0.below hq (by omega)⟩

set_option maxHeartbeats 4000000 in
theorem median_any (lt : Fin (m9 + 1) → Fin (m9 + 1) → Bool) (lb sb : Array Value) (r off g t a b c n : Nat) (d : Array (Fin (m9 + 1))) (wb w : World) (hL : Less lt lb r off d.size wb) (hw : Srt wb r off d w) (hg : wb.heap.size ≤ g) (G : Blk w g t #[.int .i64 n]) (ha : a < d.size) (hb : b < d.size) (hc : c < d.size) (hn : n < 90) :
    Calls Try.prog 112 #[.agg #[.func (.func 54) #[] lb, .func (.func 90) #[] sb], .int .i64 a, .int .i64 b, .int .i64 c, .pointer (some ⟨g, 0, none⟩)] w fun e w' =>
      e = .returned (.int .i64 (median lt d a b c n).1) ∧ Chg g (g + 1) w w' ∧ Blk w' g t #[.int .i64 (median lt d a b c n).2] := by
  have hr := hL.row
  have lG := G.lt
  have hzb := hw.size
  go_enter Try.func112, Try.ntmps112
  go_upto_region 1 with fail
  have F : Blk (w.alloc (.cells #[.func (.func 54) #[] lb, .func (.func 90) #[] sb] 103)) w.heap.size 103 #[.func (.func 54) #[] lb, .func (.func 90) #[] sb] := Blk.new _ rfl
  have hb0 : Below w.heap.size w (w.alloc (.cells #[.func (.func 54) #[] lb, .func (.func 90) #[] sb] 103)) := by (with_reducible repeat' first | exact Below.refl _ _ | assumption | (refine Below.setCell ?_ (by first | omega | (simp; omega) | (simp; done) | (dsimp only; omega)) _) | (refine Below.alloc ?_ (by first | omega | (simp; omega) | (simp; done) | (dsimp only; omega)) _) | (refine below_drewN ?_ _) | (refine Below.drew ?_))
  generalize (w.alloc (.cells #[.func (.func 54) #[] lb, .func (.func 90) #[] sb] 103)) = w0 at F hb0
  have e0 := F.cell (i := 0) rfl; have e1 := F.cell (i := 1) rfl
  have lF := F.lt
  have hz0 := hb0.size
  have G0 := G.below hb0 lG
  have S0 := hw.below hr hb0
  have q1 := order2_any lt lb sb r off g t a b n d wb w0 hL S0 hg G0 ha hb (by omega)
  obtain ⟨x1, y1, n1, ho1⟩ : ∃ x y m, order2 lt d a b n = (x, y, m) := ⟨_, _, _, rfl⟩
  rw [ho1] at q1
  have b1 : (x1 < d.size ∧ y1 < d.size) ∧ n1 ≤ n + 1 := by
    unfold order2 at ho1; split at ho1 <;> (injection ho1 with h1 h2; injection h2 with h2 h3; subst h1 h2 h3; omega)
  have HO1 := Lib.hid ho1
  clear ho1
  go_upto_region 2 with (go_at_call 113; (with_reducible refine q1.mono ?_); rintro e w1 ⟨rfl, hc1, G1⟩)
  have F1 := F.chg hc1 (by omega)
  have S1 := S0.far hr hc1 hg
  have e0 := F1.cell (i := 0) rfl; have e1 := F1.cell (i := 1) rfl
  have q2 := order2_any lt lb sb r off g t y1 c n1 d wb w1 hL S1 hg G1 b1.1.2 hc (by omega)
  obtain ⟨x2, y2, n2, ho2⟩ : ∃ x y m, order2 lt d y1 c n1 = (x, y, m) := ⟨_, _, _, rfl⟩
  rw [ho2] at q2
  have b2 : (x2 < d.size ∧ y2 < d.size) ∧ n2 ≤ n1 + 1 := by
    unfold order2 at ho2; split at ho2 <;> (injection ho2 with h1 h2; injection h2 with h2 h3; subst h1 h2 h3; omega)
  have HO2 := Lib.hid ho2
  clear ho2
  go_upto_region 3 with (go_at_call 113; (with_reducible refine q2.mono ?_); rintro e w2 ⟨rfl, hc2, G2⟩)
  have hz1 := hc1.size
  have F2 := F1.chg hc2 (by omega)
  have S2 := S1.far hr hc2 hg
  have e0 := F2.cell (i := 0) rfl; have e1 := F2.cell (i := 1) rfl
  have q3 := order2_any lt lb sb r off g t x1 x2 n2 d wb w2 hL S2 hg G2 b1.1.1 b2.1.1 (by omega)
  obtain ⟨x3, y3, n3, ho3⟩ : ∃ x y m, order2 lt d x1 x2 n2 = (x, y, m) := ⟨_, _, _, rfl⟩
  rw [ho3] at q3
  have HO3 := Lib.hid ho3
  clear ho3
  go_wp2_with (go_at_call 113; (with_reducible refine q3.mono ?_); rintro e w3 ⟨rfl, hc3, G3⟩)
  go_ret
  have hm : median lt d a b c n = (y3, n3) := by simp only [median, HO1.out, HO2.out, HO3.out]
  rw [hm]
  exact ⟨rfl, (Chg.of_below hb0).trans (hc1.trans (hc2.trans hc3)), G3⟩

theorem order2_lt {lt : Fin (m9 + 1) → Fin (m9 + 1) → Bool} {d : Array (Fin (m9 + 1))} {a b n N : Nat} (ha : a < N) (hb : b < N) : (order2 lt d a b n).1 < N ∧ (order2 lt d a b n).2.1 < N ∧ (order2 lt d a b n).2.2 ≤ n + 1 := by
  unfold order2; split <;> refine ⟨?_, ?_, ?_⟩ <;> first | assumption | simp
theorem median_lt {lt : Fin (m9 + 1) → Fin (m9 + 1) → Bool} {d : Array (Fin (m9 + 1))} {a b c n N : Nat} (ha : a < N) (hb : b < N) (hc : c < N) : (median lt d a b c n).1 < N := by
  have h1 := order2_lt (lt := lt) (d := d) (n := n) ha hb
  have h2 := order2_lt (lt := lt) (d := d) (n := (order2 lt d a b n).2.2) h1.2.1 hc
  exact (order2_lt (lt := lt) (d := d) h1.1 h2.1).2.1

set_option maxHeartbeats 4000000 in
theorem choosePivot_any (lt : Fin (m9 + 1) → Fin (m9 + 1) → Bool) (lb sb : Array Value) (r off a b : Nat) (d : Array (Fin (m9 + 1))) (w : World) (hL : Less lt lb r off d.size w) (hH : Holds encF w r off d) (hab : a + 12 < b) (hb : b ≤ d.size) (hsz : d.size < 50) :
    Calls Try.prog 100 #[.agg #[.func (.func 54) #[] lb, .func (.func 90) #[] sb], .int .i64 a, .int .i64 b] w fun e w' =>
      e = .returned (.tuple #[.int .i64 (choosePivot lt d a b).1, .int .i64 (hintCode (choosePivot lt d a b).2)]) ∧ Below w.heap.size w w' := by
  have hr := hL.row
  obtain ⟨l, hl⟩ : ∃ l, b = a + l := ⟨b - a, by omega⟩
  have q : choosePivot lt d a b = ((median lt d (a + l / 4 * 1) (a + l / 4 * 2) (a + l / 4 * 3) 0).1, if (median lt d (a + l / 4 * 1) (a + l / 4 * 2) (a + l / 4 * 3) 0).2 = 0 then .increasing else if (median lt d (a + l / 4 * 1) (a + l / 4 * 2) (a + l / 4 * 3) 0).2 = 12 then .decreasing else .unknown) := by
    have h8 : l ≥ 8 := by omega
    have h50 : ¬ l ≥ 50 := by omega
    have hbl : b - a = l := by omega
    unfold choosePivot
    simp only [hbl, h8, h50, if_true, if_false]
  have w1 : (b : Int) - (a : Int) = (l : Int) := by omega
  have i8 : (l : Int) ≥ 8 := by omega
  have i50 : ¬ ((l : Int) ≥ 50) := by omega
  have hlb : a + l ≤ b := by omega
  clear hl
  obtain ⟨mm, hm⟩ : ∃ mm, median lt d (a + l / 4 * 1) (a + l / 4 * 2) (a + l / 4 * 3) 0 = mm := ⟨_, rfl⟩
  rw [hm] at q
  have HQ := Lib.hid q
  have HM := Lib.hid hm
  clear q hm
  go_enter Try.func100, Try.ntmps100
  have G : Blk ((w.alloc (.cells #[.func (.func 54) #[] lb, .func (.func 90) #[] sb] 103)).alloc (.cells #[.int .i64 0] 3)) (w.heap.size + 1) 3 #[.int .i64 ((0 : Nat) : Int)] := Blk.new _ (by simp)
  have hb0 : Below w.heap.size w ((w.alloc (.cells #[.func (.func 54) #[] lb, .func (.func 90) #[] sb] 103)).alloc (.cells #[.int .i64 0] 3)) := by (with_reducible repeat' first | exact Below.refl _ _ | assumption | (refine Below.setCell ?_ (by first | omega | (simp; omega) | (simp; done) | (dsimp only; omega)) _) | (refine Below.alloc ?_ (by first | omega | (simp; omega) | (simp; done) | (dsimp only; omega)) _) | (refine below_drewN ?_ _) | (refine Below.drew ?_))
  have hc := median_any lt lb sb r off _ _ (a + l / 4 * 1) (a + l / 4 * 2) (a + l / 4 * 3) 0 d w _ hL ((Srt.refl hH).below hr hb0) (by omega) G (by omega) (by omega) (by omega) (by omega)
  rw [HM.out, show ((a + l / 4 * 1 : Nat) : Int) = (a : Int) + (l : Int) / 4 by omega, show ((a + l / 4 * 2 : Nat) : Int) = (a : Int) + (l : Int) / 4 * 2 by omega, show ((a + l / 4 * 3 : Nat) : Int) = (a : Int) + (l : Int) / 4 * 3 by omega] at hc
  go_upto_region 12 with (go_at_call 112; (with_reducible refine hc.mono ?_); rintro e w1 ⟨rfl, hc1, G1⟩)
  have g0 := G1.cell (i := 0) rfl
  have hbb := hb0.trans (hc1.below hb0.size (by omega))
  clear hc G hb0 hc1
  obtain ⟨p, n⟩ := mm
  simp only at g0 HQ
  by_cases n0 : n = 0
  · subst n0
    have HR := Lib.hid (show choosePivot lt d a b = (p, .increasing) by rw [HQ.out, if_pos rfl])
    clear HQ
    go_wp2
    (try simp only [Exit.inBlock, Exit.then]); refine bodyPost_ret (v := .tuple #[.int .i64 p, .int .i64 1]) (by simp [results, Try.results100, go_sem]) rfl ?_
    rw [HR.out]
    exact ⟨rfl, hbb⟩
  · have z0 : ¬ (n : Int) = 0 := by omega
    by_cases n12 : n = 12
    · subst n12
      have HR := Lib.hid (show choosePivot lt d a b = (p, .decreasing) by rw [HQ.out, if_neg (by simp), if_pos rfl])
      clear HQ
      go_wp2
      (try simp only [Exit.inBlock, Exit.then]); refine bodyPost_ret (v := .tuple #[.int .i64 p, .int .i64 2]) (by simp [results, Try.results100, go_sem]) rfl ?_
      rw [HR.out]
      exact ⟨rfl, hbb⟩
    · have z12 : ¬ (n : Int) = 12 := by omega
      have HR := Lib.hid (show choosePivot lt d a b = (p, .unknown) by rw [HQ.out, if_neg n0, if_neg n12])
      clear HQ
      go_wp2
      (try simp only [Exit.inBlock, Exit.then]); refine bodyPost_ret (v := .tuple #[.int .i64 p, .int .i64 0]) (by simp [results, Try.results100, go_sem]) rfl ?_
      rw [HR.out]
      exact ⟨rfl, hbb⟩
end Go.Proofs.Ythpcippgifmabaa
