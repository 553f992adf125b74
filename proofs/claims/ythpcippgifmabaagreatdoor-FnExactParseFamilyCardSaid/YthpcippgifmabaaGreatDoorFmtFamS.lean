/-
  The text of a family, in the reference.
-/
import Derived.Test.YthpcippgifmabaaGreatDoorNumS
import Derived.Test.YthpcippgifmabaaGreatDoorGFamS
import Derived.Test.YthpcippgifmabaaGreatDoorGFam
import Derived.Deep.RegionHeld3
namespace Go.Proofs.YthpcippgifmabaaGreatDoor
set_option maxRecDepth 100000
open Go.RowKit

theorem line6 (l : List UInt8) (a b c d e f W : ByteArray) (hW : W.data.toList = a.data.toList ++ [32]) :
    mkT l ++ W ++ b ++ ⟨#[32]⟩ ++ c ++ ⟨#[32]⟩ ++ d ++ ⟨#[32]⟩ ++ e ++ ⟨#[32]⟩ ++ f ++ ⟨#[10]⟩ = mkT (l ++ (joinF [a, b, c, d, e, f] ++ [10])) := by
  apply ByteArray.ext
  apply Array.toList_inj.1
  rw [joinF_six]
  simp only [ByteArray.data_append, Array.toList_append, hW, mkT]
  simp only [List.append_assoc, List.cons_append, List.nil_append]
theorem line5 (l : List UInt8) (b c d e : ByteArray) :
    mkT l ++ ⟨#[117, 110, 105, 111, 110, 32]⟩ ++ b ++ ⟨#[32]⟩ ++ c ++ ⟨#[32]⟩ ++ d ++ ⟨#[32]⟩ ++ e ++ ⟨#[10]⟩ = mkT (l ++ (joinF [⟨#[117, 110, 105, 111, 110]⟩, b, c, d, e] ++ [10])) := by
  apply ByteArray.ext
  apply Array.toList_inj.1
  rw [joinF_five]
  simp only [ByteArray.data_append, Array.toList_append, mkT]
  simp only [List.append_assoc, List.cons_append, List.nil_append]
theorem pidx_of {xs : List Person} {k : Nat} {p : Int} (h : p = -1 ∨ ∃ (m : Nat) (y : Person), p = m ∧ m < k ∧ xs[m]? = some y) : PIdx xs p := by
  rcases h with h | ⟨m, y, h1, _, h2⟩
  · exact .inl (by omega)
  · exact .inr ⟨m, y, h1, h2⟩
theorem app_le {a b : ByteArray} {m n : Nat} (h : a.size ≤ m) (h' : b.size ≤ n) : (a ++ b).size ≤ m + n := by rw [ByteArray.size_append]; omega

/-- The persons' lines so far. -/
def TextFam (f : Nat → List UInt8) (n : Nat) (w : World) (o i : Value) (wr : World) : Prop :=
  ∃ k : Nat, k ≤ n ∧ o = .string (mkT (f k)) ∧ i = .int .i64 k ∧ Below w.heap.size w wr

set_option maxHeartbeats 16000000 in
theorem specFormatFamily_any (A B : Option Addr) (c d lo hi : Nat) (xs : List Person) (ys : List Union) (w : World) (h : EPerson.AS w lo hi A xs) (h' : EUnion.AS w lo hi B ys) (hh : hi ≤ w.heap.size) (hs : totP xs ≤ 1048576) :
    Calls Tryz.prog 12 #[.agg #[.slice A xs.length c, .slice B ys.length d]] w fun e w' => e = .returned (.string (familyT xs ys)) ∧ Below w.heap.size w w' := by
  cases hok : famOk xs ys with
  | false =>
    have HO := Lib.hid hok
    rw [familyT, hok, if_neg (by simp)]
    clear hok
    go_enter Tryz.func12, Tryz.ntmps12
    go_wp2_with (go_at_call 11; (with_reducible refine (specIsFamily_any _ _ _ _ lo hi xs ys _ (h.same (by (with_reducible repeat' first | exact Same.refl _ _ _ | assumption | (refine Same.setCell ?_ (by first | omega | (simp; omega) | (simp; done) | (dsimp only; omega)) _) | (refine Same.alloc ?_ (by first | omega | (simp; omega) | (simp; done) | (dsimp only; omega)) _) | (refine Same.drewN ?_ _) | (refine Same.drew ?_)))) (h'.same (by (with_reducible repeat' first | exact Same.refl _ _ _ | assumption | (refine Same.setCell ?_ (by first | omega | (simp; omega) | (simp; done) | (dsimp only; omega)) _) | (refine Same.alloc ?_ (by first | omega | (simp; omega) | (simp; done) | (dsimp only; omega)) _) | (refine Same.drewN ?_ _) | (refine Same.drew ?_)))) (by first | omega | (simp; omega) | (simp; done) | (dsimp only; omega)) hs).mono ?_); rintro e w1 ⟨rfl, hb1⟩; simp only [HO.out]; (obtain ⟨hb1c, hb1f⟩ := bcell hb1); (have hb1z := hb1.size); (try simp only [szs] at hb1c hb1f hb1z); have lt1 : w.heap.size < w1.heap.size := (by omega))
    go_ret
    exact ⟨rfl, by (with_reducible repeat' first | exact Below.refl _ _ | assumption | (refine Below.setCell ?_ (by first | omega | (simp; omega) | (simp; done) | (dsimp only; omega)) _) | (refine Below.alloc ?_ (by first | omega | (simp; omega) | (simp; done) | (dsimp only; omega)) _) | (refine below_drewN ?_ _) | (refine Below.drew ?_) | (refine Below.trans ?_ (hb1.mono (by first | omega | (simp; omega) | (simp; done) | (dsimp only; omega)))))⟩
  | true =>
    have HO := Lib.hid hok
    rw [familyT, if_pos hok]
    obtain ⟨R, hR⟩ : ∃ R, (⟨(unionsL xs ys ys.length).toArray⟩ : ByteArray) = R := ⟨_, rfl⟩
    have HR := Lib.hid hR
    rw [hR]
    clear hR hok
    have hx := h.le
    have hy := h'.le
    unfold BIG at hx hy
    have hHX := Lib.hid h
    have hHY := Lib.hid h'
    go_enter Tryz.func12, Tryz.ntmps12
    go_wp2_with (go_at_call 11; (with_reducible refine (specIsFamily_any _ _ _ _ lo hi xs ys _ (h.same (by (with_reducible repeat' first | exact Same.refl _ _ _ | assumption | (refine Same.setCell ?_ (by first | omega | (simp; omega) | (simp; done) | (dsimp only; omega)) _) | (refine Same.alloc ?_ (by first | omega | (simp; omega) | (simp; done) | (dsimp only; omega)) _) | (refine Same.drewN ?_ _) | (refine Same.drew ?_)))) (h'.same (by (with_reducible repeat' first | exact Same.refl _ _ _ | assumption | (refine Same.setCell ?_ (by first | omega | (simp; omega) | (simp; done) | (dsimp only; omega)) _) | (refine Same.alloc ?_ (by first | omega | (simp; omega) | (simp; done) | (dsimp only; omega)) _) | (refine Same.drewN ?_ _) | (refine Same.drew ?_)))) (by first | omega | (simp; omega) | (simp; done) | (dsimp only; omega)) hs).mono ?_); rintro e w1 ⟨rfl, hb1⟩; simp only [HO.out]; (obtain ⟨hb1c, hb1f⟩ := bcell hb1); (have hb1z := hb1.size); (try simp only [szs] at hb1c hb1f hb1z); have lt1 : w.heap.size < w1.heap.size := (by omega))
    have hbw : Below w.heap.size w w1 := by (with_reducible repeat' first | exact Below.refl _ _ | assumption | (refine Below.setCell ?_ (by first | omega | (simp; omega) | (simp; done) | (dsimp only; omega)) _) | (refine Below.alloc ?_ (by first | omega | (simp; omega) | (simp; done) | (dsimp only; omega)) _) | (refine below_drewN ?_ _) | (refine Below.drew ?_) | (refine Below.trans ?_ (hb1.mono (by first | omega | (simp; omega) | (simp; done) | (dsimp only; omega)))))
    have F : Blk w1 w.heap.size 25 #[.slice A xs.length c, .slice B ys.length d] := (Blk.new w rfl).below hb1 (by simp)
    have hX := hHX.out.same (Same.of_below hbw hh)
    have hY := hHY.out.same (Same.of_below hbw hh)
    have z1 := hbw.size
    clear hb1 hb1c hb1f hb1z h h'
    go_loopw [3, 15] (fun o i wr => TextFam (peopleL xs) xs.length w1 o i wr) (fun _ i _ => xs.length - (intOf i).toNat)
    case atStart => exact ⟨0, Nat.zero_le _, rfl, rfl, Below.refl _ _⟩
    case round =>
      obtain ⟨k, hk, rfl, rfl, hbk⟩ := hrel
      have hz := hbk.size
      have F1 := F.below hbk F.lt
      have e0 := F1.cell (i := 0) rfl; have e1 := F1.cell (i := 1) rfl
      by_cases hlt : k < xs.length
      · have i1 : (k : Int) < (xs.length : Int) := by omega
        have hXr := hX.same (Same.of_below hbk (by omega))
        obtain ⟨b, off, ⟨x0, x1, x2, x3, x4, x5⟩, rfl, g1, g2, _, hxk, hc0, hc1, hc2, hc3, hc4, hc5⟩ := APerson.at_ hXr hlt
        have hP := famOk_person HO.out hxk
        obtain ⟨s12, b0, b1, d5⟩ := aliveOk_parts hP.alive
        have n0 := (nameOk_size hP.name).2
        have p2 := pidx_of hP.dad
        have p3 := pidx_of hP.mum
        simp only at s12 b0 b1 d5 n0 p2 p3 hc0 hc1 hc2 hc3 hc4 hc5
        have HS := Lib.hid (peopleL_succ hxk)
        have hout : (mkT (peopleL xs k)).size ≤ 2200 := by rw [mkT_size]; exact peopleL_len HO.out k
        have hn2 := nameT_size HO.out x2
        have hn3 := nameT_size HO.out x3
        have hy4 : (mkT (Lib.itoa x4)).size ≤ 4 := by
          have := yearT_size (n := x4) (by omega)
          rwa [yearT, if_neg (by omega)] at this
        have hy5 := yearT_size (n := x5) (by omega)
        have lb : b < wr.heap.size := by omega
        have H2 := fun W hb => l1NameOf_any (some ⟨b, off, none⟩) B c d lo hi xs ys x2 W (hXr.same (Same.of_below (B := wr.heap.size) hb (by omega))) (by have := hb.size; omega) p2
        have H3 := fun W hb => l1NameOf_any (some ⟨b, off, none⟩) B c d lo hi xs ys x3 W (hXr.same (Same.of_below (B := wr.heap.size) hb (by omega))) (by have := hb.size; omega) p3
        have H5 := fun W => l1Year_any x5 W (by omega)
        obtain ⟨u4, rfl⟩ := Int.eq_ofNat_of_zero_le b0
        have H4 := fun W => l1Number_any u4 W (by omega)
        have HN : fieldsP xs ⟨x0, x1, x2, x3, u4, x5⟩ = [sexT x1, x0, nameT xs x2, nameT xs x3, mkT (Lib.itoa u4), yearT x5] := by
          rw [fieldsP]; simp only [yearT, if_neg (show ¬ (u4 : Int) < 0 by omega)]; rfl
        have HL := Lib.hid (fun (W : ByteArray) (hW : W.data.toList = (sexT x1).data.toList ++ [32]) => (line6 (peopleL xs k) (sexT x1) x0 (nameT xs x2) (nameT xs x3) (mkT (Lib.itoa u4)) (yearT x5) W hW).trans (by rw [← HN, ← HS.out]))
        clear HN HS hP hxk
        generalize nameT xs x2 = N2 at *
        generalize nameT xs x3 = N3 at *
        generalize mkT (Lib.itoa u4) = N4 at *
        generalize yearT x5 = N5 at *
        generalize mkT (peopleL xs k) = out at *
        rcases s12 with rfl | rfl
        · have HM := Lib.hid (HL.out (⟨#[109, 97, 110, 32]⟩ : ByteArray) rfl)
          clear HL
          go_wp2
          generalize hW : wr.alloc (.cells #[.string x0, .int .i64 1, .int .i64 x2, .int .i64 x3, .int .i64 u4, .int .i64 x5] 50) = W
          have P : Blk W wr.heap.size 50 #[.string x0, .int .i64 1, .int .i64 x2, .int .i64 x3, .int .i64 u4, .int .i64 x5] := by subst hW; exact Blk.new _ rfl
          have hbW : Below wr.heap.size wr W := by subst hW; (with_reducible repeat' first | exact Below.refl _ _ | assumption | (refine Below.setCell ?_ (by first | omega | (simp; omega) | (simp; done) | (dsimp only; omega)) _) | (refine Below.alloc ?_ (by first | omega | (simp; omega) | (simp; done) | (dsimp only; omega)) _) | (refine below_drewN ?_ _) | (refine Below.drew ?_))
          clear hW hc0 hc1 hc2 hc3 hc4 hc5
          have F2 := F1.below hbW F1.lt
          have l0 := F2.lt; have l1 := P.lt
          replace e0 := F2.cell (i := 0) rfl; replace e1 := F2.cell (i := 1) rfl
          have p0 := P.cell (i := 0) rfl; have p1 := P.cell (i := 1) rfl; have p2 := P.cell (i := 2) rfl; have p3 := P.cell (i := 3) rfl; have p4 := P.cell (i := 4) rfl; have p5 := P.cell (i := 5) rfl
          have q0 : (out ++ (⟨#[109, 97, 110, 32]⟩ : ByteArray)).size ≤ 2204 := app_le (b := (⟨#[109, 97, 110, 32]⟩ : ByteArray)) (n := 4) hout (Nat.le_refl 4)
          have a0 := add_runT out (⟨#[109, 97, 110, 32]⟩ : ByteArray) (by omega) (Nat.le_trans (Nat.le_refl 4) (by omega))
          have q1 : ((out ++ (⟨#[109, 97, 110, 32]⟩ : ByteArray)) ++ x0).size ≤ 2216 := app_le (b := x0) (n := 12) q0 n0
          have a1 := add_runT (out ++ (⟨#[109, 97, 110, 32]⟩ : ByteArray)) x0 (by omega) (Nat.le_trans n0 (by omega))
          have q2 : (((out ++ (⟨#[109, 97, 110, 32]⟩ : ByteArray)) ++ x0) ++ (⟨#[32]⟩ : ByteArray)).size ≤ 2217 := app_le (b := (⟨#[32]⟩ : ByteArray)) (n := 1) q1 (Nat.le_refl 1)
          have a2 := add_runT ((out ++ (⟨#[109, 97, 110, 32]⟩ : ByteArray)) ++ x0) (⟨#[32]⟩ : ByteArray) (by omega) (Nat.le_trans (Nat.le_refl 1) (by omega))
          have q3 : ((((out ++ (⟨#[109, 97, 110, 32]⟩ : ByteArray)) ++ x0) ++ (⟨#[32]⟩ : ByteArray)) ++ N2).size ≤ 2229 := app_le (b := N2) (n := 12) q2 hn2
          have a3 := add_runT (((out ++ (⟨#[109, 97, 110, 32]⟩ : ByteArray)) ++ x0) ++ (⟨#[32]⟩ : ByteArray)) N2 (by omega) (Nat.le_trans hn2 (by omega))
          have q4 : (((((out ++ (⟨#[109, 97, 110, 32]⟩ : ByteArray)) ++ x0) ++ (⟨#[32]⟩ : ByteArray)) ++ N2) ++ (⟨#[32]⟩ : ByteArray)).size ≤ 2230 := app_le (b := (⟨#[32]⟩ : ByteArray)) (n := 1) q3 (Nat.le_refl 1)
          have a4 := add_runT ((((out ++ (⟨#[109, 97, 110, 32]⟩ : ByteArray)) ++ x0) ++ (⟨#[32]⟩ : ByteArray)) ++ N2) (⟨#[32]⟩ : ByteArray) (by omega) (Nat.le_trans (Nat.le_refl 1) (by omega))
          have q5 : ((((((out ++ (⟨#[109, 97, 110, 32]⟩ : ByteArray)) ++ x0) ++ (⟨#[32]⟩ : ByteArray)) ++ N2) ++ (⟨#[32]⟩ : ByteArray)) ++ N3).size ≤ 2242 := app_le (b := N3) (n := 12) q4 hn3
          have a5 := add_runT (((((out ++ (⟨#[109, 97, 110, 32]⟩ : ByteArray)) ++ x0) ++ (⟨#[32]⟩ : ByteArray)) ++ N2) ++ (⟨#[32]⟩ : ByteArray)) N3 (by omega) (Nat.le_trans hn3 (by omega))
          have q6 : (((((((out ++ (⟨#[109, 97, 110, 32]⟩ : ByteArray)) ++ x0) ++ (⟨#[32]⟩ : ByteArray)) ++ N2) ++ (⟨#[32]⟩ : ByteArray)) ++ N3) ++ (⟨#[32]⟩ : ByteArray)).size ≤ 2243 := app_le (b := (⟨#[32]⟩ : ByteArray)) (n := 1) q5 (Nat.le_refl 1)
          have a6 := add_runT ((((((out ++ (⟨#[109, 97, 110, 32]⟩ : ByteArray)) ++ x0) ++ (⟨#[32]⟩ : ByteArray)) ++ N2) ++ (⟨#[32]⟩ : ByteArray)) ++ N3) (⟨#[32]⟩ : ByteArray) (by omega) (Nat.le_trans (Nat.le_refl 1) (by omega))
          have q7 : ((((((((out ++ (⟨#[109, 97, 110, 32]⟩ : ByteArray)) ++ x0) ++ (⟨#[32]⟩ : ByteArray)) ++ N2) ++ (⟨#[32]⟩ : ByteArray)) ++ N3) ++ (⟨#[32]⟩ : ByteArray)) ++ N4).size ≤ 2247 := app_le (b := N4) (n := 4) q6 hy4
          have a7 := add_runT (((((((out ++ (⟨#[109, 97, 110, 32]⟩ : ByteArray)) ++ x0) ++ (⟨#[32]⟩ : ByteArray)) ++ N2) ++ (⟨#[32]⟩ : ByteArray)) ++ N3) ++ (⟨#[32]⟩ : ByteArray)) N4 (by omega) (Nat.le_trans hy4 (by omega))
          have q8 : (((((((((out ++ (⟨#[109, 97, 110, 32]⟩ : ByteArray)) ++ x0) ++ (⟨#[32]⟩ : ByteArray)) ++ N2) ++ (⟨#[32]⟩ : ByteArray)) ++ N3) ++ (⟨#[32]⟩ : ByteArray)) ++ N4) ++ (⟨#[32]⟩ : ByteArray)).size ≤ 2248 := app_le (b := (⟨#[32]⟩ : ByteArray)) (n := 1) q7 (Nat.le_refl 1)
          have a8 := add_runT ((((((((out ++ (⟨#[109, 97, 110, 32]⟩ : ByteArray)) ++ x0) ++ (⟨#[32]⟩ : ByteArray)) ++ N2) ++ (⟨#[32]⟩ : ByteArray)) ++ N3) ++ (⟨#[32]⟩ : ByteArray)) ++ N4) (⟨#[32]⟩ : ByteArray) (by omega) (Nat.le_trans (Nat.le_refl 1) (by omega))
          have q9 : ((((((((((out ++ (⟨#[109, 97, 110, 32]⟩ : ByteArray)) ++ x0) ++ (⟨#[32]⟩ : ByteArray)) ++ N2) ++ (⟨#[32]⟩ : ByteArray)) ++ N3) ++ (⟨#[32]⟩ : ByteArray)) ++ N4) ++ (⟨#[32]⟩ : ByteArray)) ++ N5).size ≤ 2252 := app_le (b := N5) (n := 4) q8 hy5
          have a9 := add_runT (((((((((out ++ (⟨#[109, 97, 110, 32]⟩ : ByteArray)) ++ x0) ++ (⟨#[32]⟩ : ByteArray)) ++ N2) ++ (⟨#[32]⟩ : ByteArray)) ++ N3) ++ (⟨#[32]⟩ : ByteArray)) ++ N4) ++ (⟨#[32]⟩ : ByteArray)) N5 (by omega) (Nat.le_trans hy5 (by omega))
          have q10 : (((((((((((out ++ (⟨#[109, 97, 110, 32]⟩ : ByteArray)) ++ x0) ++ (⟨#[32]⟩ : ByteArray)) ++ N2) ++ (⟨#[32]⟩ : ByteArray)) ++ N3) ++ (⟨#[32]⟩ : ByteArray)) ++ N4) ++ (⟨#[32]⟩ : ByteArray)) ++ N5) ++ (⟨#[10]⟩ : ByteArray)).size ≤ 2253 := app_le (b := (⟨#[10]⟩ : ByteArray)) (n := 1) q9 (Nat.le_refl 1)
          have a10 := add_runT ((((((((((out ++ (⟨#[109, 97, 110, 32]⟩ : ByteArray)) ++ x0) ++ (⟨#[32]⟩ : ByteArray)) ++ N2) ++ (⟨#[32]⟩ : ByteArray)) ++ N3) ++ (⟨#[32]⟩ : ByteArray)) ++ N4) ++ (⟨#[32]⟩ : ByteArray)) ++ N5) (⟨#[10]⟩ : ByteArray) (by omega) (Nat.le_trans (Nat.le_refl 1) (by omega))
          clear q0 q1 q2 q3 q4 q5 q6 q7 q8 q9 q10
          have hq : Below W.heap.size W W := Below.refl _ _
          go_region_held3 (fun w' => w'.cell? ⟨w.heap.size, 0, none⟩ = some (.slice (some ⟨b, off, none⟩) xs.length c) ∧ w'.cell? ⟨w.heap.size, 1, none⟩ = some (.slice B ys.length d) ∧ w'.cell? ⟨wr.heap.size, 0, none⟩ = some (.string x0) ∧ w'.cell? ⟨wr.heap.size, 1, none⟩ = some (.int .i64 1) ∧ w'.cell? ⟨wr.heap.size, 2, none⟩ = some (.int .i64 x2) ∧ w'.cell? ⟨wr.heap.size, 3, none⟩ = some (.int .i64 x3) ∧ w'.cell? ⟨wr.heap.size, 4, none⟩ = some (.int .i64 u4) ∧ w'.cell? ⟨wr.heap.size, 5, none⟩ = some (.int .i64 x5)) (exact ⟨(hq.cell (p := ⟨w.heap.size, 0, none⟩) l0).trans e0, (hq.cell (p := ⟨w.heap.size, 1, none⟩) l0).trans e1, (hq.cell (p := ⟨wr.heap.size, 0, none⟩) l1).trans p0, (hq.cell (p := ⟨wr.heap.size, 1, none⟩) l1).trans p1, (hq.cell (p := ⟨wr.heap.size, 2, none⟩) l1).trans p2, (hq.cell (p := ⟨wr.heap.size, 3, none⟩) l1).trans p3, (hq.cell (p := ⟨wr.heap.size, 4, none⟩) l1).trans p4, (hq.cell (p := ⟨wr.heap.size, 5, none⟩) l1).trans p5⟩)
            (first
              | (go_at_call 29; (with_reducible refine (H2 _ (by first | exact hbW.trans (hq.mono hbW.size) | exact (hbW.trans (hq.mono hbW.size)).drew)).mono ?_); rintro e v2 ⟨rfl, hv2⟩; (first | (replace hv2 := undrew hv2) | skip); replace hq := hq.trans (hv2.mono hq.size))
              | (go_at_call 29; (with_reducible refine (H3 _ (by first | exact hbW.trans (hq.mono hbW.size) | exact (hbW.trans (hq.mono hbW.size)).drew)).mono ?_); rintro e v3 ⟨rfl, hv3⟩; (first | (replace hv3 := undrew hv3) | skip); replace hq := hq.trans (hv3.mono hq.size))
              | (go_at_call 30; (with_reducible refine (H4 _).mono ?_); rintro e v4 ⟨rfl, hv4⟩; (first | (replace hv4 := undrew hv4) | skip); replace hq := hq.trans (hv4.mono hq.size))
              | (go_at_call 31; (with_reducible refine (H5 _).mono ?_); rintro e v5 ⟨rfl, hv5⟩; (first | (replace hv5 := undrew hv5) | skip); replace hq := hq.trans (hv5.mono hq.size)))
          go_wp2
          exact ⟨⟨k + 1, by omega, by rw [← HM.out], by go_num, hbk.trans ((hbW.trans (hq.mono hbW.size)).mono hz)⟩, by simp [intOf]; omega⟩
        · have HM := Lib.hid (HL.out (⟨#[119, 111, 109, 97, 110, 32]⟩ : ByteArray) rfl)
          clear HL
          go_wp2
          generalize hW : wr.alloc (.cells #[.string x0, .int .i64 2, .int .i64 x2, .int .i64 x3, .int .i64 u4, .int .i64 x5] 50) = W
          have P : Blk W wr.heap.size 50 #[.string x0, .int .i64 2, .int .i64 x2, .int .i64 x3, .int .i64 u4, .int .i64 x5] := by subst hW; exact Blk.new _ rfl
          have hbW : Below wr.heap.size wr W := by subst hW; (with_reducible repeat' first | exact Below.refl _ _ | assumption | (refine Below.setCell ?_ (by first | omega | (simp; omega) | (simp; done) | (dsimp only; omega)) _) | (refine Below.alloc ?_ (by first | omega | (simp; omega) | (simp; done) | (dsimp only; omega)) _) | (refine below_drewN ?_ _) | (refine Below.drew ?_))
          clear hW hc0 hc1 hc2 hc3 hc4 hc5
          have F2 := F1.below hbW F1.lt
          have l0 := F2.lt; have l1 := P.lt
          replace e0 := F2.cell (i := 0) rfl; replace e1 := F2.cell (i := 1) rfl
          have p0 := P.cell (i := 0) rfl; have p1 := P.cell (i := 1) rfl; have p2 := P.cell (i := 2) rfl; have p3 := P.cell (i := 3) rfl; have p4 := P.cell (i := 4) rfl; have p5 := P.cell (i := 5) rfl
          have q0 : (out ++ (⟨#[119, 111, 109, 97, 110, 32]⟩ : ByteArray)).size ≤ 2206 := app_le (b := (⟨#[119, 111, 109, 97, 110, 32]⟩ : ByteArray)) (n := 6) hout (Nat.le_refl 6)
          have a0 := add_runT out (⟨#[119, 111, 109, 97, 110, 32]⟩ : ByteArray) (by omega) (Nat.le_trans (Nat.le_refl 6) (by omega))
          have q1 : ((out ++ (⟨#[119, 111, 109, 97, 110, 32]⟩ : ByteArray)) ++ x0).size ≤ 2218 := app_le (b := x0) (n := 12) q0 n0
          have a1 := add_runT (out ++ (⟨#[119, 111, 109, 97, 110, 32]⟩ : ByteArray)) x0 (by omega) (Nat.le_trans n0 (by omega))
          have q2 : (((out ++ (⟨#[119, 111, 109, 97, 110, 32]⟩ : ByteArray)) ++ x0) ++ (⟨#[32]⟩ : ByteArray)).size ≤ 2219 := app_le (b := (⟨#[32]⟩ : ByteArray)) (n := 1) q1 (Nat.le_refl 1)
          have a2 := add_runT ((out ++ (⟨#[119, 111, 109, 97, 110, 32]⟩ : ByteArray)) ++ x0) (⟨#[32]⟩ : ByteArray) (by omega) (Nat.le_trans (Nat.le_refl 1) (by omega))
          have q3 : ((((out ++ (⟨#[119, 111, 109, 97, 110, 32]⟩ : ByteArray)) ++ x0) ++ (⟨#[32]⟩ : ByteArray)) ++ N2).size ≤ 2231 := app_le (b := N2) (n := 12) q2 hn2
          have a3 := add_runT (((out ++ (⟨#[119, 111, 109, 97, 110, 32]⟩ : ByteArray)) ++ x0) ++ (⟨#[32]⟩ : ByteArray)) N2 (by omega) (Nat.le_trans hn2 (by omega))
          have q4 : (((((out ++ (⟨#[119, 111, 109, 97, 110, 32]⟩ : ByteArray)) ++ x0) ++ (⟨#[32]⟩ : ByteArray)) ++ N2) ++ (⟨#[32]⟩ : ByteArray)).size ≤ 2232 := app_le (b := (⟨#[32]⟩ : ByteArray)) (n := 1) q3 (Nat.le_refl 1)
          have a4 := add_runT ((((out ++ (⟨#[119, 111, 109, 97, 110, 32]⟩ : ByteArray)) ++ x0) ++ (⟨#[32]⟩ : ByteArray)) ++ N2) (⟨#[32]⟩ : ByteArray) (by omega) (Nat.le_trans (Nat.le_refl 1) (by omega))
          have q5 : ((((((out ++ (⟨#[119, 111, 109, 97, 110, 32]⟩ : ByteArray)) ++ x0) ++ (⟨#[32]⟩ : ByteArray)) ++ N2) ++ (⟨#[32]⟩ : ByteArray)) ++ N3).size ≤ 2244 := app_le (b := N3) (n := 12) q4 hn3
          have a5 := add_runT (((((out ++ (⟨#[119, 111, 109, 97, 110, 32]⟩ : ByteArray)) ++ x0) ++ (⟨#[32]⟩ : ByteArray)) ++ N2) ++ (⟨#[32]⟩ : ByteArray)) N3 (by omega) (Nat.le_trans hn3 (by omega))
          have q6 : (((((((out ++ (⟨#[119, 111, 109, 97, 110, 32]⟩ : ByteArray)) ++ x0) ++ (⟨#[32]⟩ : ByteArray)) ++ N2) ++ (⟨#[32]⟩ : ByteArray)) ++ N3) ++ (⟨#[32]⟩ : ByteArray)).size ≤ 2245 := app_le (b := (⟨#[32]⟩ : ByteArray)) (n := 1) q5 (Nat.le_refl 1)
          have a6 := add_runT ((((((out ++ (⟨#[119, 111, 109, 97, 110, 32]⟩ : ByteArray)) ++ x0) ++ (⟨#[32]⟩ : ByteArray)) ++ N2) ++ (⟨#[32]⟩ : ByteArray)) ++ N3) (⟨#[32]⟩ : ByteArray) (by omega) (Nat.le_trans (Nat.le_refl 1) (by omega))
          have q7 : ((((((((out ++ (⟨#[119, 111, 109, 97, 110, 32]⟩ : ByteArray)) ++ x0) ++ (⟨#[32]⟩ : ByteArray)) ++ N2) ++ (⟨#[32]⟩ : ByteArray)) ++ N3) ++ (⟨#[32]⟩ : ByteArray)) ++ N4).size ≤ 2249 := app_le (b := N4) (n := 4) q6 hy4
          have a7 := add_runT (((((((out ++ (⟨#[119, 111, 109, 97, 110, 32]⟩ : ByteArray)) ++ x0) ++ (⟨#[32]⟩ : ByteArray)) ++ N2) ++ (⟨#[32]⟩ : ByteArray)) ++ N3) ++ (⟨#[32]⟩ : ByteArray)) N4 (by omega) (Nat.le_trans hy4 (by omega))
          have q8 : (((((((((out ++ (⟨#[119, 111, 109, 97, 110, 32]⟩ : ByteArray)) ++ x0) ++ (⟨#[32]⟩ : ByteArray)) ++ N2) ++ (⟨#[32]⟩ : ByteArray)) ++ N3) ++ (⟨#[32]⟩ : ByteArray)) ++ N4) ++ (⟨#[32]⟩ : ByteArray)).size ≤ 2250 := app_le (b := (⟨#[32]⟩ : ByteArray)) (n := 1) q7 (Nat.le_refl 1)
          have a8 := add_runT ((((((((out ++ (⟨#[119, 111, 109, 97, 110, 32]⟩ : ByteArray)) ++ x0) ++ (⟨#[32]⟩ : ByteArray)) ++ N2) ++ (⟨#[32]⟩ : ByteArray)) ++ N3) ++ (⟨#[32]⟩ : ByteArray)) ++ N4) (⟨#[32]⟩ : ByteArray) (by omega) (Nat.le_trans (Nat.le_refl 1) (by omega))
          have q9 : ((((((((((out ++ (⟨#[119, 111, 109, 97, 110, 32]⟩ : ByteArray)) ++ x0) ++ (⟨#[32]⟩ : ByteArray)) ++ N2) ++ (⟨#[32]⟩ : ByteArray)) ++ N3) ++ (⟨#[32]⟩ : ByteArray)) ++ N4) ++ (⟨#[32]⟩ : ByteArray)) ++ N5).size ≤ 2254 := app_le (b := N5) (n := 4) q8 hy5
          have a9 := add_runT (((((((((out ++ (⟨#[119, 111, 109, 97, 110, 32]⟩ : ByteArray)) ++ x0) ++ (⟨#[32]⟩ : ByteArray)) ++ N2) ++ (⟨#[32]⟩ : ByteArray)) ++ N3) ++ (⟨#[32]⟩ : ByteArray)) ++ N4) ++ (⟨#[32]⟩ : ByteArray)) N5 (by omega) (Nat.le_trans hy5 (by omega))
          have q10 : (((((((((((out ++ (⟨#[119, 111, 109, 97, 110, 32]⟩ : ByteArray)) ++ x0) ++ (⟨#[32]⟩ : ByteArray)) ++ N2) ++ (⟨#[32]⟩ : ByteArray)) ++ N3) ++ (⟨#[32]⟩ : ByteArray)) ++ N4) ++ (⟨#[32]⟩ : ByteArray)) ++ N5) ++ (⟨#[10]⟩ : ByteArray)).size ≤ 2255 := app_le (b := (⟨#[10]⟩ : ByteArray)) (n := 1) q9 (Nat.le_refl 1)
          have a10 := add_runT ((((((((((out ++ (⟨#[119, 111, 109, 97, 110, 32]⟩ : ByteArray)) ++ x0) ++ (⟨#[32]⟩ : ByteArray)) ++ N2) ++ (⟨#[32]⟩ : ByteArray)) ++ N3) ++ (⟨#[32]⟩ : ByteArray)) ++ N4) ++ (⟨#[32]⟩ : ByteArray)) ++ N5) (⟨#[10]⟩ : ByteArray) (by omega) (Nat.le_trans (Nat.le_refl 1) (by omega))
          clear q0 q1 q2 q3 q4 q5 q6 q7 q8 q9 q10
          have hq : Below W.heap.size W W := Below.refl _ _
          go_region_held3 (fun w' => w'.cell? ⟨w.heap.size, 0, none⟩ = some (.slice (some ⟨b, off, none⟩) xs.length c) ∧ w'.cell? ⟨w.heap.size, 1, none⟩ = some (.slice B ys.length d) ∧ w'.cell? ⟨wr.heap.size, 0, none⟩ = some (.string x0) ∧ w'.cell? ⟨wr.heap.size, 1, none⟩ = some (.int .i64 2) ∧ w'.cell? ⟨wr.heap.size, 2, none⟩ = some (.int .i64 x2) ∧ w'.cell? ⟨wr.heap.size, 3, none⟩ = some (.int .i64 x3) ∧ w'.cell? ⟨wr.heap.size, 4, none⟩ = some (.int .i64 u4) ∧ w'.cell? ⟨wr.heap.size, 5, none⟩ = some (.int .i64 x5)) (exact ⟨(hq.cell (p := ⟨w.heap.size, 0, none⟩) l0).trans e0, (hq.cell (p := ⟨w.heap.size, 1, none⟩) l0).trans e1, (hq.cell (p := ⟨wr.heap.size, 0, none⟩) l1).trans p0, (hq.cell (p := ⟨wr.heap.size, 1, none⟩) l1).trans p1, (hq.cell (p := ⟨wr.heap.size, 2, none⟩) l1).trans p2, (hq.cell (p := ⟨wr.heap.size, 3, none⟩) l1).trans p3, (hq.cell (p := ⟨wr.heap.size, 4, none⟩) l1).trans p4, (hq.cell (p := ⟨wr.heap.size, 5, none⟩) l1).trans p5⟩)
            (first
              | (go_at_call 29; (with_reducible refine (H2 _ (by first | exact hbW.trans (hq.mono hbW.size) | exact (hbW.trans (hq.mono hbW.size)).drew)).mono ?_); rintro e v2 ⟨rfl, hv2⟩; (first | (replace hv2 := undrew hv2) | skip); replace hq := hq.trans (hv2.mono hq.size))
              | (go_at_call 29; (with_reducible refine (H3 _ (by first | exact hbW.trans (hq.mono hbW.size) | exact (hbW.trans (hq.mono hbW.size)).drew)).mono ?_); rintro e v3 ⟨rfl, hv3⟩; (first | (replace hv3 := undrew hv3) | skip); replace hq := hq.trans (hv3.mono hq.size))
              | (go_at_call 30; (with_reducible refine (H4 _).mono ?_); rintro e v4 ⟨rfl, hv4⟩; (first | (replace hv4 := undrew hv4) | skip); replace hq := hq.trans (hv4.mono hq.size))
              | (go_at_call 31; (with_reducible refine (H5 _).mono ?_); rintro e v5 ⟨rfl, hv5⟩; (first | (replace hv5 := undrew hv5) | skip); replace hq := hq.trans (hv5.mono hq.size)))
          go_wp2
          exact ⟨⟨k + 1, by omega, by rw [← HM.out], by go_num, hbk.trans ((hbW.trans (hq.mono hbW.size)).mono hz)⟩, by simp [intOf]; omega⟩
      · obtain rfl : k = xs.length := by omega
        clear hk
        have i1 : ¬ (xs.length : Int) < (xs.length : Int) := by omega
        go_wp2
        obtain ⟨w3, rfl⟩ : ∃ w3 : World, w3 = wr := ⟨_, rfl⟩
        go_loopw [3, 55] (fun o i wq => TextFam (unionsL xs ys) ys.length w3 o i wq) (fun _ i _ => ys.length - (intOf i).toNat)
        case atStart => exact ⟨0, Nat.zero_le _, by rw [unionsL_zero], rfl, Below.refl _ _⟩
        case round =>
          obtain ⟨k, hk, rfl, rfl, hbq⟩ := hrel
          have hzq := hbq.size
          have F2 := F1.below hbq F1.lt
          have e0 := F2.cell (i := 0) rfl; have e1 := F2.cell (i := 1) rfl
          have HU := Lib.hid (fun (y : Union) (hy : y ∈ ys) => show y.since ≤ 9999 ∧ y.till ≤ 9999 by
            obtain ⟨i, hi, rfl⟩ := List.getElem_of_mem hy
            obtain ⟨_, _, _, _, _, _, _, _, _, _, _, u2, u3, _⟩ := famOk_union HO.out (List.getElem?_eq_getElem hi)
            omega)
          have hout : (mkT (unionsL xs ys k)).size ≤ 5500 := by rw [mkT_size]; exact unionsL_len HO.out HU.out k
          by_cases hlt : k < ys.length
          · have i2 : (k : Int) < (ys.length : Int) := by omega
            have hXr := hX.same (Same.of_below (hbk.trans (hbq.mono hz)) (by omega))
            have hYr := hY.same (Same.of_below (hbk.trans (hbq.mono hz)) (by omega))
            obtain ⟨b, off, ⟨x0, x1, x2, x3⟩, rfl, g1, g2, _, hyk, hc0, hc1, hc2, hc3⟩ := AUnion.at_ hYr hlt
            obtain ⟨m, f, xa, xb, rfl, rfl, hm, hf, hma, hfb, s0, s1, t1, _⟩ := famOk_union HO.out hyk
            simp only at s0 s1 t1 hc0 hc1 hc2 hc3
            have HS := Lib.hid (unionsL_succ (xs := xs) hyk)
            have hn2 := nameT_size HO.out (m : Int)
            have hn3 := nameT_size HO.out (f : Int)
            have hy4 : (mkT (Lib.itoa x2)).size ≤ 4 := by
              have := yearT_size (n := x2) (by omega)
              rwa [yearT, if_neg (by omega)] at this
            have hy5 := yearT_size (n := x3) (by omega)
            have lb : b < wr.heap.size := by omega
            have H2 := fun W hb => l1NameOf_any A (some ⟨b, off, none⟩) c d lo hi xs ys m W (hXr.same (Same.of_below (B := wr.heap.size) hb (by omega))) (by have := hb.size; omega) (.inr ⟨m, xa, rfl, hma⟩)
            have H3 := fun W hb => l1NameOf_any A (some ⟨b, off, none⟩) c d lo hi xs ys f W (hXr.same (Same.of_below (B := wr.heap.size) hb (by omega))) (by have := hb.size; omega) (.inr ⟨f, xb, rfl, hfb⟩)
            have H5 := fun W => l1Year_any x3 W (by omega)
            obtain ⟨u4, rfl⟩ := Int.eq_ofNat_of_zero_le s0
            have H4 := fun W => l1Number_any u4 W (by omega)
            have HN : fieldsU xs ⟨m, f, u4, x3⟩ = [⟨#[117, 110, 105, 111, 110]⟩, nameT xs m, nameT xs f, mkT (Lib.itoa u4), yearT x3] := by
              rw [fieldsU]; simp only [yearT, if_neg (show ¬ (u4 : Int) < 0 by omega)]; rfl
            have HM := Lib.hid ((line5 (unionsL xs ys k) (nameT xs m) (nameT xs f) (mkT (Lib.itoa u4)) (yearT x3)).trans (by rw [← HN, ← HS.out]))
            clear HN HS hyk hma hfb
            generalize nameT xs (m : Int) = N2 at *
            generalize nameT xs (f : Int) = N3 at *
            generalize mkT (Lib.itoa u4) = N4 at *
            generalize yearT x3 = N5 at *
            generalize mkT (unionsL xs ys k) = out at *
            go_wp2
            generalize hW : wr.alloc (.cells #[.int .i64 m, .int .i64 f, .int .i64 u4, .int .i64 x3] 48) = W
            have P : Blk W wr.heap.size 48 #[.int .i64 m, .int .i64 f, .int .i64 u4, .int .i64 x3] := by subst hW; exact Blk.new _ rfl
            have hbW : Below wr.heap.size wr W := by subst hW; (with_reducible repeat' first | exact Below.refl _ _ | assumption | (refine Below.setCell ?_ (by first | omega | (simp; omega) | (simp; done) | (dsimp only; omega)) _) | (refine Below.alloc ?_ (by first | omega | (simp; omega) | (simp; done) | (dsimp only; omega)) _) | (refine below_drewN ?_ _) | (refine Below.drew ?_))
            clear hW hc0 hc1 hc2 hc3
            have F3 := F2.below hbW F2.lt
            have l0 := F3.lt; have l1 := P.lt
            replace e0 := F3.cell (i := 0) rfl; replace e1 := F3.cell (i := 1) rfl
            have p0 := P.cell (i := 0) rfl; have p1 := P.cell (i := 1) rfl; have p2 := P.cell (i := 2) rfl; have p3 := P.cell (i := 3) rfl
            have q0 : (out ++ (⟨#[117, 110, 105, 111, 110, 32]⟩ : ByteArray)).size ≤ 5506 := app_le (b := (⟨#[117, 110, 105, 111, 110, 32]⟩ : ByteArray)) (n := 6) hout (Nat.le_refl 6)
            have a0 := add_runT out (⟨#[117, 110, 105, 111, 110, 32]⟩ : ByteArray) (by omega) (Nat.le_trans (Nat.le_refl 6) (by omega))
            have q1 : ((out ++ (⟨#[117, 110, 105, 111, 110, 32]⟩ : ByteArray)) ++ N2).size ≤ 5518 := app_le (b := N2) (n := 12) q0 hn2
            have a1 := add_runT (out ++ (⟨#[117, 110, 105, 111, 110, 32]⟩ : ByteArray)) N2 (by omega) (Nat.le_trans hn2 (by omega))
            have q2 : (((out ++ (⟨#[117, 110, 105, 111, 110, 32]⟩ : ByteArray)) ++ N2) ++ (⟨#[32]⟩ : ByteArray)).size ≤ 5519 := app_le (b := (⟨#[32]⟩ : ByteArray)) (n := 1) q1 (Nat.le_refl 1)
            have a2 := add_runT ((out ++ (⟨#[117, 110, 105, 111, 110, 32]⟩ : ByteArray)) ++ N2) (⟨#[32]⟩ : ByteArray) (by omega) (Nat.le_trans (Nat.le_refl 1) (by omega))
            have q3 : ((((out ++ (⟨#[117, 110, 105, 111, 110, 32]⟩ : ByteArray)) ++ N2) ++ (⟨#[32]⟩ : ByteArray)) ++ N3).size ≤ 5531 := app_le (b := N3) (n := 12) q2 hn3
            have a3 := add_runT (((out ++ (⟨#[117, 110, 105, 111, 110, 32]⟩ : ByteArray)) ++ N2) ++ (⟨#[32]⟩ : ByteArray)) N3 (by omega) (Nat.le_trans hn3 (by omega))
            have q4 : (((((out ++ (⟨#[117, 110, 105, 111, 110, 32]⟩ : ByteArray)) ++ N2) ++ (⟨#[32]⟩ : ByteArray)) ++ N3) ++ (⟨#[32]⟩ : ByteArray)).size ≤ 5532 := app_le (b := (⟨#[32]⟩ : ByteArray)) (n := 1) q3 (Nat.le_refl 1)
            have a4 := add_runT ((((out ++ (⟨#[117, 110, 105, 111, 110, 32]⟩ : ByteArray)) ++ N2) ++ (⟨#[32]⟩ : ByteArray)) ++ N3) (⟨#[32]⟩ : ByteArray) (by omega) (Nat.le_trans (Nat.le_refl 1) (by omega))
            have q5 : ((((((out ++ (⟨#[117, 110, 105, 111, 110, 32]⟩ : ByteArray)) ++ N2) ++ (⟨#[32]⟩ : ByteArray)) ++ N3) ++ (⟨#[32]⟩ : ByteArray)) ++ N4).size ≤ 5536 := app_le (b := N4) (n := 4) q4 hy4
            have a5 := add_runT (((((out ++ (⟨#[117, 110, 105, 111, 110, 32]⟩ : ByteArray)) ++ N2) ++ (⟨#[32]⟩ : ByteArray)) ++ N3) ++ (⟨#[32]⟩ : ByteArray)) N4 (by omega) (Nat.le_trans hy4 (by omega))
            have q6 : (((((((out ++ (⟨#[117, 110, 105, 111, 110, 32]⟩ : ByteArray)) ++ N2) ++ (⟨#[32]⟩ : ByteArray)) ++ N3) ++ (⟨#[32]⟩ : ByteArray)) ++ N4) ++ (⟨#[32]⟩ : ByteArray)).size ≤ 5537 := app_le (b := (⟨#[32]⟩ : ByteArray)) (n := 1) q5 (Nat.le_refl 1)
            have a6 := add_runT ((((((out ++ (⟨#[117, 110, 105, 111, 110, 32]⟩ : ByteArray)) ++ N2) ++ (⟨#[32]⟩ : ByteArray)) ++ N3) ++ (⟨#[32]⟩ : ByteArray)) ++ N4) (⟨#[32]⟩ : ByteArray) (by omega) (Nat.le_trans (Nat.le_refl 1) (by omega))
            have q7 : ((((((((out ++ (⟨#[117, 110, 105, 111, 110, 32]⟩ : ByteArray)) ++ N2) ++ (⟨#[32]⟩ : ByteArray)) ++ N3) ++ (⟨#[32]⟩ : ByteArray)) ++ N4) ++ (⟨#[32]⟩ : ByteArray)) ++ N5).size ≤ 5541 := app_le (b := N5) (n := 4) q6 hy5
            have a7 := add_runT (((((((out ++ (⟨#[117, 110, 105, 111, 110, 32]⟩ : ByteArray)) ++ N2) ++ (⟨#[32]⟩ : ByteArray)) ++ N3) ++ (⟨#[32]⟩ : ByteArray)) ++ N4) ++ (⟨#[32]⟩ : ByteArray)) N5 (by omega) (Nat.le_trans hy5 (by omega))
            have q8 : (((((((((out ++ (⟨#[117, 110, 105, 111, 110, 32]⟩ : ByteArray)) ++ N2) ++ (⟨#[32]⟩ : ByteArray)) ++ N3) ++ (⟨#[32]⟩ : ByteArray)) ++ N4) ++ (⟨#[32]⟩ : ByteArray)) ++ N5) ++ (⟨#[10]⟩ : ByteArray)).size ≤ 5542 := app_le (b := (⟨#[10]⟩ : ByteArray)) (n := 1) q7 (Nat.le_refl 1)
            have a8 := add_runT ((((((((out ++ (⟨#[117, 110, 105, 111, 110, 32]⟩ : ByteArray)) ++ N2) ++ (⟨#[32]⟩ : ByteArray)) ++ N3) ++ (⟨#[32]⟩ : ByteArray)) ++ N4) ++ (⟨#[32]⟩ : ByteArray)) ++ N5) (⟨#[10]⟩ : ByteArray) (by omega) (Nat.le_trans (Nat.le_refl 1) (by omega))
            clear q0 q1 q2 q3 q4 q5 q6 q7 q8
            have hq : Below W.heap.size W W := Below.refl _ _
            go_region_held3 (fun w' => w'.cell? ⟨w.heap.size, 0, none⟩ = some (.slice A xs.length c) ∧ w'.cell? ⟨w.heap.size, 1, none⟩ = some (.slice (some ⟨b, off, none⟩) ys.length d) ∧ w'.cell? ⟨wr.heap.size, 0, none⟩ = some (.int .i64 m) ∧ w'.cell? ⟨wr.heap.size, 1, none⟩ = some (.int .i64 f) ∧ w'.cell? ⟨wr.heap.size, 2, none⟩ = some (.int .i64 u4) ∧ w'.cell? ⟨wr.heap.size, 3, none⟩ = some (.int .i64 x3)) (exact ⟨(hq.cell (p := ⟨w.heap.size, 0, none⟩) l0).trans e0, (hq.cell (p := ⟨w.heap.size, 1, none⟩) l0).trans e1, (hq.cell (p := ⟨wr.heap.size, 0, none⟩) l1).trans p0, (hq.cell (p := ⟨wr.heap.size, 1, none⟩) l1).trans p1, (hq.cell (p := ⟨wr.heap.size, 2, none⟩) l1).trans p2, (hq.cell (p := ⟨wr.heap.size, 3, none⟩) l1).trans p3⟩)
              (first
                | (go_at_call 29; (with_reducible refine (H2 _ (by first | exact hbW.trans (hq.mono hbW.size) | exact (hbW.trans (hq.mono hbW.size)).drew)).mono ?_); rintro e v2 ⟨rfl, hv2⟩; (first | (replace hv2 := undrew hv2) | skip); replace hq := hq.trans (hv2.mono hq.size))
                | (go_at_call 29; (with_reducible refine (H3 _ (by first | exact hbW.trans (hq.mono hbW.size) | exact (hbW.trans (hq.mono hbW.size)).drew)).mono ?_); rintro e v3 ⟨rfl, hv3⟩; (first | (replace hv3 := undrew hv3) | skip); replace hq := hq.trans (hv3.mono hq.size))
                | (go_at_call 30; (with_reducible refine (H4 _).mono ?_); rintro e v4 ⟨rfl, hv4⟩; (first | (replace hv4 := undrew hv4) | skip); replace hq := hq.trans (hv4.mono hq.size))
                | (go_at_call 31; (with_reducible refine (H5 _).mono ?_); rintro e v5 ⟨rfl, hv5⟩; (first | (replace hv5 := undrew hv5) | skip); replace hq := hq.trans (hv5.mono hq.size)))
            go_wp2
            exact ⟨⟨k + 1, by omega, by rw [← HM.out], by go_num, hbq.trans ((hbW.trans (hq.mono hbW.size)).mono hzq)⟩, by simp [intOf]; omega⟩
          · obtain rfl : k = ys.length := by omega
            have i2 : ¬ (ys.length : Int) < (ys.length : Int) := by omega
            clear hout
            go_wp2
            go_ret
            exact ⟨by rw [← HR.out]; rfl, hbw.trans ((hbk.trans (hbq.mono hz)).mono z1)⟩
end Go.Proofs.YthpcippgifmabaaGreatDoor
