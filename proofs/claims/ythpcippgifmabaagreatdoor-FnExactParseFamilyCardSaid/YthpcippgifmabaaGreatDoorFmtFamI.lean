/-
  The text of a family, in the program.
-/
import Derived.Test.YthpcippgifmabaaGreatDoorFmtFamS
import Derived.Test.YthpcippgifmabaaGreatDoorGFamI
namespace Go.Proofs.YthpcippgifmabaaGreatDoor
set_option maxRecDepth 100000
open Go.RowKit

def BuildRel (f : Nat → List UInt8) (n : Nat) (w : World) (i : Value) (wr : World) : Prop :=
  ∃ k : Nat, k ≤ n ∧ i = .int .i64 k ∧ Built w.heap.size (f k) wr ∧ Below w.heap.size w wr ∧ w.heap.size < wr.heap.size
theorem strs_cells (V : World) (t : Nat) (l : List ByteArray) (j : Nat) (x : ByteArray) (h : l[j]? = some x) : (V.alloc (.cells (l.map Value.string).toArray t)).cell? ⟨V.heap.size, 0 + j, none⟩ = some (.string x) := by
  refine (Blk.new (t := t) V rfl).cell ?_
  rw [Nat.zero_add]
  simp [h]
theorem joined (l : List UInt8) (J : List UInt8) : l ++ (mkT J ++ (⟨#[10]⟩ : ByteArray)).data.toList = l ++ (J ++ [10]) := by
  rw [ByteArray.data_append, Array.toList_append]; rfl

set_option maxHeartbeats 16000000 in
theorem implFormatFamily_any (A B : Option Addr) (c d lo hi : Nat) (xs : List Person) (ys : List Union) (w : World) (h : EPerson.AS w lo hi A xs) (h' : EUnion.AS w lo hi B ys) (hh : hi ≤ w.heap.size) (hdc : ys.length ≤ d ∧ d ≤ maxLen) (hs : totP xs ≤ 1048576) (ht : Tab10 w) :
    Calls Tryz.prog 16 #[.agg #[.slice A xs.length c, .slice B ys.length d]] w fun e w' => e = .returned (.string (familyT xs ys)) ∧ Below w.heap.size w w' := by
  cases hok : famOk xs ys with
  | false =>
    have HO := Lib.hid hok
    rw [familyT, hok, if_neg (by simp)]
    clear hok
    go_enter Tryz.func16, Tryz.ntmps16
    go_wp2_with (go_at_call 15; (with_reducible refine (implIsFamily_any _ _ _ _ lo hi xs ys _ (h.same (by (with_reducible repeat' first | exact Same.refl _ _ _ | assumption | (refine Same.setCell ?_ (by first | omega | (simp; omega) | (simp; done) | (dsimp only; omega)) _) | (refine Same.alloc ?_ (by first | omega | (simp; omega) | (simp; done) | (dsimp only; omega)) _) | (refine Same.drewN ?_ _) | (refine Same.drew ?_)))) (h'.same (by (with_reducible repeat' first | exact Same.refl _ _ _ | assumption | (refine Same.setCell ?_ (by first | omega | (simp; omega) | (simp; done) | (dsimp only; omega)) _) | (refine Same.alloc ?_ (by first | omega | (simp; omega) | (simp; done) | (dsimp only; omega)) _) | (refine Same.drewN ?_ _) | (refine Same.drew ?_)))) (by first | omega | (simp; omega) | (simp; done) | (dsimp only; omega)) hdc hs).mono ?_); rintro e w1 ⟨rfl, hb1⟩; simp only [HO.out]; (obtain ⟨hb1c, hb1f⟩ := bcell hb1); (have hb1z := hb1.size); (try simp only [szs] at hb1c hb1f hb1z); have lt1 : w.heap.size < w1.heap.size := (by omega))
    go_ret
    exact ⟨rfl, by (with_reducible repeat' first | exact Below.refl _ _ | assumption | (refine Below.setCell ?_ (by first | omega | (simp; omega) | (simp; done) | (dsimp only; omega)) _) | (refine Below.alloc ?_ (by first | omega | (simp; omega) | (simp; done) | (dsimp only; omega)) _) | (refine below_drewN ?_ _) | (refine Below.drew ?_) | (refine Below.trans ?_ (hb1.mono (by first | omega | (simp; omega) | (simp; done) | (dsimp only; omega)))))⟩
  | true =>
    have HO := Lib.hid hok
    rw [familyT, if_pos hok]
    obtain ⟨R, hR⟩ : ∃ R, (⟨(unionsL xs ys ys.length).toArray⟩ : ByteArray) = R := ⟨_, rfl⟩
    have HR := Lib.hid hR
    rw [hR]
    clear hR hok
    have hx := h.le
    have hy := h'.le
    unfold BIG at hx hy
    have hHX := Lib.hid h
    have hHY := Lib.hid h'
    have HT := Lib.hid ht
    clear ht
    go_enter Tryz.func16, Tryz.ntmps16
    go_upto_region 4 with (go_at_call 15; (with_reducible refine (implIsFamily_any _ _ _ _ lo hi xs ys _ (h.same (by (with_reducible repeat' first | exact Same.refl _ _ _ | assumption | (refine Same.setCell ?_ (by first | omega | (simp; omega) | (simp; done) | (dsimp only; omega)) _) | (refine Same.alloc ?_ (by first | omega | (simp; omega) | (simp; done) | (dsimp only; omega)) _) | (refine Same.drewN ?_ _) | (refine Same.drew ?_)))) (h'.same (by (with_reducible repeat' first | exact Same.refl _ _ _ | assumption | (refine Same.setCell ?_ (by first | omega | (simp; omega) | (simp; done) | (dsimp only; omega)) _) | (refine Same.alloc ?_ (by first | omega | (simp; omega) | (simp; done) | (dsimp only; omega)) _) | (refine Same.drewN ?_ _) | (refine Same.drew ?_)))) (by first | omega | (simp; omega) | (simp; done) | (dsimp only; omega)) hdc hs).mono ?_); rintro e w1 ⟨rfl, hb1⟩; simp only [HO.out]; (obtain ⟨hb1c, hb1f⟩ := bcell hb1); (have hb1z := hb1.size); (try simp only [szs] at hb1c hb1f hb1z); have lt1 : w.heap.size < w1.heap.size := (by omega))
    have hbw : Below w.heap.size w w1 := by (with_reducible repeat' first | exact Below.refl _ _ | assumption | (refine Below.setCell ?_ (by first | omega | (simp; omega) | (simp; done) | (dsimp only; omega)) _) | (refine Below.alloc ?_ (by first | omega | (simp; omega) | (simp; done) | (dsimp only; omega)) _) | (refine below_drewN ?_ _) | (refine Below.drew ?_) | (refine Below.trans ?_ (hb1.mono (by first | omega | (simp; omega) | (simp; done) | (dsimp only; omega)))))
    have F : Blk w1 w.heap.size 25 #[.slice A xs.length c, .slice B ys.length d] := (Blk.new w rfl).below hb1 (by simp)
    have hX := hHX.out.same (Same.of_below hbw hh)
    have hY := hHY.out.same (Same.of_below hbw hh)
    have hT1 := HT.out.below hbw
    have z1 := hbw.size
    clear hb1 hb1c hb1f hb1z h h'
    have hbu := Built.fresh w1
    generalize hV : w1.alloc (.cells #[.pointer none, .slice none 0 0] 65) = W1 at hbu
    have hbW1 : Below w1.heap.size w1 W1 := by subst hV; (with_reducible repeat' first | exact Below.refl _ _ | assumption | (refine Below.setCell ?_ (by first | omega | (simp; omega) | (simp; done) | (dsimp only; omega)) _) | (refine Below.alloc ?_ (by first | omega | (simp; omega) | (simp; done) | (dsimp only; omega)) _) | (refine below_drewN ?_ _) | (refine Below.drew ?_))
    have zW1 : w1.heap.size < W1.heap.size := by subst hV; simp
    have FW := F.below hbW1 F.lt
    have e0 := FW.cell (i := 0) rfl; have e1 := FW.cell (i := 1) rfl
    clear hV
    go_wp2
    go_loopw [14] (fun i wr => BuildRel (peopleL xs) xs.length w1 i wr) (fun i _ => xs.length - (intOf i).toNat)
    case atStart => exact ⟨0, Nat.zero_le _, rfl, hbu, hbW1, zW1⟩
    case round =>
      clear hbu hbW1 zW1 FW e0 e1
      obtain ⟨k, hk, rfl, hbu, hbk, zk⟩ := hrel
      have hz := hbk.size
      have F1 := F.below hbk F.lt
      have e0 := F1.cell (i := 0) rfl; have e1 := F1.cell (i := 1) rfl
      by_cases hlt : k < xs.length
      · have i1 : (k : Int) < (xs.length : Int) := by omega
        have hXr := hX.same (Same.of_below hbk (by omega))
        obtain ⟨b, off, ⟨x0, x1, x2, x3, x4, x5⟩, rfl, g1, g2, _, hxk, hc0, hc1, hc2, hc3, hc4, hc5⟩ := APerson.at_ hXr hlt
        have hP := famOk_person HO.out hxk
        obtain ⟨s12, b0, b1, d5⟩ := aliveOk_parts hP.alive
        have p2 := pidx_of hP.dad
        have p3 := pidx_of hP.mum
        simp only at s12 b0 b1 d5 p2 p3 hc0 hc1 hc2 hc3 hc4 hc5
        have HS := Lib.hid (peopleL_succ hxk)
        have hjl := joinP_len HO.out hxk
        have hl := peopleL_len HO.out k
        have lb : b < wr.heap.size := by omega
        have H2 := fun W hb => nameText_any (some ⟨b, off, none⟩) B c d lo hi xs ys x2 W (hXr.same (Same.of_below (B := wr.heap.size) hb (by omega))) (by have := hb.size; omega) p2
        have H3 := fun W hb => nameText_any (some ⟨b, off, none⟩) B c d lo hi xs ys x3 W (hXr.same (Same.of_below (B := wr.heap.size) hb (by omega))) (by have := hb.size; omega) p3
        have H4 := fun W hT => yearText_any x4 W (by omega) (by omega) hT
        have H5 := fun W hT => yearText_any x5 W (by omega) (by omega) hT
        have H1 := fun W => sexWord_any x1 W
        have HJ : ∀ V : World, Calls Tryz.prog 44 #[.slice (some ⟨V.heap.size, 0, none⟩) 6 6, .string ⟨#[32]⟩] (V.alloc (.cells #[.string (sexT x1), .string x0, .string (nameT xs x2), .string (nameT xs x3), .string (yearT x4), .string (yearT x5)] 9)) fun e w' => e = .returned (.string (mkT (joinF (fieldsP xs ⟨x0, x1, x2, x3, x4, x5⟩)))) ∧ Below (V.heap.size + 1) (V.alloc (.cells #[.string (sexT x1), .string x0, .string (nameT xs x2), .string (nameT xs x3), .string (yearT x4), .string (yearT x5)] 9)) w' := fun V => by
          have hj := join_any V.heap.size 0 6 (fieldsP xs ⟨x0, x1, x2, x3, x4, x5⟩) _ (strs_cells V 9 _) (by simp) (by simp [fieldsP]) (by simp [fieldsP]) (by omega)
          rw [show (V.alloc (.cells ((fieldsP xs ⟨x0, x1, x2, x3, x4, x5⟩).map Value.string).toArray 9)).heap.size = V.heap.size + 1 by simp] at hj
          exact hj
        generalize joinF (fieldsP xs ⟨x0, x1, x2, x3, x4, x5⟩) = J at *
        generalize sexT x1 = N1 at *
        generalize nameT xs x2 = N2 at *
        generalize nameT xs x3 = N3 at *
        generalize yearT x4 = N4 at *
        generalize yearT x5 = N5 at *
        generalize peopleL xs k = L at *
        clear hP hxk p2 p3 s12 d5 b0 b1
        have HJL := Lib.hid (joined L J)
        have a1 := add_runT (mkT J) (⟨#[10]⟩ : ByteArray) (by rw [mkT_size]; omega) (Nat.le_trans (Nat.le_refl 1) (by omega))
        have hJs : (mkT J ++ (⟨#[10]⟩ : ByteArray)).size ≤ 55 := by
          rw [ByteArray.size_append, mkT_size]
          have : (⟨#[10]⟩ : ByteArray).size = 1 := rfl
          omega
        have HW := fun V hB hb => writeString_any w1.heap.size L (mkT J ++ (⟨#[10]⟩ : ByteArray)) V hB (by omega) hb
        go_upto_region 7 with fail
        generalize hW : wr.alloc (.cells #[.string x0, .int .i64 x1, .int .i64 x2, .int .i64 x3, .int .i64 x4, .int .i64 x5] 50) = W
        have P : Blk W wr.heap.size 50 #[.string x0, .int .i64 x1, .int .i64 x2, .int .i64 x3, .int .i64 x4, .int .i64 x5] := by subst hW; exact Blk.new _ rfl
        have hbW : Below wr.heap.size wr W := by subst hW; (with_reducible repeat' first | exact Below.refl _ _ | assumption | (refine Below.setCell ?_ (by first | omega | (simp; omega) | (simp; done) | (dsimp only; omega)) _) | (refine Below.alloc ?_ (by first | omega | (simp; omega) | (simp; done) | (dsimp only; omega)) _) | (refine below_drewN ?_ _) | (refine Below.drew ?_))
        clear hW hc0 hc1 hc2 hc3 hc4 hc5
        have F2 := F1.below hbW F1.lt
        have l0 := F2.lt; have l1 := P.lt
        have hTW : Tab10 W := (hT1.below hbk).below hbW
        have hBW : Built w1.heap.size L W := hbu.below hbW
        replace e0 := F2.cell (i := 0) rfl; replace e1 := F2.cell (i := 1) rfl
        have p0 := P.cell (i := 0) rfl; have p1 := P.cell (i := 1) rfl; have p2 := P.cell (i := 2) rfl; have p3 := P.cell (i := 3) rfl; have p4 := P.cell (i := 4) rfl; have p5 := P.cell (i := 5) rfl
        have hq : Below W.heap.size W W := Below.refl _ _
        go_region_held3 (fun w' => w'.cell? ⟨w.heap.size, 0, none⟩ = some (.slice (some ⟨b, off, none⟩) xs.length c) ∧ w'.cell? ⟨w.heap.size, 1, none⟩ = some (.slice B ys.length d) ∧ w'.cell? ⟨wr.heap.size, 0, none⟩ = some (.string x0) ∧ w'.cell? ⟨wr.heap.size, 1, none⟩ = some (.int .i64 x1) ∧ w'.cell? ⟨wr.heap.size, 2, none⟩ = some (.int .i64 x2) ∧ w'.cell? ⟨wr.heap.size, 3, none⟩ = some (.int .i64 x3) ∧ w'.cell? ⟨wr.heap.size, 4, none⟩ = some (.int .i64 x4) ∧ w'.cell? ⟨wr.heap.size, 5, none⟩ = some (.int .i64 x5)) (first | exact ⟨F9.cell (i := 0) rfl, F9.cell (i := 1) rfl, P9.cell (i := 0) rfl, P9.cell (i := 1) rfl, P9.cell (i := 2) rfl, P9.cell (i := 3) rfl, P9.cell (i := 4) rfl, P9.cell (i := 5) rfl⟩ | exact ⟨(hq.cell (p := ⟨w.heap.size, 0, none⟩) l0).trans e0, (hq.cell (p := ⟨w.heap.size, 1, none⟩) l0).trans e1, (hq.cell (p := ⟨wr.heap.size, 0, none⟩) l1).trans p0, (hq.cell (p := ⟨wr.heap.size, 1, none⟩) l1).trans p1, (hq.cell (p := ⟨wr.heap.size, 2, none⟩) l1).trans p2, (hq.cell (p := ⟨wr.heap.size, 3, none⟩) l1).trans p3, (hq.cell (p := ⟨wr.heap.size, 4, none⟩) l1).trans p4, (hq.cell (p := ⟨wr.heap.size, 5, none⟩) l1).trans p5⟩ | exact ⟨((hq.alloc hq.size _).cell (p := ⟨w.heap.size, 0, none⟩) l0).trans e0, ((hq.alloc hq.size _).cell (p := ⟨w.heap.size, 1, none⟩) l0).trans e1, ((hq.alloc hq.size _).cell (p := ⟨wr.heap.size, 0, none⟩) l1).trans p0, ((hq.alloc hq.size _).cell (p := ⟨wr.heap.size, 1, none⟩) l1).trans p1, ((hq.alloc hq.size _).cell (p := ⟨wr.heap.size, 2, none⟩) l1).trans p2, ((hq.alloc hq.size _).cell (p := ⟨wr.heap.size, 3, none⟩) l1).trans p3, ((hq.alloc hq.size _).cell (p := ⟨wr.heap.size, 4, none⟩) l1).trans p4, ((hq.alloc hq.size _).cell (p := ⟨wr.heap.size, 5, none⟩) l1).trans p5⟩)
          (first
            | (go_at_call 45; (with_reducible refine (H1 _).mono ?_); rintro e v1 ⟨rfl, rfl⟩)
            | (go_at_call 46; (with_reducible refine (H2 _ (by first | exact hbW.trans (hq.mono hbW.size) | exact (hbW.trans (hq.mono hbW.size)).drew)).mono ?_); rintro e v2 ⟨rfl, hv2⟩; (first | (replace hv2 := undrew hv2) | skip); replace hq := hq.trans (hv2.mono hq.size))
            | (go_at_call 46; (with_reducible refine (H3 _ (by first | exact hbW.trans (hq.mono hbW.size) | exact (hbW.trans (hq.mono hbW.size)).drew)).mono ?_); rintro e v3 ⟨rfl, hv3⟩; (first | (replace hv3 := undrew hv3) | skip); replace hq := hq.trans (hv3.mono hq.size))
            | (go_at_call 47; (with_reducible refine (H4 _ (by first | exact hTW.below hq)).mono ?_); rintro e v4 ⟨rfl, hv4⟩; (first | (replace hv4 := undrew hv4) | skip); replace hq := hq.trans (hv4.mono hq.size))
            | (go_at_call 47; (with_reducible refine (H5 _ (by first | exact hTW.below hq)).mono ?_); rintro e v5 ⟨rfl, hv5⟩; (first | (replace hv5 := undrew hv5) | skip); replace hq := hq.trans (hv5.mono hq.size))
            | (go_at_call 44; (with_reducible refine (HJ _).mono ?_); rintro e v7 ⟨rfl, hv7⟩; replace hq := (hq.alloc hq.size _).trans (hv7.mono (Nat.le_succ_of_le hq.size)))
            | (go_at_call 43; (with_reducible refine (HW _ (hBW.below hq) (Nat.le_trans (Nat.le_trans hz hbW.size) hq.size)).mono ?_); rintro e v9 ⟨rfl, hB9, hb9, ho9⟩; have F9 := (F2.below hq l0).below hb9 F.lt; have P9 := (P.below hq l1).others ho9 (by omega) (by decide)))
        go_wp2
        exact ⟨⟨k + 1, by omega, by go_num, by rw [HS.out, ← HJL.out]; exact hB9, (hbk.trans ((hbW.trans (hq.mono hbW.size)).mono hz)).trans hb9, by have := hb9.size; have := hq.size; have := hbW.size; omega⟩, by simp [intOf]; omega⟩
      · obtain rfl : k = xs.length := by omega
        clear hk
        have i1 : ¬ (xs.length : Int) < (xs.length : Int) := by omega
        go_wp2
        obtain ⟨w3, rfl⟩ : ∃ w3 : World, w3 = wr := ⟨_, rfl⟩
        go_loopw [45] (fun i wq => BuildRel (unionsL xs ys) ys.length w1 i wq) (fun i _ => ys.length - (intOf i).toNat)
        case atStart => exact ⟨0, Nat.zero_le _, rfl, by rw [unionsL_zero]; exact hbu, hbk, zk⟩
        case round =>
          clear hbu hbk zk hz F1 e0 e1
          obtain ⟨k, hk, rfl, hbu, hbk, zk⟩ := hrel
          have hz := hbk.size
          have F1 := F.below hbk F.lt
          have e0 := F1.cell (i := 0) rfl; have e1 := F1.cell (i := 1) rfl
          have HU := Lib.hid (fun (y : Union) (hy : y ∈ ys) => show y.since ≤ 9999 ∧ y.till ≤ 9999 by
            obtain ⟨i, hi, rfl⟩ := List.getElem_of_mem hy
            obtain ⟨_, _, _, _, _, _, _, _, _, _, _, u2, u3, _⟩ := famOk_union HO.out (List.getElem?_eq_getElem hi)
            omega)
          have hl := unionsL_len HO.out HU.out k
          by_cases hlt : k < ys.length
          · have i2 : (k : Int) < (ys.length : Int) := by omega
            have hXr := hX.same (Same.of_below hbk (by omega))
            have hYr := hY.same (Same.of_below hbk (by omega))
            obtain ⟨b, off, ⟨x0, x1, x2, x3⟩, rfl, g1, g2, _, hyk, hc0, hc1, hc2, hc3⟩ := AUnion.at_ hYr hlt
            obtain ⟨m, f, xa, xb, rfl, rfl, hm, hf, hma, hfb, s0, s1, t1, _⟩ := famOk_union HO.out hyk
            simp only at s0 s1 t1 hc0 hc1 hc2 hc3
            have HS := Lib.hid (unionsL_succ (xs := xs) hyk)
            have hjl := joinU_len HO.out (y := ⟨m, f, x2, x3⟩) s1 (by show x3 ≤ 9999; omega)
            have lb : b < wr.heap.size := by omega
            have H2 := fun W hb => nameText_any A (some ⟨b, off, none⟩) c d lo hi xs ys m W (hXr.same (Same.of_below (B := wr.heap.size) hb (by omega))) (by have := hb.size; omega) (.inr ⟨m, xa, rfl, hma⟩)
            have H3 := fun W hb => nameText_any A (some ⟨b, off, none⟩) c d lo hi xs ys f W (hXr.same (Same.of_below (B := wr.heap.size) hb (by omega))) (by have := hb.size; omega) (.inr ⟨f, xb, rfl, hfb⟩)
            have H4 := fun W hT => yearText_any x2 W (by omega) (by omega) hT
            have H5 := fun W hT => yearText_any x3 W (by omega) (by omega) hT
            have HJ : ∀ V : World, Calls Tryz.prog 44 #[.slice (some ⟨V.heap.size, 0, none⟩) 5 5, .string ⟨#[32]⟩] (V.alloc (.cells #[.string ⟨#[117, 110, 105, 111, 110]⟩, .string (nameT xs m), .string (nameT xs f), .string (yearT x2), .string (yearT x3)] 9)) fun e w' => e = .returned (.string (mkT (joinF (fieldsU xs ⟨m, f, x2, x3⟩)))) ∧ Below (V.heap.size + 1) (V.alloc (.cells #[.string ⟨#[117, 110, 105, 111, 110]⟩, .string (nameT xs m), .string (nameT xs f), .string (yearT x2), .string (yearT x3)] 9)) w' := fun V => by
              have hj := join_any V.heap.size 0 5 (fieldsU xs ⟨m, f, x2, x3⟩) _ (strs_cells V 9 _) (by simp) (by simp [fieldsU]) (by simp [fieldsU]) (by omega)
              rw [show (V.alloc (.cells ((fieldsU xs ⟨m, f, x2, x3⟩).map Value.string).toArray 9)).heap.size = V.heap.size + 1 by simp] at hj
              exact hj
            generalize joinF (fieldsU xs ⟨m, f, x2, x3⟩) = J at *
            generalize nameT xs (m : Int) = N2 at *
            generalize nameT xs (f : Int) = N3 at *
            generalize yearT x2 = N4 at *
            generalize yearT x3 = N5 at *
            generalize unionsL xs ys k = L at *
            clear hyk hma hfb s0 s1 t1
            have HJL := Lib.hid (joined L J)
            have a1 := add_runT (mkT J) (⟨#[10]⟩ : ByteArray) (by rw [mkT_size]; omega) (Nat.le_trans (Nat.le_refl 1) (by omega))
            have hJs : (mkT J ++ (⟨#[10]⟩ : ByteArray)).size ≤ 55 := by
              rw [ByteArray.size_append, mkT_size]
              have : (⟨#[10]⟩ : ByteArray).size = 1 := rfl
              omega
            have HW := fun V hB hb => writeString_any w1.heap.size L (mkT J ++ (⟨#[10]⟩ : ByteArray)) V hB (by omega) hb
            go_upto_region 12 with fail
            generalize hW : wr.alloc (.cells #[.int .i64 m, .int .i64 f, .int .i64 x2, .int .i64 x3] 48) = W
            have P : Blk W wr.heap.size 48 #[.int .i64 m, .int .i64 f, .int .i64 x2, .int .i64 x3] := by subst hW; exact Blk.new _ rfl
            have hbW : Below wr.heap.size wr W := by subst hW; (with_reducible repeat' first | exact Below.refl _ _ | assumption | (refine Below.setCell ?_ (by first | omega | (simp; omega) | (simp; done) | (dsimp only; omega)) _) | (refine Below.alloc ?_ (by first | omega | (simp; omega) | (simp; done) | (dsimp only; omega)) _) | (refine below_drewN ?_ _) | (refine Below.drew ?_))
            clear hW hc0 hc1 hc2 hc3
            have F2 := F1.below hbW F1.lt
            have l0 := F2.lt; have l1 := P.lt
            have hTW : Tab10 W := (hT1.below hbk).below hbW
            have hBW : Built w1.heap.size L W := hbu.below hbW
            replace e0 := F2.cell (i := 0) rfl; replace e1 := F2.cell (i := 1) rfl
            have p0 := P.cell (i := 0) rfl; have p1 := P.cell (i := 1) rfl; have p2 := P.cell (i := 2) rfl; have p3 := P.cell (i := 3) rfl
            have hq : Below W.heap.size W W := Below.refl _ _
            go_region_held3 (fun w' => w'.cell? ⟨w.heap.size, 0, none⟩ = some (.slice A xs.length c) ∧ w'.cell? ⟨w.heap.size, 1, none⟩ = some (.slice (some ⟨b, off, none⟩) ys.length d) ∧ w'.cell? ⟨wr.heap.size, 0, none⟩ = some (.int .i64 m) ∧ w'.cell? ⟨wr.heap.size, 1, none⟩ = some (.int .i64 f) ∧ w'.cell? ⟨wr.heap.size, 2, none⟩ = some (.int .i64 x2) ∧ w'.cell? ⟨wr.heap.size, 3, none⟩ = some (.int .i64 x3)) (first | exact ⟨F9.cell (i := 0) rfl, F9.cell (i := 1) rfl, P9.cell (i := 0) rfl, P9.cell (i := 1) rfl, P9.cell (i := 2) rfl, P9.cell (i := 3) rfl⟩ | exact ⟨(hq.cell (p := ⟨w.heap.size, 0, none⟩) l0).trans e0, (hq.cell (p := ⟨w.heap.size, 1, none⟩) l0).trans e1, (hq.cell (p := ⟨wr.heap.size, 0, none⟩) l1).trans p0, (hq.cell (p := ⟨wr.heap.size, 1, none⟩) l1).trans p1, (hq.cell (p := ⟨wr.heap.size, 2, none⟩) l1).trans p2, (hq.cell (p := ⟨wr.heap.size, 3, none⟩) l1).trans p3⟩ | exact ⟨((hq.alloc hq.size _).cell (p := ⟨w.heap.size, 0, none⟩) l0).trans e0, ((hq.alloc hq.size _).cell (p := ⟨w.heap.size, 1, none⟩) l0).trans e1, ((hq.alloc hq.size _).cell (p := ⟨wr.heap.size, 0, none⟩) l1).trans p0, ((hq.alloc hq.size _).cell (p := ⟨wr.heap.size, 1, none⟩) l1).trans p1, ((hq.alloc hq.size _).cell (p := ⟨wr.heap.size, 2, none⟩) l1).trans p2, ((hq.alloc hq.size _).cell (p := ⟨wr.heap.size, 3, none⟩) l1).trans p3⟩)
              (first
                | (go_at_call 46; (with_reducible refine (H2 _ (by first | exact hbW.trans (hq.mono hbW.size) | exact (hbW.trans (hq.mono hbW.size)).drew)).mono ?_); rintro e v2 ⟨rfl, hv2⟩; (first | (replace hv2 := undrew hv2) | skip); replace hq := hq.trans (hv2.mono hq.size))
                | (go_at_call 46; (with_reducible refine (H3 _ (by first | exact hbW.trans (hq.mono hbW.size) | exact (hbW.trans (hq.mono hbW.size)).drew)).mono ?_); rintro e v3 ⟨rfl, hv3⟩; (first | (replace hv3 := undrew hv3) | skip); replace hq := hq.trans (hv3.mono hq.size))
                | (go_at_call 47; (with_reducible refine (H4 _ (by first | exact hTW.below hq)).mono ?_); rintro e v4 ⟨rfl, hv4⟩; (first | (replace hv4 := undrew hv4) | skip); replace hq := hq.trans (hv4.mono hq.size))
                | (go_at_call 47; (with_reducible refine (H5 _ (by first | exact hTW.below hq)).mono ?_); rintro e v5 ⟨rfl, hv5⟩; (first | (replace hv5 := undrew hv5) | skip); replace hq := hq.trans (hv5.mono hq.size))
                | (go_at_call 44; (with_reducible refine (HJ _).mono ?_); rintro e v7 ⟨rfl, hv7⟩; replace hq := (hq.alloc hq.size _).trans (hv7.mono (Nat.le_succ_of_le hq.size)))
                | (go_at_call 43; (with_reducible refine (HW _ (hBW.below hq) (Nat.le_trans (Nat.le_trans hz hbW.size) hq.size)).mono ?_); rintro e v9 ⟨rfl, hB9, hb9, ho9⟩; have F9 := (F2.below hq l0).below hb9 F.lt; have P9 := (P.below hq l1).others ho9 (by omega) (by decide)))
            go_wp2
            exact ⟨⟨k + 1, by omega, by go_num, by rw [HS.out, ← HJL.out]; exact hB9, (hbk.trans ((hbW.trans (hq.mono hbW.size)).mono hz)).trans hb9, by have := hb9.size; have := hq.size; have := hbW.size; omega⟩, by simp [intOf]; omega⟩
          · obtain rfl : k = ys.length := by omega
            have i2 : ¬ (ys.length : Int) < (ys.length : Int) := by omega
            have hst := builderString_any w1.heap.size (unionsL xs ys ys.length) wr hbu hz
            rw [show mkT (unionsL xs ys ys.length) = R from HR.out] at hst
            go_wp2_with (go_at_call 48; (with_reducible refine hst.mono ?_); rintro e v9 ⟨rfl, hb9⟩)
            go_ret
            exact ⟨rfl, hbw.trans ((hbk.trans hb9).mono z1)⟩
end Go.Proofs.YthpcippgifmabaaGreatDoor
