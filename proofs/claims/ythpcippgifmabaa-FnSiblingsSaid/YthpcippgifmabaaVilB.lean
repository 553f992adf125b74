/-
  A family whose generations marry among themselves, drawn from bytes: it is valid.
-/
import Derived.Test.YthpcippgifmabaaCrowdB
import Derived.Test.YthpcippgifmabaaVilA
import Derived.Test.YthpcippgifmabaaVilN
namespace Go.Proofs.Ythpcippgifmabaa
set_option maxRecDepth 100000
open Go.RowKit

/-- A valid family is returned: so many persons at most. -/
def RetVil (g : Nat) (n : Int) (w : World) (e : Ending) (w' : World) : Prop :=
  ∃ (xs : List Person) (ys : List Union) (A B : Option Addr) (c d : Nat), e = .returned (.agg #[.slice A xs.length c, .slice B ys.length d]) ∧ EPerson.OS w' w.heap.size w'.heap.size (.slice A xs.length c) xs ∧ EUnion.OS w' w.heap.size w'.heap.size (.slice B ys.length d) ys ∧
    (xs.length : Int) ≤ n ∧ famOk xs ys = true ∧ Cur w' g ∧ Chg g (g + 1) w w'
def DadQ (n wd : Nat) (f : Int) : Prop := f = -1 ∨ 0 < n ∧ f = (n : Int) - wd
def MumQ (n wd : Nat) (m : Int) : Prop := m = -1 ∨ 0 < n ∧ m = (n : Int) - wd + 1
def CloseRelV (wd g : Nat) (w : World) (i : Value) (wr : World) : Prop := ∃ (k : Nat) (xs : List Person) (A : Option Addr) (cc : Nat), i = .int .i64 k ∧ k ≤ 10 ∧ xs.length ≤ 40 ∧ ClosG wd k xs ∧ FamW g w xs A cc wr
def CloseInV (k : Nat) (x0 : List Person) (g wd : Nat) (w : World) (i : Value) (wr : World) : Prop := ∃ (j : Nat) (xs : List Person) (A : Option Addr) (cc : Nat), i = .int .i64 j ∧ j ≤ wd ∧ xs.length = x0.length + j ∧ ClosJ k j x0 xs ∧ FamW g w xs A cc wr

set_option maxHeartbeats 8000000 in
theorem l8Close_is (g : Nat) (w : World) (h : Cur w g) : Calls Try.prog 51 #[.pointer (some ⟨g, 0, none⟩)] w (RetVil g 40 w) := by
  have hg := h.lt
  go_enter Try.func51, Try.ntmps51
  go_upto_region 3 with (go_at_call 66; refine (l01Below_any g 2 _ (h.below (by (with_reducible repeat' first | exact Below.refl _ _ | assumption | (refine Below.setCell ?_ (by first | omega | (simp; omega) | (simp; done) | (dsimp only; omega)) _) | (refine Below.alloc ?_ (by first | omega | (simp; omega) | (simp; done) | (dsimp only; omega)) _) | (refine below_drewN ?_ _) | (refine Below.drew ?_)) : Below w.heap.size w _) hg) (by omega) (by omega)).mono ?_; rintro e w1 ⟨y, hy0, hy1, rfl, hc1, hch1, hs1⟩)
  obtain ⟨y, rfl⟩ := Int.eq_ofNat_of_zero_le hy0
  have F1 : FamW g w [] none 0 w1 := by
    have hb : Below w.heap.size w ((w.alloc (.cells #[.slice none 0 0, .slice none 0 0] 26)).alloc (.cells #[.slice none 0 0, .slice none 0 0] 26)) := by (with_reducible repeat' first | exact Below.refl _ _ | assumption | (refine Below.setCell ?_ (by first | omega | (simp; omega) | (simp; done) | (dsimp only; omega)) _) | (refine Below.alloc ?_ (by first | omega | (simp; omega) | (simp; done) | (dsimp only; omega)) _) | (refine below_drewN ?_ _) | (refine Below.drew ?_))
    have F0 : FamW g w [] none 0 ((w.alloc (.cells #[.slice none 0 0, .slice none 0 0] 26)).alloc (.cells #[.slice none 0 0, .slice none 0 0] 26)) :=
      { res := (Blk.new _ rfl).alloc _, fam := Blk.new _ (by simp), own := Elem.OS.nil, name := fun x hx => absurd hx (by simp), cur := h.below hb hg, chg := (Chg.refl _ _ _).then_below hb (Nat.le_refl _), glt := hg, size := by simp }
    exact F0.next hch1 hc1
  clear hch1 hc1 hs1 h
  go_upto_region 4 with (go_at_call 66; refine (l01Below_any g 10 _ F1.cur (by omega) (by omega)).mono ?_; rintro e w2 ⟨k0, hk0, hk1, rfl, hc2, hch2, hs2⟩)
  obtain ⟨k0, rfl⟩ := Int.eq_ofNat_of_zero_le hk0
  have F2 := F1.next hch2 hc2
  clear F1 hch2 hc2 hs2
  go_loopw [5] (fun i wr => CloseRelV (2 + y) g w i wr) (fun i _ => (intOf i).toNat)
  case atStart => exact ⟨k0 + 1, [], none, 0, by go_num, by omega, by simp, ClosG.zero _ _, F2⟩
  case round =>
    obtain ⟨k, xs, A, cc, rfl, hk, hx, hG, F⟩ := hrel
    have HG := Lib.hid hG
    clear hG
    clear F2
    have e0 := F.fam.cell (i := 0) rfl; have e1 := F.fam.cell (i := 1) rfl
    have zz := F.size
    by_cases hk0 : 0 < k ∧ xs.length + (2 + y) ≤ 40
    · obtain ⟨hk0, hx40⟩ := hk0
      have i1 : (0 : Int) < (k : Int) := by omega
      have i2 : (xs.length : Int) + (2 + (y : Int)) ≤ 40 := by omega
      go_upto_region 8 with fail
      go_loopw [7] (fun i wq => CloseInV k xs g (2 + y) w i wq) (fun i _ => 2 + y - (intOf i).toNat)
      case atStart => exact ⟨0, xs, A, cc, rfl, by omega, rfl, ClosJ.zero HG.out, F⟩
      case round =>
        obtain ⟨j, zs, A2, c2, rfl, hj, hl, hJ, G⟩ := hrel
        have HJ := Lib.hid hJ
        clear hJ
        have hz40 : zs.length ≤ 40 := by omega
        have HL := Lib.hid hl
        clear hl e0 e1 F
        have zg := G.size
        by_cases hjw : j < 2 + y
        · have i3 : (j : Int) < 2 + (y : Int) := by omega
          have hcall := l1Called_is (xs.length + j) wr (by omega)
          obtain ⟨s, hs⟩ : ∃ s, called (xs.length + j) = s := ⟨_, rfl⟩
          have hs2 : s.size = 2 := by rw [← hs]; rfl
          have HSn := Lib.hid hs
          rw [hs] at hcall
          clear hs
          rw [Int.natCast_add] at hcall
          go_upto_region 11 with (go_at_call 68; refine hcall.mono ?_; rintro e w3 ⟨rfl, hb3⟩)
          generalize hW1 : w3.alloc (.cells #[.string s, .int .i64 (1 + (j : Int) % 2), .int .i64 (-1), .int .i64 (-1), .int .i64 (25 * (12 - (k : Int))), .int .i64 (-1)] 48) = W1
          have z3 := hb3.size
          have hch1 : Chg g (g + 1) wr W1 := by subst hW1; exact (Chg.of_below hb3).alloc _
          have hcu1 : Cur W1 g := by subst hW1; exact G.cur.below (hb3.alloc (by omega) _) G.cur.lt
          have P1 : Blk W1 w3.heap.size 48 #[.string s, .int .i64 (1 + (j : Int) % 2), .int .i64 (-1), .int .i64 (-1), .int .i64 (25 * (12 - (k : Int))), .int .i64 (-1)] := by subst hW1; exact Blk.new _ rfl
          clear hW1 hcall hb3
          have hgl := G.glt
          by_cases hn : 0 < xs.length
          · have i4 : (0 : Int) < (xs.length : Int) := by omega
            have lp4 : w3.heap.size < W1.heap.size := P1.lt
            go_upto_if 53 with (go_at_call 69; refine (l01Once_any g 12 _ hcu1 (by omega) (by omega)).mono ?_; rintro e w4 ⟨x4, rfl, hcq4, hchq4, hsq4⟩)
            have P4 := P1.chg hchq4 (.inr (by omega))
            have hch4 := hch1.trans hchq4
            clear hchq4 P1 hch1 hcu1 hsq4
            go_cut [] from 31 to 75 (fun wc => ∃ f m : Int, DadQ xs.length (2 + y) f ∧ MumQ xs.length (2 + y) m ∧ Blk wc w3.heap.size 48 #[.string s, .int .i64 (1 + (j : Int) % 2), .int .i64 f, .int .i64 m, .int .i64 (25 * (12 - (k : Int))), .int .i64 (-1)] ∧ Cur wc g ∧ Chg g (g + 1) wr wc)
            case first =>
              have q4 := P4.cell (i := 2) rfl; have q4f := P4.free 2; have lq := P4.lt
              cases x4 with
              | true =>
                go_wp2
                go_meet
                exact ⟨_, _, .inl rfl, .inl rfl, P4, hcq4, hch4⟩
              | false =>
                go_wp2
                go_meet
                refine ⟨_, _, ?_, .inl rfl, P4.set 2 _, hcq4.setCell (by simp; omega) _, hch4.then_below ((Below.refl wr.heap.size _).setCell (by simp; omega) _) (Nat.le_refl _)⟩
                exact .inr ⟨hn, by omega⟩
            case rest =>
              obtain ⟨f4, m4, hF4, hM4, P14, hcu14, hchr14⟩ := hcut
              have HF4 := Lib.hid hF4; have HM4 := Lib.hid hM4; clear hF4 hM4
              clear P4 hcq4 hch4
              have lp6 : w3.heap.size < wc.heap.size := P14.lt
              go_upto_if 64 with (go_at_call 69; refine (l01Once_any g 12 _ hcu14 (by omega) (by omega)).mono ?_; rintro e w6 ⟨x6, rfl, hcq6, hchq6, hsq6⟩)
              have P6 := P14.chg hchq6 (.inr (by omega))
              have hch6 := hchr14.trans hchq6
              clear hchq6 P14 hchr14 hcu14 hsq6
              go_cut [] from 31 to 75 (fun wc => ∃ f m : Int, DadQ xs.length (2 + y) f ∧ MumQ xs.length (2 + y) m ∧ Blk wc w3.heap.size 48 #[.string s, .int .i64 (1 + (j : Int) % 2), .int .i64 f, .int .i64 m, .int .i64 (25 * (12 - (k : Int))), .int .i64 (-1)] ∧ Cur wc g ∧ Chg g (g + 1) wr wc)
              case first =>
                have q6 := P6.cell (i := 3) rfl; have q6f := P6.free 3; have lq := P6.lt
                cases x6 with
                | true =>
                  go_wp2
                  go_meet
                  exact ⟨_, _, HF4.out, HM4.out, P6, hcq6, hch6⟩
                | false =>
                  go_wp2
                  go_meet
                  refine ⟨_, _, HF4.out, ?_, P6.set 3 _, hcq6.setCell (by simp; omega) _, hch6.then_below ((Below.refl wr.heap.size _).setCell (by simp; omega) _) (Nat.le_refl _)⟩
                  exact .inr ⟨hn, by omega⟩
              case rest =>
                obtain ⟨f6, m6, hF6, hM6, P16, hcu16, hchr16⟩ := hcut
                have HF6 := Lib.hid hF6; have HM6 := Lib.hid hM6; clear hF6 hM6
                clear P6 hcq6 hch6
                have GG := G.next hchr16 hcu16
                have p0 := P16.cell (i := 0) rfl; have p1 := P16.cell (i := 1) rfl; have p2 := P16.cell (i := 2) rfl; have p3 := P16.cell (i := 3) rfl; have p4 := P16.cell (i := 4) rfl; have p5 := P16.cell (i := 5) rfl
                have e0 := GG.fam.cell (i := 0) rfl; have e1 := GG.fam.cell (i := 1) rfl; have f0 := GG.fam.free 0
                have zW := GG.size; have ho := GG.own; have lP := P16.lt; have lF := GG.fam.lt
                go_wp2_with (at_builtin; go_loud (refine wpList_app1 tyPersonS A2 zs ⟨s, 1 + (j : Int) % 2, f6, m6, 25 * (12 - (k : Int)), -1⟩ (vsPerson ⟨s, 1 + (j : Int) % 2, f6, m6, 25 * (12 - (k : Int)), -1⟩) ⟨wc.heap.size, 0, none⟩ 1 (lo := w.heap.size + 2) (hi := wc.heap.size) (ho.same (by (with_reducible repeat' first | exact Same.refl _ _ _ | assumption | (refine Same.setCell ?_ (by first | omega | (simp; omega) | (simp; done) | (dsimp only; omega)) _) | (refine Same.alloc ?_ (by first | omega | (simp; omega) | (simp; done) | (dsimp only; omega)) _) | (refine Same.drewN ?_ _) | (refine Same.drew ?_)))) rfl (by (first | omega | (simp; omega) | (simp; done) | (dsimp only; omega))) zW rfl _ _ rfl rfl rfl rfl (cell_row_at _ _ _ _ (by simp)) (flatPerson.one _) (by omega) (by decide) (fun A' c' w5 ho5 hg5 hc5 hm5 => ?_)); have hb5 : Below (w.heap.size + 2) wc w5 := Below.grown (w := World.alloc _ _) (by (with_reducible repeat' first | exact Below.refl _ _ | assumption | (refine Below.setCell ?_ (by first | omega | (simp; omega) | (simp; done) | (dsimp only; omega)) _) | (refine Below.alloc ?_ (by first | omega | (simp; omega) | (simp; done) | (dsimp only; omega)) _) | (refine below_drewN ?_ _) | (refine Below.drew ?_))) hg5 (by simp; omega) (fun k hk => (ho.blkv k hk).1); replace e0 := (hb5.cell (p := ⟨w.heap.size + 1, 0, none⟩) (by first | omega | (simp; omega) | (simp; done) | (dsimp only; omega))).trans e0; replace f0 := (hb5.frozen (p := ⟨w.heap.size + 1, 0, none⟩) (by first | omega | (simp; omega) | (simp; done) | (dsimp only; omega))).trans f0)
                exact ⟨⟨j + 1, zs ++ [⟨s, 1 + (j : Int) % 2, f6, m6, 25 * (12 - (k : Int)), -1⟩], A', c', by go_num, by omega, by simp [HL.out]; omega, by have := ClosJ.push HG.out HJ.out ⟨hk0, hk⟩ HL.out (by rw [HL.out]; omega) HF6.out HM6.out; rwa [HSn.out] at this, by simpa using GG.pushed _ hg5 ho5 hs2⟩, by simp [intOf]; omega⟩
          · have i4 : ¬ (0 : Int) < (xs.length : Int) := by omega
            have GG := G.next hch1 hcu1
            have p0 := P1.cell (i := 0) rfl; have p1 := P1.cell (i := 1) rfl; have p2 := P1.cell (i := 2) rfl; have p3 := P1.cell (i := 3) rfl; have p4 := P1.cell (i := 4) rfl; have p5 := P1.cell (i := 5) rfl
            have e0 := GG.fam.cell (i := 0) rfl; have e1 := GG.fam.cell (i := 1) rfl; have f0 := GG.fam.free 0
            have zW := GG.size; have ho := GG.own; have lP := P1.lt; have lF := GG.fam.lt
            go_wp2_with (at_builtin; go_loud (refine wpList_app1 tyPersonS A2 zs ⟨s, 1 + (j : Int) % 2, -1, -1, 25 * (12 - (k : Int)), -1⟩ (vsPerson ⟨s, 1 + (j : Int) % 2, -1, -1, 25 * (12 - (k : Int)), -1⟩) ⟨W1.heap.size, 0, none⟩ 1 (lo := w.heap.size + 2) (hi := W1.heap.size) (ho.same (by (with_reducible repeat' first | exact Same.refl _ _ _ | assumption | (refine Same.setCell ?_ (by first | omega | (simp; omega) | (simp; done) | (dsimp only; omega)) _) | (refine Same.alloc ?_ (by first | omega | (simp; omega) | (simp; done) | (dsimp only; omega)) _) | (refine Same.drewN ?_ _) | (refine Same.drew ?_)))) rfl (by (first | omega | (simp; omega) | (simp; done) | (dsimp only; omega))) zW rfl _ _ rfl rfl rfl rfl (cell_row_at _ _ _ _ (by simp)) (flatPerson.one _) (by omega) (by decide) (fun A' c' w5 ho5 hg5 hc5 hm5 => ?_)); have hb5 : Below (w.heap.size + 2) W1 w5 := Below.grown (w := World.alloc _ _) (by (with_reducible repeat' first | exact Below.refl _ _ | assumption | (refine Below.setCell ?_ (by first | omega | (simp; omega) | (simp; done) | (dsimp only; omega)) _) | (refine Below.alloc ?_ (by first | omega | (simp; omega) | (simp; done) | (dsimp only; omega)) _) | (refine below_drewN ?_ _) | (refine Below.drew ?_))) hg5 (by simp; omega) (fun k hk => (ho.blkv k hk).1); replace e0 := (hb5.cell (p := ⟨w.heap.size + 1, 0, none⟩) (by first | omega | (simp; omega) | (simp; done) | (dsimp only; omega))).trans e0; replace f0 := (hb5.frozen (p := ⟨w.heap.size + 1, 0, none⟩) (by first | omega | (simp; omega) | (simp; done) | (dsimp only; omega))).trans f0)
            exact ⟨⟨j + 1, zs ++ [⟨s, 1 + (j : Int) % 2, -1, -1, 25 * (12 - (k : Int)), -1⟩], A', c', by go_num, by omega, by simp [HL.out]; omega, by have := ClosJ.push HG.out HJ.out ⟨hk0, hk⟩ HL.out (by rw [HL.out]; omega) (.inl rfl) (.inl rfl); rwa [HSn.out] at this, by simpa using GG.pushed _ hg5 ho5 hs2⟩, by simp [intOf]; omega⟩
        · have i3 : ¬ (j : Int) < 2 + (y : Int) := by omega
          go_wp2
          have ej : j = 2 + y := by omega
          exact ⟨⟨k - 1, zs, A2, c2, by congr 1; omega, by omega, by omega, (ej ▸ HJ.out : ClosJ k (2 + y) xs zs).done (by omega) hk0, G⟩, by simp [intOf]; omega⟩
    · have r0 := F.res.cell (i := 0) rfl; have r1 := F.res.cell (i := 1) rfl; have s0 := F.res.free 0; have s1 := F.res.free 1
      have lR := F.res.lt; have lF := F.fam.lt
      by_cases hk0' : 0 < k
      · have i1 : (0 : Int) < (k : Int) := by omega
        have i2 : ¬ ((xs.length : Int) + (2 + (y : Int)) ≤ 40) := by omega
        go_wp2
        have RR := (F.res.set 0 (.slice A xs.length cc)).set 1 (.slice none 0 0)
        have hbl : Below w.heap.size wr ((wr.setCell ⟨w.heap.size, 0, none⟩ (.slice A xs.length cc)).setCell ⟨w.heap.size, 1, none⟩ (.slice none 0 0)) := by (with_reducible repeat' first | exact Below.refl _ _ | assumption | (refine Below.setCell ?_ (by first | omega | (simp; omega) | (simp; done) | (dsimp only; omega)) _) | (refine Below.alloc ?_ (by first | omega | (simp; omega) | (simp; done) | (dsimp only; omega)) _) | (refine below_drewN ?_ _) | (refine Below.drew ?_))
        exact bodyPost_ret (v := .agg #[.slice A xs.length cc, .slice none 0 0]) (by simp [results, Try.results51, go_sem, RR.cell (i := 0) rfl, RR.cell (i := 1) rfl]) rfl ⟨xs, [], A, none, cc, 0, rfl, (F.own.same (by (with_reducible repeat' first | exact Same.refl _ _ _ | assumption | (refine Same.setCell ?_ (by first | omega | (simp; omega) | (simp; done) | (dsimp only; omega)) _) | (refine Same.alloc ?_ (by first | omega | (simp; omega) | (simp; done) | (dsimp only; omega)) _) | (refine Same.drewN ?_ _) | (refine Same.drew ?_)))).mono (by omega) (by simp [World.setCell]), Elem.OS.nil, by omega, HG.out.g.ok, F.cur.below hbl hg, F.chg.then_below hbl (Nat.le_refl _)⟩
      · have i1 : ¬ (0 : Int) < (k : Int) := by omega
        go_wp2
        have RR := (F.res.set 0 (.slice A xs.length cc)).set 1 (.slice none 0 0)
        have hbl : Below w.heap.size wr ((wr.setCell ⟨w.heap.size, 0, none⟩ (.slice A xs.length cc)).setCell ⟨w.heap.size, 1, none⟩ (.slice none 0 0)) := by (with_reducible repeat' first | exact Below.refl _ _ | assumption | (refine Below.setCell ?_ (by first | omega | (simp; omega) | (simp; done) | (dsimp only; omega)) _) | (refine Below.alloc ?_ (by first | omega | (simp; omega) | (simp; done) | (dsimp only; omega)) _) | (refine below_drewN ?_ _) | (refine Below.drew ?_))
        exact bodyPost_ret (v := .agg #[.slice A xs.length cc, .slice none 0 0]) (by simp [results, Try.results51, go_sem, RR.cell (i := 0) rfl, RR.cell (i := 1) rfl]) rfl ⟨xs, [], A, none, cc, 0, rfl, (F.own.same (by (with_reducible repeat' first | exact Same.refl _ _ _ | assumption | (refine Same.setCell ?_ (by first | omega | (simp; omega) | (simp; done) | (dsimp only; omega)) _) | (refine Same.alloc ?_ (by first | omega | (simp; omega) | (simp; done) | (dsimp only; omega)) _) | (refine Same.drewN ?_ _) | (refine Same.drew ?_)))).mono (by omega) (by simp [World.setCell]), Elem.OS.nil, by omega, HG.out.g.ok, F.cur.below hbl hg, F.chg.then_below hbl (Nat.le_refl _)⟩
end Go.Proofs.Ythpcippgifmabaa
