/-
  How far each person is from another one, in the reference.
-/
import Derived.Test.YtnnjilkjjdiblaaVShortR
import Derived.Test.YtnnjilkjjdiblaaVLeadS
import Derived.Deep.Cut
import Derived.Deep.DeepCutAuto
namespace Go.Proofs.Ytnnjilkjjdiblaa
set_option maxRecDepth 100000
open Go.RowKit

/-- Block g holds the numbers F; nothing else has changed. -/
def Dist (n g c : Nat) (F : Nat → Int) (W wr : World) : Prop := EInt.OS wr g (g + 1) (.slice (some ⟨g, 0, none⟩) n c) (rowI n F) ∧ Chg g (g + 1) W wr ∧ g + 1 ≤ wr.heap.size
def NegRel (n lo : Nat) (W : World) (v i : Value) (wr : World) : Prop :=
  ∃ (k : Nat) (A : Option Addr) (c : Nat), k ≤ n ∧ i = .int .i64 k ∧ v = .slice A k c ∧ EInt.OS wr lo wr.heap.size (.slice A k c) (rowI k fun _ => -1) ∧ Below lo W wr ∧ lo ≤ wr.heap.size

set_option maxHeartbeats 8000000 in
theorem l3Away_any (A B : Option Addr) (c d lo hi : Nat) (xs : List Person) (ys : List Union) (b : Nat) (w : World) (h : EPerson.AS w lo hi A xs) (h' : EUnion.AS w lo hi B ys) (hh : hi ≤ w.heap.size) (hb : b < xs.length) (hn : xs.length ≤ 40) :
    Calls Try.prog 106 #[.agg #[.slice A xs.length c, .slice B ys.length d], .int .i64 b] w fun e w' => ∃ A' c', e = .returned (.slice A' xs.length c') ∧ EInt.OS w' w.heap.size w'.heap.size (.slice A' xs.length c') (rowI xs.length (awayM xs ys b)) ∧ Below w.heap.size w w' := by
  have HX := Lib.hid h; have HY := Lib.hid h'; clear h h'
  go_enter Try.func106, Try.ntmps106
  go_wp2_with fail
  have ho0 : EInt.OS ((w.alloc (.cells #[.slice A xs.length c, .slice B ys.length d] 26)).alloc (.cells #[] 3)) _ _ _ [] := Elem.OS.made0 (E := EInt) (w.alloc (.cells #[.slice A xs.length c, .slice B ys.length d] 26))
  simp only [szs] at ho0
  generalize hW : (w.alloc (.cells #[.slice A xs.length c, .slice B ys.length d] 26)).alloc (.cells #[] 3) = W at ho0 ⊢
  have rf : Blk W w.heap.size 26 #[.slice A xs.length c, .slice B ys.length d] := by subst hW; exact (Blk.new w rfl).alloc _
  have hbw : Below w.heap.size w W := by subst hW; (with_reducible repeat' first | exact Below.refl _ _ | assumption | (refine Below.setCell ?_ (by first | omega | (simp; omega) | (simp; done) | (dsimp only; omega)) _) | (refine Below.alloc ?_ (by first | omega | (simp; omega) | (simp; done) | (dsimp only; omega)) _) | (refine below_drewN ?_ _) | (refine Below.drew ?_))
  have z0 : w.heap.size + 1 + 1 = W.heap.size := by subst hW; simp
  clear hW
  go_loopw [5, 14] (fun v i wr => NegRel xs.length (w.heap.size + 1) W v i wr) (fun _ i _ => xs.length - (intOf i).toNat)
  case atStart => exact ⟨0, _, _, Nat.zero_le _, rfl, rfl, by rw [← z0]; exact ho0, Below.refl _ _, by omega⟩
  case round =>
    obtain ⟨k, A1, c1, hk, rfl, rfl, ho, hbr, hsz⟩ := hrel
    by_cases hlt : k < xs.length
    · go_wp2_with (at_builtin; refine wpList_app1 tyIntS A1 (rowI k fun _ => -1) (-1) [.int .i64 (-1)] ⟨wr.heap.size, 0, none⟩ 1 (lo := w.heap.size + 1) (hi := wr.heap.size) (ho.same (by (with_reducible repeat' first | exact Same.refl _ _ _ | assumption | (refine Same.setCell ?_ (by first | omega | (simp; omega) | (simp; done) | (dsimp only; omega)) _) | (refine Same.alloc ?_ (by first | omega | (simp; omega) | (simp; done) | (dsimp only; omega)) _) | (refine Same.drewN ?_ _) | (refine Same.drew ?_)))) (rowI_len _ _) (by first | omega | (simp; omega) | (simp; done) | (dsimp only; omega)) hsz rfl _ _ rfl rfl rfl rfl (cell_one_at _ _ _ _ rfl) (by first | rfl | (simp; done) | (simp; rfl)) (by omega) (by decide) (fun A' c' w1 ho1 hg1 hc1 hm1 => ?_))
      refine ⟨⟨k + 1, A', c', by omega, by go_num, by simp, by rw [rowI_succ]; simpa using ho1, Below.grown (w := wr.alloc _) (by (with_reducible repeat' first | exact Below.refl _ _ | assumption | (refine Below.setCell ?_ (by first | omega | (simp; omega) | (simp; done) | (dsimp only; omega)) _) | (refine Below.alloc ?_ (by first | omega | (simp; omega) | (simp; done) | (dsimp only; omega)) _) | (refine below_drewN ?_ _) | (refine Below.drew ?_) | (refine Below.trans ?_ (hbr.mono (by first | omega | (simp; omega) | (simp; done) | (dsimp only; omega)))))) hg1 (by simp; omega) (fun k hk => (ho.blkv k hk).1), by have := hg1.size; simp at this; omega⟩, by simp [intOf]; omega⟩
    · obtain rfl : k = xs.length := by omega
      obtain ⟨g, cg, hv, g1, g2, g3, hog⟩ := rowI_narrow ho (by omega)
      injection hv with hv _ hcg
      subst hv; subst hcg
      obtain ⟨g', c', hv, _, _, k1, k2, hset⟩ := rowI_own hog hb
      injection hv with hv _ hcg
      injection hv with hv
      injection hv with hv _ _
      subst hv
      subst hcg
      have HS := Lib.hid @hset; clear hset
      have i1 : (0 : Int) ≤ (b : Int) ∧ (b : Int) < (xs.length : Int) := by omega
      have hbwr := hbw.trans (hbr.mono (by omega))
      have rfr := rf.below hbr (by omega)
      have hX1 := HX.out.same (Same.of_below hbwr hh)
      have hY1 := HY.out.same (Same.of_below hbwr hh)
      clear ho hbr rf
      go_upto_region 8 with fail
      have hD : Dist xs.length g c1 (farM xs.length (leadK xs ys) b 0) (wr.setCell ⟨g, b, none⟩ (.int .i64 0)) (wr.setCell ⟨g, b, none⟩ (.int .i64 0)) := ⟨by
        rw [show rowI xs.length (farM xs.length (leadK xs ys) b 0) = rowI xs.length (updI (fun _ => -1) b 0) from rowI_congr fun j _ => by simp only [farM, updI]]
        exact HS.out 0, Chg.refl _ _ _, by simp [World.setCell]; omega⟩
      generalize hW1 : wr.setCell ⟨g, b, none⟩ (.int .i64 0) = W1 at hD ⊢
      have hbw1 : Below (w.heap.size + 1) wr W1 := by subst hW1; exact Below.setCell (Below.refl _ _) (by simp; omega) _
      have z1 : wr.heap.size = W1.heap.size := by subst hW1; simp [World.setCell]
      clear hW1 HS k1 k2 hog
      have rf1 := rfr.below hbw1 (by omega)
      have hX2 := hX1.same (Same.of_below hbw1 (by omega))
      have hY2 := hY1.same (Same.of_below hbw1 (by omega))
      have hbw2 := hbwr.trans (hbw1.mono (by omega))
      clear rfr hX1 hY1 hbw1
      go_loopw [6] (fun i w2 => ∃ dd : Nat, dd ≤ 8 ∧ i = .int .i64 ((dd : Int) + 1) ∧ Dist xs.length g c1 (farM xs.length (leadK xs ys) b dd) W1 w2) (fun i _ => 9 - (intOf i).toNat)
      case atStart => exact ⟨0, by omega, rfl, hD⟩
      case round =>
        obtain ⟨dd, hdd, rfl, hD2⟩ := hrel
        by_cases hd8 : dd < 8
        · have HR := Lib.hid (away_round xs.length (leadK xs ys) b dd)
          obtain ⟨F, hF⟩ : ∃ F, farM xs.length (leadK xs ys) b dd = F := ⟨_, rfl⟩
          rw [hF] at hD2 HR
          have HFle := Lib.hid (fun x => farM_le (n := xs.length) (L := leadK xs ys) (b := b) x dd)
          rw [hF] at HFle
          clear hF hD
          obtain ⟨M, hM⟩ : ∃ M : Nat → Nat → Nat → Bool, (fun i x y => decide (F y = (dd : Int)) && leadK xs ys i x y) = M := ⟨_, rfl⟩
          rw [hM] at HR
          have HM := Lib.hid (fun i x y => (congrFun (congrFun (congrFun hM i) x) y).symm)
          clear hM
          go_upto_region 11 with fail
          go_loopw [7] (fun i w2 => ∃ k : Nat, k ≤ 8 ∧ i = .int .i64 ((k : Int) + 1) ∧ Dist xs.length g c1 (gOf F ((dd : Int) + 1) (hitK xs.length M k)) W1 w2) (fun i _ => 9 - (intOf i).toNat)
          case atStart => exact ⟨0, by omega, rfl, by rw [show hitK xs.length M 0 = fun _ => false from rfl, gOf_none]; exact hD2⟩
          case round =>
            obtain ⟨k, hk, rfl, hD3⟩ := hrel
            by_cases hk8 : k < 8
            · clear hD2
              obtain ⟨hK, hhK⟩ : ∃ hK, hitK xs.length M k = hK := ⟨_, rfl⟩
              have HK1 := Lib.hid (show hitK xs.length M (k + 1) = hitX xs.length M k hK xs.length by rw [← hhK]; rfl)
              rw [hhK] at hD3
              clear hhK
              go_upto_region 14 with fail
              go_loopw [33] (fun i w2 => ∃ x : Nat, x ≤ xs.length ∧ i = .int .i64 x ∧ Dist xs.length g c1 (gOf F ((dd : Int) + 1) (hitX xs.length M k hK x)) W1 w2) (fun i _ => xs.length - (intOf i).toNat)
              case atStart => exact ⟨0, by omega, rfl, hD3⟩
              case round =>
                obtain ⟨x, hx, rfl, hD4⟩ := hrel
                by_cases hxl : x < xs.length
                · clear hD3
                  obtain ⟨hXx, hhX⟩ : ∃ hXx, hitX xs.length M k hK x = hXx := ⟨_, rfl⟩
                  have HX1 := Lib.hid (show hitX xs.length M k hK (x + 1) = hitY M k x hXx xs.length by rw [← hhX]; rfl)
                  rw [hhX] at hD4
                  clear hhX
                  go_upto_region 17 with fail
                  go_loopw [38] (fun i w2 => ∃ y : Nat, y ≤ xs.length ∧ i = .int .i64 y ∧ Dist xs.length g c1 (gOf F ((dd : Int) + 1) (hitY M k x hXx y)) W1 w2) (fun i _ => xs.length - (intOf i).toNat)
                  case atStart => exact ⟨0, by omega, rfl, hD4⟩
                  case round =>
                    obtain ⟨y, hy, rfl, hD5⟩ := hrel
                    by_cases hyl : y < xs.length
                    · clear hD4
                      obtain ⟨H, hH⟩ : ∃ H, hitY M k x hXx y = H := ⟨_, rfl⟩
                      have HY1 := Lib.hid (show hitY M k x hXx (y + 1) = if M k x y = true then upd1 H x true else H by rw [← hH]; rfl)
                      rw [hH] at hD5
                      clear hH
                      obtain ⟨ho5, hch5, hsz5⟩ := hD5
                      have zc5 := hch5.size
                      have rf5 := rf1.chg hch5 (.inl (by omega))
                      have u0 := rf5.cell (i := 0) rfl; have u1 := rf5.cell (i := 1) rfl
                      have hX5 := hX2.same (Same.of_chg hch5 (by omega) (.inl (by omega)))
                      have hY5 := hY2.same (Same.of_chg hch5 (by omega) (.inl (by omega)))
                      obtain ⟨gx, cx, hvx, _, _, kx1, kx2, hsetx⟩ := rowI_own ho5 hxl
                      injection hvx with hvx _ hcx
                      injection hvx with hvx
                      injection hvx with hvx _ _
                      subst hvx
                      subst hcx
                      obtain ⟨gy, cy, hvy, _, _, ky1, _, _⟩ := rowI_own ho5 hyl
                      injection hvy with hvy _ _
                      injection hvy with hvy
                      injection hvy with hvy _ _
                      subst hvy
                      clear hsetx
                      have j1 : (0 : Int) ≤ (x : Int) ∧ (x : Int) < (xs.length : Int) := by omega
                      have j2 : (0 : Int) ≤ (y : Int) ∧ (y : Int) < (xs.length : Int) := by omega
                      have lwf : w.heap.size < wr.heap.size := by omega
                      have lg5 : g < wr.heap.size := by omega
                      have hsub : ((dd : Int) + 1 - 1) = (dd : Int) := by omega
                      obtain ⟨vx, hvx⟩ : ∃ vx, gOf F ((dd : Int) + 1) H x = vx := ⟨_, rfl⟩
                      obtain ⟨vy, hvy⟩ : ∃ vy, gOf F ((dd : Int) + 1) H y = vy := ⟨_, rfl⟩
                      rw [hvx] at kx1
                      rw [hvy] at ky1
                      by_cases hneg : vx < 0
                      · by_cases hvd : vy = (dd : Int)
                        · have n2 : (vy == (dd : Int)) = true := by rw [beq_iff_eq]; exact hvd
                          have hfy : F y = (dd : Int) := gOf_eq.1 (by rw [hvy]; exact hvd)
                          have hfx := (gOf_neg (by rw [hvx]; exact hneg) (by omega)).1
                          cases hlv : leadK xs ys k x y with
                          | false =>
                            have HL := Lib.hid (show leadM xs ys ⟨(k : Int) + 1, 0⟩ x y = false from hlv)
                            have HE := Lib.hid (show hitY M k x hXx (y + 1) = H by rw [HY1.out, if_neg]; rw [HM.out, hlv]; simp)
                            clear hlv hvd hvx hvy hfy hfx
                            go_wp2_with (go_at_call 182; (with_reducible refine (l3Leads_any _ _ _ _ lo hi xs ys _ 0 x y _ (hX5.same (by (with_reducible repeat' first | exact Same.refl _ _ _ | assumption | (refine Same.setCell ?_ (by first | omega | (simp; omega) | (simp; done) | (dsimp only; omega)) _) | (refine Same.alloc ?_ (by first | omega | (simp; omega) | (simp; done) | (dsimp only; omega)) _) | (refine Same.drewN ?_ _) | (refine Same.drew ?_)))) (hY5.same (by (with_reducible repeat' first | exact Same.refl _ _ _ | assumption | (refine Same.setCell ?_ (by first | omega | (simp; omega) | (simp; done) | (dsimp only; omega)) _) | (refine Same.alloc ?_ (by first | omega | (simp; omega) | (simp; done) | (dsimp only; omega)) _) | (refine Same.drewN ?_ _) | (refine Same.drew ?_)))) (by first | omega | (simp; omega) | (simp; done) | (dsimp only; omega)) hxl hyl (by omega)).mono ?_); rintro e w3 ⟨rfl, hb3⟩; simp only [HL.out])
                            exact ⟨⟨y + 1, by omega, by go_num, by rw [HE.out]; exact ⟨ho5.same (Same.of_below hb3 hsz5), hch5.trans (Chg.of_below hb3), Nat.le_trans hsz5 hb3.size⟩⟩, by simp [intOf]; omega⟩
                          | true =>
                            have HL := Lib.hid (show leadM xs ys ⟨(k : Int) + 1, 0⟩ x y = true from hlv)
                            have HE := Lib.hid (show gOf F ((dd : Int) + 1) (hitY M k x hXx (y + 1)) = updI (gOf F ((dd : Int) + 1) H) x ((dd : Int) + 1) by rw [HY1.out, if_pos (by rw [HM.out, hlv, hfy]; simp), gOf_put hfx])
                            clear hlv hvd hvx hvy hfy hfx
                            go_wp2_with (go_at_call 182; (with_reducible refine (l3Leads_any _ _ _ _ lo hi xs ys _ 0 x y _ (hX5.same (by (with_reducible repeat' first | exact Same.refl _ _ _ | assumption | (refine Same.setCell ?_ (by first | omega | (simp; omega) | (simp; done) | (dsimp only; omega)) _) | (refine Same.alloc ?_ (by first | omega | (simp; omega) | (simp; done) | (dsimp only; omega)) _) | (refine Same.drewN ?_ _) | (refine Same.drew ?_)))) (hY5.same (by (with_reducible repeat' first | exact Same.refl _ _ _ | assumption | (refine Same.setCell ?_ (by first | omega | (simp; omega) | (simp; done) | (dsimp only; omega)) _) | (refine Same.alloc ?_ (by first | omega | (simp; omega) | (simp; done) | (dsimp only; omega)) _) | (refine Same.drewN ?_ _) | (refine Same.drew ?_)))) (by first | omega | (simp; omega) | (simp; done) | (dsimp only; omega)) hxl hyl (by omega)).mono ?_); rintro e w3 ⟨rfl, hb3⟩; simp only [HL.out]; (replace kx1 := (hb3.cell (p := ⟨g, x, none⟩) lg5).trans kx1); (replace kx2 := (hb3.frozen (p := ⟨g, x, none⟩) lg5).trans kx2); (have lg3 : g < w3.heap.size := Nat.lt_of_lt_of_le lg5 hb3.size))
                            obtain ⟨gx', cx', hvx', _, _, _, _, hsetx⟩ := rowI_own (ho5.same (Same.of_below hb3 hsz5)) hxl
                            injection hvx' with hvx' _ hcx'
                            injection hvx' with hvx'
                            injection hvx' with hvx' _ _
                            subst hvx'
                            subst hcx'
                            exact ⟨⟨y + 1, by omega, by go_num, by rw [HE.out]; exact ⟨hsetx _, (hch5.trans (Chg.of_below hb3)).setCell ⟨Nat.le_refl _, Nat.lt_succ_self _⟩ _, by simpa [World.setCell] using Nat.le_trans hsz5 hb3.size⟩⟩, by simp [intOf]; omega⟩
                        · have n2 : (vy == (dd : Int)) = false := by rw [beq_eq_false_iff_ne]; exact hvd
                          have hfy : F y ≠ (dd : Int) := fun e => hvd (by rw [← hvy]; exact gOf_eq.2 e)
                          have HE := Lib.hid (show hitY M k x hXx (y + 1) = H by rw [HY1.out, if_neg]; rw [HM.out, decide_eq_false hfy]; simp)
                          clear hvd hvx hvy hfy
                          go_wp2_with fail
                          exact ⟨⟨y + 1, by omega, by go_num, by rw [HE.out]; exact ⟨ho5, hch5, hsz5⟩⟩, by simp [intOf]; omega⟩
                      · have HE := Lib.hid (show gOf F ((dd : Int) + 1) (hitY M k x hXx (y + 1)) = gOf F ((dd : Int) + 1) H by
                          rw [HY1.out]; split
                          · exact gOf_keep (by rw [hvx]; exact hneg)
                          · rfl)
                        clear hvx hvy
                        go_wp2_with fail
                        exact ⟨⟨y + 1, by omega, by go_num, by rw [HE.out]; exact ⟨ho5, hch5, hsz5⟩⟩, by simp [intOf]; omega⟩
                    · obtain rfl : y = xs.length := by omega
                      go_wp2
                      exact ⟨⟨x + 1, by omega, by go_num, by rw [HX1.out]; exact hD5⟩, by simp [intOf]; omega⟩
                · obtain rfl : x = xs.length := by omega
                  go_wp2
                  exact ⟨⟨k + 1, by omega, by go_num, by rw [HK1.out]; exact hD4⟩, by simp [intOf]; omega⟩
            · obtain rfl : k = 8 := by omega
              have hD8 := hD3
              unfold Dist at hD8
              rw [HR.out] at hD8
              go_wp2
              exact ⟨⟨dd + 1, by omega, by go_num, hD8⟩, by simp [intOf]; omega⟩
        · obtain rfl : dd = 8 := by omega
          go_wp2
          go_ret
          exact ⟨_, _, rfl, hD2.1.mono (by omega) hD2.2.2, hbw2.trans (hD2.2.1.below (by omega) (by omega))⟩
end Go.Proofs.Ytnnjilkjjdiblaa
