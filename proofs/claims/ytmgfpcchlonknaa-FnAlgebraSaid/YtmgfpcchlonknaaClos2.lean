/-
  The closure of a relation, in the program.
-/
import Derived.Test.YtmgfpcchlonknaaClos
namespace Go.Proofs.Ytmgfpcchlonknaa
set_option maxRecDepth 100000
open Go.RowKit

def rowTo (n : Nat) (row : List Int) (j : Nat) : List Bool := (List.range n).map fun (b : Nat) => hasB (row.take j) b
theorem rowTo_len (n : Nat) (row : List Int) (j : Nat) : (rowTo n row j).length = n := by simp [rowTo]
theorem rowTo_start (n : Nat) (row : List Int) : rowTo n row 0 = List.replicate n false := by
  apply List.ext_getElem?
  intro i
  by_cases hi : i < n <;> simp [rowTo, hasB, hi]
theorem rowTo_step {n : Nat} {row : List Int} {j m : Nat} (h : row[j]? = some (m : Int)) : (rowTo n row j).set m true = rowTo n row (j + 1) := by
  apply List.ext_getElem?
  intro i
  by_cases him : m = i
  · subst him
    by_cases hi : m < n
    · rw [List.getElem?_set_self (by rw [rowTo_len]; exact hi)]; simp [rowTo, hi, hasB, List.take_add_one, h]
    · rw [List.getElem?_eq_none (by simp [rowTo]; omega), List.getElem?_eq_none (by simp [rowTo]; omega)]
  · rw [List.getElem?_set_ne him]
    by_cases hi : i < n
    · simp [rowTo, hi, hasB, List.take_add_one, h]
      exact fun e => absurd (by omega) him
    · rw [List.getElem?_eq_none (by simp [rowTo]; omega), List.getElem?_eq_none (by simp [rowTo]; omega)]
theorem rowTo_end {n k : Nat} {xs : List (List Int)} {row : List Int} (h : xs[k]? = some row) : rowTo n row row.length = (List.range n).map (gridP xs k) := by
  unfold rowTo
  rw [List.take_length]
  exact List.map_congr_left fun b _ => (gridP_at h b).symm

theorem ruleClosure (W : World) (n b1 : Nat) (A : Option Addr) (c : Nat) (p : Nat → Nat → Bool)
    (c1 : W.cell? ⟨b1, 0, none⟩ = some (.slice A n c)) (h : EBoolS.AS W 0 W.heap.size A (mat n p)) (l1 : b1 < W.heap.size) :
    Rule2 W n 0 W.heap.size 98 #[] #[.pointer (some ⟨b1, 0, none⟩)] p where
  enter := fun args w' => by kernel_rfl
  ans := fun a b w' ha hb hs => by
    have d1 := (hs.cell (p := ⟨b1, 0, none⟩) (Nat.zero_le _) l1).trans c1
    obtain ⟨g, o, r, q, cc, rfl, _, _, _, _, _, _, k1, k2⟩ := mat_read (h.same hs) ha hb
    have i1 : (0 : Int) ≤ (a : Int) ∧ (a : Int) < (n : Int) := by omega
    have i2 : (0 : Int) ≤ (b : Int) ∧ (b : Int) < (n : Int) := by omega
    go_enter Try.func98, Try.ntmps98
    go_wp2
    go_ret
    exact ⟨rfl, Below.refl _ _⟩

def CloRow (n r : Nat) (row : List Int) (W : World) (i : Value) (wr : World) : Prop :=
  ∃ j : Nat, j ≤ row.length ∧ i = .int .i64 j ∧ EBool.OS wr r (r + 1) (.slice (some ⟨r, 0, none⟩) n n) (rowTo n row j) ∧ Chg r (r + 1) W wr

set_option maxHeartbeats 2000000 in
theorem implClosureRelation_any (s : Int) (A : Option Addr) (c lo hi : Nat) (xs : List (List Int)) (w : World) (h : EIntS.AS w lo hi A xs) (hh : hi ≤ w.heap.size) :
    Calls Try.prog 49 #[.agg #[.int .i64 s, .slice A xs.length c]] w (RetRel w (closM ⟨s, xs⟩)) := by
  cases hok : relOk ⟨s, xs⟩ with
  | false =>
    rw [closM_out hok]
    have HO := Lib.hid hok; clear hok
    go_enter Try.func49, Try.ntmps49
    go_wp2_with (go_at_call 90; (with_reducible refine (implIsRelation_any s A c lo hi xs _ (h.same (by (with_reducible repeat' first | exact Same.refl _ _ _ | assumption | (refine Same.setCell ?_ (by first | omega | (simp; omega) | (simp; done) | (dsimp only; omega)) _) | (refine Same.alloc ?_ (by first | omega | (simp; omega) | (simp; done) | (dsimp only; omega)) _) | (refine Same.drewN ?_ _) | (refine Same.drew ?_)))) (by first | omega | (simp; omega) | (simp; done) | (dsimp only; omega))).mono ?_); rintro e w1 ⟨rfl, hb1⟩; simp only [HO.out]; (obtain ⟨hb1c, hb1f⟩ := bcell hb1); (have hb1z := hb1.size); (try simp only [szs] at hb1c hb1f hb1z))
    exact bodyPost_ret (v := .agg #[.int .i64 0, .slice none 0 0]) (by simp [results, Try.results49, go_sem, hb1c]) rfl (RetRel.zero (by (with_reducible repeat' first | exact Below.refl _ _ | assumption | (refine Below.setCell ?_ (by first | omega | (simp; omega) | (simp; done) | (dsimp only; omega)) _) | (refine Below.alloc ?_ (by first | omega | (simp; omega) | (simp; done) | (dsimp only; omega)) _) | (refine below_drewN ?_ _) | (refine Below.drew ?_) | (refine Below.trans ?_ (hb1.mono (by first | omega | (simp; omega) | (simp; done) | (dsimp only; omega)))))))
  | true =>
    obtain ⟨n, rfl, hn, hl, hrows⟩ := relOk_parts hok
    rw [closM_in hok]
    have R1 := Lib.hid hok; clear hok
    have HL := Lib.hid hl; clear hl
    obtain ⟨i0, hi0, hz0, hz1, hz2⟩ := info_parts bools_info
    have hmk := run_mk (P := Try.prog) 73 77 i0 _ 1 24 Try.underlying73 hi0 hz0 hz1 hz2 n (by omega) (by unfold BIG; omega)
    clear hi0 hz0 hz1 hz2
    obtain ⟨i1, hi1, hz3, hz4, hz5⟩ := info_parts bool_info
    have hmk1 := run_mk (P := Try.prog) 77 4 i1 _ 1 1 Try.underlying77 hi1 hz3 hz4 hz5 n (by omega) (by unfold BIG; omega)
    clear hi1 hz3 hz4 hz5
    go_enter Try.func49, Try.ntmps49
    go_wp2_with (go_at_call 90; (with_reducible refine (implIsRelation_any n A c lo hi xs _ (h.same (by (with_reducible repeat' first | exact Same.refl _ _ _ | assumption | (refine Same.setCell ?_ (by first | omega | (simp; omega) | (simp; done) | (dsimp only; omega)) _) | (refine Same.alloc ?_ (by first | omega | (simp; omega) | (simp; done) | (dsimp only; omega)) _) | (refine Same.drewN ?_ _) | (refine Same.drew ?_)))) (by first | omega | (simp; omega) | (simp; done) | (dsimp only; omega))).mono ?_); rintro e w1 ⟨rfl, hb1⟩; simp only [R1.out]; (obtain ⟨hb1c, hb1f⟩ := bcell hb1); (have hb1z := hb1.size); (try simp only [szs] at hb1c hb1f hb1z); (have lt1 : w.heap.size < w1.heap.size := by omega))
    replace h : EIntS.AS w1 lo hi A xs := h.same (by (with_reducible repeat' first | exact Same.refl _ _ _ | assumption | (refine Same.setCell ?_ (by first | omega | (simp; omega) | (simp; done) | (dsimp only; omega)) _) | (refine Same.alloc ?_ (by first | omega | (simp; omega) | (simp; done) | (dsimp only; omega)) _) | (refine Same.drewN ?_ _) | (refine Same.drew ?_) | (refine Same.trans ?_ (Same.of_below hb1 (by first | omega | (simp; omega) | (simp; done) | (dsimp only; omega))))))
    have d0 : w1.cell? ⟨w.heap.size, 0, none⟩ = some (.int .i64 n) := by rw [hb1c _ _ (by omega)]; simp [go_sem]
    have d1 : w1.cell? ⟨w.heap.size, 1, none⟩ = some (.slice A xs.length c) := by rw [hb1c _ _ (by omega)]; simp [go_sem]
    have r0 : Blk w1 (w.heap.size + 1) 27 #[.int .i64 0, .slice none 0 0] := (Blk.new _ (by simp)).below hb1 (by simp)
    have hbw : Below w.heap.size w w1 := by (with_reducible repeat' first | exact Below.refl _ _ | assumption | (refine Below.setCell ?_ (by first | omega | (simp; omega) | (simp; done) | (dsimp only; omega)) _) | (refine Below.alloc ?_ (by first | omega | (simp; omega) | (simp; done) | (dsimp only; omega)) _) | (refine below_drewN ?_ _) | (refine Below.drew ?_) | (refine Below.trans ?_ (hb1.mono (by first | omega | (simp; omega) | (simp; done) | (dsimp only; omega)))))
    have z1 := hb1z
    clear hb1 hb1c hb1f hmk
    go_loopw [19] (fun i wr => ToRel EBoolS w1 (mat n (gridP xs)) i wr ∧ Blk wr (w1.heap.size + 1) 73 #[.slice (some ⟨w1.heap.size, 0, none⟩) n n] ∧ w1.heap.size + 1 < wr.heap.size) (fun i _ => n - (intOf i).toNat)
    case atStart =>
      refine ⟨⟨0, [], Nat.zero_le _, rfl, by (with_reducible repeat' first | exact Below.refl _ _ | assumption | (refine Below.setCell ?_ (by first | omega | (simp; omega) | (simp; done) | (dsimp only; omega)) _) | (refine Below.alloc ?_ (by first | omega | (simp; omega) | (simp; done) | (dsimp only; omega)) _) | (refine below_drewN ?_ _) | (refine Below.drew ?_)), by simp, ?_, by simpa using Elem.OL.nil⟩, Blk.new _ (by simp), by simp⟩
      rw [mat_len]
      exact (Fill.new w1 EBoolS.e (n * EBoolS.sz) (madeCells #[Value.slice none 0 0] n) [] (by simp [size_madeCells, EBoolS, Elem.slice])).alloc _
    case round =>
      have hrel0 := hrel
      obtain ⟨⟨k, css, hk, rfl, hb, hsz, hf, ho⟩, hB, hlt0⟩ := hrel
      have HM := Lib.hid (mat_len n (gridP xs))
      rw [HM.out] at hk hf
      have b0 := hB.cell (i := 0) rfl
      have e0 := (hb.cell (p := ⟨w.heap.size, 0, none⟩) lt1).trans d0
      have e1 := (hb.cell (p := ⟨w.heap.size, 1, none⟩) lt1).trans d1
      by_cases hlt : k < n
      · clear hrel0
        obtain ⟨b, off, row, B, cx, rfl, _, _, _, hxk, hc, _, _, hr⟩ := AIntS.at_ (k := k) h (by rw [HL.out]; exact hlt)
        have hmem := rowOk_mem (hrows row (List.mem_of_getElem? hxk))
        have HXK := Lib.hid hxk; clear hxk
        have hrl := hr.le
        unfold BIG at hrl
        simp only [EBoolS, Elem.slice, Nat.mul_one] at hf
        obtain ⟨u, hu⟩ := hf.next hlt
        have hfz := hf.free k
        have i1 : (0 : Int) ≤ (k : Int) ∧ (k : Int) < (n : Int) := by omega
        have i2 : (k : Int) < (xs.length : Int) := by rw [HL.out]; omega
        have lw : w1.heap.size < wr.heap.size := by omega
        have lw0 : w.heap.size < wr.heap.size := by omega
        have hfl : css.flatten.length = k := by
          have := flatten_len ho.read.sizes
          rw [ho.len, List.length_take, HM.out, Nat.min_eq_left hk] at this
          simpa [EBoolS, Elem.slice] using this
        go_wp2
        go_region
        generalize hW2 : ((wr.setCell ⟨w1.heap.size, k, none⟩ (.slice (some ⟨wr.heap.size, 0, none⟩) n n)).alloc (.cells (madeCells #[.bool false] n) 4)).drew = W2
        have z2 : wr.heap.size + 1 = W2.heap.size := by subst hW2; simp
        have B2 : Blk W2 (w1.heap.size + 1) 73 #[.slice (some ⟨w1.heap.size, 0, none⟩) n n] := by subst hW2; exact ((hB.far (by first | omega | (simp; omega) | (simp; done) | (dsimp only; omega)) _).alloc _).drew
        have F2 : Fill W2 w1.heap.size 77 n (css.flatten ++ [.slice (some ⟨wr.heap.size, 0, none⟩) n n]) (k + 1) := by subst hW2; exact ((hf.push hfl hlt rfl).alloc _).drew
        have O2 : EBool.OS W2 wr.heap.size (wr.heap.size + 1) (.slice (some ⟨wr.heap.size, 0, none⟩) n n) (rowTo n row 0) := by
          subst hW2
          have := made_one n (wr.setCell ⟨w1.heap.size, k, none⟩ (.slice (some ⟨wr.heap.size, 0, none⟩) n n)) hn
          rw [rowTo_start]
          simp only [szs] at this
          exact OS_drew this
        have S2 : Same (w1.heap.size + 1) wr.heap.size wr W2 := by subst hW2; (with_reducible repeat' first | exact Same.refl _ _ _ | assumption | (refine Same.setCell ?_ (by first | omega | (simp; omega) | (simp; done) | (dsimp only; omega)) _) | (refine Same.alloc ?_ (by first | omega | (simp; omega) | (simp; done) | (dsimp only; omega)) _) | (refine Same.drewN ?_ _) | (refine Same.drew ?_))
        have H2 : Below w1.heap.size w1 W2 := by subst hW2; exact ((hb.setCell (Nat.le_refl _) _).alloc (by first | omega | (simp; omega) | (simp; done) | (dsimp only; omega)) _).drew
        clear hW2
        replace hc := (H2.cell (p := ⟨b, off + k, none⟩) (by simp; omega)).trans hc
        replace hr := hr.same (Same.of_below H2 (by omega))
        replace e0 := (H2.cell (p := ⟨w.heap.size, 0, none⟩) lt1).trans d0
        replace e1 := (H2.cell (p := ⟨w.heap.size, 1, none⟩) lt1).trans d1
        have c2 : W2.cell? ⟨w1.heap.size, k, none⟩ = some (.slice (some ⟨wr.heap.size, 0, none⟩) n n) := by
          obtain ⟨cur, q1, q2, q3⟩ := F2
          rw [cell_of_row _ _ _ cur _ (0, 0) q1, q3 k (by omega), List.getElem?_append_right (by omega), hfl]; simp
        have b2 := B2.cell (i := 0) rfl
        go_wp2
        obtain ⟨wo0, rfl⟩ : ∃ wo0 : World, wo0 = wr := ⟨_, rfl⟩
        go_loopw [34] (fun i w3 => CloRow n wo0.heap.size row W2 i w3) (fun i _ => row.length - (intOf i).toNat)
        case atStart => exact ⟨0, Nat.zero_le _, rfl, O2, Chg.refl _ _ _⟩
        case round =>
          obtain ⟨j, hj, rfl, ho3, hch3⟩ := hrel
          have hz3 := hch3.size
          have b3 := (hch3.cell (p := ⟨w1.heap.size + 1, 0, none⟩) (by simp; omega) (by simp; omega)).trans b2
          have c3 := (hch3.cell (p := ⟨w1.heap.size, k, none⟩) (by simp; omega) (by simp; omega)).trans c2
          by_cases hlt2 : j < row.length
          · obtain ⟨bb, off2, x, rfl, hbb1, hbb2, _, hxj, hc4⟩ := AInt.at_ (hr.same (Same.of_chg hch3 (by omega) (by omega))) hlt2
            have hxb := hmem x (List.mem_of_getElem? hxj)
            obtain ⟨m, rfl⟩ := Int.eq_ofNat_of_zero_le (by omega : 0 ≤ x)
            have hmn : m < n := by omega
            have HXJ := Lib.hid hxj; clear hxj
            have ho4 := EBool_os.1 ho3
            rw [rowTo_len] at ho4
            have hrow : ((rowTo n row j).flatMap fun b => [Value.bool b])[m]? = some (.bool (hasB (row.take j) m)) := by rw [bools_map]; simp [rowTo, hmn]
            obtain ⟨k1, k2⟩ := ho4.cell hrow
            have hset := ho4.set (j := m) (u := .bool true) (by rw [bools_len, rowTo_len]; exact hmn)
            have i3 : (0 : Int) ≤ (m : Int) ∧ (m : Int) < (n : Int) := by omega
            go_wp2
            refine ⟨⟨j + 1, by omega, by go_num, ?_, hch3.setCell ⟨Nat.le_refl _, by simp⟩ _⟩, by simp [intOf]; omega⟩
            rw [bools_map, ← List.map_set, ← bools_map, rowTo_step HXJ.out] at hset
            exact EBool_os.2 (by rw [rowTo_len]; exact hset)
          · obtain rfl : j = row.length := by omega
            rw [rowTo_end HXK.out] at ho3
            have hx : (mat n (gridP xs))[k]? = some ((List.range n).map (gridP xs k)) := mat_at hlt
            go_wp2
            refine ⟨⟨ToRel.step (cs := [.slice (some ⟨wo0.heap.size, 0, none⟩) n n]) (by rw [HM.out]; exact hlt) hx (H2.trans (hch3.below (by omega) (by omega))) hsz ?_ ho (S2.trans (Same.of_chg hch3 (by omega) (.inl (Nat.le_refl _)))) ⟨_, rfl, ?_⟩, ?_, by omega⟩, by simp [intOf]; omega⟩
            · rw [HM.out]; simpa [EBoolS, Elem.slice] using F2.same (lo := 0) (Same.of_chg hch3 (by omega) (.inl (Nat.le_refl _))) (Nat.zero_le _) (by omega)
            · simpa using ho3.mono (Nat.le_refl _) (by omega)
            · exact B2.chg hch3 (.inl (by omega))
      · obtain rfl : k = n := by omega
        have hd := hrel0.1.done (by rw [HM.out]; omega) (by rw [HM.out]; unfold BIG; omega)
        rw [HM.out] at hd
        obtain ⟨hd, _⟩ := hd
        clear hrel0 ho hf
        have hl0 : w.heap.size + 1 < w1.heap.size := r0.lt
        replace r0 := r0.below hb hl0
        replace hbw := hbw.trans (hb.mono (by omega))
        clear h hb
        go_wp2
        obtain ⟨wo, rfl⟩ : ∃ wo : World, wo = wr := ⟨_, rfl⟩
        go_loopw [48] (fun i w3 => TabRel (closK k (gridP xs)) k w1.heap.size wo.heap.size (some ⟨w1.heap.size, 0, none⟩) k wo i w3 ∧ Blk w3 (w1.heap.size + 1) 73 #[.slice (some ⟨w1.heap.size, 0, none⟩) k k]) (fun i _ => k - (intOf i).toNat)
        case atStart => exact ⟨⟨0, Nat.zero_le _, rfl, hd, Chg.refl _ _ _, Nat.le_refl _⟩, hB⟩
        case round =>
          obtain ⟨⟨m, hm, rfl, ho, hch, hsz⟩, hB⟩ := hrel
          have b1 := hB.cell (i := 0) rfl
          have lz := hch.size
          by_cases hlm : m < k
          · go_wp2
            obtain ⟨wo2, rfl⟩ : ∃ wo2 : World, wo2 = wr := ⟨_, rfl⟩
            go_loopw [53] (fun i w3 => TabRel (closA k (closK k (gridP xs) m) m) k w1.heap.size wo.heap.size (some ⟨w1.heap.size, 0, none⟩) k wo i w3 ∧ Blk w3 (w1.heap.size + 1) 73 #[.slice (some ⟨w1.heap.size, 0, none⟩) k k]) (fun i _ => k - (intOf i).toNat)
            case atStart => exact ⟨⟨0, Nat.zero_le _, rfl, ho, hch, hsz⟩, hB⟩
            case round =>
              obtain ⟨⟨a, ha, rfl, ho3, hch3, hsz3⟩, hB3⟩ := hrel
              have b2 := hB3.cell (i := 0) rfl
              by_cases hla : a < k
              · go_wp2
                obtain ⟨wo3, rfl⟩ : ∃ wo3 : World, wo3 = wr := ⟨_, rfl⟩
                go_loopw [58] (fun i w4 => TabRel (closB (closA k (closK k (gridP xs) m) m a) m a) k w1.heap.size wo.heap.size (some ⟨w1.heap.size, 0, none⟩) k wo i w4 ∧ Blk w4 (w1.heap.size + 1) 73 #[.slice (some ⟨w1.heap.size, 0, none⟩) k k]) (fun i _ => k - (intOf i).toNat)
                case atStart => exact ⟨⟨0, Nat.zero_le _, rfl, ho3, hch3, hsz3⟩, hB3⟩
                case round =>
                  obtain ⟨⟨b, hb, rfl, ho4, hch4, hsz4⟩, hB4⟩ := hrel
                  have b3 := hB4.cell (i := 0) rfl
                  by_cases hlb : b < k
                  · generalize hT : closB (closA k (closK k (gridP xs) m) m a) m a b = T at ho4
                    have HS := Lib.hid (show closB (closA k (closK k (gridP xs) m) m a) m a (b + 1) = upd T a b (T a b || (T a m && T m b)) by rw [closB, hT]; rfl)
                    clear hT
                    obtain ⟨g, r, cc, cc', hv, _, _, r1, r2, k1, k4, La⟩ := mat_line ho4 hsz4 hla
                    obtain ⟨g', r', dd, dd', hv', _, _, _, _, l1, _, Lk⟩ := mat_line ho4 hsz4 hlm
                    injection hv with hv _ hcc
                    injection hv' with hv' _ hcd
                    clear hcc hcd
                    injection hv with hv
                    injection hv with hv _ _
                    injection hv' with hv'
                    injection hv' with hv' _ _
                    subst hv
                    subst hv'
                    have hrb : r ≠ w1.heap.size + 1 := by
                      intro e
                      have h0 := (La 0 (by omega)).1
                      rw [e, b3] at h0
                      injection h0 with h0
                      cases h0
                    obtain ⟨m1, _, _⟩ := La m hlm
                    obtain ⟨m2, m3, hset⟩ := La b hlb
                    obtain ⟨m4, _, _⟩ := Lk b hlb
                    clear La Lk
                    have i3 : (0 : Int) ≤ (m : Int) ∧ (m : Int) < (k : Int) := by omega
                    have i4 : (0 : Int) ≤ (a : Int) ∧ (a : Int) < (k : Int) := by omega
                    have i5 : (0 : Int) ≤ (b : Int) ∧ (b : Int) < (k : Int) := by omega
                    cases hp : T a m <;> cases hq : T m b <;> cases hr : T a b
                    all_goals
                      rw [hp] at m1; rw [hq] at m4; rw [hr] at m2
                      have HP := Lib.hid hp; have HQ := Lib.hid hq; have HR := Lib.hid hr; clear hp hq hr
                      go_wp2
                      go_region
                      go_wp2
                      exact ⟨⟨⟨b + 1, by omega, by go_num, by rw [HS.out, HP.out, HQ.out, HR.out]; exact OS_drew (hset _), (hch4.setCell ⟨r1, r2⟩ _).drew, by simpa [World.setCell] using hsz4⟩, (hB4.far (by simp; omega) _).drew⟩, by simp [intOf]; omega⟩
                  · obtain rfl : b = k := by omega
                    go_wp2
                    exact ⟨⟨⟨a + 1, by omega, by go_num, ho4, hch4, hsz4⟩, hB4⟩, by simp [intOf]; omega⟩
              · obtain rfl : a = k := by omega
                go_wp2
                exact ⟨⟨⟨m + 1, by omega, by go_num, ho3, hch3, hsz3⟩, hB3⟩, by simp [intOf]; omega⟩
          · obtain rfl : m = k := by omega
            rw [show closK m (gridP xs) m = closP m (gridP xs) from rfl] at ho
            replace r0 := r0.chg hch (.inl (by omega))
            have hlw : w.heap.size + 1 < wr.heap.size := r0.lt
            replace hbw := hbw.trans (hch.below (by omega) (by omega))
            replace e0 := (hch.cell (p := ⟨w.heap.size, 0, none⟩) (by simp; omega) (.inl (by simp; omega))).trans e0
            have lb := hB.lt
            have hA := ho.read.as
            clear ho hch hd
            go_wp2_with (go_at_call 78; refine (related_any _ #[] _ m 0 wr.heap.size _ wr hn (ruleClosure wr m (w1.heap.size + 1) _ m (closP m (gridP xs)) b1 (hA.mono (Nat.zero_le _) hsz) lb) (Nat.le_refl _)).mono ?_; rintro e w5 ⟨A5, c5, rfl, ho5, hb5⟩; (have hz5 := hb5.size); (have q0 := (r0.below hb5 hlw).cell (i := 0) rfl); (have q1 := (r0.below hb5 hlw).cell (i := 1) rfl); (have f0 := (r0.below hb5 hlw).free 0); (have f1 := (r0.below hb5 hlw).free 1))
            exact bodyPost_ret (v := .agg #[.int .i64 m, .slice A5 m c5]) (by simp [results, Try.results49, go_sem, q0, q1]) rfl ⟨A5, c5, by simp only [relM_len], by simpa only [relM_len] using (ho5.same (by (with_reducible repeat' first | exact Same.refl _ _ _ | assumption | (refine Same.setCell ?_ (by first | omega | (simp; omega) | (simp; done) | (dsimp only; omega)) _) | (refine Same.alloc ?_ (by first | omega | (simp; omega) | (simp; done) | (dsimp only; omega)) _) | (refine Same.drewN ?_ _) | (refine Same.drew ?_)))).mono (by first | omega | (simp; omega) | (simp; done) | (dsimp only; omega)) (by first | omega | (simp; omega) | (simp; done) | (dsimp only; omega)), by (with_reducible repeat' first | exact Below.refl _ _ | assumption | (refine Below.setCell ?_ (by first | omega | (simp; omega) | (simp; done) | (dsimp only; omega)) _) | (refine Below.alloc ?_ (by first | omega | (simp; omega) | (simp; done) | (dsimp only; omega)) _) | (refine below_drewN ?_ _) | (refine Below.drew ?_) | (refine Below.trans ?_ (hb5.mono (by first | omega | (simp; omega) | (simp; done) | (dsimp only; omega)))))⟩
end Go.Proofs.Ytmgfpcchlonknaa
