/-
  The relation of nothing and that of each number with itself.
-/
import Derived.Test.YtagmeeplgmocdaaMat
namespace Go.Proofs.Ytagmeeplgmocdaa
open Go.RowKit

theorem emptyM_in {m : Nat} (h : m ≤ 40) : emptyM (m : Int) = ⟨(m : Int), relM m fun _ _ => false⟩ := by simp [emptyM]; omega
theorem identM_in {m : Nat} (h : m ≤ 40) : identM (m : Int) = ⟨(m : Int), relM m fun a b => a == b⟩ := by simp [identM]; omega
theorem emptyM_out {n : Int} (h : ¬ (0 ≤ n ∧ n ≤ 40)) : emptyM n = zeroRel := by simp only [emptyM, h, if_false]
theorem identM_out {n : Int} (h : ¬ (0 ≤ n ∧ n ≤ 40)) : identM n = zeroRel := by simp only [identM, h, if_false]

/-- What a function leaves that returns a relation of its own making. -/
def RetRel (w : World) (r : Relation) (e : Ending) (w' : World) : Prop :=
  ∃ (A : Option Addr) (c : Nat), e = .returned (.agg #[.int .i64 r.size, .slice A r.rows.length c]) ∧ EIntS.OS w' w.heap.size w'.heap.size (.slice A r.rows.length c) r.rows ∧ Below w.heap.size w w'
theorem RetRel.zero {w w' : World} (h : Below w.heap.size w w') : RetRel w zeroRel (.returned (.agg #[.int .i64 0, .slice none 0 0])) w' := ⟨none, 0, rfl, Elem.OS.nil, h⟩

theorem emptyRule (w : World) (n : Nat) : Rule2 w n 0 0 58 #[] #[] fun _ _ => false where
  enter := fun args w' => by kernel_rfl
  ans := fun a b w' _ _ _ => by
    go_enter Try.func58, Try.ntmps58
    go_wp2
    go_ret
    exact ⟨rfl, Below.refl _ _⟩
theorem identRule (w : World) (n : Nat) : Rule2 w n 0 0 65 #[] #[] fun a b => a == b where
  enter := fun args w' => by kernel_rfl
  ans := fun a b w' _ _ _ => by
    go_enter Try.func65, Try.ntmps65
    go_wp2
    go_ret
    exact ⟨ret_bool (by rw [Bool.eq_iff_iff]; simp; omega), Below.refl _ _⟩

theorem implEmptyRelation_any (n : Int) (w : World) : Calls Try.prog 28 #[.int .i64 n] w (RetRel w (emptyM n)) := by
  by_cases hr : 0 ≤ n ∧ n ≤ 40
  · obtain ⟨m, rfl⟩ := Int.eq_ofNat_of_zero_le hr.1
    have hm : m ≤ 40 := by omega
    rw [emptyM_in hm]
    go_enter Try.func28, Try.ntmps28
    go_wp2_with (go_at_call 57; refine (related_any _ #[] #[] m 0 0 _ _ hm (emptyRule _ _) (Nat.zero_le _)).mono ?_; rintro e w1 ⟨A1, c1, rfl, ho, hb1⟩; (obtain ⟨hb1c, hb1f⟩ := bcell hb1); (have hb1z := hb1.size); (try simp only [szs] at hb1c hb1f hb1z))
    exact bodyPost_ret (v := .agg #[.int .i64 m, .slice A1 m c1]) (by simp [results, Try.results28, go_sem, hb1c]) rfl ⟨A1, c1, by simp only [relM_len], by simpa only [relM_len] using (ho.same (by (with_reducible repeat' first | exact Same.refl _ _ _ | assumption | (refine Same.setCell ?_ (by first | omega | (simp; omega) | (simp; done) | (dsimp only; omega)) _) | (refine Same.alloc ?_ (by first | omega | (simp; omega) | (simp; done) | (dsimp only; omega)) _) | (refine Same.drewN ?_ _) | (refine Same.drew ?_)))).mono (by first | omega | (simp; omega) | (simp; done) | (dsimp only; omega)) (by first | omega | (simp; omega) | (simp; done) | (dsimp only; omega)), by (with_reducible repeat' first | exact Below.refl _ _ | assumption | (refine Below.setCell ?_ (by first | omega | (simp; omega) | (simp; done) | (dsimp only; omega)) _) | (refine Below.alloc ?_ (by first | omega | (simp; omega) | (simp; done) | (dsimp only; omega)) _) | (refine below_drewN ?_ _) | (refine Below.drew ?_) | (refine Below.trans ?_ (hb1.mono (by first | omega | (simp; omega) | (simp; done) | (dsimp only; omega)))))⟩
  · rw [emptyM_out hr]
    go_enter Try.func28, Try.ntmps28
    go_wp2
    all_goals exact bodyPost_ret (v := .agg #[.int .i64 0, .slice none 0 0]) (by simp [results, Try.results28, go_sem]) rfl (RetRel.zero (by (with_reducible repeat' first | exact Below.refl _ _ | assumption | (refine Below.setCell ?_ (by first | omega | (simp; omega) | (simp; done) | (dsimp only; omega)) _) | (refine Below.alloc ?_ (by first | omega | (simp; omega) | (simp; done) | (dsimp only; omega)) _) | (refine below_drewN ?_ _) | (refine Below.drew ?_))))

theorem implIdentityRelation_any (n : Int) (w : World) : Calls Try.prog 34 #[.int .i64 n] w (RetRel w (identM n)) := by
  by_cases hr : 0 ≤ n ∧ n ≤ 40
  · obtain ⟨m, rfl⟩ := Int.eq_ofNat_of_zero_le hr.1
    have hm : m ≤ 40 := by omega
    rw [identM_in hm]
    go_enter Try.func34, Try.ntmps34
    go_wp2_with (go_at_call 57; refine (related_any _ #[] #[] m 0 0 _ _ hm (identRule _ _) (Nat.zero_le _)).mono ?_; rintro e w1 ⟨A1, c1, rfl, ho, hb1⟩; (obtain ⟨hb1c, hb1f⟩ := bcell hb1); (have hb1z := hb1.size); (try simp only [szs] at hb1c hb1f hb1z))
    exact bodyPost_ret (v := .agg #[.int .i64 m, .slice A1 m c1]) (by simp [results, Try.results34, go_sem, hb1c]) rfl ⟨A1, c1, by simp only [relM_len], by simpa only [relM_len] using (ho.same (by (with_reducible repeat' first | exact Same.refl _ _ _ | assumption | (refine Same.setCell ?_ (by first | omega | (simp; omega) | (simp; done) | (dsimp only; omega)) _) | (refine Same.alloc ?_ (by first | omega | (simp; omega) | (simp; done) | (dsimp only; omega)) _) | (refine Same.drewN ?_ _) | (refine Same.drew ?_)))).mono (by first | omega | (simp; omega) | (simp; done) | (dsimp only; omega)) (by first | omega | (simp; omega) | (simp; done) | (dsimp only; omega)), by (with_reducible repeat' first | exact Below.refl _ _ | assumption | (refine Below.setCell ?_ (by first | omega | (simp; omega) | (simp; done) | (dsimp only; omega)) _) | (refine Below.alloc ?_ (by first | omega | (simp; omega) | (simp; done) | (dsimp only; omega)) _) | (refine below_drewN ?_ _) | (refine Below.drew ?_) | (refine Below.trans ?_ (hb1.mono (by first | omega | (simp; omega) | (simp; done) | (dsimp only; omega)))))⟩
  · rw [identM_out hr]
    go_enter Try.func34, Try.ntmps34
    go_wp2
    all_goals exact bodyPost_ret (v := .agg #[.int .i64 0, .slice none 0 0]) (by simp [results, Try.results34, go_sem]) rfl (RetRel.zero (by (with_reducible repeat' first | exact Below.refl _ _ | assumption | (refine Below.setCell ?_ (by first | omega | (simp; omega) | (simp; done) | (dsimp only; omega)) _) | (refine Below.alloc ?_ (by first | omega | (simp; omega) | (simp; done) | (dsimp only; omega)) _) | (refine below_drewN ?_ _) | (refine Below.drew ?_))))

theorem specEmptyRelation_any (n : Int) (w : World) : Calls Try.prog 27 #[.int .i64 n] w (RetRel w (emptyM n)) := by
  by_cases hr : 0 ≤ n ∧ n ≤ 40
  · obtain ⟨m, rfl⟩ := Int.eq_ofNat_of_zero_le hr.1
    have hm : m ≤ 40 := by omega
    have HI := Lib.hid (inB_true hr)
    rw [emptyM_in hm]
    go_enter Try.func27, Try.ntmps27
    go_wp2_with (first
      | (go_at_call 45; refine (l1In_any _ _ _ _).mono ?_; rintro e w' ⟨rfl, rfl⟩; simp only [HI.out])
      | (go_at_call 56; refine (l2Blank_any m _ hm).mono ?_; rintro e w1 ⟨A1, c1, rfl, ho1, hb1⟩; rw [mat_blank] at ho1; (obtain ⟨hb1c, hb1f⟩ := bcell hb1); (have hb1z := hb1.size); (try simp only [szs] at hb1c hb1f hb1z))
      | (go_at_call 55; have hl := Lib.hid (mat_len m fun _ _ => false); rw [← hl.out]; refine (l2Of_any A1 c1 _ _ (mat m fun _ _ => false) w1 ho1.read.as (Nat.le_refl _) (by rw [hl.out]; exact hm) (fun r hr => Nat.le_trans (mat_row r hr) hm)).mono ?_; rw [hl.out]; rintro e w2 ⟨A2, c2, rfl, ho2, hb2⟩; rw [ofM_mat] at ho2; (obtain ⟨hb2c, hb2f⟩ := bcell hb2); (have hb2z := hb2.size); (try simp only [szs] at hb2c hb2f hb2z); have hlt : w.heap.size < w1.heap.size := (by omega)))
    exact bodyPost_ret (v := .agg #[.int .i64 m, .slice A2 m c2]) (by simp [results, Try.results27, go_sem, hb1c, hb2c, hlt]) rfl ⟨A2, c2, by simp only [relM_len], by simpa only [relM_len] using (ho2.same (by (with_reducible repeat' first | exact Same.refl _ _ _ | assumption | (refine Same.setCell ?_ (by first | omega | (simp; omega) | (simp; done) | (dsimp only; omega)) _) | (refine Same.alloc ?_ (by first | omega | (simp; omega) | (simp; done) | (dsimp only; omega)) _) | (refine Same.drewN ?_ _) | (refine Same.drew ?_)))).mono (by first | omega | (simp; omega) | (simp; done) | (dsimp only; omega)) (by first | omega | (simp; omega) | (simp; done) | (dsimp only; omega)), by (with_reducible repeat' first | exact Below.refl _ _ | assumption | (refine Below.setCell ?_ (by first | omega | (simp; omega) | (simp; done) | (dsimp only; omega)) _) | (refine Below.alloc ?_ (by first | omega | (simp; omega) | (simp; done) | (dsimp only; omega)) _) | (refine below_drewN ?_ _) | (refine Below.drew ?_) | (refine Below.trans ?_ (hb2.mono (by first | omega | (simp; omega) | (simp; done) | (dsimp only; omega)))) | (refine Below.trans ?_ (hb1.mono (by first | omega | (simp; omega) | (simp; done) | (dsimp only; omega)))))⟩
  · have HI := Lib.hid (inB_false hr)
    rw [emptyM_out hr]
    go_enter Try.func27, Try.ntmps27
    go_wp2_with (go_at_call 45; refine (l1In_any _ _ _ _).mono ?_; rintro e w' ⟨rfl, rfl⟩; simp only [HI.out])
    all_goals exact bodyPost_ret (v := .agg #[.int .i64 0, .slice none 0 0]) (by simp [results, Try.results27, go_sem]) rfl (RetRel.zero (by (with_reducible repeat' first | exact Below.refl _ _ | assumption | (refine Below.setCell ?_ (by first | omega | (simp; omega) | (simp; done) | (dsimp only; omega)) _) | (refine Below.alloc ?_ (by first | omega | (simp; omega) | (simp; done) | (dsimp only; omega)) _) | (refine below_drewN ?_ _) | (refine Below.drew ?_))))

/-- The first k places of the diagonal are marked. -/
def DiagRel (w : World) (n : Nat) (A : Option Addr) (c hi : Nat) (i : Value) (wr : World) : Prop :=
  ∃ k : Nat, k ≤ n ∧ i = .int .i64 k ∧ EBoolS.OS wr w.heap.size hi (.slice A n c) (mat n fun a b => a == b && decide (a < k)) ∧ Chg w.heap.size hi w wr ∧ hi ≤ wr.heap.size
theorem diag_step (n k : Nat) : mat n (upd (fun a b => a == b && decide (a < k)) k k true) = mat n fun a b => a == b && decide (a < k + 1) :=
  mat_congr fun a b _ _ => by
    unfold upd
    by_cases h : a = k ∧ b = k
    · obtain ⟨rfl, rfl⟩ := h; simp
    · rw [if_neg h, Bool.eq_iff_iff]; simp; omega
theorem specIdentityRelation_any (n : Int) (w : World) : Calls Try.prog 33 #[.int .i64 n] w (RetRel w (identM n)) := by
  by_cases hr : 0 ≤ n ∧ n ≤ 40
  · obtain ⟨m, rfl⟩ := Int.eq_ofNat_of_zero_le hr.1
    have hm : m ≤ 40 := by omega
    have HI := Lib.hid (inB_true hr)
    rw [identM_in hm]
    go_enter Try.func33, Try.ntmps33
    go_wp2_with (first
      | (go_at_call 45; refine (l1In_any _ _ _ _).mono ?_; rintro e w' ⟨rfl, rfl⟩; simp only [HI.out])
      | (go_at_call 56; refine (l2Blank_any m _ hm).mono ?_; rintro e w1 ⟨A1, c1, rfl, ho1, hb1⟩; rw [mat_blank] at ho1))
    generalize hW : w.alloc (.cells #[.int .i64 0, .slice none 0 0] 39) = W at *
    have hR : Blk W w.heap.size 39 #[.int .i64 0, .slice none 0 0] := by rw [← hW]; exact Blk.new w rfl
    have hbW : Below w.heap.size w W := by rw [← hW]; (with_reducible repeat' first | exact Below.refl _ _ | assumption | (refine Below.setCell ?_ (by first | omega | (simp; omega) | (simp; done) | (dsimp only; omega)) _) | (refine Below.alloc ?_ (by first | omega | (simp; omega) | (simp; done) | (dsimp only; omega)) _) | (refine below_drewN ?_ _) | (refine Below.drew ?_))
    have hzW : W.heap.size = w.heap.size + 1 := by rw [← hW]; simp
    have HZ := Lib.hid hzW
    clear hzW hW
    have hz1 := hb1.size
    go_loopw [13] (fun i wr => DiagRel W m A1 c1 w1.heap.size i wr) (fun i _ => m - (intOf i).toNat)
    case atStart => exact ⟨0, Nat.zero_le _, rfl, by simpa using ho1, Chg.of_below hb1, Nat.le_refl _⟩
    case round =>
      obtain ⟨k, hk, rfl, ho, hch, hsz⟩ := hrel
      by_cases hlt : k < m
      · obtain ⟨g, r, c', c'', hv, g1, g2, r1, r2, k1, k2, k3, k4, hset⟩ := mat_own ho hsz hlt hlt
        injection hv with hv _ hc
        subst hv; subst hc
        go_wp2
        refine ⟨⟨k + 1, by omega, by go_num, ?_, hch.setCell ⟨r1, r2⟩ _, by simpa [World.setCell] using hsz⟩, by simp [intOf]; omega⟩
        rw [← diag_step]; exact hset true
      · obtain rfl : k = m := by omega
        have hid : (mat k fun a b => a == b && decide (a < k)) = mat k fun a b => a == b := mat_congr fun a b ha _ => by simp [ha]
        rw [hid] at ho
        have hRr : Blk wr w.heap.size 39 #[.int .i64 0, .slice none 0 0] := hR.chg hch (.inl (by rw [HZ.out]; omega))
        have hbr : Below w.heap.size w wr := hbW.trans (hch.below (by rw [HZ.out]; omega) (by rw [HZ.out]; omega))
        have hlw : w.heap.size < wr.heap.size := hRr.lt
        go_wp2_with (go_at_call 55; have hl := Lib.hid (mat_len k fun a b => a == b); rw [← hl.out]; refine (l2Of_any A1 c1 _ _ (mat k fun a b => a == b) wr ho.read.as hsz (by rw [hl.out]; exact hm) (fun r hr => Nat.le_trans (mat_row r hr) hm)).mono ?_; rw [hl.out]; rintro e w2 ⟨A2, c2, rfl, ho2, hb2⟩; rw [ofM_mat] at ho2; have hz2 := hb2.size; have q0 := (hRr.below hb2 hlw).cell (i := 0) rfl; have q1 := (hRr.below hb2 hlw).cell (i := 1) rfl; have f0 := (hRr.below hb2 hlw).free 0; have f1 := (hRr.below hb2 hlw).free 1)
        exact bodyPost_ret (v := .agg #[.int .i64 k, .slice A2 k c2]) (by simp [results, Try.results33, go_sem, q0, q1]) rfl ⟨A2, c2, by simp only [relM_len], by simpa only [relM_len] using (ho2.same (by (with_reducible repeat' first | exact Same.refl _ _ _ | assumption | (refine Same.setCell ?_ (by first | omega | (simp; omega) | (simp; done) | (dsimp only; omega)) _) | (refine Same.alloc ?_ (by first | omega | (simp; omega) | (simp; done) | (dsimp only; omega)) _) | (refine Same.drewN ?_ _) | (refine Same.drew ?_)))).mono (by first | omega | (simp; omega) | (simp; done) | (dsimp only; omega)) (by first | omega | (simp; omega) | (simp; done) | (dsimp only; omega)), by (with_reducible repeat' first | exact Below.refl _ _ | assumption | (refine Below.setCell ?_ (by first | omega | (simp; omega) | (simp; done) | (dsimp only; omega)) _) | (refine Below.alloc ?_ (by first | omega | (simp; omega) | (simp; done) | (dsimp only; omega)) _) | (refine below_drewN ?_ _) | (refine Below.drew ?_) | (refine Below.trans ?_ (hb2.mono (by first | omega | (simp; omega) | (simp; done) | (dsimp only; omega)))))⟩
  · have HI := Lib.hid (inB_false hr)
    rw [identM_out hr]
    go_enter Try.func33, Try.ntmps33
    go_wp2_with (go_at_call 45; refine (l1In_any _ _ _ _).mono ?_; rintro e w' ⟨rfl, rfl⟩; simp only [HI.out])
    all_goals exact bodyPost_ret (v := .agg #[.int .i64 0, .slice none 0 0]) (by simp [results, Try.results33, go_sem]) rfl (RetRel.zero (by (with_reducible repeat' first | exact Below.refl _ _ | assumption | (refine Below.setCell ?_ (by first | omega | (simp; omega) | (simp; done) | (dsimp only; omega)) _) | (refine Below.alloc ?_ (by first | omega | (simp; omega) | (simp; done) | (dsimp only; omega)) _) | (refine below_drewN ?_ _) | (refine Below.drew ?_))))
end Go.Proofs.Ytagmeeplgmocdaa
