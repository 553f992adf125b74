/-
  The relation of nothing and that of each number with itself.
-/
import Derived.Test.YtmgfpcchlonknaaMat
namespace Go.Proofs.Ytmgfpcchlonknaa
set_option maxRecDepth 100000
open Go.RowKit

theorem emptyM_in {m : Nat} (h : m ≤ 40) : emptyM (m : Int) = ⟨(m : Int), relM m fun _ _ => false⟩ := by simp [emptyM]; omega
theorem identM_in {m : Nat} (h : m ≤ 40) : identM (m : Int) = ⟨(m : Int), relM m fun a b => a == b⟩ := by simp [identM]; omega
theorem emptyM_out {n : Int} (h : ¬ (0 ≤ n ∧ n ≤ 40)) : emptyM n = zeroRel := by simp only [emptyM, h, if_false]
theorem identM_out {n : Int} (h : ¬ (0 ≤ n ∧ n ≤ 40)) : identM n = zeroRel := by simp only [identM, h, if_false]

/-- What a function leaves that returns a relation of its own making. -/
def RetRel (w : World) (r : Relation) (e : Ending) (w' : World) : Prop :=
  ∃ (A : Option Addr) (c : Nat), e = .returned (.agg #[.int .i64 r.size, .slice A r.rows.length c]) ∧ EIntS.OS w' w.heap.size w'.heap.size (.slice A r.rows.length c) r.rows ∧ Below w.heap.size w w'
theorem RetRel.zero {w w' : World} (h : Below w.heap.size w w') : RetRel w zeroRel (.returned (.agg #[.int .i64 0, .slice none 0 0])) w' := ⟨none, 0, rfl, Elem.OS.nil, h⟩

theorem identRule (w : World) (n : Nat) : Rule2 w n 0 0 119 #[] #[] fun a b => a == b where
  enter := fun args w' => by kernel_rfl
  ans := fun a b w' _ _ _ => by
    go_enter Try.func119, Try.ntmps119
    go_wp2
    go_ret
    exact ⟨ret_bool (by rw [Bool.eq_iff_iff]; simp; omega), Below.refl _ _⟩

theorem implIdentityRelation_any (n : Int) (w : World) : Calls Try.prog 66 #[.int .i64 n] w (RetRel w (identM n)) := by
  by_cases hr : 0 ≤ n ∧ n ≤ 40
  · obtain ⟨m, rfl⟩ := Int.eq_ofNat_of_zero_le hr.1
    have hm : m ≤ 40 := by omega
    rw [identM_in hm]
    go_enter Try.func66, Try.ntmps66
    go_wp2_with (go_at_call 78; refine (related_any _ #[] #[] m 0 0 _ _ hm (identRule _ _) (Nat.zero_le _)).mono ?_; rintro e w1 ⟨A1, c1, rfl, ho, hb1⟩; (obtain ⟨hb1c, hb1f⟩ := bcell hb1); (have hb1z := hb1.size); (try simp only [szs] at hb1c hb1f hb1z))
    exact bodyPost_ret (v := .agg #[.int .i64 m, .slice A1 m c1]) (by simp [results, Try.results66, go_sem, hb1c]) rfl ⟨A1, c1, by simp only [relM_len], by simpa only [relM_len] using (ho.same (by (with_reducible repeat' first | exact Same.refl _ _ _ | assumption | (refine Same.setCell ?_ (by first | omega | (simp; omega) | (simp; done) | (dsimp only; omega)) _) | (refine Same.alloc ?_ (by first | omega | (simp; omega) | (simp; done) | (dsimp only; omega)) _) | (refine Same.drewN ?_ _) | (refine Same.drew ?_)))).mono (by first | omega | (simp; omega) | (simp; done) | (dsimp only; omega)) (by first | omega | (simp; omega) | (simp; done) | (dsimp only; omega)), by (with_reducible repeat' first | exact Below.refl _ _ | assumption | (refine Below.setCell ?_ (by first | omega | (simp; omega) | (simp; done) | (dsimp only; omega)) _) | (refine Below.alloc ?_ (by first | omega | (simp; omega) | (simp; done) | (dsimp only; omega)) _) | (refine below_drewN ?_ _) | (refine Below.drew ?_) | (refine Below.trans ?_ (hb1.mono (by first | omega | (simp; omega) | (simp; done) | (dsimp only; omega)))))⟩
  · rw [identM_out hr]
    go_enter Try.func66, Try.ntmps66
    go_wp2
    all_goals exact bodyPost_ret (v := .agg #[.int .i64 0, .slice none 0 0]) (by simp [results, Try.results66, go_sem]) rfl (RetRel.zero (by (with_reducible repeat' first | exact Below.refl _ _ | assumption | (refine Below.setCell ?_ (by first | omega | (simp; omega) | (simp; done) | (dsimp only; omega)) _) | (refine Below.alloc ?_ (by first | omega | (simp; omega) | (simp; done) | (dsimp only; omega)) _) | (refine below_drewN ?_ _) | (refine Below.drew ?_))))

/-- The first k places of the diagonal are marked. -/
def DiagRel (w : World) (n : Nat) (A : Option Addr) (c hi : Nat) (i : Value) (wr : World) : Prop :=
  ∃ k : Nat, k ≤ n ∧ i = .int .i64 k ∧ EBoolS.OS wr w.heap.size hi (.slice A n c) (mat n fun a b => a == b && decide (a < k)) ∧ Chg w.heap.size hi w wr ∧ hi ≤ wr.heap.size
theorem diag_step (n k : Nat) : mat n (upd (fun a b => a == b && decide (a < k)) k k true) = mat n fun a b => a == b && decide (a < k + 1) :=
  mat_congr fun a b _ _ => by
    unfold upd
    by_cases h : a = k ∧ b = k
    · obtain ⟨rfl, rfl⟩ := h; simp
    · rw [if_neg h, Bool.eq_iff_iff]; simp; omega
end Go.Proofs.Ytmgfpcchlonknaa
