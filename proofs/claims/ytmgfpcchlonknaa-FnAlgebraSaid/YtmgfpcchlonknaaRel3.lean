/-
  The table of a valid relation; whether two numbers are related.
-/
import Derived.Test.YtmgfpcchlonknaaRel2
namespace Go.Proofs.Ytmgfpcchlonknaa
set_option maxRecDepth 100000
open Go.RowKit

theorem rowOk_mem {n : Int} {xs : List Int} : ∀ {last : Int}, rowOk n last xs = true → ∀ x ∈ xs, last < x ∧ x < n := by
  induction xs with
  | nil => intro last _ x hx; cases hx
  | cons b r ih =>
    intro last h x hx
    rw [rowOk] at h
    split at h
    · cases h
    · rename_i hn
      rcases List.mem_cons.1 hx with rfl | hx
      · omega
      · have := ih h x hx; omega
theorem rowsOk_mem {n : Int} {xs : List (List Int)} (h : rowsOk n xs = true) : ∀ x ∈ xs, rowOk n (-1) x = true := by
  induction xs with
  | nil => intro x hx; cases hx
  | cons y r ih =>
    intro x hx
    simp only [rowsOk, Bool.and_eq_true] at h
    rcases List.mem_cons.1 hx with rfl | hx
    · exact h.1
    · exact ih h.2 x hx
/-- What a valid relation is. -/
theorem relOk_parts {s : Int} {xs : List (List Int)} (h : relOk ⟨s, xs⟩ = true) : ∃ n : Nat, s = n ∧ n ≤ 40 ∧ xs.length = n ∧ ∀ x ∈ xs, rowOk (n : Int) (-1) x = true := by
  simp only [relOk, Bool.and_eq_true, decide_eq_true_eq] at h
  obtain ⟨⟨h1, h2, h3⟩, h4⟩ := h
  obtain ⟨n, rfl⟩ := Int.eq_ofNat_of_zero_le h1
  exact ⟨n, rfl, by omega, by omega, rowsOk_mem h4⟩

/-- The table of a relation. -/
def gridP (xs : List (List Int)) : Nat → Nat → Bool := fun a b => hasB (xs.getD a []) b
def gridTo (xs : List (List Int)) (k : Nat) : Nat → Nat → Bool := fun a b => decide (a < k) && gridP xs a b
def gridIn (xs : List (List Int)) (k : Nat) (row : List Int) (j : Nat) : Nat → Nat → Bool := fun a b => (decide (a < k) && gridP xs a b) || (decide (a = k) && hasB (row.take j) b)

def GridRel (xs : List (List Int)) (n lo hi : Nat) (A : Option Addr) (c : Nat) (W : World) (i : Value) (wr : World) : Prop :=
  ∃ k : Nat, k ≤ n ∧ i = .int .i64 k ∧ EBoolS.OS wr lo hi (.slice A n c) (mat n (gridTo xs k)) ∧ Chg lo hi W wr ∧ hi ≤ wr.heap.size
def GridIn (xs : List (List Int)) (n lo hi k : Nat) (row : List Int) (A : Option Addr) (c : Nat) (W : World) (i : Value) (wr : World) : Prop :=
  ∃ j : Nat, j ≤ row.length ∧ i = .int .i64 j ∧ EBoolS.OS wr lo hi (.slice A n c) (mat n (gridIn xs k row j)) ∧ Chg lo hi W wr ∧ hi ≤ wr.heap.size
theorem gridIn_step {xs : List (List Int)} {n k j m : Nat} {row : List Int} (hj : row[j]? = some (m : Int)) : mat n (upd (gridIn xs k row j) k m true) = mat n (gridIn xs k row (j + 1)) :=
  mat_congr fun a b _ _ => by
    unfold upd gridIn hasB
    rw [List.take_add_one, hj]
    by_cases h : a = k ∧ b = m
    · obtain ⟨rfl, rfl⟩ := h; simp
    · rw [if_neg h, Bool.eq_iff_iff]
      simp only [Bool.or_eq_true, Bool.and_eq_true, decide_eq_true_eq, List.mem_append, Option.toList_some, List.mem_singleton]
      constructor
      · rintro (h1 | ⟨h1, h2⟩)
        · exact .inl h1
        · exact .inr ⟨h1, .inl h2⟩
      · rintro (h1 | ⟨h1, h2 | h2⟩)
        · exact .inl h1
        · exact .inr ⟨h1, h2⟩
        · exact absurd ⟨h1, by omega⟩ h
theorem gridIn_start (xs : List (List Int)) (n k : Nat) (row : List Int) : mat n (gridTo xs k) = mat n (gridIn xs k row 0) := mat_congr fun a b _ _ => by simp [gridTo, gridIn, hasB]
theorem gridIn_end {xs : List (List Int)} {n k : Nat} {row : List Int} (hk : xs[k]? = some row) : mat n (gridIn xs k row row.length) = mat n (gridTo xs (k + 1)) :=
  mat_congr fun a b _ _ => by
    unfold gridIn gridTo
    rw [List.take_length, Bool.eq_iff_iff]
    simp only [Bool.or_eq_true, Bool.and_eq_true, decide_eq_true_eq]
    constructor
    · rintro (⟨h1, h2⟩ | ⟨rfl, h2⟩)
      · exact ⟨by omega, h2⟩
      · exact ⟨by omega, by simpa [gridP, List.getD, hk] using h2⟩
    · rintro ⟨h1, h2⟩
      by_cases hak : a = k
      · subst hak; exact .inr ⟨rfl, by simpa [gridP, List.getD, hk] using h2⟩
      · exact .inl ⟨by omega, h2⟩

set_option maxHeartbeats 1000000 in
theorem l2Grid_any (s : Int) (A : Option Addr) (c lo hi : Nat) (xs : List (List Int)) (w : World) (h : EIntS.AS w lo hi A xs) (hh : hi ≤ w.heap.size) (hok : relOk ⟨s, xs⟩ = true) :
    Calls Try.prog 69 #[.agg #[.int .i64 s, .slice A xs.length c]] w fun e w' => ∃ A' c', e = .returned (.slice A' xs.length c') ∧ EBoolS.OS w' w.heap.size w'.heap.size (.slice A' xs.length c') (mat xs.length (gridP xs)) ∧ Below w.heap.size w w' := by
  obtain ⟨n, rfl, hn, hl, hrows⟩ := relOk_parts hok
  clear hok
  rw [hl]
  have HL := Lib.hid hl
  clear hl
  have hx := h.le
  rw [HL.out] at hx
  go_enter Try.func69, Try.ntmps69
  go_wp2_with (go_at_call 75; refine (l2Blank_any n _ hn).mono ?_; rintro e w1 ⟨A1, c1, rfl, ho1, hb1⟩; rw [mat_blank] at ho1; (obtain ⟨hb1c, hb1f⟩ := bcell hb1); (have hb1z := hb1.size); (try simp only [szs] at hb1c hb1f hb1z))
  have hz1 : w.heap.size + 1 ≤ w1.heap.size := by omega
  have hbw : Below w.heap.size w w1 := by (with_reducible repeat' first | exact Below.refl _ _ | assumption | (refine Below.setCell ?_ (by first | omega | (simp; omega) | (simp; done) | (dsimp only; omega)) _) | (refine Below.alloc ?_ (by first | omega | (simp; omega) | (simp; done) | (dsimp only; omega)) _) | (refine below_drewN ?_ _) | (refine Below.drew ?_) | (refine Below.trans ?_ (hb1.mono (by first | omega | (simp; omega) | (simp; done) | (dsimp only; omega)))))
  simp only [World.size_alloc] at ho1
  clear hb1 hb1c hb1f hb1z
  go_loopw [14] (fun i wr => GridRel xs n (w.heap.size + 1) w1.heap.size A1 c1 w1 i wr) (fun i _ => n - (intOf i).toNat)
  case atStart => exact ⟨0, Nat.zero_le _, rfl, by rw [show mat n (gridTo xs 0) = mat n fun _ _ => false from mat_congr (by simp [gridTo])]; exact ho1, Chg.refl _ _ _, Nat.le_refl _⟩
  case round =>
    obtain ⟨k, hk, rfl, ho, hch, hsz⟩ := hrel
    have hbr : Below w.heap.size w wr := hbw.trans (hch.below (by omega) (by omega))
    by_cases hlt : k < n
    · obtain ⟨b, off, row, B, cx, rfl, _, _, _, hxk, hc, _, _, hr⟩ := AIntS.at_ (h.same (Same.of_below hbr hh)) (by rw [HL.out]; exact hlt)
      have hmem := rowOk_mem (hrows row (List.mem_of_getElem? hxk))
      have HXK := Lib.hid hxk; clear hxk
      have hrl := hr.le
      unfold BIG at hrl
      rw [gridIn_start xs n k row] at ho
      go_wp2
      obtain ⟨wo, rfl⟩ : ∃ wo : World, wo = wr := ⟨_, rfl⟩
      go_loopw [21] (fun i w2 => GridIn xs n (w.heap.size + 1) w1.heap.size k row A1 c1 wo i w2) (fun i _ => row.length - (intOf i).toNat)
      case atStart => exact ⟨0, Nat.zero_le _, rfl, ho, Chg.refl _ _ _, hsz⟩
      case round =>
        obtain ⟨j, hj, rfl, ho2, hch2, hsz2⟩ := hrel
        by_cases hlt2 : j < row.length
        · obtain ⟨b2, off2, x, rfl, _, _, _, hxj, hc2⟩ := AInt.at_ (hr.same (Same.of_chg hch2 (by omega) (by omega))) hlt2
          have hxb := hmem x (List.mem_of_getElem? hxj)
          obtain ⟨m, rfl⟩ := Int.eq_ofNat_of_zero_le (by omega : 0 ≤ x)
          have hmn : m < n := by omega
          have HXJ := Lib.hid hxj; clear hxj
          obtain ⟨g, r, c', c'', hv, g1, g2, r1, r2, k1, k2, k3, k4, hset⟩ := mat_own ho2 hsz2 hlt hmn
          injection hv with hv _ hcc
          subst hv; subst hcc
          go_wp2
          refine ⟨⟨j + 1, by omega, by go_num, ?_, hch2.setCell ⟨r1, r2⟩ _, by simpa [World.setCell] using hsz2⟩, by simp [intOf]; omega⟩
          rw [← gridIn_step HXJ.out]; exact hset true
        · obtain rfl : j = row.length := by omega
          rw [gridIn_end HXK.out] at ho2
          go_wp2
          exact ⟨⟨k + 1, by omega, by go_num, ho2, hch.trans hch2, hsz2⟩, by simp [intOf]; omega⟩
    · obtain rfl : k = n := by omega
      have hg : mat k (gridTo xs k) = mat k (gridP xs) := mat_congr fun a b ha _ => by simp [gridTo, ha]
      rw [hg] at ho
      go_wp2
      go_ret
      exact ⟨_, _, rfl, ho.mono (by omega) hsz, hbr⟩

def relatedM (r : Relation) (a b : Int) : Bool := relOk r && decide (0 ≤ a ∧ a < r.size) && hasB (r.rows.getD a.toNat []) b

end Go.Proofs.Ytmgfpcchlonknaa
