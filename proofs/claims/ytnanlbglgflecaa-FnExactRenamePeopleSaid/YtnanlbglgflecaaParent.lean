/-
  Whether a parent of a person is right, in the program and in the reference.
-/
import Derived.Test.YtnanlbglgflecaaConvFam
namespace Go.Proofs.Ytnanlbglgflecaa
set_option maxRecDepth 100000
open Go.RowKit

def parentIs (x y : Person) (sex late : Int) : Bool := (x.sex == sex) && decide (x.born < y.born) && ((x.died == -1) || decide (y.born ≤ x.died + late))
def parentOk (xs : List Person) (k : Nat) (q sex late : Int) : Bool :=
  if q = -1 then true else if q < 0 ∨ (k : Int) ≤ q then false else match xs[q.toNat]?, xs[k]? with
    | some x, some y => parentIs x y sex late
    | _, _ => false
theorem parentOk_none (xs : List Person) (k : Nat) (sex late : Int) : parentOk xs k (-1) sex late = true := if_pos rfl
theorem parentOk_out {xs : List Person} {k : Nat} {q sex late : Int} (h : q ≠ -1) (h' : q < 0 ∨ (k : Int) ≤ q) : parentOk xs k q sex late = false := by rw [parentOk, if_neg h, if_pos h']
theorem parentOk_in {xs : List Person} {k q : Nat} {sex late : Int} {x y : Person} (h : q < k) (hx : xs[q]? = some x) (hy : xs[k]? = some y) : parentOk xs k q sex late = parentIs x y sex late := by
  rw [parentOk, if_neg (by omega), if_neg (by omega)]
  simp [hx, hy]

set_option maxHeartbeats 2000000 in
theorem parentFits_any (A : Option Addr) (c lo hi : Nat) (xs : List Person) (k : Nat) (q sex late : Int) (w : World) (h : EPerson.AS w lo hi A xs) (hh : hi ≤ w.heap.size) (hk : k < xs.length) (hl : 0 ≤ late ∧ late ≤ 1) (hd : ∀ (i : Nat) (x : Person), i < k → xs[i]? = some x → -1 ≤ x.died ∧ x.died ≤ 9999) :
    Calls Try.prog 201 #[.slice A xs.length c, .int .i64 k, .int .i64 q, .int .i64 sex, .int .i64 late] w fun e w' => e = .returned (.bool (parentOk xs k q sex late)) ∧ Below w.heap.size w w' := by
  have hx := h.le
  unfold BIG at hx
  by_cases q1 : q = -1
  · subst q1
    go_enter Try.func201, Try.ntmps201
    go_wp2
    go_ret
    exact ⟨ret_bool (parentOk_none _ _ _ _).symm, Below.refl _ _⟩
  · by_cases q2 : q < 0 ∨ (k : Int) ≤ q
    · have HP := Lib.hid (parentOk_out (xs := xs) (sex := sex) (late := late) q1 q2)
      have n1 : (q == -1) = false := by simp [q1]
      rcases q2 with q2 | q2
      all_goals
        go_enter Try.func201, Try.ntmps201
        go_wp2
        all_goals first
          | (go_ret; exact ⟨ret_bool HP.out.symm, Below.refl _ _⟩)
          | (exfalso; omega)
    · obtain ⟨q, rfl⟩ := Int.eq_ofNat_of_zero_le (by omega : 0 ≤ q)
      have hqk : q < k := by omega
      obtain ⟨b, off, ⟨x0, x1, x2, x3, x4, x5⟩, rfl, g1, g2, _, hxk, hc0, hc1, hc2, hc3, hc4, hc5⟩ := APerson.at_ (k := q) h (by omega)
      obtain ⟨b', off', ⟨y0, y1, y2, y3, y4, y5⟩, he, _, _, _, hyk, _, _, _, _, hd4, _⟩ := APerson.at_ h hk
      injection he with he
      injection he with he1 he2 _
      subst he1; subst he2
      have hdx := hd q _ hqk hxk
      simp only at hc0 hc1 hc2 hc3 hc4 hc5 hd4 hdx
      have HP := Lib.hid (parentOk_in (sex := sex) (late := late) hqk hxk hyk)
      clear hxk hyk hd
      have n1 : ((q : Int) == -1) = false := by first | (simp; done) | (simp; omega)
      have lb : b < w.heap.size := by omega
      have i1 : (0 : Int) ≤ (q : Int) ∧ (q : Int) < (xs.length : Int) := by omega
      have i2 : (0 : Int) ≤ (k : Int) ∧ (k : Int) < (xs.length : Int) := by omega
      cases s1 : (x1 == sex) <;> cases s2 : decide (x4 < y4) <;> cases s3 : (x5 == -1)
      all_goals
        have S1 := Lib.hid s1; have S2 := Lib.hid s2; have S3 := Lib.hid s3
        go_enter Try.func201, Try.ntmps201
        go_wp2
        go_quiet (fail)
        go_wp2
        go_ret
        exact ⟨ret_bool (by rw [HP.out, parentIs, S1.out, S2.out, S3.out]; simp), by (with_reducible repeat' first | exact Below.refl _ _ | assumption | (refine Below.setCell ?_ (by first | omega | (simp; omega) | (simp; done) | (dsimp only; omega)) _) | (refine Below.alloc ?_ (by first | omega | (simp; omega) | (simp; done) | (dsimp only; omega)) _) | (refine below_drewN ?_ _) | (refine Below.drew ?_))⟩

set_option maxHeartbeats 2000000 in
theorem l1Parent_any (A B : Option Addr) (c d lo hi : Nat) (xs : List Person) (ys : List Union) (k : Nat) (q sex late : Int) (w : World) (h : EPerson.AS w lo hi A xs) (hh : hi ≤ w.heap.size) (hk : k < xs.length) (hl : 0 ≤ late ∧ late ≤ 1) (hd : ∀ (i : Nat) (x : Person), i < k → xs[i]? = some x → -1 ≤ x.died ∧ x.died ≤ 9999) :
    Calls Try.prog 223 #[.agg #[.slice A xs.length c, .slice B ys.length d], .int .i64 k, .int .i64 q, .int .i64 sex, .int .i64 late] w fun e w' => e = .returned (.bool (parentOk xs k q sex late)) ∧ Below w.heap.size w w' := by
  have hx := h.le
  unfold BIG at hx
  by_cases q1 : q = -1
  · subst q1
    go_enter Try.func223, Try.ntmps223
    go_wp2
    go_ret
    exact ⟨ret_bool (parentOk_none _ _ _ _).symm, by (with_reducible repeat' first | exact Below.refl _ _ | assumption | (refine Below.setCell ?_ (by first | omega | (simp; omega) | (simp; done) | (dsimp only; omega)) _) | (refine Below.alloc ?_ (by first | omega | (simp; omega) | (simp; done) | (dsimp only; omega)) _) | (refine below_drewN ?_ _) | (refine Below.drew ?_))⟩
  · by_cases q2 : q < 0 ∨ (k : Int) ≤ q
    · have HP := Lib.hid (parentOk_out (xs := xs) (sex := sex) (late := late) q1 q2)
      have n1 : (q == -1) = false := by simp [q1]
      rcases q2 with q2 | q2
      all_goals
        go_enter Try.func223, Try.ntmps223
        go_wp2
        all_goals first
          | (go_ret; exact ⟨ret_bool HP.out.symm, by (with_reducible repeat' first | exact Below.refl _ _ | assumption | (refine Below.setCell ?_ (by first | omega | (simp; omega) | (simp; done) | (dsimp only; omega)) _) | (refine Below.alloc ?_ (by first | omega | (simp; omega) | (simp; done) | (dsimp only; omega)) _) | (refine below_drewN ?_ _) | (refine Below.drew ?_))⟩)
          | (exfalso; omega)
    · obtain ⟨q, rfl⟩ := Int.eq_ofNat_of_zero_le (by omega : 0 ≤ q)
      have hqk : q < k := by omega
      obtain ⟨b, off, ⟨x0, x1, x2, x3, x4, x5⟩, rfl, g1, g2, _, hxk, hc0, hc1, hc2, hc3, hc4, hc5⟩ := APerson.at_ (k := q) h (by omega)
      obtain ⟨b', off', ⟨y0, y1, y2, y3, y4, y5⟩, he, _, _, _, hyk, _, _, _, _, hd4, _⟩ := APerson.at_ h hk
      injection he with he
      injection he with he1 he2 _
      subst he1; subst he2
      have hdx := hd q _ hqk hxk
      simp only at hc0 hc1 hc2 hc3 hc4 hc5 hd4 hdx
      have HP := Lib.hid (parentOk_in (sex := sex) (late := late) hqk hxk hyk)
      clear hxk hyk hd
      have n1 : ((q : Int) == -1) = false := by first | (simp; done) | (simp; omega)
      have lb : b < w.heap.size := by omega
      have i1 : (0 : Int) ≤ (q : Int) ∧ (q : Int) < (xs.length : Int) := by omega
      have i2 : (0 : Int) ≤ (k : Int) ∧ (k : Int) < (xs.length : Int) := by omega
      cases s1 : (x1 == sex) <;> cases s2 : decide (x4 < y4) <;> cases s3 : (x5 == -1)
      all_goals
        have S1 := Lib.hid s1; have S2 := Lib.hid s2; have S3 := Lib.hid s3
        have s1' : (x1 != sex) = !(x1 == sex) := rfl
        rw [s1] at s1'
        go_enter Try.func223, Try.ntmps223
        go_wp2
        go_ret
        exact ⟨ret_bool (by rw [HP.out, parentIs, S1.out, S2.out, S3.out]; simp), by (with_reducible repeat' first | exact Below.refl _ _ | assumption | (refine Below.setCell ?_ (by first | omega | (simp; omega) | (simp; done) | (dsimp only; omega)) _) | (refine Below.alloc ?_ (by first | omega | (simp; omega) | (simp; done) | (dsimp only; omega)) _) | (refine below_drewN ?_ _) | (refine Below.drew ?_))⟩
end Go.Proofs.Ytnanlbglgflecaa
