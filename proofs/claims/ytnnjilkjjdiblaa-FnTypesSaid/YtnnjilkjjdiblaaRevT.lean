/-
  Steps that lead back.
-/
import Derived.Test.YtnnjilkjjdiblaaJoinT
namespace Go.Proofs.Ytnnjilkjjdiblaa
set_option maxRecDepth 100000
open Go.RowKit

def backM (s : Step) (sex : Int) : Step :=
  if s.kind = 1 ∨ s.kind = 2 then ⟨4 + sex, 0⟩ else if s.kind = 5 ∨ s.kind = 6 then ⟨sex, 0⟩ else if s.kind = 7 then ⟨8, 0⟩ else if s.kind = 8 then ⟨7, 0⟩ else ⟨2 + sex, if s.age = 0 then 0 else 3 - s.age⟩

def pickI (s a b : Int) : Int := if s = 1 then a else b
set_option maxHeartbeats 2000000 in
theorem pick_any (a b sex : Int) (g : Nat) (w : World) (hg : w.cell? ⟨g, 0, none⟩ = some (.int .i64 sex)) :
    Calls Try.prog 174 #[.int .i64 a, .int .i64 b, .pointer (some ⟨g, 0, none⟩)] w fun e w' => e = .returned (.int .i64 (pickI sex a b)) ∧ w = w' := by
  unfold pickI
  by_cases hs : sex = 1
  · rw [if_pos hs]
    subst hs
    go_enter Try.func174, Try.ntmps174
    go_wp2
    go_ret
    exact ⟨rfl, rfl⟩
  · rw [if_neg hs]
    have n1 : (sex == 1) = false := by simp [hs]
    go_enter Try.func174, Try.ntmps174
    go_wp2
    go_ret
    exact ⟨rfl, rfl⟩

set_option maxHeartbeats 16000000 in
theorem backSib_any (x y sex : Int) (w : World) (hk : x = 3 ∨ x = 4) (hy : 0 ≤ y ∧ y ≤ 2) (hs : sex = 1 ∨ sex = 2) :
    Calls Try.prog 89 #[.agg #[.int .i64 x, .int .i64 y], .int .i64 sex] w fun e w' => e = .returned (.agg #[.int .i64 (backM ⟨x, y⟩ sex).kind, .int .i64 (backM ⟨x, y⟩ sex).age]) ∧ Below w.heap.size w w' := by
  have hcf : ∀ (args : Array Value) (w' : World), (callFunc 174 args).run Try.prog w' = .ok (.enter 174 args) w' := fun args w' => by kernel_rfl
  have HM : Hid (backM ⟨x, y⟩ sex = ⟨2 + sex, if y = 0 then 0 else 3 - y⟩) := Lib.hid (by rcases hk with rfl | rfl <;> rfl)
  rw [HM.out]
  clear HM
  have hq : 2 + sex = pickI sex 3 4 := by rcases hs with rfl | rfl <;> rfl
  rw [hq]
  clear hq hs
  rcases hk with rfl | rfl <;> rcases (by omega : y = 0 ∨ y = 1 ∨ y = 2) with rfl | rfl | rfl
  · go_enter Try.func89, Try.ntmps89
    go_wp2_with fail
    go_region_with (with_reducible refine (pick_any _ _ sex _ _ (by simp [go_sem])).mono ?_; rintro e w1 ⟨rfl, rfl⟩)
    all_goals
      go_wp2
      exact bodyPost_ret (v := .agg #[.int .i64 (pickI sex 3 4), .int .i64 0]) (by simp [results, Try.results89, go_sem]) rfl ⟨rfl, by (with_reducible repeat' first | exact Below.refl _ _ | assumption | (refine Below.setCell ?_ (by first | omega | (simp; omega) | (simp; done) | (dsimp only; omega)) _) | (refine Below.alloc ?_ (by first | omega | (simp; omega) | (simp; done) | (dsimp only; omega)) _) | (refine below_drewN ?_ _) | (refine Below.drew ?_))⟩
  · go_enter Try.func89, Try.ntmps89
    go_wp2_with fail
    go_region_with (with_reducible refine (pick_any _ _ sex _ _ (by simp [go_sem])).mono ?_; rintro e w1 ⟨rfl, rfl⟩)
    all_goals
      go_wp2
      exact bodyPost_ret (v := .agg #[.int .i64 (pickI sex 3 4), .int .i64 2]) (by simp [results, Try.results89, go_sem]) rfl ⟨rfl, by (with_reducible repeat' first | exact Below.refl _ _ | assumption | (refine Below.setCell ?_ (by first | omega | (simp; omega) | (simp; done) | (dsimp only; omega)) _) | (refine Below.alloc ?_ (by first | omega | (simp; omega) | (simp; done) | (dsimp only; omega)) _) | (refine below_drewN ?_ _) | (refine Below.drew ?_))⟩
  · go_enter Try.func89, Try.ntmps89
    go_wp2_with fail
    go_region_with (with_reducible refine (pick_any _ _ sex _ _ (by simp [go_sem])).mono ?_; rintro e w1 ⟨rfl, rfl⟩)
    all_goals
      go_wp2
      exact bodyPost_ret (v := .agg #[.int .i64 (pickI sex 3 4), .int .i64 1]) (by simp [results, Try.results89, go_sem]) rfl ⟨rfl, by (with_reducible repeat' first | exact Below.refl _ _ | assumption | (refine Below.setCell ?_ (by first | omega | (simp; omega) | (simp; done) | (dsimp only; omega)) _) | (refine Below.alloc ?_ (by first | omega | (simp; omega) | (simp; done) | (dsimp only; omega)) _) | (refine below_drewN ?_ _) | (refine Below.drew ?_))⟩
  · go_enter Try.func89, Try.ntmps89
    go_wp2_with fail
    go_region_with (with_reducible refine (pick_any _ _ sex _ _ (by simp [go_sem])).mono ?_; rintro e w1 ⟨rfl, rfl⟩)
    all_goals
      go_wp2
      exact bodyPost_ret (v := .agg #[.int .i64 (pickI sex 3 4), .int .i64 0]) (by simp [results, Try.results89, go_sem]) rfl ⟨rfl, by (with_reducible repeat' first | exact Below.refl _ _ | assumption | (refine Below.setCell ?_ (by first | omega | (simp; omega) | (simp; done) | (dsimp only; omega)) _) | (refine Below.alloc ?_ (by first | omega | (simp; omega) | (simp; done) | (dsimp only; omega)) _) | (refine below_drewN ?_ _) | (refine Below.drew ?_))⟩
  · go_enter Try.func89, Try.ntmps89
    go_wp2_with fail
    go_region_with (with_reducible refine (pick_any _ _ sex _ _ (by simp [go_sem])).mono ?_; rintro e w1 ⟨rfl, rfl⟩)
    all_goals
      go_wp2
      exact bodyPost_ret (v := .agg #[.int .i64 (pickI sex 3 4), .int .i64 2]) (by simp [results, Try.results89, go_sem]) rfl ⟨rfl, by (with_reducible repeat' first | exact Below.refl _ _ | assumption | (refine Below.setCell ?_ (by first | omega | (simp; omega) | (simp; done) | (dsimp only; omega)) _) | (refine Below.alloc ?_ (by first | omega | (simp; omega) | (simp; done) | (dsimp only; omega)) _) | (refine below_drewN ?_ _) | (refine Below.drew ?_))⟩
  · go_enter Try.func89, Try.ntmps89
    go_wp2_with fail
    go_region_with (with_reducible refine (pick_any _ _ sex _ _ (by simp [go_sem])).mono ?_; rintro e w1 ⟨rfl, rfl⟩)
    all_goals
      go_wp2
      exact bodyPost_ret (v := .agg #[.int .i64 (pickI sex 3 4), .int .i64 1]) (by simp [results, Try.results89, go_sem]) rfl ⟨rfl, by (with_reducible repeat' first | exact Below.refl _ _ | assumption | (refine Below.setCell ?_ (by first | omega | (simp; omega) | (simp; done) | (dsimp only; omega)) _) | (refine Below.alloc ?_ (by first | omega | (simp; omega) | (simp; done) | (dsimp only; omega)) _) | (refine below_drewN ?_ _) | (refine Below.drew ?_))⟩

set_option maxHeartbeats 2000000 in
theorem backStep_any (x y sex : Int) (w : World) (hk : 1 ≤ x ∧ x ≤ 8) (hy : 0 ≤ y ∧ y ≤ 2) (hs : sex = 1 ∨ sex = 2) :
    Calls Try.prog 89 #[.agg #[.int .i64 x, .int .i64 y], .int .i64 sex] w fun e w' => e = .returned (.agg #[.int .i64 (backM ⟨x, y⟩ sex).kind, .int .i64 (backM ⟨x, y⟩ sex).age]) ∧ Below w.heap.size w w' := by
  have hcf : ∀ (args : Array Value) (w' : World), (callFunc 174 args).run Try.prog w' = .ok (.enter 174 args) w' := fun args w' => by kernel_rfl
  by_cases hsib : x = 3 ∨ x = 4
  · exact backSib_any x y sex w hsib hy hs
  rcases hs with rfl | rfl <;> rcases (by omega : x = 1 ∨ x = 2 ∨ x = 5 ∨ x = 6 ∨ x = 7 ∨ x = 8) with rfl | rfl | rfl | rfl | rfl | rfl
  · go_enter Try.func89, Try.ntmps89
    go_wp2_with (with_reducible refine (pick_any _ _ 1 _ _ (by simp [go_sem])).mono ?_; rintro e w1 ⟨rfl, rfl⟩)
    exact bodyPost_ret (v := .agg #[.int .i64 5, .int .i64 0]) (by simp [results, Try.results89, go_sem, pickI]) rfl ⟨rfl, by (with_reducible repeat' first | exact Below.refl _ _ | assumption | (refine Below.setCell ?_ (by first | omega | (simp; omega) | (simp; done) | (dsimp only; omega)) _) | (refine Below.alloc ?_ (by first | omega | (simp; omega) | (simp; done) | (dsimp only; omega)) _) | (refine below_drewN ?_ _) | (refine Below.drew ?_))⟩
  · go_enter Try.func89, Try.ntmps89
    go_wp2_with (with_reducible refine (pick_any _ _ 1 _ _ (by simp [go_sem])).mono ?_; rintro e w1 ⟨rfl, rfl⟩)
    exact bodyPost_ret (v := .agg #[.int .i64 5, .int .i64 0]) (by simp [results, Try.results89, go_sem, pickI]) rfl ⟨rfl, by (with_reducible repeat' first | exact Below.refl _ _ | assumption | (refine Below.setCell ?_ (by first | omega | (simp; omega) | (simp; done) | (dsimp only; omega)) _) | (refine Below.alloc ?_ (by first | omega | (simp; omega) | (simp; done) | (dsimp only; omega)) _) | (refine below_drewN ?_ _) | (refine Below.drew ?_))⟩
  · go_enter Try.func89, Try.ntmps89
    go_wp2_with (with_reducible refine (pick_any _ _ 1 _ _ (by simp [go_sem])).mono ?_; rintro e w1 ⟨rfl, rfl⟩)
    exact bodyPost_ret (v := .agg #[.int .i64 1, .int .i64 0]) (by simp [results, Try.results89, go_sem, pickI]) rfl ⟨rfl, by (with_reducible repeat' first | exact Below.refl _ _ | assumption | (refine Below.setCell ?_ (by first | omega | (simp; omega) | (simp; done) | (dsimp only; omega)) _) | (refine Below.alloc ?_ (by first | omega | (simp; omega) | (simp; done) | (dsimp only; omega)) _) | (refine below_drewN ?_ _) | (refine Below.drew ?_))⟩
  · go_enter Try.func89, Try.ntmps89
    go_wp2_with (with_reducible refine (pick_any _ _ 1 _ _ (by simp [go_sem])).mono ?_; rintro e w1 ⟨rfl, rfl⟩)
    exact bodyPost_ret (v := .agg #[.int .i64 1, .int .i64 0]) (by simp [results, Try.results89, go_sem, pickI]) rfl ⟨rfl, by (with_reducible repeat' first | exact Below.refl _ _ | assumption | (refine Below.setCell ?_ (by first | omega | (simp; omega) | (simp; done) | (dsimp only; omega)) _) | (refine Below.alloc ?_ (by first | omega | (simp; omega) | (simp; done) | (dsimp only; omega)) _) | (refine below_drewN ?_ _) | (refine Below.drew ?_))⟩
  · go_enter Try.func89, Try.ntmps89
    go_wp2_with (with_reducible refine (pick_any _ _ 1 _ _ (by simp [go_sem])).mono ?_; rintro e w1 ⟨rfl, rfl⟩)
    exact bodyPost_ret (v := .agg #[.int .i64 8, .int .i64 0]) (by simp [results, Try.results89, go_sem]) rfl ⟨rfl, by (with_reducible repeat' first | exact Below.refl _ _ | assumption | (refine Below.setCell ?_ (by first | omega | (simp; omega) | (simp; done) | (dsimp only; omega)) _) | (refine Below.alloc ?_ (by first | omega | (simp; omega) | (simp; done) | (dsimp only; omega)) _) | (refine below_drewN ?_ _) | (refine Below.drew ?_))⟩
  · go_enter Try.func89, Try.ntmps89
    go_wp2_with (with_reducible refine (pick_any _ _ 1 _ _ (by simp [go_sem])).mono ?_; rintro e w1 ⟨rfl, rfl⟩)
    exact bodyPost_ret (v := .agg #[.int .i64 7, .int .i64 0]) (by simp [results, Try.results89, go_sem]) rfl ⟨rfl, by (with_reducible repeat' first | exact Below.refl _ _ | assumption | (refine Below.setCell ?_ (by first | omega | (simp; omega) | (simp; done) | (dsimp only; omega)) _) | (refine Below.alloc ?_ (by first | omega | (simp; omega) | (simp; done) | (dsimp only; omega)) _) | (refine below_drewN ?_ _) | (refine Below.drew ?_))⟩
  · go_enter Try.func89, Try.ntmps89
    go_wp2_with (with_reducible refine (pick_any _ _ 2 _ _ (by simp [go_sem])).mono ?_; rintro e w1 ⟨rfl, rfl⟩)
    exact bodyPost_ret (v := .agg #[.int .i64 6, .int .i64 0]) (by simp [results, Try.results89, go_sem, pickI]) rfl ⟨rfl, by (with_reducible repeat' first | exact Below.refl _ _ | assumption | (refine Below.setCell ?_ (by first | omega | (simp; omega) | (simp; done) | (dsimp only; omega)) _) | (refine Below.alloc ?_ (by first | omega | (simp; omega) | (simp; done) | (dsimp only; omega)) _) | (refine below_drewN ?_ _) | (refine Below.drew ?_))⟩
  · go_enter Try.func89, Try.ntmps89
    go_wp2_with (with_reducible refine (pick_any _ _ 2 _ _ (by simp [go_sem])).mono ?_; rintro e w1 ⟨rfl, rfl⟩)
    exact bodyPost_ret (v := .agg #[.int .i64 6, .int .i64 0]) (by simp [results, Try.results89, go_sem, pickI]) rfl ⟨rfl, by (with_reducible repeat' first | exact Below.refl _ _ | assumption | (refine Below.setCell ?_ (by first | omega | (simp; omega) | (simp; done) | (dsimp only; omega)) _) | (refine Below.alloc ?_ (by first | omega | (simp; omega) | (simp; done) | (dsimp only; omega)) _) | (refine below_drewN ?_ _) | (refine Below.drew ?_))⟩
  · go_enter Try.func89, Try.ntmps89
    go_wp2_with (with_reducible refine (pick_any _ _ 2 _ _ (by simp [go_sem])).mono ?_; rintro e w1 ⟨rfl, rfl⟩)
    exact bodyPost_ret (v := .agg #[.int .i64 2, .int .i64 0]) (by simp [results, Try.results89, go_sem, pickI]) rfl ⟨rfl, by (with_reducible repeat' first | exact Below.refl _ _ | assumption | (refine Below.setCell ?_ (by first | omega | (simp; omega) | (simp; done) | (dsimp only; omega)) _) | (refine Below.alloc ?_ (by first | omega | (simp; omega) | (simp; done) | (dsimp only; omega)) _) | (refine below_drewN ?_ _) | (refine Below.drew ?_))⟩
  · go_enter Try.func89, Try.ntmps89
    go_wp2_with (with_reducible refine (pick_any _ _ 2 _ _ (by simp [go_sem])).mono ?_; rintro e w1 ⟨rfl, rfl⟩)
    exact bodyPost_ret (v := .agg #[.int .i64 2, .int .i64 0]) (by simp [results, Try.results89, go_sem, pickI]) rfl ⟨rfl, by (with_reducible repeat' first | exact Below.refl _ _ | assumption | (refine Below.setCell ?_ (by first | omega | (simp; omega) | (simp; done) | (dsimp only; omega)) _) | (refine Below.alloc ?_ (by first | omega | (simp; omega) | (simp; done) | (dsimp only; omega)) _) | (refine below_drewN ?_ _) | (refine Below.drew ?_))⟩
  · go_enter Try.func89, Try.ntmps89
    go_wp2_with (with_reducible refine (pick_any _ _ 2 _ _ (by simp [go_sem])).mono ?_; rintro e w1 ⟨rfl, rfl⟩)
    exact bodyPost_ret (v := .agg #[.int .i64 8, .int .i64 0]) (by simp [results, Try.results89, go_sem]) rfl ⟨rfl, by (with_reducible repeat' first | exact Below.refl _ _ | assumption | (refine Below.setCell ?_ (by first | omega | (simp; omega) | (simp; done) | (dsimp only; omega)) _) | (refine Below.alloc ?_ (by first | omega | (simp; omega) | (simp; done) | (dsimp only; omega)) _) | (refine below_drewN ?_ _) | (refine Below.drew ?_))⟩
  · go_enter Try.func89, Try.ntmps89
    go_wp2_with (with_reducible refine (pick_any _ _ 2 _ _ (by simp [go_sem])).mono ?_; rintro e w1 ⟨rfl, rfl⟩)
    exact bodyPost_ret (v := .agg #[.int .i64 7, .int .i64 0]) (by simp [results, Try.results89, go_sem]) rfl ⟨rfl, by (with_reducible repeat' first | exact Below.refl _ _ | assumption | (refine Below.setCell ?_ (by first | omega | (simp; omega) | (simp; done) | (dsimp only; omega)) _) | (refine Below.alloc ?_ (by first | omega | (simp; omega) | (simp; done) | (dsimp only; omega)) _) | (refine below_drewN ?_ _) | (refine Below.drew ?_))⟩
end Go.Proofs.Ytnnjilkjjdiblaa
