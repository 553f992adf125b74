/-
  Joining kin types, in the program and in the reference.
-/
import Derived.Test.YtnnjilkjjdiblaaMarkTyp
import Derived.Test.YtnnjilkjjdiblaaAppN
import Derived.Test.YtnnjilkjjdiblaaTyp2
import Derived.Deep.DeepCutAuto
namespace Go.Proofs.Ytnnjilkjjdiblaa
set_option maxRecDepth 100000
open Go.RowKit

theorem flatStep : FlatE EStep vsStep := ⟨flat_os, fun h => h, fun _ => rfl, fun x u hu => by simp [vsStep] at hu; rcases hu with rfl | rfl <;> rfl⟩
theorem tyStepS : SlTy EStep 28 16 := SlTy.mk' Try.underlying28 step_info rfl (by decide)
/-- A store into a block of another type leaves what is owned as it was. -/
theorem FlatE.far {α : Type} {E : Elem α} {f : α → List Value} (F : FlatE E f) {w : World} {lo hi g t i : Nat} {v u : Value} {xs : List α} {cs : Array Value} (h : E.OS w lo hi v xs) (hB : Blk w g t cs) (hne : E.e ≠ t) : E.OS (w.setCell ⟨g, i, none⟩ u) lo hi v xs :=
  F.os.2 ((F.os.1 h).loc fun b hb => Below.heap_setCell _ _ _ _ fun e => by
    obtain ⟨⟨⟨_, ho⟩, _⟩, _⟩ := And.intro (F.os.1 h) hB
    rcases ho with ⟨rfl, _⟩ | ⟨g', cap, cur, rfl, _, hc, _⟩
    · simp [Value.ownBlock] at hb
    · simp [Value.ownBlock] at hb
      subst hb
      have e' : g' = g := e
      subst e'
      unfold Blk at hB
      rw [hB] at hc
      injection hc with hc
      injection hc with _ hc
      exact hne hc.symm)
def zeroT : KinType := ⟨0, []⟩
def RetType (w : World) (m : KinType) (e : Ending) (w' : World) : Prop :=
  ∃ (A : Option Addr) (c : Nat), e = .returned (.agg #[.int .i64 m.ego, .slice A m.steps.length c]) ∧ EStep.OS w' w.heap.size w'.heap.size (.slice A m.steps.length c) m.steps ∧ Below w.heap.size w w'
def RetTypB (w : World) (m : KinType × Bool) (e : Ending) (w' : World) : Prop :=
  ∃ (A : Option Addr) (c : Nat), e = .returned (.tuple #[.agg #[.int .i64 m.1.ego, .slice A m.1.steps.length c], .bool m.2]) ∧ EStep.OS w' w.heap.size w'.heap.size (.slice A m.1.steps.length c) m.1.steps ∧ Below w.heap.size w w'
theorem RetTypB.zero {w w' : World} (h : Below w.heap.size w w') : RetTypB w (zeroT, false) (.returned (.tuple #[.agg #[.int .i64 0, .slice none 0 0], .bool false])) w' := ⟨none, 0, rfl, Elem.OS.nil, h⟩

theorem copyType_any (s : Int) (A : Option Addr) (c lo hi : Nat) (xs : List Step) (w : World) (h : EStep.AS w lo hi A xs) (hh : hi ≤ w.heap.size) (hx : xs.length ≤ 1048576) :
    Calls Try.prog 114 #[.agg #[.int .i64 s, .slice A xs.length c]] w (RetType w ⟨s, xs⟩) := by
  go_enter Try.func114, Try.ntmps114
  go_wp2_with fail
  generalize hW : (w.alloc (.cells #[.int .i64 s, .slice A xs.length c] 30)).alloc (.cells #[.int .i64 0, .slice none 0 0] 30) = W
  have r0 : Blk W (w.heap.size + 1) 30 #[.int .i64 0, .slice none 0 0] := by subst hW; exact Blk.new _ (by simp)
  have a0 : W.cell? ⟨w.heap.size, 0, none⟩ = some (.int .i64 s) := by subst hW; simp [go_sem]
  have a1 : W.cell? ⟨w.heap.size, 1, none⟩ = some (.slice A xs.length c) := by subst hW; simp [go_sem]
  have hbw : Below w.heap.size w W := by subst hW; (with_reducible repeat' first | exact Below.refl _ _ | assumption | (refine Below.setCell ?_ (by first | omega | (simp; omega) | (simp; done) | (dsimp only; omega)) _) | (refine Below.alloc ?_ (by first | omega | (simp; omega) | (simp; done) | (dsimp only; omega)) _) | (refine below_drewN ?_ _) | (refine Below.drew ?_))
  have z0 : w.heap.size + 1 + 1 = W.heap.size := by subst hW; simp
  clear hW
  replace h := h.same (Same.of_below hbw hh)
  have e0 : EStep.OS W.drew W.heap.size W.heap.size (.slice none 0 0) [] := Elem.OS.nil
  go_region_law (refine step_appN flatStep tyStepS none [] c e0 rfl h.drew _ _ rfl rfl rfl (by simp [Act.eval]) (by simpa using hx) (by decide) (Nat.le_refl _) ?_; intro A' c' w' ho hg; have rr := r0.drew.grown hg (by simp [Value.ownBlock]); have f0 := rr.free 0; have f1 := rr.free 1; have q0 := rr.cell (i := 0) rfl; have q1 := rr.cell (i := 1) rfl; have b0 := hg.cell (show W.drew.cell? ⟨w.heap.size, 0, none⟩ = some (.int .i64 s) from a0) (by simp [Value.ownBlock]); have b1 := hg.cell (show W.drew.cell? ⟨w.heap.size, 1, none⟩ = some (.slice A xs.length c) from a1) (by simp [Value.ownBlock]))
  all_goals
    have R := (rr.set 0 (.int .i64 s)).set 1 (.slice A' xs.length c')
    have hb' : Below W.heap.size W w' := Below.grown (w := W.drew) (Below.refl _ _).drew hg (Nat.le_refl _) (fun k hk => by simp [Value.ownBlock] at hk)
    simp only [List.nil_append] at ho
    have zz := hb'.size
    go_wp2_with fail
    exact bodyPost_ret (v := .agg #[.int .i64 s, .slice A' xs.length c']) (by simp [results, Try.results114, go_sem, R.cell (i := 0) rfl, R.cell (i := 1) rfl]) rfl ⟨A', c', rfl, (ho.same (by (with_reducible repeat' first | exact Same.refl _ _ _ | assumption | (refine Same.setCell ?_ (by first | omega | (simp; omega) | (simp; done) | (dsimp only; omega)) _) | (refine Same.alloc ?_ (by first | omega | (simp; omega) | (simp; done) | (dsimp only; omega)) _) | (refine Same.drewN ?_ _) | (refine Same.drew ?_)))).mono (by first | omega | (simp; omega) | (simp; done) | (dsimp only; omega)) (by first | omega | (simp; omega) | (simp; done) | (dsimp only; omega)), by (with_reducible repeat' first | exact Below.refl _ _ | assumption | (refine Below.setCell ?_ (by first | omega | (simp; omega) | (simp; done) | (dsimp only; omega)) _) | (refine Below.alloc ?_ (by first | omega | (simp; omega) | (simp; done) | (dsimp only; omega)) _) | (refine below_drewN ?_ _) | (refine Below.drew ?_) | (refine Below.trans ?_ (hb'.mono (by first | omega | (simp; omega) | (simp; done) | (dsimp only; omega)))) | (refine Below.trans ?_ (hbw.mono (by first | omega | (simp; omega) | (simp; done) | (dsimp only; omega)))))⟩

def clash (t u : KinType) : Bool := decide (u.ego ≠ 0 ∧ sexM t ≠ 0 ∧ u.ego ≠ sexM t)
def joinedT (t u : KinType) : KinType := ⟨if t.ego = 0 ∧ t.steps.length = 0 then u.ego else t.ego, t.steps ++ u.steps⟩
def badJ (t u : KinType) : Bool := !typeOk t || !typeOk u || clash t u
def joinT (t u : KinType) : KinType × Bool := if badJ t u = false ∧ typeOk (joinedT t u) = true then (joinedT t u, true) else (zeroT, false)
theorem joinT_bad {t u : KinType} (h : badJ t u = true) : joinT t u = (zeroT, false) := if_neg fun k => by rw [h] at k; cases k.1
theorem joinT_not {t u : KinType} (h : typeOk (joinedT t u) = false) : joinT t u = (zeroT, false) := if_neg fun k => by rw [h] at k; cases k.2
theorem joinT_good {t u : KinType} (h : badJ t u = false) (h' : typeOk (joinedT t u) = true) : joinT t u = (joinedT t u, true) := if_pos ⟨h, h'⟩

end Go.Proofs.Ytnnjilkjjdiblaa
