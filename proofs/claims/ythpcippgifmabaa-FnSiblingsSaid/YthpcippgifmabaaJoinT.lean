/-
  Joining kin types, in the program and in the reference.
-/
import Derived.Test.YthpcippgifmabaaMarkTyp
import Derived.Test.YthpcippgifmabaaAppN
import Derived.Test.YthpcippgifmabaaTyp2
import Derived.Deep.DeepCutAuto
namespace Go.Proofs.Ythpcippgifmabaa
set_option maxRecDepth 100000
open Go.RowKit

/-- A store into a block of another type leaves what is owned as it was. -/
theorem FlatE.far {α : Type} {E : Elem α} {f : α → List Value} (F : FlatE E f) {w : World} {lo hi g t i : Nat} {v u : Value} {xs : List α} {cs : Array Value} (h : E.OS w lo hi v xs) (hB : Blk w g t cs) (hne : E.e ≠ t) : E.OS (w.setCell ⟨g, i, none⟩ u) lo hi v xs :=
  F.os.2 ((F.os.1 h).loc fun b hb => Below.heap_setCell _ _ _ _ fun e => by
    obtain ⟨⟨⟨_, ho⟩, _⟩, _⟩ := And.intro (F.os.1 h) hB
    rcases ho with ⟨rfl, _⟩ | ⟨g', cap, cur, rfl, _, hc, _⟩
    · simp [Value.ownBlock] at hb
    · simp [Value.ownBlock] at hb
      subst hb
      have e' : g' = g := e
      subst e'
      unfold Blk at hB
      rw [hB] at hc
      injection hc with hc
      injection hc with _ hc
      exact hne hc.symm)
def zeroT : KinType := ⟨0, []⟩
def clash (t u : KinType) : Bool := decide (u.ego ≠ 0 ∧ sexM t ≠ 0 ∧ u.ego ≠ sexM t)
def joinedT (t u : KinType) : KinType := ⟨if t.ego = 0 ∧ t.steps.length = 0 then u.ego else t.ego, t.steps ++ u.steps⟩
def badJ (t u : KinType) : Bool := !typeOk t || !typeOk u || clash t u
def joinT (t u : KinType) : KinType × Bool := if badJ t u = false ∧ typeOk (joinedT t u) = true then (joinedT t u, true) else (zeroT, false)
theorem joinT_bad {t u : KinType} (h : badJ t u = true) : joinT t u = (zeroT, false) := if_neg fun k => by rw [h] at k; cases k.1
theorem joinT_not {t u : KinType} (h : typeOk (joinedT t u) = false) : joinT t u = (zeroT, false) := if_neg fun k => by rw [h] at k; cases k.2
theorem joinT_good {t u : KinType} (h : badJ t u = false) (h' : typeOk (joinedT t u) = true) : joinT t u = (joinedT t u, true) := if_pos ⟨h, h'⟩

end Go.Proofs.Ythpcippgifmabaa
