/-
  The law FnExactParseFamily: the walk.
-/
import Derived.Test.YthpcippgifmabaaGreatDoorConvFam
import Derived.Test.YthpcippgifmabaaGreatDoorOpen
import Derived.Test.YthpcippgifmabaaGreatDoorParsI
import Derived.Test.YthpcippgifmabaaGreatDoorParsL
import Derived.Test.YthpcippgifmabaaGreatDoorParsS
namespace Go.Proofs.YthpcippgifmabaaGreatDoor
set_option maxRecDepth 100000
open Go.ChangeShapes Go.WideShapes Go.ChangeAt Go.RowKit

set_option maxHeartbeats 8000000 in
theorem FnExactParseFamily_walk (s0 : ByteArray) (w : World) (_l0 : s0.size ≤ reachBytes) (hv : Vars w) :
    Calls Tryz.prog 3 #[.string s0] w fun e w' => e = .returned (.bool true) ∧ Below w.heap.size w w' := by
  have HV := Lib.hid hv
  clear hv
  go_enter Tryz.func3, Tryz.ntmps3
  have hb : Below w.heap.size w w := Below.refl _ _
  go_wp2_with fail
  · go_ret
    exact ⟨rfl, Below.refl _ _⟩
  refine (specParseFamily_any _ _ (by first | assumption | omega | (simp; omega) | exact OS_cap (by assumption))).mono ?_
  rintro e w1 ⟨A3, c4, A6, c7, rfl, o5, o8, hb2⟩
  (replace hb := hb.trans (hb2.mono (by first | omega | (simp; omega) | (simp; done) | (dsimp only; omega))); have zhb2 := hb2.size; clear hb2)
  have bd9 : (parseS s0).1.people.length ≤ 40 ∧ (parseS s0).1.unions.length ≤ 60 := parseS_len _
  go_wp2_with fail
  generalize hW12 : w1.alloc (.cells #[.slice A3 (parseS s0).1.people.length c4, .slice A6 (parseS s0).1.unions.length c7] 25) = W11
  have hb13 : Below w1.heap.size w1 W11 := by subst hW12; (with_reducible repeat' first | exact Below.refl _ _ | assumption | (refine Below.setCell ?_ (by first | omega | (simp; omega) | (simp; done) | (dsimp only; omega)) _) | (refine Below.alloc ?_ (by first | omega | (simp; omega) | (simp; done) | (dsimp only; omega)) _) | (refine below_drewN ?_ _) | (refine Below.drew ?_))
  have z14 : w1.heap.size + 1 ≤ W11.heap.size := by subst hW12; simp
  have a15 : W11.cell? ⟨w1.heap.size, 0, none⟩ = some (.slice A3 (parseS s0).1.people.length c4) := by subst hW12; simp [go_sem]
  have a16 : W11.cell? ⟨w1.heap.size, 1, none⟩ = some (.slice A6 (parseS s0).1.unions.length c7) := by subst hW12; simp [go_sem]
  clear hW12
  (replace o5 := o5.same (Same.of_below hb13 (by first | omega | (simp; omega) | (simp; done) | (dsimp only; omega))); replace o8 := o8.same (Same.of_below hb13 (by first | omega | (simp; omega) | (simp; done) | (dsimp only; omega))); replace hb := hb.trans (hb13.mono (by first | omega | (simp; omega) | (simp; done) | (dsimp only; omega))); have zhb13 := hb13.size; clear hb13)
  refine (implParseFamily_any _ _ (by first | assumption | omega | (simp; omega) | exact OS_cap (by assumption)) (HV.out.below hb)).mono ?_
  rintro e w17 ⟨A19, c20, A22, c23, rfl, o21, o24, hb18⟩
  (replace a15 := (hb18.cell (by first | omega | (simp; omega) | (simp; done) | (dsimp only; omega))).trans a15; replace a16 := (hb18.cell (by first | omega | (simp; omega) | (simp; done) | (dsimp only; omega))).trans a16; replace o5 := o5.same (Same.of_below hb18 (by first | omega | (simp; omega) | (simp; done) | (dsimp only; omega))); replace o8 := o8.same (Same.of_below hb18 (by first | omega | (simp; omega) | (simp; done) | (dsimp only; omega))); replace hb := hb.trans (hb18.mono (by first | omega | (simp; omega) | (simp; done) | (dsimp only; omega))); have zhb18 := hb18.size; clear hb18)
  have bd25 : (parseS s0).1.people.length ≤ 40 ∧ (parseS s0).1.unions.length ≤ 60 := parseS_len _
  have l27 : w1.heap.size < w17.heap.size := by omega
  go_wp2_with fail
  generalize hW29 : w17.alloc (.cells #[.slice A19 (parseS s0).1.people.length c20, .slice A22 (parseS s0).1.unions.length c23] 25) = W28
  have hb30 : Below w17.heap.size w17 W28 := by subst hW29; (with_reducible repeat' first | exact Below.refl _ _ | assumption | (refine Below.setCell ?_ (by first | omega | (simp; omega) | (simp; done) | (dsimp only; omega)) _) | (refine Below.alloc ?_ (by first | omega | (simp; omega) | (simp; done) | (dsimp only; omega)) _) | (refine below_drewN ?_ _) | (refine Below.drew ?_))
  have z31 : w17.heap.size + 1 ≤ W28.heap.size := by subst hW29; simp
  have a32 : W28.cell? ⟨w17.heap.size, 0, none⟩ = some (.slice A19 (parseS s0).1.people.length c20) := by subst hW29; simp [go_sem]
  have a33 : W28.cell? ⟨w17.heap.size, 1, none⟩ = some (.slice A22 (parseS s0).1.unions.length c23) := by subst hW29; simp [go_sem]
  clear hW29
  (replace a15 := (hb30.cell (by first | omega | (simp; omega) | (simp; done) | (dsimp only; omega))).trans a15; replace a16 := (hb30.cell (by first | omega | (simp; omega) | (simp; done) | (dsimp only; omega))).trans a16; replace o5 := o5.same (Same.of_below hb30 (by first | omega | (simp; omega) | (simp; done) | (dsimp only; omega))); replace o8 := o8.same (Same.of_below hb30 (by first | omega | (simp; omega) | (simp; done) | (dsimp only; omega))); replace o21 := o21.same (Same.of_below hb30 (by first | omega | (simp; omega) | (simp; done) | (dsimp only; omega))); replace o24 := o24.same (Same.of_below hb30 (by first | omega | (simp; omega) | (simp; done) | (dsimp only; omega))); replace hb := hb.trans (hb30.mono (by first | omega | (simp; omega) | (simp; done) | (dsimp only; omega))); have zhb30 := hb30.size; clear hb30)
  refine (eqFamily_any _ _ _ _ _ _ _ _ _ _ _ _ _ _ _ _ _ o21.read.as o24.read.as o5.read.as o8.read.as (by first | omega | (simp; omega) | (simp; done) | (dsimp only; omega)) (by first | omega | (simp; omega) | (simp; done) | (dsimp only; omega))).mono ?_
  rintro e w34 ⟨rfl, hb35⟩
  try simp only [eqB_refl]
  (replace a15 := (hb35.cell (by first | omega | (simp; omega) | (simp; done) | (dsimp only; omega))).trans a15; replace a16 := (hb35.cell (by first | omega | (simp; omega) | (simp; done) | (dsimp only; omega))).trans a16; replace a32 := (hb35.cell (by first | omega | (simp; omega) | (simp; done) | (dsimp only; omega))).trans a32; replace a33 := (hb35.cell (by first | omega | (simp; omega) | (simp; done) | (dsimp only; omega))).trans a33; replace o5 := o5.same (Same.of_below hb35 (by first | omega | (simp; omega) | (simp; done) | (dsimp only; omega))); replace o8 := o8.same (Same.of_below hb35 (by first | omega | (simp; omega) | (simp; done) | (dsimp only; omega))); replace o21 := o21.same (Same.of_below hb35 (by first | omega | (simp; omega) | (simp; done) | (dsimp only; omega))); replace o24 := o24.same (Same.of_below hb35 (by first | omega | (simp; omega) | (simp; done) | (dsimp only; omega))); replace hb := hb.trans (hb35.mono (by first | omega | (simp; omega) | (simp; done) | (dsimp only; omega))); have zhb35 := hb35.size; clear hb35)
  go_wp2_with fail
  refine (markFamily_any _ _ _ _ _ _ _ _ _ _ o21 o24 (by first | omega | (simp; omega) | (simp; done) | (dsimp only; omega)) (by first | assumption | omega | (simp; omega) | exact OS_cap (by assumption)) (by first | assumption | omega | (simp; omega) | exact OS_cap (by assumption))).mono ?_
  rintro e w36 ⟨rfl, o38, o39, hb37⟩
  (replace a15 := (hb37.cell (by first | omega | (simp; omega) | (simp; done) | (dsimp only; omega)) (by first | omega | (simp; omega) | (simp; done) | (dsimp only; omega))).trans a15; replace a16 := (hb37.cell (by first | omega | (simp; omega) | (simp; done) | (dsimp only; omega)) (by first | omega | (simp; omega) | (simp; done) | (dsimp only; omega))).trans a16; replace a32 := (hb37.cell (by first | omega | (simp; omega) | (simp; done) | (dsimp only; omega)) (by first | omega | (simp; omega) | (simp; done) | (dsimp only; omega))).trans a32; replace a33 := (hb37.cell (by first | omega | (simp; omega) | (simp; done) | (dsimp only; omega)) (by first | omega | (simp; omega) | (simp; done) | (dsimp only; omega))).trans a33; replace o5 := o5.same (Same.of_chg hb37 (by first | omega | (simp; omega) | (simp; done) | (dsimp only; omega)) (by first | omega | (simp; omega) | (simp; done) | (dsimp only; omega))); replace o8 := o8.same (Same.of_chg hb37 (by first | omega | (simp; omega) | (simp; done) | (dsimp only; omega)) (by first | omega | (simp; omega) | (simp; done) | (dsimp only; omega))); replace hb := hb.trans (hb37.below (by first | omega | (simp; omega) | (simp; done) | (dsimp only; omega)) (by first | omega | (simp; omega) | (simp; done) | (dsimp only; omega))); have zhb37 := hb37.size; clear hb37)
  clear o21 o24
  go_wp2_with fail
  refine (heldFamily_any _ _ _ _ _ _ _ _ _ _ o38.read.as o39.read.as (by first | omega | (simp; omega) | (simp; done) | (dsimp only; omega)) (by first | assumption | omega | (simp; omega) | exact OS_cap (by assumption)) (by first | assumption | omega | (simp; omega) | exact OS_cap (by assumption))).mono ?_
  rintro e w40 ⟨rfl, hb41⟩
  (replace a15 := (hb41.cell (by first | omega | (simp; omega) | (simp; done) | (dsimp only; omega))).trans a15; replace a16 := (hb41.cell (by first | omega | (simp; omega) | (simp; done) | (dsimp only; omega))).trans a16; replace a32 := (hb41.cell (by first | omega | (simp; omega) | (simp; done) | (dsimp only; omega))).trans a32; replace a33 := (hb41.cell (by first | omega | (simp; omega) | (simp; done) | (dsimp only; omega))).trans a33; replace o5 := o5.same (Same.of_below hb41 (by first | omega | (simp; omega) | (simp; done) | (dsimp only; omega))); replace o8 := o8.same (Same.of_below hb41 (by first | omega | (simp; omega) | (simp; done) | (dsimp only; omega))); replace o38 := o38.same (Same.of_below hb41 (by first | omega | (simp; omega) | (simp; done) | (dsimp only; omega))); replace o39 := o39.same (Same.of_below hb41 (by first | omega | (simp; omega) | (simp; done) | (dsimp only; omega))); replace hb := hb.trans (hb41.mono (by first | omega | (simp; omega) | (simp; done) | (dsimp only; omega))); have zhb41 := hb41.size; clear hb41)
  go_wp2_with fail
  refine (implParseFamily_any _ _ (by first | assumption | omega | (simp; omega) | exact OS_cap (by assumption)) (HV.out.below hb)).mono ?_
  rintro e w42 ⟨A44, c45, A47, c48, rfl, o46, o49, hb43⟩
  (replace a15 := (hb43.cell (by first | omega | (simp; omega) | (simp; done) | (dsimp only; omega))).trans a15; replace a16 := (hb43.cell (by first | omega | (simp; omega) | (simp; done) | (dsimp only; omega))).trans a16; replace a32 := (hb43.cell (by first | omega | (simp; omega) | (simp; done) | (dsimp only; omega))).trans a32; replace a33 := (hb43.cell (by first | omega | (simp; omega) | (simp; done) | (dsimp only; omega))).trans a33; replace o5 := o5.same (Same.of_below hb43 (by first | omega | (simp; omega) | (simp; done) | (dsimp only; omega))); replace o8 := o8.same (Same.of_below hb43 (by first | omega | (simp; omega) | (simp; done) | (dsimp only; omega))); replace o38 := o38.same (Same.of_below hb43 (by first | omega | (simp; omega) | (simp; done) | (dsimp only; omega))); replace o39 := o39.same (Same.of_below hb43 (by first | omega | (simp; omega) | (simp; done) | (dsimp only; omega))); replace hb := hb.trans (hb43.mono (by first | omega | (simp; omega) | (simp; done) | (dsimp only; omega))); have zhb43 := hb43.size; clear hb43)
  have bd50 : (parseS s0).1.people.length ≤ 40 ∧ (parseS s0).1.unions.length ≤ 60 := parseS_len _
  have l52 : w1.heap.size < w42.heap.size := by omega
  have l53 : w17.heap.size < w42.heap.size := by omega
  go_wp2_with fail
  generalize hW55 : w42.alloc (.cells #[.slice A44 (parseS s0).1.people.length c45, .slice A47 (parseS s0).1.unions.length c48] 25) = W54
  have hb56 : Below w42.heap.size w42 W54 := by subst hW55; (with_reducible repeat' first | exact Below.refl _ _ | assumption | (refine Below.setCell ?_ (by first | omega | (simp; omega) | (simp; done) | (dsimp only; omega)) _) | (refine Below.alloc ?_ (by first | omega | (simp; omega) | (simp; done) | (dsimp only; omega)) _) | (refine below_drewN ?_ _) | (refine Below.drew ?_))
  have z57 : w42.heap.size + 1 ≤ W54.heap.size := by subst hW55; simp
  have a58 : W54.cell? ⟨w42.heap.size, 0, none⟩ = some (.slice A44 (parseS s0).1.people.length c45) := by subst hW55; simp [go_sem]
  have a59 : W54.cell? ⟨w42.heap.size, 1, none⟩ = some (.slice A47 (parseS s0).1.unions.length c48) := by subst hW55; simp [go_sem]
  clear hW55
  (replace a15 := (hb56.cell (by first | omega | (simp; omega) | (simp; done) | (dsimp only; omega))).trans a15; replace a16 := (hb56.cell (by first | omega | (simp; omega) | (simp; done) | (dsimp only; omega))).trans a16; replace a32 := (hb56.cell (by first | omega | (simp; omega) | (simp; done) | (dsimp only; omega))).trans a32; replace a33 := (hb56.cell (by first | omega | (simp; omega) | (simp; done) | (dsimp only; omega))).trans a33; replace o5 := o5.same (Same.of_below hb56 (by first | omega | (simp; omega) | (simp; done) | (dsimp only; omega))); replace o8 := o8.same (Same.of_below hb56 (by first | omega | (simp; omega) | (simp; done) | (dsimp only; omega))); replace o38 := o38.same (Same.of_below hb56 (by first | omega | (simp; omega) | (simp; done) | (dsimp only; omega))); replace o39 := o39.same (Same.of_below hb56 (by first | omega | (simp; omega) | (simp; done) | (dsimp only; omega))); replace o46 := o46.same (Same.of_below hb56 (by first | omega | (simp; omega) | (simp; done) | (dsimp only; omega))); replace o49 := o49.same (Same.of_below hb56 (by first | omega | (simp; omega) | (simp; done) | (dsimp only; omega))); replace hb := hb.trans (hb56.mono (by first | omega | (simp; omega) | (simp; done) | (dsimp only; omega))); have zhb56 := hb56.size; clear hb56)
  refine (eqFamily_any _ _ _ _ _ _ _ _ _ _ _ _ _ _ _ _ _ o46.read.as o49.read.as o5.read.as o8.read.as (by first | omega | (simp; omega) | (simp; done) | (dsimp only; omega)) (by first | omega | (simp; omega) | (simp; done) | (dsimp only; omega))).mono ?_
  rintro e w60 ⟨rfl, hb61⟩
  try simp only [eqB_refl]
  (replace a15 := (hb61.cell (by first | omega | (simp; omega) | (simp; done) | (dsimp only; omega))).trans a15; replace a16 := (hb61.cell (by first | omega | (simp; omega) | (simp; done) | (dsimp only; omega))).trans a16; replace a32 := (hb61.cell (by first | omega | (simp; omega) | (simp; done) | (dsimp only; omega))).trans a32; replace a33 := (hb61.cell (by first | omega | (simp; omega) | (simp; done) | (dsimp only; omega))).trans a33; replace a58 := (hb61.cell (by first | omega | (simp; omega) | (simp; done) | (dsimp only; omega))).trans a58; replace a59 := (hb61.cell (by first | omega | (simp; omega) | (simp; done) | (dsimp only; omega))).trans a59; replace o5 := o5.same (Same.of_below hb61 (by first | omega | (simp; omega) | (simp; done) | (dsimp only; omega))); replace o8 := o8.same (Same.of_below hb61 (by first | omega | (simp; omega) | (simp; done) | (dsimp only; omega))); replace o38 := o38.same (Same.of_below hb61 (by first | omega | (simp; omega) | (simp; done) | (dsimp only; omega))); replace o39 := o39.same (Same.of_below hb61 (by first | omega | (simp; omega) | (simp; done) | (dsimp only; omega))); replace o46 := o46.same (Same.of_below hb61 (by first | omega | (simp; omega) | (simp; done) | (dsimp only; omega))); replace o49 := o49.same (Same.of_below hb61 (by first | omega | (simp; omega) | (simp; done) | (dsimp only; omega))); replace hb := hb.trans (hb61.mono (by first | omega | (simp; omega) | (simp; done) | (dsimp only; omega))); have zhb61 := hb61.size; clear hb61)
  go_wp2_with fail
  refine (heldFamily_any _ _ _ _ _ _ _ _ _ _ o38.read.as o39.read.as (by first | omega | (simp; omega) | (simp; done) | (dsimp only; omega)) (by first | assumption | omega | (simp; omega) | exact OS_cap (by assumption)) (by first | assumption | omega | (simp; omega) | exact OS_cap (by assumption))).mono ?_
  rintro e w62 ⟨rfl, hb63⟩
  (replace a15 := (hb63.cell (by first | omega | (simp; omega) | (simp; done) | (dsimp only; omega))).trans a15; replace a16 := (hb63.cell (by first | omega | (simp; omega) | (simp; done) | (dsimp only; omega))).trans a16; replace a32 := (hb63.cell (by first | omega | (simp; omega) | (simp; done) | (dsimp only; omega))).trans a32; replace a33 := (hb63.cell (by first | omega | (simp; omega) | (simp; done) | (dsimp only; omega))).trans a33; replace a58 := (hb63.cell (by first | omega | (simp; omega) | (simp; done) | (dsimp only; omega))).trans a58; replace a59 := (hb63.cell (by first | omega | (simp; omega) | (simp; done) | (dsimp only; omega))).trans a59; replace o5 := o5.same (Same.of_below hb63 (by first | omega | (simp; omega) | (simp; done) | (dsimp only; omega))); replace o8 := o8.same (Same.of_below hb63 (by first | omega | (simp; omega) | (simp; done) | (dsimp only; omega))); replace o38 := o38.same (Same.of_below hb63 (by first | omega | (simp; omega) | (simp; done) | (dsimp only; omega))); replace o39 := o39.same (Same.of_below hb63 (by first | omega | (simp; omega) | (simp; done) | (dsimp only; omega))); replace o46 := o46.same (Same.of_below hb63 (by first | omega | (simp; omega) | (simp; done) | (dsimp only; omega))); replace o49 := o49.same (Same.of_below hb63 (by first | omega | (simp; omega) | (simp; done) | (dsimp only; omega))); replace hb := hb.trans (hb63.mono (by first | omega | (simp; omega) | (simp; done) | (dsimp only; omega))); have zhb63 := hb63.size; clear hb63)
  go_wp2_with fail
  go_ret
  exact ⟨rfl, hb⟩

end Go.Proofs.YthpcippgifmabaaGreatDoor
