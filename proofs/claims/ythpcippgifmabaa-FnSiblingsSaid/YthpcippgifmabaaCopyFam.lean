/-
  Copies of a family.
-/
import Derived.Test.YthpcippgifmabaaConvFam
import Derived.Test.YthpcippgifmabaaAppN
import Derived.Deep.Cut
import Derived.Deep.DeepCutAuto
namespace Go.Proofs.Ythpcippgifmabaa
set_option maxRecDepth 100000
open Go.RowKit

theorem flatPerson : FlatE EPerson vsPerson := ⟨flat_os, fun h => h, fun _ => rfl, fun x u hu => by simp [vsPerson] at hu; rcases hu with rfl | rfl | rfl | rfl | rfl | rfl <;> rfl⟩
theorem tyPersonS : SlTy EPerson 23 56 := SlTy.mk' Try.underlying23 person_info rfl (by decide)
theorem flatUnion : FlatE EUnion vsUnion := ⟨flat_os, fun h => h, fun _ => rfl, fun x u hu => by simp [vsUnion] at hu; rcases hu with rfl | rfl | rfl | rfl <;> rfl⟩
theorem tyUnionS : SlTy EUnion 24 32 := SlTy.mk' Try.underlying24 union_info rfl (by decide)
def RetFam (w : World) (xs : List Person) (ys : List Union) (e : Ending) (w' : World) : Prop :=
  ∃ (A : Option Addr) (c : Nat) (B : Option Addr) (d : Nat), e = .returned (.agg #[.slice A xs.length c, .slice B ys.length d]) ∧ EPerson.OS w' w.heap.size w'.heap.size (.slice A xs.length c) xs ∧ EUnion.OS w' w.heap.size w'.heap.size (.slice B ys.length d) ys ∧ Below w.heap.size w w'

set_option maxHeartbeats 2000000 in
theorem l1Copy_any (A B : Option Addr) (c d lo hi : Nat) (xs : List Person) (ys : List Union) (w : World) (h : EPerson.AS w lo hi A xs) (h' : EUnion.AS w lo hi B ys) (hh : hi ≤ w.heap.size) (hx : xs.length ≤ 1048576) (hy : ys.length ≤ 1048576) :
    Calls Try.prog 85 #[.agg #[.slice A xs.length c, .slice B ys.length d]] w (RetFam w xs ys) := by
  go_enter Try.func85, Try.ntmps85
  go_upto_region 2 with fail
  generalize hW : ((w.alloc (.cells #[.slice A xs.length c, .slice B ys.length d] 26)).alloc (.cells #[.slice none 0 0, .slice none 0 0] 26)).alloc (.cells #[.slice none 0 0, .slice none 0 0] 26) = W
  have a0 : W.cell? ⟨w.heap.size, 0, none⟩ = some (.slice A xs.length c) := by subst hW; simp [go_sem]
  have a1 : W.cell? ⟨w.heap.size, 1, none⟩ = some (.slice B ys.length d) := by subst hW; simp [go_sem]
  have R : Blk W (w.heap.size + 1) 26 #[.slice none 0 0, .slice none 0 0] := by subst hW; exact (Blk.new _ (by simp)).alloc _
  have O : Blk W (w.heap.size + 1 + 1) 26 #[.slice none 0 0, .slice none 0 0] := by subst hW; exact Blk.new _ (by simp)
  have hb : Below w.heap.size w W := by subst hW; (with_reducible repeat' first | exact Below.refl _ _ | assumption | (refine Below.setCell ?_ (by first | omega | (simp; omega) | (simp; done) | (dsimp only; omega)) _) | (refine Below.alloc ?_ (by first | omega | (simp; omega) | (simp; done) | (dsimp only; omega)) _) | (refine below_drewN ?_ _) | (refine Below.drew ?_))
  have z : w.heap.size + 1 + 1 + 1 ≤ W.heap.size := by subst hW; simp
  clear hW
  replace h := h.same (Same.of_below hb hh)
  replace h' := h'.same (Same.of_below hb hh)
  have q0 := O.cell (i := 0) rfl
  have q1 := O.cell (i := 1) rfl
  have f0 := O.free 0
  have tk : True := True.intro
  go_wp2_with (first
    | (clear tk; at_builtin; refine wpList_appN flatPerson tyPersonS none [] c (Elem.OS.nil (lo := W.heap.size) (hi := W.heap.size)) rfl h _ _ rfl rfl rfl rfl (by simpa using hx) (by decide) (Nat.le_refl _) ?_; intro A1 c1 w1 o1 hg1; simp only [List.nil_append] at o1 ⊢; have hb1 : Below W.heap.size W w1 := Below.grown (w := W) (Below.refl _ _) hg1 (Nat.le_refl _) (fun k hk => by simp [Value.ownBlock] at hk); replace a0 := (hb1.cell (by first | omega | (simp; omega) | (simp; done) | (dsimp only; omega))).trans a0; replace a1 := (hb1.cell (by first | omega | (simp; omega) | (simp; done) | (dsimp only; omega))).trans a1; replace R := R.below hb1 (by first | omega | (simp; omega) | (simp; done) | (dsimp only; omega)); replace O := O.below hb1 (by first | omega | (simp; omega) | (simp; done) | (dsimp only; omega)); replace h' := h'.same (Same.of_below hb1 (by first | omega | (simp; omega) | (simp; done) | (dsimp only; omega))); replace hb := hb.trans (hb1.mono (by first | omega | (simp; omega) | (simp; done) | (dsimp only; omega))); have z1 := hb1.size; replace q0 := O.cell (i := 0) rfl; replace q1 := O.cell (i := 1) rfl; replace f0 := O.free 0; clear hb1 hg1)
    | (at_builtin; refine wpList_appN flatUnion tyUnionS none [] d (Elem.OS.nil (lo := w1.heap.size) (hi := w1.heap.size)) rfl (h'.same (by (with_reducible repeat' first | exact Same.refl _ _ _ | assumption | (refine Same.setCell ?_ (by first | omega | (simp; omega) | (simp; done) | (dsimp only; omega)) _) | (refine Same.alloc ?_ (by first | omega | (simp; omega) | (simp; done) | (dsimp only; omega)) _) | (refine Same.drewN ?_ _) | (refine Same.drew ?_)))) _ _ rfl rfl rfl rfl (by simpa using hy) (by decide) (by simp [World.setCell]) ?_; intro A2 c2 w2 o2 hg2; simp only [List.nil_append] at o2 ⊢; have hb2 : Below w1.heap.size (w1.setCell ⟨w.heap.size + 1 + 1, 0, none⟩ (.slice A1 xs.length c1)) w2 := Below.grown (w := _) (Below.refl _ _) hg2 (by simp [World.setCell]) (fun k hk => by simp [Value.ownBlock] at hk); have O2 := (O.set 0 (.slice A1 xs.length c1)).below hb2 (by first | omega | (simp; omega) | (simp; done) | (dsimp only; omega)); have R2 := (R.far (p := ⟨w.heap.size + 1 + 1, 0, none⟩) (by first | omega | (simp; omega) | (simp; done) | (dsimp only; omega)) (.slice A1 xs.length c1)).below hb2 (by first | omega | (simp; omega) | (simp; done) | (dsimp only; omega)); have hs1 : Same W.heap.size w1.heap.size w1 (w1.setCell ⟨w.heap.size + 1 + 1, 0, none⟩ (.slice A1 xs.length c1)) := (by (with_reducible repeat' first | exact Same.refl _ _ _ | assumption | (refine Same.setCell ?_ (by first | omega | (simp; omega) | (simp; done) | (dsimp only; omega)) _) | (refine Same.alloc ?_ (by first | omega | (simp; omega) | (simp; done) | (dsimp only; omega)) _) | (refine Same.drewN ?_ _) | (refine Same.drew ?_))); have o1' := (o1.same hs1).same (Same.of_below hb2 (Nat.le_refl _)); have hbs : Below w.heap.size w (w1.setCell ⟨w.heap.size + 1 + 1, 0, none⟩ (.slice A1 xs.length c1)) := (by (with_reducible repeat' first | exact Below.refl _ _ | assumption | (refine Below.setCell ?_ (by first | omega | (simp; omega) | (simp; done) | (dsimp only; omega)) _) | (refine Below.alloc ?_ (by first | omega | (simp; omega) | (simp; done) | (dsimp only; omega)) _) | (refine below_drewN ?_ _) | (refine Below.drew ?_) | (refine Below.trans ?_ (hb.mono (by first | omega | (simp; omega) | (simp; done) | (dsimp only; omega)))))); have hbx := hbs.trans (hb2.mono (by omega)); have z2 := hb2.size; (try simp only [szs] at z2); have t0 := O2.cell (i := 0) rfl; have t1 := O2.cell (i := 1) rfl; have u1 := O2.free 1; have r0 := R2.cell (i := 0) rfl; have r1 := R2.cell (i := 1) rfl; have v0 := R2.free 0; have v1 := R2.free 1; clear hb2 hg2))
  have RR := ((R2.far (p := ⟨w.heap.size + 1 + 1, 1, none⟩) (by first | omega | (simp; omega) | (simp; done) | (dsimp only; omega)) (.slice A2 ys.length c2)).set 0 (.slice A1 xs.length c1)).set 1 (.slice A2 ys.length c2)
  exact bodyPost_ret (v := .agg #[.slice A1 xs.length c1, .slice A2 ys.length c2]) (by simp [results, Try.results85, go_sem, RR.cell (i := 0) rfl, RR.cell (i := 1) rfl]) rfl ⟨A1, c1, A2, c2, rfl, (o1'.same (by (with_reducible repeat' first | exact Same.refl _ _ _ | assumption | (refine Same.setCell ?_ (by first | omega | (simp; omega) | (simp; done) | (dsimp only; omega)) _) | (refine Same.alloc ?_ (by first | omega | (simp; omega) | (simp; done) | (dsimp only; omega)) _) | (refine Same.drewN ?_ _) | (refine Same.drew ?_)))).mono (by first | omega | (simp; omega) | (simp; done) | (dsimp only; omega)) (by first | omega | (simp; omega) | (simp; done) | (dsimp only; omega)), (o2.same (by (with_reducible repeat' first | exact Same.refl _ _ _ | assumption | (refine Same.setCell ?_ (by first | omega | (simp; omega) | (simp; done) | (dsimp only; omega)) _) | (refine Same.alloc ?_ (by first | omega | (simp; omega) | (simp; done) | (dsimp only; omega)) _) | (refine Same.drewN ?_ _) | (refine Same.drew ?_)))).mono (by first | omega | (simp; omega) | (simp; done) | (dsimp only; omega)) (by first | omega | (simp; omega) | (simp; done) | (dsimp only; omega)), by (with_reducible repeat' first | exact Below.refl _ _ | assumption | (refine Below.setCell ?_ (by first | omega | (simp; omega) | (simp; done) | (dsimp only; omega)) _) | (refine Below.alloc ?_ (by first | omega | (simp; omega) | (simp; done) | (dsimp only; omega)) _) | (refine below_drewN ?_ _) | (refine Below.drew ?_) | (refine Below.trans ?_ (hbx.mono (by first | omega | (simp; omega) | (simp; done) | (dsimp only; omega)))))⟩

end Go.Proofs.Ythpcippgifmabaa
