/-
  sort.Slice with a comparison that lays blocks.
-/
import Derived.Test.YthpcippgifmabaaSortP
import Derived.Shelf.GgSortFunc.Tiny
namespace Go.Proofs.Ythpcippgifmabaa
set_option maxRecDepth 100000
open Go.RowKit Go.Shelf Go.Lib
open Go.Sort (Holds pdq)
variable {m9 : Nat}

noncomputable def siT : TypeInfo := (Try.prog.info? 29).get (by kernel_rfl)
noncomputable def siE : TypeInfo := (Try.prog.info? 3).get (by kernel_rfl)
theorem siK (n : Nat) (h2 : 2 ≤ n) : Lib.swapperK n siE 2 = 5 := by
  have a : siE.hasPointers = false := by kernel_rfl
  have b : siE.bytes = 8 := by kernel_rfl
  have c : (n == 0) = false := by simp; omega
  have d : (n == 1) = false := by simp; omega
  simp [Lib.swapperK, a, b, c, d]
theorem below_grow (w : World) (os : Array Obj) : Below w.heap.size w (Sort.grow w os) := by
  refine ⟨rfl, rfl, rfl, by rw [Sort.size_grow]; omega, fun k hk => ?_⟩
  unfold Sort.grow
  exact Array.getElem?_append_left hk

theorem sortSlice_any (lt : Fin (m9 + 1) → Fin (m9 + 1) → Bool) (hO : Sort.SWO lt) (lb : Array Value) (r c : Nat) (d : Array (Fin (m9 + 1))) (w : World) (h2 : 2 ≤ d.size) (hsz : d.size < 50) (hL : Less lt lb r 0 d.size w) (hH : Holds encF w r 0 d) :
    Calls Try.prog 53 #[.iface 29 (.slice (some ⟨r, 0, none⟩) d.size c), .func (.func 54) #[] lb] w fun e w' =>
      e = .returned (.tuple #[]) ∧ Srt w r 0 (pdq lt d 0 d.size (Lib.bitLen d.size) true true) w' := by
  have hr := hL.row
  refine Any.sort_Slice_of_pdq (P := Try.prog) (ρ := laysGg6_ren) laysGg6 29 3 siT siE (by kernel_rfl) (by kernel_rfl) (by kernel_rfl) (by kernel_rfl) 2 (fun _ => by kernel_rfl) (some ⟨r, 0, none⟩) d.size c (by omega) 90 (by rw [siK _ h2]; kernel_rfl) (.func 54) #[] lb w _ ?_
  have hB : sliceBound Try.prog 3 siE 2 (some ⟨r, 0, none⟩) d.size c = #[.slice (some ⟨r, 0, none⟩) d.size c, typeHandle Try.prog 3] := by
    unfold sliceBound; rw [if_neg (swapperK_gt _ _ _ h2)]
  rw [hB]
  have hw : Below w.heap.size w (sliceWorld Try.prog laysGg6_ren 29 (some ⟨r, 0, none⟩) d.size c w) := by unfold sliceWorld; (with_reducible repeat' first | exact Below.refl _ _ | assumption | (refine Below.setCell ?_ (by first | omega | (simp; omega) | (simp; done) | (dsimp only; omega)) _) | (refine Below.alloc ?_ (by first | omega | (simp; omega) | (simp; done) | (dsimp only; omega)) _) | (refine below_drewN ?_ _) | (refine Below.drew ?_))
  have S0 := (Srt.refl hH).below hr hw
  have hlim : Lib.bitLen d.size < 1000 := Nat.lt_of_le_of_lt (Lib.bitLen_le d.size 62 (by omega) (by omega)) (by omega)
  have hp := pdq_any lt hO lb #[.slice (some ⟨r, 0, none⟩) d.size c, typeHandle Try.prog 3] r 0 (d.size + 1) 0 d.size (Lib.bitLen d.size) d _ (by omega) (hL.of S0)
    (swapSwaps_of_literal true 90 (fun args W => run_callFunc_extern Try.func90 (by kernel_rfl) (by kernel_rfl) (by kernel_rfl) (e := Extern.ReflectliteSwapper.swap true) (by kernel_rfl) args W) 3 siE (by kernel_rfl) (by kernel_rfl) (fun _ => by kernel_rfl) encF (fun _ => rfl) r 0 d.size c)
    S0.holds (Nat.zero_le _) (Nat.le_refl _) hsz hlim (Or.inl rfl)
  rw [show ((0 : Nat) : Int) = 0 from rfl] at hp
  exact hp.mono fun e w' ⟨he, hs⟩ => ⟨he, S0.trans hs⟩

theorem sortTiny_any (lb : Array Value) (p : Option Addr) (n c : Nat) (h1 : n ≤ 1) (w : World) :
    Calls Try.prog 53 #[.iface 29 (.slice p n c), .func (.func 54) #[] lb] w fun e w' => e = .returned (.tuple #[]) ∧ Below w.heap.size w w' := by
  have hK : Lib.swapperK n siE 2 = n + 1 := by
    rcases Nat.eq_zero_or_pos n with h | h
    · subst h; simp [Lib.swapperK]
    · obtain rfl : n = 1 := by omega
      simp [Lib.swapperK]
  refine (Any.sort_Slice_tiny (P := Try.prog) (ρ := laysGg6_ren) laysGg6 29 3 siT siE (by kernel_rfl) (by kernel_rfl) (by kernel_rfl) (by kernel_rfl) 2 (fun _ => by kernel_rfl) p n c h1 (86 + n) (by
    rw [hK]
    rcases Nat.eq_zero_or_pos n with h | h
    · subst h; kernel_rfl
    · obtain rfl : n = 1 := by omega
      kernel_rfl) (.func 54) #[] lb w).mono ?_
  rintro e w' ⟨he, os, rfl⟩
  exact ⟨he, below_grow w os⟩
end Go.Proofs.Ythpcippgifmabaa
