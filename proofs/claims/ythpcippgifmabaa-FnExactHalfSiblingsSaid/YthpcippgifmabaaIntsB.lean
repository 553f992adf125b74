/-
  Contracts of the laws' helpers for lists of numbers, in the form that lawgen.py takes.
-/
import Derived.Test.YthpcippgifmabaaGRel
namespace Go.Proofs.Ythpcippgifmabaa
set_option maxRecDepth 100000
open Go.RowKit

theorem eqIntSB_any (A B : Option Addr) (c d lo hi lo' hi' : Nat) (xs ys : List Int) (w : World) (h : EInt.AS w lo hi A xs) (h' : EInt.AS w lo' hi' B ys) :
    Calls Try.prog 18 #[.slice A xs.length c, .slice B ys.length d] w fun e w' => e = .returned (.bool (eqB xs ys)) ∧ Below w.heap.size w w' := by
  refine (eqIntS_any A B c d lo hi lo' hi' xs ys w h h').mono ?_
  rintro e w' ⟨n, he, rfl⟩
  exact ⟨he, below_drewN (Below.refl _ _) n⟩
theorem markIntSB_any (A : Option Addr) (c lo hi : Nat) (xs : List Int) (k : Int) (w : World) (h : EInt.OS w lo hi (.slice A xs.length c) xs) (h0 : 0 ≤ k) (h1 : k + xs.length ≤ 4611686018427387904) :
    Calls Try.prog 21 #[.slice A xs.length c, .int .i64 k] w fun e w' => e = .returned (.int .i64 (k + xs.length)) ∧ EInt.OS w' lo hi (.slice A xs.length c) (marks k xs.length) ∧ Chg lo hi w w' := by
  refine (markIntS_any A c lo hi xs k w h h0 h1).mono ?_
  rintro e w' ⟨he, h2, h3, _⟩
  exact ⟨he, h2, h3.chg fun b hb => h.blkv b hb⟩
theorem heldIntSB_any (A : Option Addr) (c lo hi : Nat) (xs : List Int) (k : Int) (w : World) (h : EInt.AS w lo hi A (marks k xs.length)) (h0 : 0 ≤ k) (h1 : k + xs.length ≤ 4611686018427387904) :
    Calls Try.prog 22 #[.slice A xs.length c, .int .i64 k] w fun e w' => e = .returned (.int .i64 (k + xs.length)) ∧ w = w' := by
  exact heldIntS_any A c lo hi xs.length k w h h0 h1
end Go.Proofs.Ythpcippgifmabaa
