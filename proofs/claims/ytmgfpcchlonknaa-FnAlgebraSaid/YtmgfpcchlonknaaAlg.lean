/-
  The functions of relations at valid relations of one size.
-/
import Derived.Test.YtmgfpcchlonknaaAlgM
import Derived.Test.YtmgfpcchlonknaaRelMix
import Derived.Test.YtmgfpcchlonknaaConv
import Derived.Test.YtmgfpcchlonknaaComp
import Derived.Test.YtmgfpcchlonknaaPairs
namespace Go.Proofs.Ytmgfpcchlonknaa
set_option maxRecDepth 100000
open Go.RowKit

/-- A valid relation of n numbers is returned, which the call has made. -/
def RetP (w : World) (n : Nat) (p : Nat → Nat → Bool) (e : Ending) (w' : World) : Prop :=
  ∃ (A : Option Addr) (c : Nat), e = .returned (.agg #[.int .i64 n, .slice A n c]) ∧ EIntS.OS w' w.heap.size w'.heap.size (.slice A n c) (relM n p) ∧ Below w.heap.size w w'
theorem RetP.of {w w' : World} {n : Nat} {p : Nat → Nat → Bool} {e : Ending} (h : RetRel w (relP n p) e w') : RetP w n p e w' := by
  obtain ⟨A, c, h1, h2, h3⟩ := h
  simp only [relP, relM_len] at h1 h2
  exact ⟨A, c, h1, h2, h3⟩
theorem compP_any (n : Nat) (p q : Nat → Nat → Bool) (A B : Option Addr) (c d lo hi lo' hi' : Nat) (w : World) (hn : n ≤ 40) (h : EIntS.AS w lo hi A (relM n p)) (h' : EIntS.AS w lo' hi' B (relM n q)) (hh : hi ≤ w.heap.size) (hh' : hi' ≤ w.heap.size) :
    Calls Try.prog 57 #[.agg #[.int .i64 n, .slice A n c], .agg #[.int .i64 n, .slice B n d]] w (RetP w n (stepP n p q)) := by
  have H := implComposeRelations_any n n A B c d lo hi lo' hi' (relM n p) (relM n q) w h h' hh hh'
  rw [compM_relP _ _ hn] at H
  simp only [relM_len] at H
  exact H.mono fun _ _ h => RetP.of h
theorem joinP_any (n : Nat) (p q : Nat → Nat → Bool) (A B : Option Addr) (c d lo hi lo' hi' : Nat) (w : World) (hn : n ≤ 40) (h : EIntS.AS w lo hi A (relM n p)) (h' : EIntS.AS w lo' hi' B (relM n q)) (hh : hi ≤ w.heap.size) (hh' : hi' ≤ w.heap.size) :
    Calls Try.prog 51 #[.agg #[.int .i64 n, .slice A n c], .agg #[.int .i64 n, .slice B n d]] w (RetP w n (fun a b => p a b || q a b)) := by
  have H := implJoinRelations_any n n A B c d lo hi lo' hi' (relM n p) (relM n q) w h h' hh hh'
  rw [mixM_relP _ _ _ hn] at H
  simp only [relM_len] at H
  exact H.mono fun _ _ h => RetP.of h
theorem meetP_any (n : Nat) (p q : Nat → Nat → Bool) (A B : Option Addr) (c d lo hi lo' hi' : Nat) (w : World) (hn : n ≤ 40) (h : EIntS.AS w lo hi A (relM n p)) (h' : EIntS.AS w lo' hi' B (relM n q)) (hh : hi ≤ w.heap.size) (hh' : hi' ≤ w.heap.size) :
    Calls Try.prog 55 #[.agg #[.int .i64 n, .slice A n c], .agg #[.int .i64 n, .slice B n d]] w (RetP w n (fun a b => p a b && q a b)) := by
  have H := implMeetRelations_any n n A B c d lo hi lo' hi' (relM n p) (relM n q) w h h' hh hh'
  rw [mixM_relP _ _ _ hn] at H
  simp only [relM_len] at H
  exact H.mono fun _ _ h => RetP.of h
theorem lessP_any (n : Nat) (p q : Nat → Nat → Bool) (A B : Option Addr) (c d lo hi lo' hi' : Nat) (w : World) (hn : n ≤ 40) (h : EIntS.AS w lo hi A (relM n p)) (h' : EIntS.AS w lo' hi' B (relM n q)) (hh : hi ≤ w.heap.size) (hh' : hi' ≤ w.heap.size) :
    Calls Try.prog 53 #[.agg #[.int .i64 n, .slice A n c], .agg #[.int .i64 n, .slice B n d]] w (RetP w n (fun a b => p a b && !q a b)) := by
  have H := implLessRelation_any n n A B c d lo hi lo' hi' (relM n p) (relM n q) w h h' hh hh'
  rw [mixM_relP _ _ _ hn] at H
  simp only [relM_len] at H
  exact H.mono fun _ _ h => RetP.of h
theorem convP_any (n : Nat) (p : Nat → Nat → Bool) (A : Option Addr) (c lo hi : Nat) (w : World) (hn : n ≤ 40) (h : EIntS.AS w lo hi A (relM n p)) (hh : hi ≤ w.heap.size) :
    Calls Try.prog 47 #[.agg #[.int .i64 n, .slice A n c]] w (RetP w n (fun a b => p b a)) := by
  have H := implConverseRelation_any n A c lo hi (relM n p) w h hh
  rw [convM_relP _ hn] at H
  simp only [relM_len] at H
  exact H.mono fun _ _ h => RetP.of h
theorem closP_any (n : Nat) (p : Nat → Nat → Bool) (A : Option Addr) (c lo hi : Nat) (w : World) (hn : n ≤ 40) (h : EIntS.AS w lo hi A (relM n p)) (hh : hi ≤ w.heap.size) :
    Calls Try.prog 49 #[.agg #[.int .i64 n, .slice A n c]] w (RetP w n (closP n p)) := by
  have H := implClosureRelation_any n A c lo hi (relM n p) w h hh
  rw [closM_relP _ hn] at H
  simp only [relM_len] at H
  exact H.mono fun _ _ h => RetP.of h
theorem identP_any (n : Nat) (w : World) (hn : n ≤ 40) : Calls Try.prog 66 #[.int .i64 n] w (RetP w n (fun a b => a == b)) := by
  have H := implIdentityRelation_any n w
  rw [identM_in hn] at H
  exact H.mono fun _ _ h => RetP.of h
theorem withinP_any (n : Nat) (p q : Nat → Nat → Bool) (A B : Option Addr) (c d lo hi lo' hi' : Nat) (w : World) (hn : n ≤ 40) (h : EIntS.AS w lo hi A (relM n p)) (h' : EIntS.AS w lo' hi' B (relM n q)) (hh : hi ≤ w.heap.size) (hh' : hi' ≤ w.heap.size)
    (hpq : ∀ a b, a < n → b < n → p a b = true → q a b = true) :
    Calls Try.prog 21 #[.agg #[.int .i64 n, .slice A n c], .agg #[.int .i64 n, .slice B n d]] w fun e w' => e = .returned (.bool true) ∧ Below w.heap.size w w' := by
  have H := implIsWithin_any n n A B c d lo hi lo' hi' (relM n p) (relM n q) w h h' hh hh'
  rw [withinM_relP hn hpq] at H
  simp only [relM_len] at H
  exact H
theorem equalP_any (n : Nat) (p q : Nat → Nat → Bool) (A B : Option Addr) (c d lo hi lo' hi' : Nat) (w : World) (hn : n ≤ 40) (h : EIntS.AS w lo hi A (relM n p)) (h' : EIntS.AS w lo' hi' B (relM n q)) (hh : hi ≤ w.heap.size) (hh' : hi' ≤ w.heap.size)
    (hpq : ∀ a b, a < n → b < n → p a b = q a b) :
    Calls Try.prog 65 #[.agg #[.int .i64 n, .slice A n c], .agg #[.int .i64 n, .slice B n d]] w fun e w' => e = .returned (.bool true) ∧ Below w.heap.size w w' := by
  have H := specEqualRelations_any n n A B c d lo hi lo' hi' (relM n p) (relM n q) w h h' hh hh'
  rw [equalM_relP hn hpq] at H
  simp only [relM_len] at H
  exact H
theorem pairsP_any (n : Nat) (p : Nat → Nat → Bool) (A : Option Addr) (c lo hi : Nat) (w : World) (hn : n ≤ 40) (h : EIntS.AS w lo hi A (relM n p)) (hh : hi ≤ w.heap.size) :
    Calls Try.prog 37 #[.agg #[.int .i64 n, .slice A n c]] w (RetPairS w (pairsUp (relM n p) n)) := by
  have H := implPairsOf_any n A c lo hi (relM n p) w h hh
  rw [pairsM_relP _ hn] at H
  simp only [relM_len] at H
  exact H
theorem relOfP_any (n : Nat) (p : Nat → Nat → Bool) (A : Option Addr) (c lo hi : Nat) (w : World) (hn : n ≤ 40) (h : EPair.AS w lo hi A (pairsUp (relM n p) n)) (hh : hi ≤ w.heap.size) :
    Calls Try.prog 26 #[.int .i64 n, .slice A (pairsUp (relM n p) n).length c] w fun e w' => ∃ (A : Option Addr) (c : Nat), e = .returned (.tuple #[.agg #[.int .i64 n, .slice A n c], .bool true]) ∧ EIntS.OS w' w.heap.size w'.heap.size (.slice A n c) (relM n p) ∧ Below w.heap.size w w' := by
  have H := implRelationOf_any n A c lo hi (pairsUp (relM n p) n) w (by omega) h hh
  rw [relOf_pairs _ hn] at H
  refine H.mono fun _ _ h => ?_
  obtain ⟨A, c, h1, h2, h3⟩ := h
  simp only [relP, relM_len] at h1 h2
  exact ⟨A, c, h1, h2, h3⟩
end Go.Proofs.Ytmgfpcchlonknaa
