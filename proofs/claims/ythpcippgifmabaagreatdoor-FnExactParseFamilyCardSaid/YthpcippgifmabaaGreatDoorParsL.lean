/-
  ParseFamily: how big its result is.
-/
import Derived.Test.YthpcippgifmabaaGreatDoorParsI
namespace Go.Proofs.YthpcippgifmabaaGreatDoor
set_option maxRecDepth 100000
open Go.RowKit

theorem doneM_len (s : ByteArray) (o : Option Family) : (doneM s o).1.people.length ≤ 40 ∧ (doneM s o).1.unions.length ≤ 60 := by
  cases o with
  | none => exact ⟨Nat.zero_le _, Nat.zero_le _⟩
  | some f =>
    rw [doneM]
    by_cases h : famOk f.people f.unions = true ∧ familyT f.people f.unions = s
    · rw [if_pos h]
      have := famOk_parts h.1
      exact ⟨this.1, this.2.1⟩
    · rw [if_neg h]
      exact ⟨Nat.zero_le _, Nat.zero_le _⟩
theorem parseS_len (s : ByteArray) : (parseS s).1.people.length ≤ 40 ∧ (parseS s).1.unions.length ≤ 60 := by
  unfold parseS
  split
  · exact ⟨Nat.zero_le _, Nat.zero_le _⟩
  · exact doneM_len _ _
end Go.Proofs.YthpcippgifmabaaGreatDoor
