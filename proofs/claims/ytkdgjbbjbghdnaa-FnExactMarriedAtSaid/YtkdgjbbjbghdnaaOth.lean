/-
  The other person of a union: the cases.
-/
import Derived.Test.YtkdgjbbjbghdnaaKin
namespace Go.Proofs.Ytkdgjbbjbghdnaa
set_option maxRecDepth 100000
open Go.RowKit

theorem other_cases (u : Union) (p : Int) (hm : 0 ≤ u.man) (hf : 0 ≤ u.woman) : (∃ q : Int, otherM u p = some q ∧ otherS u p = (q, true) ∧ otherI u p = q ∧ 0 ≤ q) ∨ (otherM u p = none ∧ (∃ q : Int, otherS u p = (q, false)) ∧ otherI u p = -1) := by
  by_cases h1 : u.man = p
  · exact .inl ⟨u.woman, if_pos h1, if_pos h1, if_pos h1, hf⟩
  · by_cases h2 : u.woman = p
    · exact .inl ⟨u.man, by rw [otherM, if_neg h1, if_pos h2], by rw [otherS, if_neg h1, decide_eq_true h2], by rw [otherI, if_neg h1, if_pos h2], hm⟩
    · exact .inr ⟨by rw [otherM, if_neg h1, if_neg h2], ⟨u.man, by rw [otherS, if_neg h1, decide_eq_false h2]⟩, by rw [otherI, if_neg h1, if_neg h2]⟩
end Go.Proofs.Ytkdgjbbjbghdnaa
