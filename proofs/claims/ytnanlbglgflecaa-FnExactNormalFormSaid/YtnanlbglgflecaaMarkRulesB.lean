/-
  How far the marks of a list of rules count.
-/
import Derived.Test.YtnanlbglgflecaaMarkRules
import Derived.Test.YtnanlbglgflecaaConvRules
namespace Go.Proofs.Ytnanlbglgflecaa
set_option maxRecDepth 100000
open Go.RowKit

theorem mkW_le (xs : List Rule) : mkW xs ≤ 3 * (xs.length + totR xs) := by
  induction xs with
  | nil => simp [mkW]
  | cons x r ih => simp only [mkW, wM, totR, wtR, List.length_cons]; omega
end Go.Proofs.Ytnanlbglgflecaa
