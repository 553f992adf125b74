/-
  Whether a rule fits at a step, in the reference and in the program.
-/
import Derived.Test.YtnanlbglgflecaaFitI
import Derived.Test.YtnanlbglgflecaaIsRuleI
namespace Go.Proofs.Ytnanlbglgflecaa
set_option maxRecDepth 100000
open Go.RowKit

end Go.Proofs.Ytnanlbglgflecaa
