/-
  Joined kin types are short.
-/
import Derived.Test.YtmgfpcchlonknaaJoinT
namespace Go.Proofs.Ytmgfpcchlonknaa
set_option maxRecDepth 100000
open Go.RowKit

theorem joinT_len (t u : KinType) : (joinT t u).1.steps.length ≤ 8 := by
  unfold joinT
  split
  · rename_i h; exact typeOk_len h.2
  · simp [zeroT]
end Go.Proofs.Ytmgfpcchlonknaa
