/-
  The text of a kin type.
-/
import Derived.Test.YtnnjilkjjdiblaaVFmt
namespace Go.Proofs.Ytnnjilkjjdiblaa
set_option maxRecDepth 100000
open Go.RowKit

end Go.Proofs.Ytnnjilkjjdiblaa
