/-
  Reading kin types from their text: models.
-/
import Derived.Test.YtnnjilkjjdiblaaVFmtType
namespace Go.Proofs.Ytnnjilkjjdiblaa
set_option maxRecDepth 100000
open Go.RowKit

end Go.Proofs.Ytnnjilkjjdiblaa
