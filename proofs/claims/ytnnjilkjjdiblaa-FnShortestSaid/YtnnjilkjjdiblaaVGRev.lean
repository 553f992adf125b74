/-
  The sex of the person from whom a step is made.
  A kin type that leads back: plain definitions.
-/
import Derived.Test.YtnnjilkjjdiblaaTyp2
import Derived.Test.YtnnjilkjjdiblaaRevT

/-! ## SexB -/
namespace Go.Proofs.Ytnnjilkjjdiblaa
set_option maxRecDepth 100000
open Go.RowKit

end Go.Proofs.Ytnnjilkjjdiblaa

/-! ## RevM -/
namespace Go.Proofs.Ytnnjilkjjdiblaa
set_option maxRecDepth 100000
open Go.RowKit

end Go.Proofs.Ytnnjilkjjdiblaa
