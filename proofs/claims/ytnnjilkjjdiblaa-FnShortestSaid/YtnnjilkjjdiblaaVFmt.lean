/-
  The text of kin types, in the reference and in the program.
-/
import Derived.Test.YtnnjilkjjdiblaaTyp2
import Derived.Laws.DeepStrings4
import Derived.Laws.Concat
namespace Go.Proofs.Ytnnjilkjjdiblaa
set_option maxRecDepth 100000
open Go.RowKit

def letters : ByteArray := ⟨#[70, 77, 66, 90, 83, 68, 72, 87]⟩

end Go.Proofs.Ytnnjilkjjdiblaa
