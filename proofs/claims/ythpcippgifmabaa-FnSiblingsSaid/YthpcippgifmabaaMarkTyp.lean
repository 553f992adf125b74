/-
  Marks of steps and of kin types.
-/
import Derived.Test.YthpcippgifmabaaFlat
import Derived.Test.YthpcippgifmabaaConvTyp
namespace Go.Proofs.Ythpcippgifmabaa
set_option maxRecDepth 100000
open Go.RowKit

def vsStep (s : Step) : List Value := [.int .i64 s.kind, .int .i64 s.age]
def markStep (k : Int) (i : Nat) : Step := ⟨k + 2 * i, k + 2 * i + 1⟩
end Go.Proofs.Ythpcippgifmabaa
