/-
  Sizes, copies and equality of steps and kin types.
-/
import Derived.Test.YthpcippgifmabaaBase
namespace Go.Proofs.Ythpcippgifmabaa
set_option maxRecDepth 100000
open Go.RowKit

structure KinType where
  ego : Int
  steps : List Step
  deriving DecidableEq

end Go.Proofs.Ythpcippgifmabaa
