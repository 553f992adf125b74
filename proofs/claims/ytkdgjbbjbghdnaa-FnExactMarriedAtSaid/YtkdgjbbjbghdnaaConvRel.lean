/-
  Sizes, copies and equality of relations.
-/
import Derived.Test.YtkdgjbbjbghdnaaConvInts
namespace Go.Proofs.Ytkdgjbbjbghdnaa
set_option maxRecDepth 100000
open Go.RowKit

structure Relation where
  size : Int
  rows : List (List Int)
  deriving DecidableEq

end Go.Proofs.Ytkdgjbbjbghdnaa
