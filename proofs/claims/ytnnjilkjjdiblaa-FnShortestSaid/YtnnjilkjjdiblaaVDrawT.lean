/-
  A kin type drawn from bytes: it is valid, whatever the bytes are.
-/
import Derived.Test.YtnnjilkjjdiblaaVGFrom
import Derived.Test.YtnnjilkjjdiblaaVGCur
import Derived.Test.YtnnjilkjjdiblaaVParseM
namespace Go.Proofs.Ytnnjilkjjdiblaa
set_option maxRecDepth 100000
open Go.RowKit

theorem Chg.then_below {w w' w'' : World} {lo hi B : Nat} (h : Chg lo hi w w') (hb : Below B w' w'') (hB : w.heap.size ≤ B) : Chg lo hi w w'' :=
  ⟨hb.os.trans h.os, hb.tape.trans h.tape, hb.output.trans h.output, Nat.le_trans h.size hb.size, fun k hk hd => (hb.block k (by omega)).trans (h.block k hk hd)⟩

theorem undrewT {w w' : World} {lo hi : Nat} (h : Chg lo hi w.drew w') : Chg lo hi w w' := ⟨h.os, h.tape, h.output, h.size, h.block⟩
end Go.Proofs.Ytnnjilkjjdiblaa
