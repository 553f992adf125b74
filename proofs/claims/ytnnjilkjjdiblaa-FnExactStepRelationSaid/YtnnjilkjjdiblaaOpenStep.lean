/-
  A step that came in.
-/
import Derived.Test.YtnnjilkjjdiblaaOpen
import Derived.Test.YtnnjilkjjdiblaaConvTyp
namespace Go.Proofs.Ytnnjilkjjdiblaa
set_option maxRecDepth 100000
open Go.ChangeShapes Go.WideShapes Go.ChangeAt Go.RowKit Go.Deep Go.Joins

section
variable {H : Type} {enc : TypeId × Value → H} {W : World} {base : Nat}
theorem open_Step {v : Value} {d : DataW H} {p : List MemPlace} (hv : Value.okWide Try.prog W .any base 68 v) (h : DataW.Trod enc Try.prog W 0 (fun _ => true) true 68 v d p) (_hf : Fits Try.prog 68 d) :
    ∃ (n m : Int), v = .agg #[.int .i64 n, .int .i64 m] := by
  obtain ⟨v0, v1, y0, y1, n, rfl, rfl, _, h0, h1⟩ := open_agg2 Try.underlying68 (by kernel_rfl) (by kernel_rfl) hv h
  obtain ⟨n0, e0, _⟩ := R_int Try.underlying3 h0
  obtain ⟨n1, e1, _⟩ := R_int Try.underlying3 h1
  simp at e0 e1
  exact ⟨n0, n1, by rw [e0, e1]⟩
end
end Go.Proofs.Ytnnjilkjjdiblaa
