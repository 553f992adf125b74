/-
  A slice of pairs that came in.
-/
import Derived.Test.YtmgfpcchlonknaaOpen
import Derived.Test.YtmgfpcchlonknaaConvPair
namespace Go.Proofs.Ytmgfpcchlonknaa
set_option maxRecDepth 100000
open Go.ChangeShapes Go.WideShapes Go.ChangeAt Go.RowKit

section
variable {H : Type} {enc : TypeId × Value → H} {W : World} {base : Nat}
theorem R_pair {fuel : Nat} {cs : List Value} {d : DataW H} {ps : List MemPlace} (h : DataW.trod enc Try.prog W 0 (fun _ => true) true fuel 86 cs = some (d, ps)) : ∃ x : Pair, cs = [.int .i64 x.a, .int .i64 x.b] := by
  obtain ⟨xs, n, _, _, hl, hx, hg⟩ := DataW.trod_struct Try.underlying86 h
  have hc : Try.prog.cellsOf 86 = 2 := by kernel_rfl
  rw [hc] at hl
  match cs, hl with
  | [a, b], _ =>
    have h0 := hg 0 _ rfl
    have h1 := hg 1 _ rfl
    have hc3 : Try.prog.cellsOf 3 = 1 := by kernel_rfl
    match xs, hx with
    | [y0, y1], _ =>
      simp [hc3] at h0 h1
      obtain ⟨n0, e0, _⟩ := R_int Try.underlying3 h0
      obtain ⟨n1, e1, _⟩ := R_int Try.underlying3 h1
      simp at e0 e1
      exact ⟨⟨n0, n1⟩, by rw [e0, e1]⟩
theorem open_PairS {v : Value} {d : DataW H} {p : List MemPlace} (hv : Value.okWide Try.prog W .any base 30 v) (h : DataW.Trod enc Try.prog W 0 (fun _ => true) true 30 v d p) (hf : Fits Try.prog 30 d) :
    ∃ (A : Option Addr) (c : Nat) (xs : List Pair), v = .slice A xs.length c ∧ EPair.AS W 0 W.heap.size A xs := by
  obtain ⟨a, l, cp, rfl⟩ := okWide_slice Try.underlying30 hv
  obtain ⟨fuel, hfu⟩ := h
  obtain ⟨A, c, xs, e1, _, _, h2⟩ := open_elems EPair Try.underlying30 (by kernel_rfl) (by decide) (by decide +kernel) (fun fuel cs d ps h _ => R_pair h) hfu hf
  simp [Value.cells] at e1
  obtain ⟨rfl, rfl, rfl⟩ := e1
  exact ⟨_, _, xs, rfl, h2⟩
end
end Go.Proofs.Ytmgfpcchlonknaa
