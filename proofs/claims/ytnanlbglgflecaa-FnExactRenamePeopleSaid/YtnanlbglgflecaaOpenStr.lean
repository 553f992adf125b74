/-
  Texts that came in.
-/
import Derived.Test.YtnanlbglgflecaaOpen
import Derived.Test.YtnanlbglgflecaaConvStr
namespace Go.Proofs.Ytnanlbglgflecaa
set_option maxRecDepth 100000
open Go.ChangeShapes Go.WideShapes Go.ChangeAt Go.RowKit Go.Deep

/-- Texts no longer than what a slice can hold. -/
def EStringB : Elem ByteArray where
  e := 0
  sz := 1
  O := fun _ _ _ cs x => cs = [.string x] ∧ x.size ≤ reachBytes
  R := fun _ _ _ cs x => cs = [.string x] ∧ x.size ≤ reachBytes
  len := fun h => by rw [h.1]; rfl
  read := fun h => h
  sameO := fun h _ => h
  sameR := fun h _ => h
  monoO := fun h _ _ => h
  monoR := fun h _ _ => h
  blk := fun h b hx => by rw [h.1] at hx; simp [blocks, Value.ownBlock] at hx
  loc := fun h _ => h
theorem EStringB.as {w : World} {lo hi : Nat} {A : Option Addr} {xs : List ByteArray} (h : EStringB.AS w lo hi A xs) : EString.AS w lo hi A xs ∧ ∀ x ∈ xs, x.size ≤ 4000000000000000000 := by
  obtain ⟨h0, css, h1, h2⟩ := h
  refine ⟨⟨h0, css, h1, h2.len, fun i x hx => ?_⟩, fun x hx => ?_⟩
  · obtain ⟨cs, a, b, _⟩ := h2.at_ i x hx
    exact ⟨cs, a, b⟩
  · obtain ⟨i, hi, rfl⟩ := List.mem_iff_getElem.1 hx
    obtain ⟨cs, a, b, c⟩ := h2.at_ i xs[i] (List.getElem?_eq_getElem hi)
    have : reachBytes ≤ 4000000000000000000 := by decide +kernel
    omega
section
variable {H : Type} {enc : TypeId × Value → H} {W : World} {base : Nat}
theorem R_string {fuel : Nat} {cs : List Value} {d : DataW H} {ps : List MemPlace} (h : DataW.trod enc Try.prog W 0 (fun _ => true) true fuel 9 cs = some (d, ps)) (hf : Fits Try.prog 9 d) : ∃ x : ByteArray, EStringB.R W 0 W.heap.size cs x := by
  obtain ⟨n0, e0, d0, _⟩ := DataW.trod_string Try.underlying9 h
  refine ⟨n0, e0, ?_⟩
  have := hf n0.data.toList.length (by
    injection d0 with d0
    rw [d0]; simp [DataW.weights])
  simpa using this
theorem open_StringS {v : Value} {d : DataW H} {p : List MemPlace} (hv : Value.okWide Try.prog W .any base 60 v) (h : DataW.Trod enc Try.prog W 0 (fun _ => true) true 60 v d p) (hf : Fits Try.prog 60 d) :
    ∃ (A : Option Addr) (c : Nat) (xs : List ByteArray), v = .slice A xs.length c ∧ EString.AS W 0 W.heap.size A xs ∧ ∀ x ∈ xs, x.size ≤ 4000000000000000000 := by
  obtain ⟨a, l, cp, rfl⟩ := okWide_slice Try.underlying60 hv
  obtain ⟨fuel, hfu⟩ := h
  obtain ⟨A, c, xs, e1, _, _, h2⟩ := open_elems EStringB Try.underlying60 (by kernel_rfl) (by decide) (by decide +kernel) (fun fuel cs d ps h hf => R_string h hf) hfu hf
  simp [Value.cells] at e1
  obtain ⟨rfl, rfl, rfl⟩ := e1
  obtain ⟨k1, k2⟩ := EStringB.as h2
  exact ⟨_, _, xs, rfl, k1, k2⟩
end
end Go.Proofs.Ytnanlbglgflecaa
