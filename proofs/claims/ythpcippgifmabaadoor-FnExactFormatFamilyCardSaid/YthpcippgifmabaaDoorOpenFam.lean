/-
  A family that came in.
-/
import Derived.Test.YthpcippgifmabaaDoorOpen
import Derived.Test.YthpcippgifmabaaDoorConvFam
import Derived.Lib.SmallJoins
namespace Go.Proofs.YthpcippgifmabaaDoor
set_option maxRecDepth 100000
open Go.ChangeShapes Go.WideShapes Go.ChangeAt Go.RowKit Go.Deep Go.Joins

/-- Persons whose names are no longer than a slice can be. -/
def EPersonB : Elem Person where
  e := 0
  sz := 6
  O := fun _ _ _ cs x => cs = vsPerson x ∧ x.name.size ≤ reachBytes
  R := fun _ _ _ cs x => cs = vsPerson x ∧ x.name.size ≤ reachBytes
  len := fun h => by rw [h.1]; rfl
  read := fun h => h
  sameO := fun h _ => h
  sameR := fun h _ => h
  monoO := fun h _ _ => h
  monoR := fun h _ _ => h
  blk := fun h b hx => by rw [h.1] at hx; simp [blocks, vsPerson, Value.ownBlock] at hx
  loc := fun h _ => h
theorem EPersonB.as {w : World} {lo hi : Nat} {A : Option Addr} {xs : List Person} (h : EPersonB.AS w lo hi A xs) : EPerson.AS w lo hi A xs ∧ ∀ x ∈ xs, x.name.size ≤ 4000000000000000000 := by
  obtain ⟨h0, css, h1, h2⟩ := h
  refine ⟨⟨h0, css, h1, h2.len, fun i x hx => ?_⟩, fun x hx => ?_⟩
  · obtain ⟨cs, a, b, _⟩ := h2.at_ i x hx
    exact ⟨cs, a, b⟩
  · obtain ⟨i, hi, rfl⟩ := List.mem_iff_getElem.1 hx
    obtain ⟨cs, a, b, c⟩ := h2.at_ i xs[i] (List.getElem?_eq_getElem hi)
    have : reachBytes ≤ 4000000000000000000 := by decide +kernel
    omega

section
variable {H : Type} {enc : TypeId × Value → H} {W : World} {base : Nat}
theorem R_union {fuel : Nat} {cs : List Value} {d : DataW H} {ps : List MemPlace} (h : DataW.trod enc Tryd.prog W 0 (fun _ => true) true fuel 66 cs = some (d, ps)) : ∃ x : Union, EUnion.R W 0 W.heap.size cs x := by
  obtain ⟨xs, n, _, _, hl, hx, hg⟩ := DataW.trod_struct Tryd.underlying66 h
  have hc : Tryd.prog.cellsOf 66 = 4 := by kernel_rfl
  rw [hc] at hl
  match cs, hl with
  | [a0, a1, a2, a3], _ =>
    have h0 := hg 0 _ rfl
    have h1 := hg 1 _ rfl
    have h2 := hg 2 _ rfl
    have h3 := hg 3 _ rfl
    have hc3 : Tryd.prog.cellsOf 3 = 1 := by kernel_rfl
    match xs, hx with
    | [y0, y1, y2, y3], _ =>
      simp [hc3] at h0 h1 h2 h3
      obtain ⟨n0, e0, _⟩ := R_int Tryd.underlying3 h0
      obtain ⟨n1, e1, _⟩ := R_int Tryd.underlying3 h1
      obtain ⟨n2, e2, _⟩ := R_int Tryd.underlying3 h2
      obtain ⟨n3, e3, _⟩ := R_int Tryd.underlying3 h3
      simp at e0 e1 e2 e3
      exact ⟨⟨n0, n1, n2, n3⟩, by rw [e0, e1, e2, e3]; rfl⟩
theorem R_person {fuel : Nat} {cs : List Value} {d : DataW H} {ps : List MemPlace} (h : DataW.trod enc Tryd.prog W 0 (fun _ => true) true fuel 60 cs = some (d, ps)) (hf : Fits Tryd.prog 60 d) : ∃ x : Person, EPersonB.R W 0 W.heap.size cs x := by
  obtain ⟨xs, n, _, hxd, hl, hx, hg⟩ := DataW.trod_struct Tryd.underlying60 h
  simp only [Prod.mk.injEq] at hxd
  obtain ⟨hxd, _⟩ := hxd
  subst hxd
  have hc : Tryd.prog.cellsOf 60 = 6 := by kernel_rfl
  rw [hc] at hl
  match cs, hl with
  | [a0, a1, a2, a3, a4, a5], _ =>
    have h0 := hg 0 _ rfl
    have h1 := hg 1 _ rfl
    have h2 := hg 2 _ rfl
    have h3 := hg 3 _ rfl
    have h4 := hg 4 _ rfl
    have h5 := hg 5 _ rfl
    have hc3 : Tryd.prog.cellsOf 3 = 1 := by kernel_rfl
    have hc4 : Tryd.prog.cellsOf 9 = 1 := by kernel_rfl
    match xs, hx with
    | [y0, y1, y2, y3, y4, y5], _ =>
      simp [hc3, hc4] at h0 h1 h2 h3 h4 h5
      obtain ⟨n0, e0, d0, _⟩ := DataW.trod_string Tryd.underlying9 h0
      have b0 : n0.size ≤ reachBytes := by
        have hp := fits_part Tryd.underlying60 hf (j := 0) (d := y0.1) rfl rfl
        have := hp n0.data.toList.length (by rw [d0]; simp [DataW.weights])
        simpa using this
      obtain ⟨n1, e1, _⟩ := R_int Tryd.underlying3 h1
      obtain ⟨n2, e2, _⟩ := R_int Tryd.underlying3 h2
      obtain ⟨n3, e3, _⟩ := R_int Tryd.underlying3 h3
      obtain ⟨n4, e4, _⟩ := R_int Tryd.underlying3 h4
      obtain ⟨n5, e5, _⟩ := R_int Tryd.underlying3 h5
      simp at e0 e1 e2 e3 e4 e5
      exact ⟨⟨n0, n1, n2, n3, n4, n5⟩, by rw [e0, e1, e2, e3, e4, e5]; rfl, b0⟩
theorem open_Family {v : Value} {d : DataW H} {p : List MemPlace} (hv : Value.okWide Tryd.prog W .any base 25 v) (h : DataW.Trod enc Tryd.prog W 0 (fun _ => true) true 25 v d p) (hf : Fits Tryd.prog 25 d) :
    ∃ (A : Option Addr) (c : Nat) (xs : List Person) (B : Option Addr) (e : Nat) (ys : List Union), v = .agg #[.slice A xs.length c, .slice B ys.length e] ∧ EPerson.AS W 0 W.heap.size A xs ∧ EUnion.AS W 0 W.heap.size B ys ∧ ∀ x ∈ xs, x.name.size ≤ 4000000000000000000 := by
  obtain ⟨v0, v1, y0, y1, n, rfl, rfl, _, h0, h1⟩ := open_agg2 Tryd.underlying25 (by kernel_rfl) (by kernel_rfl) hv h
  obtain ⟨A, c, xs, e0, _, _, h2⟩ := open_elems EPersonB Tryd.underlying22 (by kernel_rfl) (by decide) (by decide +kernel) (fun fuel cs d ps h hf => R_person h hf) h0 (fits_part Tryd.underlying25 hf (j := 0) rfl rfl)
  obtain ⟨B, e, ys, e1, _, _, h3⟩ := open_elems EUnion Tryd.underlying23 (by kernel_rfl) (by decide) (by decide +kernel) (fun fuel cs d ps h _ => R_union h) h1 (fits_part Tryd.underlying25 hf (j := 1) rfl rfl)
  simp at e0 e1
  obtain ⟨k1, k2⟩ := EPersonB.as h2
  exact ⟨A, c, xs, B, e, ys, by rw [e0, e1], k1, h3, k2⟩
end
end Go.Proofs.YthpcippgifmabaaDoor
