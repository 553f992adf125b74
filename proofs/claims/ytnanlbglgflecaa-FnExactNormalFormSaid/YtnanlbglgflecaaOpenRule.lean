/-
  Rules that came in.
-/
import Derived.Test.YtnanlbglgflecaaOpen
import Derived.Test.YtnanlbglgflecaaConvRule
namespace Go.Proofs.Ytnanlbglgflecaa
set_option maxRecDepth 100000
open Go.ChangeShapes Go.WideShapes Go.ChangeAt Go.RowKit Go.Deep Go.Joins

theorem array5 {α : Type} {cs : Array α} (h : cs.size = 5) : ∃ c0 c1 c2 c3 c4, cs = #[c0, c1, c2, c3, c4] := by
  obtain ⟨l⟩ := cs
  match l, h with
  | [c0, c1, c2, c3, c4], _ => exact ⟨c0, c1, c2, c3, c4, rfl⟩

section
variable {H : Type} {enc : TypeId × Value → H} {W : World} {base : Nat}
theorem R_steps {fuel : Nat} {cs : List Value} {d : DataW H} {ps : List MemPlace} (h : DataW.trod enc Try.prog W 0 (fun _ => true) true fuel 36 cs = some (d, ps)) (hf : Fits Try.prog 36 d) : ∃ A c xs, cs = [.slice A xs.length c] ∧ xs.length ≤ c ∧ c ≤ maxLen ∧ EStep.AS W 0 W.heap.size A xs :=
  open_elems EStep Try.underlying36 (by kernel_rfl) (by decide) (by decide +kernel) (fun fuel cs d ps h _ => R_step h) h hf
theorem R_rule {fuel : Nat} {cs : List Value} {d : DataW H} {ps : List MemPlace} (h : DataW.trod enc Try.prog W 0 (fun _ => true) true fuel 124 cs = some (d, ps)) (hf : Fits Try.prog 124 d) : ∃ x : Rule, ERule.R W 0 W.heap.size cs x := by
  obtain ⟨xs, n, _, hxd, hl, hx, hg⟩ := DataW.trod_struct Try.underlying124 h
  simp only [Prod.mk.injEq] at hxd
  obtain ⟨hxd, _⟩ := hxd
  subst hxd
  have hc : Try.prog.cellsOf 124 = 5 := by kernel_rfl
  rw [hc] at hl
  match cs, hl with
  | [a0, a1, a2, a3, a4], _ =>
    have h0 := hg 0 _ rfl
    have h1 := hg 1 _ rfl
    have h2 := hg 2 _ rfl
    have h3 := hg 3 _ rfl
    have h4 := hg 4 _ rfl
    have hc3 : Try.prog.cellsOf 3 = 1 := by kernel_rfl
    have hc4 : Try.prog.cellsOf 9 = 1 := by kernel_rfl
    have hc5 : Try.prog.cellsOf 36 = 1 := by kernel_rfl
    match xs, hx with
    | [y0, y1, y2, y3, y4], _ =>
      simp [hc3, hc4, hc5] at h0 h1 h2 h3 h4
      obtain ⟨n0, e0, d0, _⟩ := DataW.trod_string Try.underlying9 h0
      have b0 : n0.size ≤ 140737488355328 := by
        have hp := fits_part Try.underlying124 hf (j := 0) (d := y0.1) rfl rfl
        have := hp n0.data.toList.length (by rw [d0]; simp [DataW.weights])
        have hr : reachBytes ≤ 140737488355328 := by decide +kernel
        simp at this
        exact Nat.le_trans this hr
      obtain ⟨n1, e1, _⟩ := R_int Try.underlying3 h1
      obtain ⟨n2, e2, _⟩ := R_int Try.underlying3 h2
      obtain ⟨A3, c3, x3, e3, p3, q3, k3⟩ := R_steps h3 (fits_part Try.underlying124 hf (j := 3) (d := y3.1) rfl rfl)
      obtain ⟨A4, c4, x4, e4, p4, q4, k4⟩ := R_steps h4 (fits_part Try.underlying124 hf (j := 4) (d := y4.1) rfl rfl)
      simp at e0 e1 e2 e3 e4
      exact ⟨⟨n0, n1, n2, x3, x4⟩, .slice A3 x3.length c3, .slice A4 x4.length c4, by rw [e0, e1, e2, e3, e4]; rfl, Elem.RS.shut k3 p3 q3, Elem.RS.shut k4 p4 q4, b0⟩
theorem open_Rule {v : Value} {d : DataW H} {p : List MemPlace} (hv : Value.okWide Try.prog W .any base 124 v) (h : DataW.Trod enc Try.prog W 0 (fun _ => true) true 124 v d p) (hf : Fits Try.prog 124 d) :
    ∃ (s : ByteArray) (n1 n2 : Int) (A : Option Addr) (c : Nat) (xs : List Step) (B : Option Addr) (e : Nat) (ys : List Step), v = .agg #[.string s, .int .i64 n1, .int .i64 n2, .slice A xs.length c, .slice B ys.length e] ∧ EStep.AS W 0 W.heap.size A xs ∧ EStep.AS W 0 W.heap.size B ys ∧ s.size ≤ 140737488355328 := by
  obtain ⟨cs, rfl, hsz⟩ := okWide_struct Try.underlying124 hv
  have hC : Try.prog.cellsOf 124 = 5 := by kernel_rfl
  obtain ⟨c0, c1, c2, c3, c4, rfl⟩ := array5 (hsz.trans hC)
  obtain ⟨fuel, ht⟩ := h
  obtain ⟨x, v1, v2, hx, ⟨A1, e1, rfl, _, _, k1⟩, ⟨A2, e2, rfl, _, _, k2⟩, hs⟩ := R_rule ht hf
  simp [Value.cells, vsRule] at hx
  obtain ⟨rfl, rfl, rfl, rfl, rfl⟩ := hx
  exact ⟨x.name, x.sex, x.place, A1, e1, x.src, A2, e2, x.dst, rfl, k1, k2, hs⟩
theorem open_RuleS {v : Value} {d : DataW H} {p : List MemPlace} (hv : Value.okWide Try.prog W .any base 35 v) (h : DataW.Trod enc Try.prog W 0 (fun _ => true) true 35 v d p) (hf : Fits Try.prog 35 d) :
    ∃ (A : Option Addr) (c : Nat) (xs : List Rule), v = .slice A xs.length c ∧ ERule.AS W 0 W.heap.size A xs := by
  obtain ⟨a, l, cp, rfl⟩ := okWide_slice Try.underlying35 hv
  obtain ⟨fuel, hfu⟩ := h
  obtain ⟨A, c, xs, e1, _, _, h2⟩ := open_elems ERule Try.underlying35 (by kernel_rfl) (by decide) (by decide +kernel) (fun fuel cs d ps h hf => R_rule h hf) hfu hf
  simp [Value.cells] at e1
  obtain ⟨rfl, rfl, rfl⟩ := e1
  exact ⟨_, _, xs, rfl, h2⟩
end
end Go.Proofs.Ytnanlbglgflecaa
