/-
  Parts of a slice of steps.
-/
import Derived.Test.YtnanlbglgflecaaJoinT
namespace Go.Proofs.Ytnanlbglgflecaa
set_option maxRecDepth 100000
open Go.RowKit

section
variable {α : Type} {E : Elem α} {w : World} {lo hi : Nat} {A : Option Addr} {xs : List α}
theorem Elem.AS.take (h : E.AS w lo hi A xs) (n : Nat) : E.AS w lo hi A (xs.take n) := by
  obtain ⟨h0, css, h1, h2⟩ := h
  refine ⟨by rw [List.length_take]; omega, css.take n, fun hn => ?_, by rw [List.length_take, List.length_take, h2.len], fun i x hx => ?_⟩
  · obtain ⟨b, off, rfl, a1, a2, hc⟩ := h1 (by rw [List.length_take] at hn; omega)
    refine ⟨b, off, rfl, a1, a2, fun i cs hi => ?_⟩
    rw [List.getElem?_take] at hi
    split at hi
    · exact hc i cs hi
    · cases hi
  · rw [List.getElem?_take] at hx
    split at hx
    · rename_i hin
      obtain ⟨cs, a, b⟩ := h2.at_ i x hx
      exact ⟨cs, by rw [List.getElem?_take, if_pos hin]; exact a, b⟩
    · cases hx
theorem Elem.AS.dropAt {b off : Nat} (h : E.AS w lo hi (some ⟨b, off, none⟩) xs) (m : Nat) : E.AS w lo hi (some ⟨b, off + m * E.sz, none⟩) (xs.drop m) := by
  obtain ⟨h0, css, h1, h2⟩ := h
  refine ⟨by rw [List.length_drop]; omega, css.drop m, fun hn => ?_, by rw [List.length_drop, List.length_drop, h2.len], fun i x hx => ?_⟩
  · obtain ⟨b', off', he, a1, a2, hc⟩ := h1 (by rw [List.length_drop] at hn; omega)
    injection he with he
    injection he with e1 e2 _
    subst e1; subst e2
    refine ⟨b, off + m * E.sz, rfl, a1, a2, fun i cs hi j u hu => ?_⟩
    rw [List.getElem?_drop] at hi
    have := hc (m + i) cs hi j u hu
    rw [Nat.add_mul] at this
    rw [show off + m * E.sz + (i * E.sz + j) = off + (m * E.sz + i * E.sz + j) by omega]
    exact this
  · rw [List.getElem?_drop] at hx
    obtain ⟨cs, a, b⟩ := h2.at_ (m + i) x hx
    exact ⟨cs, by rw [List.getElem?_drop]; exact a, b⟩
end
theorem size_step (w : World) : (sizeOf (Try.prog.elem 27)).run Try.prog w = .ok 2 w := by kernel_rfl
theorem und_step : Try.prog.underlying 27 = some (.slice (Try.prog.elem 27)) := by kernel_rfl
theorem slice_to (b off len cap j : Nat) (xs : List Step) (hj : j ≤ cap) (hl : j ≤ xs.length) (w : World) :
    (Instr.slice 27 (.slice (some ⟨b, off, none⟩) len cap) none (some (.int .i64 (j : Int))) none).run Try.prog w = .ok (.slice (some ⟨b, off, none⟩) (xs.take j).length cap) w := by
  have ha : (⟨b, off, none⟩ : Addr).add 0 = ⟨b, off, none⟩ := by unfold Addr.add; rw [if_pos rfl]
  rw [run_slice_h _ _ _ _ _ und_step _ _ (by omega) (by omega), size_step]
  simp only [Result.andThen, sliced, Int.toNat_natCast, Nat.zero_mul, Nat.sub_zero, Option.map_some, ha, ite_self, List.length_take, Nat.min_eq_left hl]
theorem slice_from {w : World} {lo hi b off cap m : Nat} {xs : List Step} (h : EStep.AS w lo hi (some ⟨b, off, none⟩) xs) (hm : m ≤ xs.length) (hc : xs.length ≤ cap) :
    ∃ D, EStep.AS w lo hi D (xs.drop m) ∧ ∀ w', (Instr.slice 27 (.slice (some ⟨b, off, none⟩) xs.length cap) (some (.int .i64 (m : Int))) none none).run Try.prog w' = .ok (.slice D (xs.drop m).length (cap - m)) w' := by
  have hr : ∀ w', (Instr.slice 27 (.slice (some ⟨b, off, none⟩) xs.length cap) (some (.int .i64 (m : Int))) none none).run Try.prog w' = .ok (.slice (if cap = m then some ⟨b, off, none⟩ else some ((⟨b, off, none⟩ : Addr).add (m * 2))) (xs.drop m).length (cap - m)) w' := by
    intro w'
    rw [run_slice_l _ _ _ _ _ und_step _ _ (by omega) (by omega), size_step]
    simp only [Result.andThen, sliced, Int.toNat_natCast, Option.map_some, List.length_drop]
  by_cases hcm : cap = m
  · have hd : xs.drop m = [] := List.drop_eq_nil_of_le (by omega)
    refine ⟨some ⟨b, off, none⟩, by rw [hd]; exact Elem.AS.nil, fun w' => ?_⟩
    rw [hr, if_pos hcm]
  · refine ⟨some ⟨b, off + m * 2, none⟩, h.dropAt m, fun w' => ?_⟩
    rw [hr, if_neg hcm]
    have hadd : (⟨b, off, none⟩ : Addr).add (m * 2) = ⟨b, off + m * 2, none⟩ := by unfold Addr.add; split <;> simp_all
    rw [hadd]
end Go.Proofs.Ytnanlbglgflecaa
