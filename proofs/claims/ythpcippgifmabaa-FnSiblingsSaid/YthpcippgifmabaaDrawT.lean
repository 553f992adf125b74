/-
  A kin type drawn from bytes: it is valid, whatever the bytes are.
-/
import Derived.Test.YthpcippgifmabaaGFrom
import Derived.Test.YthpcippgifmabaaGCur
import Derived.Test.YthpcippgifmabaaParseM
namespace Go.Proofs.Ythpcippgifmabaa
set_option maxRecDepth 100000
open Go.RowKit

theorem addS_age {t : KinType} (h : typeOk t = true) (hl : t.steps.length < 8) {k a : Int} (hk : k = 3 ∨ k = 4) (ha : 0 ≤ a ∧ a ≤ 2) : typeOk (addS t ⟨k, a⟩) = true := by
  rw [addS_ok h hl]
  simp only [stepOk, decide_eq_true_eq]
  omega
theorem Chg.then_below {w w' w'' : World} {lo hi B : Nat} (h : Chg lo hi w w') (hb : Below B w' w'') (hB : w.heap.size ≤ B) : Chg lo hi w w'' :=
  ⟨hb.os.trans h.os, hb.tape.trans h.tape, hb.output.trans h.output, Nat.le_trans h.size hb.size, fun k hk hd => (hb.block k (by omega)).trans (h.block k hk hd)⟩

theorem flat_two (zs : List Step) : (zs.flatMap fun s => [Value.int .i64 s.kind, .int .i64 s.age]).length = zs.length * 2 := by
  induction zs with
  | nil => rfl
  | cons x r ih => rw [List.flatMap_cons, List.length_append, ih]; simp; omega
theorem set_age {zs : List Step} {s : Step} {b : Int} : ((zs ++ [s]).flatMap fun s => [Value.int .i64 s.kind, .int .i64 s.age]).set (((zs ++ [s]).length - 1) * 2 + 1) (.int .i64 b) = (zs ++ [(⟨s.kind, b⟩ : Step)]).flatMap fun s => [Value.int .i64 s.kind, .int .i64 s.age] := by
  rw [List.flatMap_append, List.flatMap_append, show (zs ++ [s]).length - 1 = zs.length by simp, List.set_append_right _ _ (by rw [flat_two]; omega), flat_two, show zs.length * 2 + 1 - zs.length * 2 = 1 by omega]; rfl
theorem undrewT {w w' : World} {lo hi : Nat} (h : Chg lo hi w.drew w') : Chg lo hi w w' := ⟨h.os, h.tape, h.output, h.size, h.block⟩
end Go.Proofs.Ythpcippgifmabaa
