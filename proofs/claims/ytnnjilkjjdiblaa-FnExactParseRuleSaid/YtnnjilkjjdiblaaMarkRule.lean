/-
  Marks of the steps of a rule.
-/
import Derived.Test.YtnnjilkjjdiblaaMarkTyp
import Derived.Test.YtnnjilkjjdiblaaGRule
namespace Go.Proofs.Ytnnjilkjjdiblaa
set_option maxRecDepth 100000
open Go.RowKit

theorem OS_capR {α : Type} {E : Elem α} {w : World} {lo hi n c : Nat} {A : Option Addr} {xs : List α} (h : E.OS w lo hi (.slice A n c) xs) : n ≤ c ∧ c ≤ maxLen := by
  obtain ⟨A', c', he, h1, h2, _⟩ := h.read
  injection he with e1 e2 e3
  subst e1; subst e3
  exact ⟨by omega, h2⟩
theorem markRule_any (x0 : ByteArray) (x1 x2 : Int) (A B : Option Addr) (c d lo hi : Nat) (xs ys : List Step) (k : Int) (w : World) (h : EStep.OS w lo hi (.slice A xs.length c) xs) (h' : EStep.OS w lo hi (.slice B ys.length d) ys) (hne : ∀ b, (Value.slice A xs.length c).ownBlock = some b → (Value.slice B ys.length d).ownBlock ≠ some b) (hh : hi ≤ w.heap.size) (h0 : 0 ≤ k) (h1 : k + 2 * xs.length + 2 * ys.length ≤ 4611686018427387904) :
    Calls Try.prog 45 #[.agg #[.string x0, .int .i64 x1, .int .i64 x2, .slice A xs.length c, .slice B ys.length d], .int .i64 k] w fun e w' => e = .returned (.int .i64 (k + 2 * xs.length + 2 * ys.length)) ∧ EStep.OS w' lo hi (.slice A xs.length c) (mkTo (markStep k) xs.length) ∧ EStep.OS w' lo hi (.slice B ys.length d) (mkTo (markStep (k + 2 * xs.length)) ys.length) ∧ Chg lo hi w w' := by
  have k1 : 0 ≤ k + 2 * (xs.length : Int) := by omega
  go_enter Try.func45, Try.ntmps45
  go_wp2_with fail
  generalize hW : w.alloc (.cells #[.string x0, .int .i64 x1, .int .i64 x2, .slice A xs.length c, .slice B ys.length d] 58) = W
  have a4 : W.cell? ⟨w.heap.size, 4, none⟩ = some (.slice B ys.length d) := by subst hW; simp [go_sem]
  have hb : Chg lo hi w W := by subst hW; exact (Chg.refl _ _ _).alloc _
  have z : w.heap.size + 1 = W.heap.size := by subst hW; simp
  replace h : EStep.OS W lo hi (.slice A xs.length c) xs := by subst hW; exact h.same (by (with_reducible repeat' first | exact Same.refl _ _ _ | assumption | (refine Same.setCell ?_ (by first | omega | (simp; omega) | (simp; done) | (dsimp only; omega)) _) | (refine Same.alloc ?_ (by first | omega | (simp; omega) | (simp; done) | (dsimp only; omega)) _) | (refine Same.drewN ?_ _) | (refine Same.drew ?_)))
  replace h' : EStep.OS W lo hi (.slice B ys.length d) ys := by subst hW; exact h'.same (by (with_reducible repeat' first | exact Same.refl _ _ _ | assumption | (refine Same.setCell ?_ (by first | omega | (simp; omega) | (simp; done) | (dsimp only; omega)) _) | (refine Same.alloc ?_ (by first | omega | (simp; omega) | (simp; done) | (dsimp only; omega)) _) | (refine Same.drewN ?_ _) | (refine Same.drew ?_)))
  clear hW
  refine (markStepS_own A c lo hi xs k W h (by first | omega | (simp; omega) | (simp; done) | (dsimp only; omega)) h0 (by omega)).mono ?_
  rintro e w1 ⟨rfl, o1, hc1, hs1⟩
  replace h' : EStep.OS w1 lo hi (.slice B ys.length d) ys := flat_os.2 ((flat_os.1 h').loc fun b hb' => hc1.block b (by have := (h'.blkv b hb').2; omega) (fun e => hne b e hb'))
  replace a4 : w1.cell? ⟨w.heap.size, 4, none⟩ = some (.slice B ys.length d) := (World.cell?_of_block (hc1.block w.heap.size (by omega) (fun e => by have := (h.blkv _ e).2; omega))).trans a4
  have hb1 := hb.trans (hc1.chg fun b hb' => h.blkv b hb')
  have z1 := hc1.size
  go_wp2_with fail
  refine (markStepS_own B d lo hi ys (k + 2 * xs.length) w1 h' (by first | omega | (simp; omega) | (simp; done) | (dsimp only; omega)) k1 (by omega)).mono ?_
  rintro e w2 ⟨rfl, o2, hc2, hs2⟩
  have o1' : EStep.OS w2 lo hi (.slice A xs.length c) (mkTo (markStep k) xs.length) := by
    have hl := (flat_os.1 o1)
    refine flat_os.2 (hl.loc fun b hb' => hc2.block b (by have := (o1.blkv b hb').2; omega) (fun e => hne b hb' e))
  go_wp2_with fail
  go_ret
  exact ⟨rfl, o1', o2, hb1.trans (hc2.chg fun b hb' => h'.blkv b hb')⟩
end Go.Proofs.Ytnnjilkjjdiblaa
