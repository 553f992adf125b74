/-
  Rules: sizes, copies, equality.
  Rules: what makes them valid. Plain definitions.
  Which of two lists of steps comes first, in the program and in the reference.
-/
import Derived.Test.YtnnjilkjjdiblaaConvTyp
import Derived.Test.YtnnjilkjjdiblaaTyp2

/-! ## ConvRule -/
namespace Go.Proofs.Ytnnjilkjjdiblaa
set_option maxRecDepth 100000
open Go.RowKit

structure Rule where
  name : ByteArray
  sex : Int
  place : Int
  src : List Step
  dst : List Step
  deriving DecidableEq

def vsRule (x : Rule) (v1 v2 : Value) : List Value := [.string x.name, .int .i64 x.sex, .int .i64 x.place, v1, v2]
theorem blocks_rule {x : Rule} {v1 v2 : Value} {b : Nat} : b ∈ blocks (vsRule x v1 v2) ↔ v1.ownBlock = some b ∨ v2.ownBlock = some b := by
  simp only [blocks, vsRule, List.mem_filterMap, List.mem_cons, List.not_mem_nil, or_false]
  constructor
  · rintro ⟨a, rfl | rfl | rfl | rfl | rfl, h⟩
    · simp [Value.ownBlock] at h
    · simp [Value.ownBlock] at h
    · simp [Value.ownBlock] at h
    · exact .inl h
    · exact .inr h
  · rintro (h | h)
    · exact ⟨v1, by simp, h⟩
    · exact ⟨v2, by simp, h⟩
def ERule : Elem Rule where
  e := 58
  sz := 5
  O := fun w lo hi cs x => ∃ v1 v2, cs = vsRule x v1 v2 ∧ EStep.OS w lo hi v1 x.src ∧ EStep.OS w lo hi v2 x.dst ∧ (∀ b, v1.ownBlock = some b → v2.ownBlock ≠ some b) ∧ x.name.size ≤ 140737488355328
  R := fun w lo hi cs x => ∃ v1 v2, cs = vsRule x v1 v2 ∧ EStep.RS w lo hi v1 x.src ∧ EStep.RS w lo hi v2 x.dst ∧ x.name.size ≤ 140737488355328
  len := fun ⟨_, _, h, _⟩ => by rw [h]; rfl
  read := fun ⟨v1, v2, h, a, b, _, d⟩ => ⟨v1, v2, h, a.read, b.read, d⟩
  sameO := fun ⟨v1, v2, h, a, b, c, d⟩ s => ⟨v1, v2, h, a.same s, b.same s, c, d⟩
  sameR := fun ⟨v1, v2, h, a, b, d⟩ s => ⟨v1, v2, h, a.same s, b.same s, d⟩
  monoO := fun ⟨v1, v2, h, a, b, c, d⟩ p q => ⟨v1, v2, h, a.mono p q, b.mono p q, c, d⟩
  monoR := fun ⟨v1, v2, h, a, b, d⟩ p q => ⟨v1, v2, h, a.mono p q, b.mono p q, d⟩
  blk := fun ⟨v1, v2, h, a, b, _, _⟩ k hk => by
    rw [h] at hk
    rcases blocks_rule.1 hk with hk | hk
    · exact a.blkv _ hk
    · exact b.blkv _ hk
  loc := fun {w w' lo hi cs x} ⟨v1, v2, h, a, b, c, d⟩ hb => by
    refine ⟨v1, v2, h, a.loc (fun k hk => hb k ?_) (fun h => h), b.loc (fun k hk => hb k ?_) (fun h => h), c, d⟩
    · rw [h]; exact blocks_rule.2 (.inl hk)
    · rw [h]; exact blocks_rule.2 (.inr hk)
section
variable {w : World} {lo hi : Nat} {A : Option Addr} {k : Nat}
theorem ARule.at_ {xs : List Rule} (h : ERule.AS w lo hi A xs) (hk : k < xs.length) : ∃ b off x A1 c1 A2 c2, A = some ⟨b, off, none⟩ ∧ lo ≤ b ∧ b < hi ∧ xs.drop k = x :: xs.drop (k + 1) ∧ xs[k]? = some x ∧
    w.cell? ⟨b, off + k * 5, none⟩ = some (.string x.name) ∧ w.cell? ⟨b, off + k * 5 + 1, none⟩ = some (.int .i64 x.sex) ∧ w.cell? ⟨b, off + k * 5 + 2, none⟩ = some (.int .i64 x.place) ∧
    w.cell? ⟨b, off + k * 5 + 3, none⟩ = some (.slice A1 x.src.length c1) ∧ w.cell? ⟨b, off + k * 5 + 4, none⟩ = some (.slice A2 x.dst.length c2) ∧ EStep.AS w lo hi A1 x.src ∧ EStep.AS w lo hi A2 x.dst ∧ x.name.size ≤ 140737488355328 := by
  obtain ⟨b, off, x, cs, rfl, h1, h2, h3, h4, ⟨v1, v2, rfl, ⟨A1, c1, rfl, _, _, q1⟩, ⟨A2, c2, rfl, _, _, q2⟩, q3⟩, hc⟩ := h.at_ hk
  exact ⟨b, off, x, A1, c1, A2, c2, rfl, h1, h2, h3, h4, by simpa [ERule, Nat.add_assoc] using hc 0 _ rfl, by simpa [ERule, Nat.add_assoc] using hc 1 _ rfl, by simpa [ERule, Nat.add_assoc] using hc 2 _ rfl, by simpa [ERule, Nat.add_assoc] using hc 3 _ rfl, by simpa [ERule, Nat.add_assoc] using hc 4 _ rfl, q1, q2, q3⟩
end

end Go.Proofs.Ytnnjilkjjdiblaa

/-! ## RuleM -/
namespace Go.Proofs.Ytnnjilkjjdiblaa
set_option maxRecDepth 100000
open Go.RowKit

/-! ### Lists of rules -/
end Go.Proofs.Ytnnjilkjjdiblaa

/-! ## RuleC -/
namespace Go.Proofs.Ytnnjilkjjdiblaa
set_option maxRecDepth 100000
open Go.RowKit

end Go.Proofs.Ytnnjilkjjdiblaa
