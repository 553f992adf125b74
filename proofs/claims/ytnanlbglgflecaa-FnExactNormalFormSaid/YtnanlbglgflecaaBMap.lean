/-
  Maps to truth values, as sets of keys.
-/
import Derived.Test.YtnanlbglgflecaaBase
import Derived.Maps.OwnOps
import Derived.Maps.OwnSet
namespace Go.Proofs.Ytnanlbglgflecaa
set_option maxRecDepth 100000
open Go.RowKit Go.Maps

theorem plainElem_bool_inv {H : Type} {P : Program} {e : TypeId} (he : P.underlying e = some .bool) {v : Value} {z : DataW H × List MemPlace} (h : plainElem P e v = some z) : ∃ x, v = .bool x ∧ z = (.lit (.bool x), []) := by
  unfold plainElem at h
  rw [he] at h
  cases v <;> simp at h
  exact ⟨_, rfl, h.symm⟩

/-- Block b is a map of at most n entries from keys of type k to truth values; S says which keys are true in it. -/
def BSet (w : World) (k b n : Nat) (S : Lit → Bool) : Prop :=
  ∃ D : DataW Unit, w.ownsMap Try.prog k (plainElem Try.prog 4) b n D ∧ ∀ kl, WideAt.IsKeyLit kl → D.atKey kl (.lit (.bool false)) = .lit (.bool (S kl))
section
variable {w w' : World} {k b n t : Nat} {S : Lit → Bool} {row : Option Nat}
theorem BSet.made (w : World) (k : Nat) : BSet (w.alloc (.map #[] 0)) k w.heap.size 0 fun _ => false :=
  ⟨.map [], World.ownsMap_made _ _ _ _, fun _kl _ => rfl⟩
theorem BSet.lt (h : BSet w k b n S) : b < w.heap.size := by obtain ⟨D, h1, _⟩ := h; exact h1.lt
theorem BSet.to (h : BSet w k b n S) (he : w'.heap[b]? = w.heap[b]?) : BSet w' k b n S := by
  obtain ⟨D, ⟨es, clock, hb, r⟩, hS⟩ := h
  exact ⟨D, ⟨es, clock, he.trans hb, r⟩, hS⟩
theorem BSet.alloc (h : BSet w k b n S) (o : Obj) : BSet (w.alloc o) k b n S := h.to (Below.heap_alloc _ _ _ h.lt)
theorem BSet.drew (h : BSet w k b n S) : BSet w.drew k b n S := h
theorem BSet.below {B : Nat} (h : BSet w k b n S) (hb : Below B w w') (hl : b < B) : BSet w' k b n S := h.to (hb.block _ hl)
theorem BSet.same {lo hi : Nat} (h : BSet w k b n S) (hs : Same lo hi w w') (h1 : lo ≤ b) (h2 : b < hi) : BSet w' k b n S := h.to (hs.block _ h1 h2)
theorem BSet.far (h : BSet w k b n S) {p : Addr} (hp : b ≠ p.block) (u : Value) : BSet (w.setCell p u) k b n S := h.to (Below.heap_setCell _ _ _ _ hp)
theorem BSet.mono {n' : Nat} (h : BSet w k b n S) (hn : n ≤ n') : BSet w k b n' S := by obtain ⟨D, h1, h2⟩ := h; exact ⟨D, h1.mono hn, h2⟩
theorem bool_und : Try.prog.underlying 4 = some .bool := by kernel_rfl
theorem bool_zero (w : World) : (zeroValue 4).run Try.prog w = .ok (.bool false) w := by kernel_rfl
/-- 'm[k]'. -/
theorem BSet.look (h : BSet w k b n S) (K : Keyed Try.prog k) (ht : Try.prog.underlying t = some (.map k 4)) {key : Value} {kl : Lit} (hkey : keyOf Try.prog k key = some kl) :
    (Instr.lookup t (.map (some b)) key false).run Try.prog w = .ok (.bool (S kl)) w := by
  obtain ⟨D, h1, h2⟩ := h
  obtain ⟨v, ps, hrun, hv⟩ := h1.lookup K ht (bool_zero w) (plainElem_bool bool_und false) hkey
  obtain ⟨c, rfl, hc⟩ := plainElem_bool_inv bool_und hv
  simp only [Prod.mk.injEq] at hc
  rw [h2 kl (K.key hkey)] at hc
  have e : c = S kl := by
    have := hc.1
    injection this with this
    injection this with this
    exact this.symm
  rw [← e]; exact hrun
/-- 'm[k] = true'. -/
theorem BSet.put (h : BSet w k b n S) (K : Keyed Try.prog k) (ht : Try.prog.underlying t = some (.map k 4)) (hn : n < maxLen) {key : Value} {kl : Lit} (hkey : keyOf Try.prog k key = some kl) :
    ∃ w', (Instr.mapUpdate t (.map (some b)) key (.bool true)).run Try.prog w = .ok () w' ∧ BSet w' k b (n + 1) (fun l => l.sameKey kl || S l) ∧ w.grownBy w' (some b) := by
  obtain ⟨D, h1, h2⟩ := h
  obtain ⟨w', hrun, hown, hg⟩ := h1.update K ht hn hkey (plainElem_bool bool_und true)
  refine ⟨w', hrun, ⟨_, hown, fun l hl => ?_⟩, hg⟩
  by_cases he : l = kl
  · subst he
    rw [atKey_put_same h1.isMap hl]; simp [WideAt.sameKey_self hl]
  · rw [atKey_put_other he, h2 l hl]; simp [sameKey_ne he]
theorem sameKey_iff {a b : Lit} (h : WideAt.IsKeyLit b) : a.sameKey b = true ↔ a = b := by
  constructor
  · exact WideAt.sameKey_eq
  · rintro rfl; exact WideAt.sameKey_self h
end

/-- 'm[k]' in a walk. -/
theorem wpList_lookup_set {w : World} {ops : Array Oper} {rest : List Oper} {o : Oper} {a : Act} {Q : Exit → Act → World → Prop} (hg : o.guard = none) (m x : Operand) (t : TypeId) (hop : o.op = Op.lookup t m x false)
    (k : TypeId) (K : Keyed Try.prog k) (ht : Try.prog.underlying t = some (.map k 4)) (b n : Nat) (S : Lit → Bool) (hm : a.eval m = .map (some b)) (hs : BSet w k b n S) (key : Value) (kl : Lit) (hx : a.eval x = key) (hkey : keyOf Try.prog k key = some kl)
    (hK : wpList Try.prog ops Q rest (a.put o.dst (.bool (S kl))) w) : wpList Try.prog ops Q (o :: rest) a w := by
  refine wpList_plain hg fun K' hK' => ?_
  have hrun := hs.look K ht hkey
  unfold Oper.wp
  simp [execOp, hop, hm, hx, hrun, Result.andThen]
  exact hK' _ _ hK
/-- 'm[k] = true' in a walk. -/
theorem wpList_put_set {w : World} {ops : Array Oper} {rest : List Oper} {o : Oper} {a : Act} {Q : Exit → Act → World → Prop} (hg : o.guard = none) (m x y : Operand) (t : TypeId) (hop : o.op = Op.mapUpdate t m x y)
    (k : TypeId) (K : Keyed Try.prog k) (ht : Try.prog.underlying t = some (.map k 4)) (b n : Nat) (S : Lit → Bool) (hm : a.eval m = .map (some b)) (hs : BSet w k b n S) (hn : n < maxLen) (key : Value) (kl : Lit) (hx : a.eval x = key) (hy : a.eval y = .bool true) (hkey : keyOf Try.prog k key = some kl)
    (hK : ∀ w', BSet w' k b (n + 1) (fun l => l.sameKey kl || S l) → w.grownBy w' (some b) → wpList Try.prog ops Q rest (a.put o.dst undef) w') : wpList Try.prog ops Q (o :: rest) a w := by
  refine wpList_plain hg fun K' hK' => ?_
  obtain ⟨w', hrun, h1, h2⟩ := hs.put K ht hn hkey
  unfold Oper.wp
  simp [execOp, hop, hm, hx, hy, hrun, Result.andThen]
  exact hK' _ _ (hK w' h1 h2)
end Go.Proofs.Ytnanlbglgflecaa
