/-
  Pairs: sizes, copies, equality, marks.
  The pairs of a relation, in the program and in the reference.
  Joining, meeting and subtracting relations; the converse and the composition, in the program.
  Joining, meeting and subtracting relations in the reference.
  Bounds of the sizes of results.
  Joining, meeting and subtracting relations in the reference: the three functions.
  Maps to truth values, as sets of keys.
  The relation of pairs, in the program and in the reference.
  The closure of a relation, in the reference and in the program.
  The closure of a relation, in the program.
  Whether a relation lies within another one, in the program and in the reference.
  The composition of relations, in the program.
  The composition of relations, in the reference.
  The algebra of relations: the plain law. No program in sight.
  The converse of a relation, in the program and in the reference.
  The functions of relations at valid relations of one size.
-/
import Derived.Test.YthpcippgifmabaaFlat
import Derived.Test.YthpcippgifmabaaGRel
import Derived.Test.YthpcippgifmabaaBase
import Derived.Maps.OwnOps
import Derived.Maps.OwnSet
import Derived.Test.YthpcippgifmabaaOpen
import Derived.DeepKeys4

/-! ## ConvPair -/
namespace Go.Proofs.Ythpcippgifmabaa
set_option maxRecDepth 100000
open Go.RowKit

structure Pair where
  a : Int
  b : Int
  deriving DecidableEq
def vsPair (s : Pair) : List Value := [.int .i64 s.a, .int .i64 s.b]
section
variable {w : World} {lo hi : Nat} {A : Option Addr} {k : Nat}
end

theorem pair_fill {k n g e : Nat} {css : List (List Value)} {w1 : World} {a0 a1 : Value} (hf : Fill w1 g e (n * 2) css.flatten (k * 2)) (hl : css.flatten.length = k * 2) (hk : k < n) :
    Fill (((w1).setCell ⟨g, k * 2, none⟩ a0).setCell ⟨g, k * 2 + 1, none⟩ a1) g e (n * 2) (css.flatten ++ [a0, a1]) ((k + 1) * 2) := by
  have h := (hf.push (o := k * 2) (u := a0) hl (by omega) rfl).push (o := k * 2 + 1) (u := a1) (by simp [hl]) (by omega) rfl
  simpa [Nat.succ_mul] using h
def markPair (k : Int) (i : Nat) : Pair := ⟨k + 2 * i, k + 2 * i + 1⟩
end Go.Proofs.Ythpcippgifmabaa

/-! ## Pairs -/
namespace Go.Proofs.Ythpcippgifmabaa
set_option maxRecDepth 100000
open Go.RowKit

/-- A list that grows in a loop. -/
def AccRelP {α : Type} (E : Elem α) (P : Nat → List α) (n : Nat) (W : World) (v i : Value) (wr : World) : Prop :=
  ∃ (k : Nat) (A : Option Addr) (c : Nat), k ≤ n ∧ i = .int .i64 k ∧ v = .slice A (P k).length c ∧ E.OS wr W.heap.size wr.heap.size (.slice A (P k).length c) (P k) ∧ Below W.heap.size W wr

theorem rowOk_len {n : Int} {xs : List Int} : ∀ {last : Int}, last < n → rowOk n last xs = true → (xs.length : Int) ≤ n - last - 1 := by
  induction xs with
  | nil => intro last h _; simp; omega
  | cons b r ih =>
    intro last h h1
    rw [rowOk] at h1
    split at h1
    · cases h1
    · have := ih (last := b) (by omega) h1
      simp only [List.length_cons]; omega
theorem rowOk_len' {n : Nat} {xs : List Int} (h : rowOk n (-1) xs = true) : xs.length ≤ n := by
  have := rowOk_len (by omega) h
  omega
def pairsUp (xs : List (List Int)) (k : Nat) : List Pair := (List.range k).flatMap fun (a : Nat) => (xs.getD a []).map (Pair.mk a)
def pairsIn (xs : List (List Int)) (k : Nat) (row : List Int) (j : Nat) : List Pair := pairsUp xs k ++ (row.take j).map (Pair.mk k)
theorem pairsIn_start (xs : List (List Int)) (k : Nat) (row : List Int) : pairsUp xs k = pairsIn xs k row 0 := by simp [pairsIn]
theorem pairsIn_end {xs : List (List Int)} {k : Nat} {row : List Int} (h : xs[k]? = some row) : pairsIn xs k row row.length = pairsUp xs (k + 1) := by
  simp [pairsIn, pairsUp, List.range_succ, List.getD, h]
theorem pairsIn_step {xs : List (List Int)} {k j : Nat} {row : List Int} {x : Int} (h : row[j]? = some x) : pairsIn xs k row (j + 1) = pairsIn xs k row j ++ [⟨k, x⟩] := by
  simp [pairsIn, List.take_add_one, h]
theorem pairsUp_len {xs : List (List Int)} {n : Nat} (h : ∀ x ∈ xs, x.length ≤ n) : ∀ k, (pairsUp xs k).length ≤ k * n := by
  intro k
  induction k with
  | zero => simp [pairsUp]
  | succ k ih =>
    have h1 : (xs.getD k []).length ≤ n := by
      by_cases hk : k < xs.length
      · rw [List.getD_eq_getElem?_getD, List.getElem?_eq_getElem hk]; exact h _ (List.getElem_mem hk)
      · rw [List.getD_eq_getElem?_getD, List.getElem?_eq_none (by omega)]; simp
    simp only [pairsUp, List.range_succ, List.flatMap_append, List.length_append, List.flatMap_cons, List.flatMap_nil, List.append_nil, List.length_map] at ih ⊢
    rw [Nat.succ_mul]; omega
def pairsM (r : Relation) : List Pair := if relOk r = true then pairsUp r.rows r.size.toNat else []
theorem pairsM_in {n : Nat} {xs : List (List Int)} (h : relOk ⟨n, xs⟩ = true) : pairsM ⟨n, xs⟩ = pairsUp xs n := by rw [pairsM, if_pos h]; simp
theorem pairsM_out {r : Relation} (h : relOk r = false) : pairsM r = [] := by rw [pairsM, if_neg (by rw [h]; simp)]
theorem pairsM_len (r : Relation) : (pairsM r).length ≤ 1600 := by
  unfold pairsM; split
  · rename_i h
    obtain ⟨n, hn, hn', hl, hr⟩ := relOk_parts (s := r.size) (xs := r.rows) h
    have := pairsUp_len (fun x hx => rowOk_len' (hr x hx)) r.size.toNat
    have h2 : r.size.toNat * n ≤ 40 * 40 := Nat.mul_le_mul (by omega) hn'
    omega
  · simp
end Go.Proofs.Ythpcippgifmabaa

/-! ## RelMix -/
namespace Go.Proofs.Ythpcippgifmabaa
set_option maxRecDepth 100000
open Go.RowKit

theorem gridP_at {xs : List (List Int)} {a : Nat} {r : List Int} (h : xs[a]? = some r) (b : Nat) : gridP xs a b = hasB r b := by simp [gridP, List.getD, h]
def mixM (f : Bool → Bool → Bool) (r s : Relation) : Relation := if bothOk r s = true then ⟨r.size, relM r.size.toNat fun a b => f (gridP r.rows a b) (gridP s.rows a b)⟩ else zeroRel
theorem mixM_in {f : Bool → Bool → Bool} {n : Nat} {xs ys : List (List Int)} (h : bothOk ⟨n, xs⟩ ⟨n, ys⟩ = true) : mixM f ⟨n, xs⟩ ⟨n, ys⟩ = ⟨n, relM n fun a b => f (gridP xs a b) (gridP ys a b)⟩ := by rw [mixM, if_pos h]; simp
theorem mixM_out {f : Bool → Bool → Bool} {r s : Relation} (h : bothOk r s = false) : mixM f r s = zeroRel := by rw [mixM, if_neg (by rw [h]; simp)]
def convM (r : Relation) : Relation := if relOk r = true then ⟨r.size, relM r.size.toNat fun a b => gridP r.rows b a⟩ else zeroRel
theorem convM_in {n : Nat} {xs : List (List Int)} (h : relOk ⟨n, xs⟩ = true) : convM ⟨n, xs⟩ = ⟨n, relM n fun a b => gridP xs b a⟩ := by rw [convM, if_pos h]; simp
theorem convM_out {r : Relation} (h : relOk r = false) : convM r = zeroRel := by rw [convM, if_neg (by rw [h]; simp)]
def stepP (n : Nat) (p q : Nat → Nat → Bool) : Nat → Nat → Bool := fun a c => (List.range n).any fun b => p a b && q b c
def compM (r s : Relation) : Relation := if bothOk r s = true then ⟨r.size, relM r.size.toNat (stepP r.size.toNat (gridP r.rows) (gridP s.rows))⟩ else zeroRel
theorem compM_in {n : Nat} {xs ys : List (List Int)} (h : bothOk ⟨n, xs⟩ ⟨n, ys⟩ = true) : compM ⟨n, xs⟩ ⟨n, ys⟩ = ⟨n, relM n (stepP n (gridP xs) (gridP ys))⟩ := by rw [compM, if_pos h]; simp
theorem compM_out {r s : Relation} (h : bothOk r s = false) : compM r s = zeroRel := by rw [compM, if_neg (by rw [h]; simp)]

end Go.Proofs.Ythpcippgifmabaa

/-! ## MixS -/
namespace Go.Proofs.Ythpcippgifmabaa
set_option maxRecDepth 100000
open Go.RowKit

def mixF (h : Int) : Bool → Bool → Bool := fun x y => if h = 0 then x || y else if h = 1 then x && y else x && !y
def mixIn (f : Bool → Bool → Bool) (p q : Nat → Nat → Bool) (k j : Nat) : Nat → Nat → Bool := fun a b => if a < k ∨ (a = k ∧ b < j) then f (p a b) (q a b) else p a b
theorem mixIn_at (f : Bool → Bool → Bool) (p q : Nat → Nat → Bool) (k j : Nat) : mixIn f p q k j k j = p k j := by simp [mixIn]
theorem mixIn_step (f : Bool → Bool → Bool) (p q : Nat → Nat → Bool) (n k j : Nat) : mat n (upd (mixIn f p q k j) k j (f (p k j) (q k j))) = mat n (mixIn f p q k (j + 1)) :=
  mat_congr fun a b _ _ => by
    unfold upd mixIn
    by_cases h : a = k ∧ b = j
    · obtain ⟨rfl, rfl⟩ := h; simp
    · rw [if_neg h]
      by_cases h1 : a < k ∨ (a = k ∧ b < j)
      · rw [if_pos h1, if_pos (by omega)]
      · rw [if_neg h1, if_neg (by omega)]
theorem mixIn_next (f : Bool → Bool → Bool) (p q : Nat → Nat → Bool) (n k : Nat) : mat n (mixIn f p q k n) = mat n (mixIn f p q (k + 1) 0) :=
  mat_congr fun a b _ hb => by
    unfold mixIn
    by_cases h1 : a < k ∨ (a = k ∧ b < n)
    · rw [if_pos h1, if_pos (by omega)]
    · rw [if_neg h1, if_neg (by omega)]
theorem mixIn_start (f : Bool → Bool → Bool) (p q : Nat → Nat → Bool) (n : Nat) : mat n p = mat n (mixIn f p q 0 0) := mat_congr fun a b _ _ => by simp [mixIn]
theorem mixIn_end (f : Bool → Bool → Bool) (p q : Nat → Nat → Bool) (n : Nat) : mat n (mixIn f p q n 0) = mat n fun a b => f (p a b) (q a b) := mat_congr fun a b ha _ => by simp [mixIn, ha]

theorem OS_drew {α : Type} {E : Elem α} {w : World} {lo hi : Nat} {v : Value} {xs : List α} (h : E.OS w lo hi v xs) : E.OS w.drew lo hi v xs := h.same ⟨Nat.le_refl _, fun _ _ _ => rfl⟩

end Go.Proofs.Ythpcippgifmabaa

/-! ## Bound -/
namespace Go.Proofs.Ythpcippgifmabaa
set_option maxRecDepth 100000
open Go.RowKit

theorem tot_le {xs : List (List Int)} {n : Nat} (h : ∀ x ∈ xs, x.length ≤ n) : tot xs ≤ xs.length * n := by
  induction xs with
  | nil => simp [tot]
  | cons y r ih =>
    have h1 := h y (by simp)
    have h2 := ih fun x hx => h x (by simp [hx])
    simp only [tot, List.length_cons, Nat.add_mul, Nat.one_mul]; omega
theorem relM_tot (n : Nat) (p : Nat → Nat → Bool) : tot (relM n p) ≤ n * n := by
  have := tot_le (xs := relM n p) (n := n) fun x hx => by
    simp only [relM, relTo, List.mem_map] at hx
    obtain ⟨a, _, rfl⟩ := hx
    exact idxTo_len _ _
  rwa [relM_len] at this
theorem relM_tot' {n : Nat} (p : Nat → Nat → Bool) (h : n ≤ 40) : tot (relM n p) ≤ 1600 :=
  Nat.le_trans (relM_tot n p) (Nat.mul_le_mul h h)
theorem emptyM_tot (n : Int) : tot (emptyM n).rows ≤ 1600 := by
  unfold emptyM; split
  · exact relM_tot' _ (by omega)
  · simp [zeroRel, tot]
theorem identM_tot (n : Int) : tot (identM n).rows ≤ 1600 := by
  unfold identM; split
  · exact relM_tot' _ (by omega)
  · simp [zeroRel, tot]
end Go.Proofs.Ythpcippgifmabaa

/-! ## MixS2 -/
namespace Go.Proofs.Ythpcippgifmabaa
set_option maxRecDepth 100000
open Go.RowKit

theorem mixM_tot (f : Bool → Bool → Bool) (r s : Relation) : tot (mixM f r s).rows ≤ 1600 := by
  unfold mixM; split
  · rename_i h
    simp only [bothOk, Bool.and_eq_true, decide_eq_true_eq] at h
    obtain ⟨n, hn, hn', _⟩ := relOk_parts (s := r.size) (xs := r.rows) h.1.1
    exact relM_tot' _ (by omega)
  · simp [zeroRel, tot]
theorem convM_tot (r : Relation) : tot (convM r).rows ≤ 1600 := by
  unfold convM; split
  · rename_i h
    obtain ⟨n, hn, hn', _⟩ := relOk_parts (s := r.size) (xs := r.rows) h
    exact relM_tot' _ (by omega)
  · simp [zeroRel, tot]
theorem compM_tot (r s : Relation) : tot (compM r s).rows ≤ 1600 := by
  unfold compM; split
  · rename_i h
    simp only [bothOk, Bool.and_eq_true, decide_eq_true_eq] at h
    obtain ⟨n, hn, hn', _⟩ := relOk_parts (s := r.size) (xs := r.rows) h.1.1
    exact relM_tot' _ (by omega)
  · simp [zeroRel, tot]

end Go.Proofs.Ythpcippgifmabaa

/-! ## BMap -/
namespace Go.Proofs.Ythpcippgifmabaa
set_option maxRecDepth 100000
open Go.RowKit Go.Maps

theorem plainElem_bool_inv {H : Type} {P : Program} {e : TypeId} (he : P.underlying e = some .bool) {v : Value} {z : DataW H × List MemPlace} (h : plainElem P e v = some z) : ∃ x, v = .bool x ∧ z = (.lit (.bool x), []) := by
  unfold plainElem at h
  rw [he] at h
  cases v <;> simp at h
  exact ⟨_, rfl, h.symm⟩

/-- Block b is a map of at most n entries from keys of type k to truth values; S says which keys are true in it. -/
def BSet (w : World) (k b n : Nat) (S : Lit → Bool) : Prop :=
  ∃ D : DataW Unit, w.ownsMap Try.prog k (plainElem Try.prog 4) b n D ∧ ∀ kl, WideAt.IsKeyLit kl → D.atKey kl (.lit (.bool false)) = .lit (.bool (S kl))
section
variable {w w' : World} {k b n t : Nat} {S : Lit → Bool} {row : Option Nat}
theorem BSet.made (w : World) (k : Nat) : BSet (w.alloc (.map #[] 0)) k w.heap.size 0 fun _ => false :=
  ⟨.map [], World.ownsMap_made _ _ _ _, fun _kl _ => rfl⟩
theorem BSet.lt (h : BSet w k b n S) : b < w.heap.size := by obtain ⟨D, h1, _⟩ := h; exact h1.lt
theorem BSet.to (h : BSet w k b n S) (he : w'.heap[b]? = w.heap[b]?) : BSet w' k b n S := by
  obtain ⟨D, ⟨es, clock, hb, r⟩, hS⟩ := h
  exact ⟨D, ⟨es, clock, he.trans hb, r⟩, hS⟩
theorem BSet.alloc (h : BSet w k b n S) (o : Obj) : BSet (w.alloc o) k b n S := h.to (Below.heap_alloc _ _ _ h.lt)
theorem BSet.drew (h : BSet w k b n S) : BSet w.drew k b n S := h
theorem BSet.below {B : Nat} (h : BSet w k b n S) (hb : Below B w w') (hl : b < B) : BSet w' k b n S := h.to (hb.block _ hl)
theorem BSet.same {lo hi : Nat} (h : BSet w k b n S) (hs : Same lo hi w w') (h1 : lo ≤ b) (h2 : b < hi) : BSet w' k b n S := h.to (hs.block _ h1 h2)
theorem BSet.far (h : BSet w k b n S) {p : Addr} (hp : b ≠ p.block) (u : Value) : BSet (w.setCell p u) k b n S := h.to (Below.heap_setCell _ _ _ _ hp)
theorem BSet.mono {n' : Nat} (h : BSet w k b n S) (hn : n ≤ n') : BSet w k b n' S := by obtain ⟨D, h1, h2⟩ := h; exact ⟨D, h1.mono hn, h2⟩
theorem bool_und : Try.prog.underlying 4 = some .bool := by kernel_rfl
theorem bool_zero (w : World) : (zeroValue 4).run Try.prog w = .ok (.bool false) w := by kernel_rfl
/-- 'm[k]'. -/
theorem BSet.look (h : BSet w k b n S) (K : Keyed Try.prog k) (ht : Try.prog.underlying t = some (.map k 4)) {key : Value} {kl : Lit} (hkey : keyOf Try.prog k key = some kl) :
    (Instr.lookup t (.map (some b)) key false).run Try.prog w = .ok (.bool (S kl)) w := by
  obtain ⟨D, h1, h2⟩ := h
  obtain ⟨v, ps, hrun, hv⟩ := h1.lookup K ht (bool_zero w) (plainElem_bool bool_und false) hkey
  obtain ⟨c, rfl, hc⟩ := plainElem_bool_inv bool_und hv
  simp only [Prod.mk.injEq] at hc
  rw [h2 kl (K.key hkey)] at hc
  have e : c = S kl := by
    have := hc.1
    injection this with this
    injection this with this
    exact this.symm
  rw [← e]; exact hrun
/-- 'm[k] = true'. -/
theorem BSet.put (h : BSet w k b n S) (K : Keyed Try.prog k) (ht : Try.prog.underlying t = some (.map k 4)) (hn : n < maxLen) {key : Value} {kl : Lit} (hkey : keyOf Try.prog k key = some kl) :
    ∃ w', (Instr.mapUpdate t (.map (some b)) key (.bool true)).run Try.prog w = .ok () w' ∧ BSet w' k b (n + 1) (fun l => l.sameKey kl || S l) ∧ w.grownBy w' (some b) := by
  obtain ⟨D, h1, h2⟩ := h
  obtain ⟨w', hrun, hown, hg⟩ := h1.update K ht hn hkey (plainElem_bool bool_und true)
  refine ⟨w', hrun, ⟨_, hown, fun l hl => ?_⟩, hg⟩
  by_cases he : l = kl
  · subst he
    rw [atKey_put_same h1.isMap hl]; simp [WideAt.sameKey_self hl]
  · rw [atKey_put_other he, h2 l hl]; simp [sameKey_ne he]
theorem sameKey_iff {a b : Lit} (h : WideAt.IsKeyLit b) : a.sameKey b = true ↔ a = b := by
  constructor
  · exact WideAt.sameKey_eq
  · rintro rfl; exact WideAt.sameKey_self h
end

/-- 'm[k]' in a walk. -/
theorem wpList_lookup_set {w : World} {ops : Array Oper} {rest : List Oper} {o : Oper} {a : Act} {Q : Exit → Act → World → Prop} (hg : o.guard = none) (m x : Operand) (t : TypeId) (hop : o.op = Op.lookup t m x false)
    (k : TypeId) (K : Keyed Try.prog k) (ht : Try.prog.underlying t = some (.map k 4)) (b n : Nat) (S : Lit → Bool) (hm : a.eval m = .map (some b)) (hs : BSet w k b n S) (key : Value) (kl : Lit) (hx : a.eval x = key) (hkey : keyOf Try.prog k key = some kl)
    (hK : wpList Try.prog ops Q rest (a.put o.dst (.bool (S kl))) w) : wpList Try.prog ops Q (o :: rest) a w := by
  refine wpList_plain hg fun K' hK' => ?_
  have hrun := hs.look K ht hkey
  unfold Oper.wp
  simp [execOp, hop, hm, hx, hrun, Result.andThen]
  exact hK' _ _ hK
/-- 'm[k] = true' in a walk. -/
theorem wpList_put_set {w : World} {ops : Array Oper} {rest : List Oper} {o : Oper} {a : Act} {Q : Exit → Act → World → Prop} (hg : o.guard = none) (m x y : Operand) (t : TypeId) (hop : o.op = Op.mapUpdate t m x y)
    (k : TypeId) (K : Keyed Try.prog k) (ht : Try.prog.underlying t = some (.map k 4)) (b n : Nat) (S : Lit → Bool) (hm : a.eval m = .map (some b)) (hs : BSet w k b n S) (hn : n < maxLen) (key : Value) (kl : Lit) (hx : a.eval x = key) (hy : a.eval y = .bool true) (hkey : keyOf Try.prog k key = some kl)
    (hK : ∀ w', BSet w' k b (n + 1) (fun l => l.sameKey kl || S l) → w.grownBy w' (some b) → wpList Try.prog ops Q rest (a.put o.dst undef) w') : wpList Try.prog ops Q (o :: rest) a w := by
  refine wpList_plain hg fun K' hK' => ?_
  obtain ⟨w', hrun, h1, h2⟩ := hs.put K ht hn hkey
  unfold Oper.wp
  simp [execOp, hop, hm, hx, hy, hrun, Result.andThen]
  exact hK' _ _ (hK w' h1 h2)
end Go.Proofs.Ythpcippgifmabaa

/-! ## RelOf -/
namespace Go.Proofs.Ythpcippgifmabaa
set_option maxRecDepth 100000
open Go.RowKit Go.Maps

theorem int_cells : Try.prog.cellsOf 3 = 1 := by kernel_rfl
def pairOk (n : Int) (p : Pair) : Bool := inB p.a 0 (n - 1) && inB p.b 0 (n - 1)
def hasP (ps : List Pair) : Nat → Nat → Bool := fun a b => decide ((⟨a, b⟩ : Pair) ∈ ps)
def relOfM (n : Int) (ps : List Pair) : Relation × Bool := if 0 ≤ n ∧ n ≤ 40 ∧ ps.all (pairOk n) = true then (⟨n, relM n.toNat (hasP ps)⟩, true) else (zeroRel, false)
theorem relOfM_big {n : Int} {ps : List Pair} (h : ¬ (0 ≤ n ∧ n ≤ 40)) : relOfM n ps = (zeroRel, false) := if_neg fun k => h ⟨k.1, k.2.1⟩
theorem relOfM_bad {n : Int} {ps : List Pair} {p : Pair} (hp : p ∈ ps) (h : pairOk n p = false) : relOfM n ps = (zeroRel, false) := if_neg fun k => by
  have := List.all_eq_true.1 k.2.2 p hp
  rw [h] at this; cases this
theorem relOfM_in {n : Nat} {ps : List Pair} (h : n ≤ 40) (h1 : ps.all (pairOk n) = true) : relOfM n ps = (⟨n, relM n (hasP ps)⟩, true) := by
  rw [relOfM, if_pos ⟨by omega, by omega, h1⟩]; simp
theorem relOfM_tot (n : Int) (ps : List Pair) : tot (relOfM n ps).1.rows ≤ 1600 := by
  unfold relOfM; split
  · exact relM_tot' _ (by omega)
  · simp [zeroRel, tot]
theorem hasP_step {n k : Nat} {ps : List Pair} {a b : Nat} (h : ps[k]? = some ⟨a, b⟩) : mat n (upd (hasP (ps.take k)) a b true) = mat n (hasP (ps.take (k + 1))) :=
  mat_congr fun i j _ _ => by
    unfold upd hasP
    rw [List.take_add_one, h]
    by_cases hij : i = a ∧ j = b
    · obtain ⟨rfl, rfl⟩ := hij; simp
    · rw [if_neg hij]
      simp only [List.mem_append, Option.toList_some, List.mem_singleton, decide_eq_decide]
      constructor
      · exact .inl
      · rintro (h1 | h1)
        · exact h1
        · injection h1 with h1 h2; exact absurd ⟨by omega, by omega⟩ hij
def RetRelB (w : World) (m : Relation × Bool) (e : Ending) (w' : World) : Prop :=
  ∃ (A : Option Addr) (c : Nat), e = .returned (.tuple #[.agg #[.int .i64 m.1.size, .slice A m.1.rows.length c], .bool m.2]) ∧ EIntS.OS w' w.heap.size w'.heap.size (.slice A m.1.rows.length c) m.1.rows ∧ Below w.heap.size w w'
theorem RetRelB.zero {w w' : World} (h : Below w.heap.size w w') : RetRelB w (zeroRel, false) (.returned (.tuple #[.agg #[.int .i64 0, .slice none 0 0], .bool false])) w' := ⟨none, 0, rfl, Elem.OS.nil, h⟩

theorem hasP_succ {k : Nat} {ps : List Pair} {x y : Nat} (h : ps[k]? = some ⟨x, y⟩) (a b : Nat) : hasP (ps.take (k + 1)) a b = (decide (a = x ∧ b = y) || hasP (ps.take k) a b) := by
  unfold hasP
  rw [List.take_add_one, h, Bool.eq_iff_iff]
  simp only [List.mem_append, Option.toList_some, List.mem_singleton, decide_eq_true_eq, Bool.or_eq_true, Pair.mk.injEq]
  constructor
  · rintro (h | ⟨h1, h2⟩)
    · exact .inr h
    · exact .inl ⟨by omega, by omega⟩
  · rintro (⟨rfl, rfl⟩ | h)
    · exact .inr ⟨rfl, rfl⟩
    · exact .inl h
end Go.Proofs.Ythpcippgifmabaa

/-! ## Clos -/
namespace Go.Proofs.Ythpcippgifmabaa
set_option maxRecDepth 100000
open Go.RowKit

/-- One place of a table is joined to what leads there by way of k. -/
def stepC (p : Nat → Nat → Bool) (k a b : Nat) : Nat → Nat → Bool := upd p a b (p a b || (p a k && p k b))
def closB (p : Nat → Nat → Bool) (k a : Nat) : Nat → (Nat → Nat → Bool)
  | 0 => p
  | b + 1 => stepC (closB p k a b) k a b
def closA (n : Nat) (p : Nat → Nat → Bool) (k : Nat) : Nat → (Nat → Nat → Bool)
  | 0 => p
  | a + 1 => closB (closA n p k a) k a n
def closK (n : Nat) (p : Nat → Nat → Bool) : Nat → (Nat → Nat → Bool)
  | 0 => p
  | k + 1 => closA n (closK n p k) k n
def closP (n : Nat) (p : Nat → Nat → Bool) : Nat → Nat → Bool := closK n p n
def closM (r : Relation) : Relation := if relOk r = true then ⟨r.size, relM r.size.toNat (closP r.size.toNat (gridP r.rows))⟩ else zeroRel
theorem closM_in {n : Nat} {xs : List (List Int)} (h : relOk ⟨n, xs⟩ = true) : closM ⟨n, xs⟩ = ⟨n, relM n (closP n (gridP xs))⟩ := by rw [closM, if_pos h]; simp
theorem closM_out {r : Relation} (h : relOk r = false) : closM r = zeroRel := by rw [closM, if_neg (by rw [h]; simp)]
theorem closM_tot (r : Relation) : tot (closM r).rows ≤ 1600 := by
  unfold closM; split
  · rename_i h
    obtain ⟨n, hn, hn', _⟩ := relOk_parts (s := r.size) (xs := r.rows) h
    exact relM_tot' _ (by omega)
  · simp [zeroRel, tot]
theorem upd_same {p : Nat → Nat → Bool} {a b : Nat} {x : Bool} (h : p a b = x) : upd p a b x = p := by
  funext i j
  unfold upd
  split
  · rename_i hij; obtain ⟨rfl, rfl⟩ := hij; exact h.symm
  · rfl

end Go.Proofs.Ythpcippgifmabaa

/-! ## Clos2 -/
namespace Go.Proofs.Ythpcippgifmabaa
set_option maxRecDepth 100000
open Go.RowKit

def rowTo (n : Nat) (row : List Int) (j : Nat) : List Bool := (List.range n).map fun (b : Nat) => hasB (row.take j) b
theorem rowTo_len (n : Nat) (row : List Int) (j : Nat) : (rowTo n row j).length = n := by simp [rowTo]
theorem rowTo_start (n : Nat) (row : List Int) : rowTo n row 0 = List.replicate n false := by
  apply List.ext_getElem?
  intro i
  by_cases hi : i < n <;> simp [rowTo, hasB, hi]
theorem rowTo_step {n : Nat} {row : List Int} {j m : Nat} (h : row[j]? = some (m : Int)) : (rowTo n row j).set m true = rowTo n row (j + 1) := by
  apply List.ext_getElem?
  intro i
  by_cases him : m = i
  · subst him
    by_cases hi : m < n
    · rw [List.getElem?_set_self (by rw [rowTo_len]; exact hi)]; simp [rowTo, hi, hasB, List.take_add_one, h]
    · rw [List.getElem?_eq_none (by simp [rowTo]; omega), List.getElem?_eq_none (by simp [rowTo]; omega)]
  · rw [List.getElem?_set_ne him]
    by_cases hi : i < n
    · simp [rowTo, hi, hasB, List.take_add_one, h]
      exact fun e => absurd (by omega) him
    · rw [List.getElem?_eq_none (by simp [rowTo]; omega), List.getElem?_eq_none (by simp [rowTo]; omega)]
theorem rowTo_end {n k : Nat} {xs : List (List Int)} {row : List Int} (h : xs[k]? = some row) : rowTo n row row.length = (List.range n).map (gridP xs k) := by
  unfold rowTo
  rw [List.take_length]
  exact List.map_congr_left fun b _ => (gridP_at h b).symm

def CloRow (n r : Nat) (row : List Int) (W : World) (i : Value) (wr : World) : Prop :=
  ∃ j : Nat, j ≤ row.length ∧ i = .int .i64 j ∧ EBool.OS wr r (r + 1) (.slice (some ⟨r, 0, none⟩) n n) (rowTo n row j) ∧ Chg r (r + 1) W wr

end Go.Proofs.Ythpcippgifmabaa

/-! ## Within -/
namespace Go.Proofs.Ythpcippgifmabaa
set_option maxRecDepth 100000
open Go.RowKit

theorem pairsUp_mem {xs : List (List Int)} {n k : Nat} {row : List Int} {x : Int} (hk : k < n) (h : xs[k]? = some row) (hx : x ∈ row) : (⟨k, x⟩ : Pair) ∈ pairsUp xs n := by
  simp only [pairsUp, List.mem_flatMap, List.mem_range, List.mem_map]
  exact ⟨k, hk, x, by simpa [List.getD, h] using hx, rfl⟩
theorem pairsUp_of {xs : List (List Int)} {n : Nat} {p : Pair} (hn : n ≤ xs.length) (h : p ∈ pairsUp xs n) : ∃ (a : Nat) (row : List Int), a < n ∧ xs[a]? = some row ∧ p.a = a ∧ p.b ∈ row := by
  simp only [pairsUp, List.mem_flatMap, List.mem_range, List.mem_map] at h
  obtain ⟨a, ha, x, hx, rfl⟩ := h
  have hl : a < xs.length := by omega
  exact ⟨a, xs[a], ha, List.getElem?_eq_getElem hl, rfl, by simpa [List.getD, hl] using hx⟩
/-- Whether a pair is one of the relation's. -/
def inPr (ys : List (List Int)) (p : Pair) : Bool := hasB (ys.getD p.a.toNat []) p.b
def withinM (r s : Relation) : Bool := bothOk r s && (pairsM r).all (inPr s.rows)
def WithRel (xs ys : List (List Int)) (w : World) (i : Value) (wr : World) : Prop := ∃ k : Nat, k ≤ xs.length ∧ i = .int .i64 k ∧ w = wr ∧ (pairsUp xs k).all (inPr ys) = true
def WithIn (xs ys : List (List Int)) (k : Nat) (row : List Int) (w : World) (i : Value) (wr : World) : Prop := ∃ j : Nat, j ≤ row.length ∧ i = .int .i64 j ∧ w = wr ∧ (pairsIn xs k row j).all (inPr ys) = true

def WithS (ps : List Pair) (ys : List (List Int)) (w : World) (i : Value) (wr : World) : Prop := ∃ k : Nat, k ≤ ps.length ∧ i = .int .i64 k ∧ Below w.heap.size w wr ∧ (ps.take k).all (inPr ys) = true

end Go.Proofs.Ythpcippgifmabaa

/-! ## Comp -/
namespace Go.Proofs.Ythpcippgifmabaa
set_option maxRecDepth 100000
open Go.RowKit

/-- Whether a step from one of a row leads to c. -/
def compB (ys : List (List Int)) (row : List Int) (c : Nat) : Bool := row.any fun b => hasB (ys.getD b.toNat []) c
theorem compB_cons (ys : List (List Int)) (b : Int) (row : List Int) (c : Nat) : compB ys (b :: row) c = (hasB (ys.getD b.toNat []) c || compB ys row c) := by simp [compB]
theorem compB_eq {n a : Nat} {xs ys : List (List Int)} {row : List Int} (c : Nat) (hr : xs[a]? = some row) (hm : ∀ x ∈ row, 0 ≤ x ∧ x < (n : Int)) : stepP n (gridP xs) (gridP ys) a c = compB ys row c := by
  rw [Bool.eq_iff_iff]
  simp only [stepP, compB, List.any_eq_true, Bool.and_eq_true, List.mem_range, gridP_at hr]
  constructor
  · rintro ⟨b, hb, h1, h2⟩
    exact ⟨b, of_decide_eq_true h1, by simpa [gridP] using h2⟩
  · rintro ⟨x, hx, h2⟩
    have hxb := hm x hx
    obtain ⟨b, rfl⟩ := Int.eq_ofNat_of_zero_le hxb.1
    exact ⟨b, by omega, decide_eq_true hx, by simpa [gridP] using h2⟩
theorem relOk_mem {n : Nat} {xs : List (List Int)} (h : relOk ⟨n, xs⟩ = true) : ∀ r ∈ xs, ∀ x ∈ r, 0 ≤ x ∧ x < (n : Int) := by
  obtain ⟨m, hm, _, _, hr⟩ := relOk_parts h
  obtain rfl : m = n := by omega
  intro r h1 x h2
  have := rowOk_mem (hr r h1) x h2
  omega

def CompRel (ys : List (List Int)) (row : List Int) (c : Nat) (w : World) (i : Value) (wr : World) : Prop :=
  ∃ k : Nat, k ≤ row.length ∧ i = .int .i64 k ∧ w = wr ∧ compB ys (row.drop k) c = compB ys row c

end Go.Proofs.Ythpcippgifmabaa

/-! ## Comp2 -/
namespace Go.Proofs.Ythpcippgifmabaa
set_option maxRecDepth 100000
open Go.RowKit

def cmpC (p q t : Nat → Nat → Bool) (a b : Nat) : Nat → (Nat → Nat → Bool)
  | 0 => t
  | c + 1 => if (p a b && q b c) = true then upd (cmpC p q t a b c) a c true else cmpC p q t a b c
def cmpB (p q : Nat → Nat → Bool) (n : Nat) (t : Nat → Nat → Bool) (a : Nat) : Nat → (Nat → Nat → Bool)
  | 0 => t
  | b + 1 => cmpC p q (cmpB p q n t a b) a b n
def cmpA (p q : Nat → Nat → Bool) (n : Nat) : Nat → (Nat → Nat → Bool)
  | 0 => fun _ _ => false
  | a + 1 => cmpB p q n (cmpA p q n a) a n
theorem cmpC_at (p q t : Nat → Nat → Bool) (a b i j : Nat) : ∀ c, cmpC p q t a b c i j = (t i j || (decide (i = a) && decide (j < c) && (p a b && q b j))) := by
  intro c
  induction c with
  | zero => simp [cmpC]
  | succ c ih =>
    rw [cmpC]
    by_cases hv : (p a b && q b c) = true
    · rw [if_pos hv]
      by_cases hij : i = a ∧ j = c
      · obtain ⟨rfl, rfl⟩ := hij
        rw [upd, if_pos ⟨rfl, rfl⟩, hv]; simp
      · rw [upd, if_neg hij, ih]
        congr 2
        by_cases hi : i = a
        · simp only [hi, decide_true, Bool.true_and, decide_eq_decide]; omega
        · simp [hi]
    · rw [if_neg hv, ih]
      by_cases hij : i = a ∧ j = c
      · obtain ⟨rfl, rfl⟩ := hij
        rw [show (p i b && q b j) = false from by simpa using hv]; simp
      · congr 2
        by_cases hi : i = a
        · simp only [hi, decide_true, Bool.true_and, decide_eq_decide]; omega
        · simp [hi]
theorem cmpB_at (p q : Nat → Nat → Bool) (n : Nat) (t : Nat → Nat → Bool) (a i j : Nat) (hj : j < n) : ∀ b, cmpB p q n t a b i j = (t i j || (decide (i = a) && (List.range b).any fun b' => p a b' && q b' j)) := by
  intro b
  induction b with
  | zero => simp [cmpB]
  | succ b ih =>
    rw [cmpB, cmpC_at, ih, List.range_succ, List.any_append, Bool.or_assoc]
    congr 1
    by_cases hi : i = a <;> simp [hi, hj]
theorem cmpA_at (p q : Nat → Nat → Bool) (n i j : Nat) (hj : j < n) : ∀ a, cmpA p q n a i j = (decide (i < a) && stepP n p q i j) := by
  intro a
  induction a with
  | zero => simp [cmpA]
  | succ a ih =>
    rw [cmpA, cmpB_at _ _ _ _ _ _ _ hj, ih]
    by_cases hi : i = a
    · subst hi; simp [stepP]
    · by_cases h1 : i < a
      · simp [hi, h1, Nat.lt_succ_of_lt h1]
      · simp [hi, h1, show ¬ i < a + 1 by omega]
theorem cmpA_end (p q : Nat → Nat → Bool) (n : Nat) : mat n (cmpA p q n n) = mat n (stepP n p q) := mat_congr fun a b ha hb => by rw [cmpA_at _ _ _ _ _ hb]; simp [ha]

end Go.Proofs.Ythpcippgifmabaa

/-! ## AlgM -/
namespace Go.Proofs.Ythpcippgifmabaa
set_option maxRecDepth 100000
open Go.RowKit

def relP (n : Nat) (p : Nat → Nat → Bool) : Relation := ⟨n, relM n p⟩
theorem mem_idxTo {q : Nat → Bool} {k : Nat} {x : Int} : x ∈ idxTo q k ↔ ∃ b : Nat, b < k ∧ q b = true ∧ (b : Int) = x := by
  simp [idxTo, and_assoc]
theorem hasB_idx (q : Nat → Bool) (n b : Nat) : hasB (idxTo q n) b = (decide (b < n) && q b) := by
  rw [Bool.eq_iff_iff]
  simp only [hasB, decide_eq_true_eq, mem_idxTo, Bool.and_eq_true]
  constructor
  · rintro ⟨c, h1, h2, h3⟩
    obtain rfl : c = b := by omega
    exact ⟨h1, h2⟩
  · rintro ⟨h1, h2⟩
    exact ⟨b, h1, h2, rfl⟩
theorem rowOk_snoc {n : Int} {xs : List Int} {y : Int} : ∀ {last : Int}, rowOk n last xs = true → (∀ x ∈ xs, x < y) → last < y → y < n → rowOk n last (xs ++ [y]) = true := by
  induction xs with
  | nil => intro last _ _ h1 h2; simp [rowOk]; omega
  | cons b r ih =>
    intro last h hx h1 h2
    rw [List.cons_append, rowOk]
    rw [rowOk] at h
    split at h
    · cases h
    · rename_i hc
      rw [if_neg hc]
      exact ih h (fun x hm => hx x (by simp [hm])) (hx b (by simp)) h2
theorem rowOk_idx (q : Nat → Bool) (n : Nat) : ∀ k, k ≤ n → rowOk (n : Int) (-1) (idxTo q k) = true := by
  intro k
  induction k with
  | zero => intro _; rfl
  | succ k ih =>
    intro hk
    rw [idxTo_succ]
    split
    · refine rowOk_snoc (ih (by omega)) (fun x hx => ?_) (by omega) (by omega)
      obtain ⟨b, h1, _, h3⟩ := mem_idxTo.1 hx
      omega
    · exact ih (by omega)
theorem rowsOk_of {n : Int} {xs : List (List Int)} (h : ∀ x ∈ xs, rowOk n (-1) x = true) : rowsOk n xs = true := by
  induction xs with
  | nil => rfl
  | cons x r ih => simp only [rowsOk, Bool.and_eq_true]; exact ⟨h x (by simp), ih fun y hy => h y (by simp [hy])⟩
theorem relOk_relP {n : Nat} (p : Nat → Nat → Bool) (hn : n ≤ 40) : relOk ⟨(n : Int), relM n p⟩ = true := by
  simp only [relOk, Bool.and_eq_true, decide_eq_true_eq, relM_len]
  refine ⟨⟨by omega, by omega, trivial⟩, rowsOk_of fun x hx => ?_⟩
  obtain ⟨a, _, rfl⟩ := List.mem_map.1 hx
  exact rowOk_idx _ n n (Nat.le_refl _)
theorem bothOk_relP {n : Nat} (p q : Nat → Nat → Bool) (hn : n ≤ 40) : bothOk ⟨(n : Int), relM n p⟩ ⟨(n : Int), relM n q⟩ = true := by
  simp [bothOk, relOk_relP _ hn]
theorem relM_at {n a : Nat} (p : Nat → Nat → Bool) (ha : a < n) : (relM n p)[a]? = some (idxTo (p a) n) := by simp [relM, relTo, ha]
theorem gridP_relM {n a b : Nat} (p : Nat → Nat → Bool) (ha : a < n) (hb : b < n) : gridP (relM n p) a b = p a b := by
  rw [gridP_at (relM_at p ha), hasB_idx]; simp [hb]
theorem stepP_congr {n a b : Nat} {p p' q q' : Nat → Nat → Bool} (ha : a < n) (hb : b < n) (h : ∀ a b, a < n → b < n → p a b = p' a b) (h' : ∀ a b, a < n → b < n → q a b = q' a b) : stepP n p q a b = stepP n p' q' a b := by
  unfold stepP
  rw [Bool.eq_iff_iff]
  simp only [List.any_eq_true, List.mem_range, Bool.and_eq_true]
  constructor <;> rintro ⟨c, hc, h1, h2⟩
  · exact ⟨c, hc, by rw [← h a c ha hc]; exact h1, by rw [← h' c b hc hb]; exact h2⟩
  · exact ⟨c, hc, by rw [h a c ha hc]; exact h1, by rw [h' c b hc hb]; exact h2⟩
theorem compM_relP {n : Nat} (p q : Nat → Nat → Bool) (hn : n ≤ 40) : compM ⟨(n : Int), relM n p⟩ ⟨(n : Int), relM n q⟩ = relP n (stepP n p q) := by
  rw [compM_in (bothOk_relP p q hn), relP, relM_congr fun a b ha hb => stepP_congr ha hb (fun a b ha hb => gridP_relM p ha hb) (fun a b ha hb => gridP_relM q ha hb)]
theorem convM_relP {n : Nat} (p : Nat → Nat → Bool) (hn : n ≤ 40) : convM ⟨(n : Int), relM n p⟩ = relP n fun a b => p b a := by
  rw [convM_in (relOk_relP p hn), relP, relM_congr fun a b ha hb => gridP_relM p hb ha]
theorem mixM_relP {n : Nat} (f : Bool → Bool → Bool) (p q : Nat → Nat → Bool) (hn : n ≤ 40) : mixM f ⟨(n : Int), relM n p⟩ ⟨(n : Int), relM n q⟩ = relP n fun a b => f (p a b) (q a b) := by
  rw [mixM_in (bothOk_relP p q hn), relP, relM_congr fun a b ha hb => by rw [gridP_relM p ha hb, gridP_relM q ha hb]]
theorem equalM_relP {n : Nat} {p q : Nat → Nat → Bool} (hn : n ≤ 40) (h : ∀ a b, a < n → b < n → p a b = q a b) : equalM ⟨(n : Int), relM n p⟩ ⟨(n : Int), relM n q⟩ = true := by
  rw [relM_congr h]
  simp [equalM, bothOk_relP q q hn, eqB_refl]
theorem pairsM_relP {n : Nat} (p : Nat → Nat → Bool) (hn : n ≤ 40) : pairsM ⟨(n : Int), relM n p⟩ = pairsUp (relM n p) n := pairsM_in (relOk_relP p hn)
theorem mem_pairs {n : Nat} {p : Nat → Nat → Bool} {x : Pair} (h : x ∈ pairsUp (relM n p) n) : ∃ a b : Nat, a < n ∧ b < n ∧ p a b = true ∧ x = ⟨a, b⟩ := by
  obtain ⟨a, row, ha, hr, h1, h2⟩ := pairsUp_of (by rw [relM_len]; exact Nat.le_refl _) h
  rw [relM_at p ha] at hr
  injection hr with hr
  subst hr
  obtain ⟨b, hb, hp, hx⟩ := mem_idxTo.1 h2
  refine ⟨a, b, ha, hb, hp, ?_⟩
  cases x; simp_all
theorem pairs_mem {n a b : Nat} {p : Nat → Nat → Bool} (ha : a < n) (hb : b < n) (h : p a b = true) : (⟨a, b⟩ : Pair) ∈ pairsUp (relM n p) n :=
  pairsUp_mem ha (relM_at p ha) (mem_idxTo.2 ⟨b, hb, h, rfl⟩)
theorem withinM_relP {n : Nat} {p q : Nat → Nat → Bool} (hn : n ≤ 40) (h : ∀ a b, a < n → b < n → p a b = true → q a b = true) : withinM ⟨(n : Int), relM n p⟩ ⟨(n : Int), relM n q⟩ = true := by
  simp only [withinM, Bool.and_eq_true, bothOk_relP p q hn, true_and, List.all_eq_true, pairsM_relP p hn]
  intro x hx
  obtain ⟨a, b, ha, hb, hp, rfl⟩ := mem_pairs hx
  have := gridP_relM q ha hb
  simp only [inPr]
  rw [show ((a : Int)).toNat = a from by omega]
  unfold gridP at this
  rw [this]; exact h a b ha hb hp
theorem relOf_pairs {n : Nat} (p : Nat → Nat → Bool) (hn : n ≤ 40) : relOfM n (pairsUp (relM n p) n) = (relP n p, true) := by
  rw [relOfM_in hn]
  · rw [relP, relM_congr (p := hasP _) (q := p) fun a b ha hb => ?_]
    rw [Bool.eq_iff_iff]
    simp only [hasP, decide_eq_true_eq]
    constructor
    · intro h
      obtain ⟨a', b', _, _, hp, he⟩ := mem_pairs h
      injection he with h1 h2
      obtain rfl : a = a' := by omega
      obtain rfl : b = b' := by omega
      exact hp
    · exact fun h => pairs_mem ha hb h
  · rw [List.all_eq_true]
    intro x hx
    obtain ⟨a, b, ha, hb, _, rfl⟩ := mem_pairs hx
    simp [pairOk, inB]; omega

/-! ### The laws of composition -/
theorem stepP_iff {n a c : Nat} {p q : Nat → Nat → Bool} : stepP n p q a c = true ↔ ∃ b, b < n ∧ p a b = true ∧ q b c = true := by simp [stepP]
theorem step_assoc (n : Nat) (p q r : Nat → Nat → Bool) (a b : Nat) (_ha : a < n) (_hb : b < n) : stepP n (stepP n p q) r a b = stepP n p (stepP n q r) a b := by
  rw [Bool.eq_iff_iff]
  simp only [stepP_iff]
  constructor
  · rintro ⟨c, hc, ⟨d, hd, h1, h2⟩, h3⟩; exact ⟨d, hd, h1, c, hc, h2, h3⟩
  · rintro ⟨d, hd, h1, c, hc, h2, h3⟩; exact ⟨c, hc, ⟨d, hd, h1, h2⟩, h3⟩
theorem step_conv (n : Nat) (p q : Nat → Nat → Bool) (a b : Nat) (_ha : a < n) (_hb : b < n) : stepP n p q b a = stepP n (fun a b => q b a) (fun a b => p b a) a b := by
  rw [Bool.eq_iff_iff]
  simp only [stepP_iff]
  constructor <;> rintro ⟨c, hc, h1, h2⟩ <;> exact ⟨c, hc, h2, h1⟩
theorem step_join (n : Nat) (p q r : Nat → Nat → Bool) (a b : Nat) (_ha : a < n) (_hb : b < n) : stepP n p (fun a b => q a b || r a b) a b = (stepP n p q a b || stepP n p r a b) := by
  rw [Bool.eq_iff_iff]
  simp only [stepP_iff, Bool.or_eq_true]
  constructor
  · rintro ⟨c, hc, h1, h2 | h2⟩
    · exact .inl ⟨c, hc, h1, h2⟩
    · exact .inr ⟨c, hc, h1, h2⟩
  · rintro (⟨c, hc, h1, h2⟩ | ⟨c, hc, h1, h2⟩)
    · exact ⟨c, hc, h1, .inl h2⟩
    · exact ⟨c, hc, h1, .inr h2⟩
theorem step_modular (n : Nat) (p q r : Nat → Nat → Bool) (a b : Nat) (_ha : a < n) (hb : b < n) (h : (stepP n p q a b && r a b) = true) :
    stepP n (fun a b => p a b && stepP n r (fun a b => q b a) a b) q a b = true := by
  rw [Bool.and_eq_true] at h
  obtain ⟨h, hr⟩ := h
  obtain ⟨c, hc, h1, h2⟩ := stepP_iff.1 h
  exact stepP_iff.2 ⟨c, hc, by rw [Bool.and_eq_true]; exact ⟨h1, stepP_iff.2 ⟨b, hb, hr, h2⟩⟩, h2⟩
theorem step_ident (n : Nat) (p : Nat → Nat → Bool) (a b : Nat) (_ha : a < n) (hb : b < n) : stepP n p (fun a b => a == b) a b = p a b := by
  rw [Bool.eq_iff_iff]
  simp only [stepP_iff, beq_iff_eq]
  constructor
  · rintro ⟨c, _, h1, rfl⟩; exact h1
  · exact fun h => ⟨b, hb, h, rfl⟩
theorem less_meet (p q : Bool) : ((p && !q) || (p && q)) = p := by cases p <;> cases q <;> rfl

/-! ### The closure -/
/-- What one round of the closure leaves: a place holds what it held, or leads by way of k. -/
theorem closB_at {p q : Nat → Nat → Bool} {k a : Nat} (hk : ∀ i, q i k = p i k) (hk' : ∀ j, q k j = p k j)
    (hq : ∀ i j, q i j = p i j ∨ q i j = (p i j || (p i k && p k j))) : ∀ b, (∀ i, closB q k a b i k = p i k) ∧ (∀ j, closB q k a b k j = p k j) ∧
      (∀ i j, closB q k a b i j = if i = a ∧ j < b then (p i j || (p i k && p k j)) else q i j) := by
  intro b
  induction b with
  | zero => exact ⟨hk, hk', fun i j => by rw [if_neg (by omega)]; rfl⟩
  | succ b ih =>
    obtain ⟨i1, i2, i3⟩ := ih
    have e : ∀ i j, closB q k a (b + 1) i j = if i = a ∧ j < b + 1 then (p i j || (p i k && p k j)) else q i j := by
      intro i j
      show stepC (closB q k a b) k a b i j = _
      unfold stepC upd
      by_cases hij : i = a ∧ j = b
      · obtain ⟨rfl, rfl⟩ := hij
        rw [if_pos ⟨rfl, rfl⟩, if_pos ⟨rfl, by omega⟩, i1, i2, i3, if_neg (by omega)]
        rcases hq i j with h | h <;> rw [h] <;> cases p i j <;> cases p i k <;> cases p k j <;> rfl
      · rw [if_neg hij, i3]
        by_cases h : i = a ∧ j < b
        · rw [if_pos h, if_pos ⟨h.1, by omega⟩]
        · rw [if_neg h, if_neg (by omega)]
    refine ⟨fun i => ?_, fun j => ?_, e⟩
    · rw [e]
      split
      · cases p i k <;> cases p k k <;> rfl
      · exact hk i
    · rw [e]
      split
      · cases p k j <;> cases p k k <;> rfl
      · exact hk' j
theorem closA_at {n : Nat} {p : Nat → Nat → Bool} {k : Nat} : ∀ a, (∀ i, closA n p k a i k = p i k) ∧ (∀ j, closA n p k a k j = p k j) ∧
      (∀ i j, closA n p k a i j = if i < a ∧ j < n then (p i j || (p i k && p k j)) else p i j) := by
  intro a
  induction a with
  | zero => exact ⟨fun _ => rfl, fun _ => rfl, fun i j => by rw [if_neg (by omega)]; rfl⟩
  | succ a ih =>
    obtain ⟨i1, i2, i3⟩ := ih
    obtain ⟨j1, j2, j3⟩ := closB_at (a := a) i1 i2 (fun i j => by rw [i3]; split <;> simp) n
    refine ⟨j1, j2, fun i j => ?_⟩
    show closB (closA n p k a) k a n i j = _
    rw [j3, i3]
    by_cases h1 : i = a ∧ j < n
    · rw [if_pos h1, if_pos (by omega)]
    · rw [if_neg h1]
      by_cases h2 : i < a ∧ j < n
      · rw [if_pos h2, if_pos (by omega)]
      · rw [if_neg h2, if_neg (by omega)]
theorem closK_succ {n : Nat} {p : Nat → Nat → Bool} {k i j : Nat} (hi : i < n) (hj : j < n) : closK n p (k + 1) i j = (closK n p k i j || (closK n p k i k && closK n p k k j)) := by
  show closA n (closK n p k) k n i j = _
  rw [(closA_at n).2.2, if_pos ⟨hi, hj⟩]
theorem closK_has {n : Nat} {p : Nat → Nat → Bool} {i j : Nat} (hi : i < n) (hj : j < n) (h : p i j = true) : ∀ k, closK n p k i j = true := by
  intro k
  induction k with
  | zero => exact h
  | succ k ih => rw [closK_succ hi hj, ih]; rfl
theorem closK_trans {n : Nat} {p : Nat → Nat → Bool} : ∀ k, k ≤ n → ∀ a i b, a < n → b < n → i < k → closK n p k a i = true → closK n p k i b = true → closK n p k a b = true := by
  intro k
  induction k with
  | zero => intro _ a i b _ _ hi; omega
  | succ k ih =>
    intro hk a i b ha hb hi h1 h2
    rw [closK_succ ha (by omega)] at h1
    rw [closK_succ (by omega) hb] at h2
    rw [closK_succ ha hb]
    have T := ih (by omega)
    rcases Nat.lt_or_ge i k with hik | hik
    · have T1 : closK n p k a i = true → closK n p k i b = true → closK n p k a b = true := T a i b ha hb hik
      have T2 : closK n p k a i = true → closK n p k i k = true → closK n p k a k = true := T a i k ha (by omega) hik
      have T3 : closK n p k k i = true → closK n p k i b = true → closK n p k k b = true := T k i b (by omega) hb hik
      have T4 : closK n p k k i = true → closK n p k i k = true → closK n p k k k = true := T k i k (by omega) (by omega) hik
      revert h1 h2 T1 T2 T3 T4
      generalize closK n p k a i = x1
      generalize closK n p k i b = x2
      generalize closK n p k a b = x3
      generalize closK n p k a k = x4
      generalize closK n p k i k = x5
      generalize closK n p k k i = x6
      generalize closK n p k k b = x7
      generalize closK n p k k k = x8
      cases x1 <;> cases x2 <;> cases x3 <;> cases x4 <;> cases x5 <;> cases x6 <;> cases x7 <;> simp
    · obtain rfl : i = k := by omega
      revert h1 h2
      generalize closK n p i a i = x1
      generalize closK n p i i b = x2
      generalize closK n p i a b = x3
      generalize closK n p i i i = x4
      cases x1 <;> cases x2 <;> cases x3 <;> cases x4 <;> simp
theorem closK_least {n : Nat} {p q : Nat → Nat → Bool} (hq : ∀ a b, a < n → b < n → p a b = true → q a b = true) (ht : ∀ a i b, a < n → i < n → b < n → q a i = true → q i b = true → q a b = true) :
    ∀ k, k ≤ n → ∀ a b, a < n → b < n → closK n p k a b = true → q a b = true := by
  intro k
  induction k with
  | zero => exact fun _ a b ha hb h => hq a b ha hb h
  | succ k ih =>
    intro hk a b ha hb h
    rw [closK_succ ha hb] at h
    simp only [Bool.or_eq_true, Bool.and_eq_true] at h
    rcases h with h | ⟨h1, h2⟩
    · exact ih (by omega) a b ha hb h
    · exact ht a k b ha (by omega) hb (ih (by omega) a k ha (by omega) h1) (ih (by omega) k b (by omega) hb h2)
theorem clos_has {n : Nat} {p : Nat → Nat → Bool} (a b : Nat) (ha : a < n) (hb : b < n) (h : p a b = true) : closP n p a b = true := closK_has ha hb h n
theorem clos_trans {n : Nat} {p : Nat → Nat → Bool} {a i b : Nat} (ha : a < n) (hi : i < n) (hb : b < n) (h1 : closP n p a i = true) (h2 : closP n p i b = true) : closP n p a b = true := closK_trans n (Nat.le_refl _) a i b ha hb hi h1 h2
theorem clos_step {n : Nat} {p : Nat → Nat → Bool} (a b : Nat) (ha : a < n) (hb : b < n) (h : stepP n (closP n p) (closP n p) a b = true) : closP n p a b = true := by
  obtain ⟨c, hc, h1, h2⟩ := stepP_iff.1 h
  exact clos_trans ha hc hb h1 h2
theorem clos_least {n : Nat} {p q : Nat → Nat → Bool} (hq : ∀ a b, a < n → b < n → p a b = true → q a b = true) (ht : ∀ a i b, a < n → i < n → b < n → q a i = true → q i b = true → q a b = true) (a b : Nat) (ha : a < n) (hb : b < n)
    (h : closP n p a b = true) : q a b = true := closK_least hq ht n (Nat.le_refl _) a b ha hb h
theorem clos_clos {n : Nat} {p : Nat → Nat → Bool} (a b : Nat) (ha : a < n) (hb : b < n) : closP n (closP n p) a b = closP n p a b := by
  rw [Bool.eq_iff_iff]
  exact ⟨clos_least (fun _ _ _ _ h => h) (fun _ _ _ h1 h2 h3 h4 h5 => clos_trans h1 h2 h3 h4 h5) a b ha hb, clos_has a b ha hb⟩
theorem clos_join {n : Nat} {p q : Nat → Nat → Bool} (a b : Nat) (ha : a < n) (hb : b < n) (h : closP n p a b = true) : closP n (fun a b => p a b || q a b) a b = true :=
  clos_least (fun a b ha hb h => clos_has a b ha hb (by simp [h])) (fun _ _ _ h1 h2 h3 h4 h5 => clos_trans h1 h2 h3 h4 h5) a b ha hb h
theorem closM_relP {n : Nat} (p : Nat → Nat → Bool) (hn : n ≤ 40) : closM ⟨(n : Int), relM n p⟩ = relP n (closP n p) := by
  rw [closM_in (relOk_relP p hn), relP, relM_congr fun a b ha hb => ?_]
  have hg : ∀ a b, a < n → b < n → gridP (relM n p) a b = p a b := fun a b ha hb => gridP_relM p ha hb
  rw [Bool.eq_iff_iff]
  exact ⟨clos_least (fun a b ha hb h => clos_has a b ha hb (by rw [← hg a b ha hb]; exact h)) (fun _ _ _ h1 h2 h3 h4 h5 => clos_trans h1 h2 h3 h4 h5) a b ha hb,
    clos_least (fun a b ha hb h => clos_has a b ha hb (by rw [hg a b ha hb]; exact h)) (fun _ _ _ h1 h2 h3 h4 h5 => clos_trans h1 h2 h3 h4 h5) a b ha hb⟩
end Go.Proofs.Ythpcippgifmabaa

/-! ## Conv -/
namespace Go.Proofs.Ythpcippgifmabaa
set_option maxRecDepth 100000
open Go.RowKit

def flip2 (p : Nat → Nat → Bool) : Nat → Nat → Bool := fun a b => p b a
theorem upd_flip (p : Nat → Nat → Bool) (a b : Nat) (x : Bool) : upd (flip2 p) b a x = flip2 (upd p a b x) := by
  funext i j
  show (if i = b ∧ j = a then x else p j i) = if j = a ∧ i = b then x else p j i
  by_cases h : i = b ∧ j = a
  · rw [if_pos h, if_pos ⟨h.2, h.1⟩]
  · rw [if_neg h, if_neg fun k => h ⟨k.2, k.1⟩]
theorem mat_flip {n : Nat} {p q : Nat → Nat → Bool} (h : mat n p = mat n q) : mat n (flip2 p) = mat n (flip2 q) :=
  mat_congr fun a b ha hb => by
    have h1 : (mat n p)[b]? = (mat n q)[b]? := by rw [h]
    rw [mat_at hb, mat_at hb] at h1
    injection h1 with h1
    have h2 : ((List.range n).map (p b))[a]? = ((List.range n).map (q b))[a]? := by rw [h1]
    show p b a = q b a
    simpa [ha] using h2

end Go.Proofs.Ythpcippgifmabaa

/-! ## Alg -/
namespace Go.Proofs.Ythpcippgifmabaa
set_option maxRecDepth 100000
open Go.RowKit

/-- A valid relation of n numbers is returned, which the call has made. -/
def RetP (w : World) (n : Nat) (p : Nat → Nat → Bool) (e : Ending) (w' : World) : Prop :=
  ∃ (A : Option Addr) (c : Nat), e = .returned (.agg #[.int .i64 n, .slice A n c]) ∧ EIntS.OS w' w.heap.size w'.heap.size (.slice A n c) (relM n p) ∧ Below w.heap.size w w'
theorem RetP.of {w w' : World} {n : Nat} {p : Nat → Nat → Bool} {e : Ending} (h : RetRel w (relP n p) e w') : RetP w n p e w' := by
  obtain ⟨A, c, h1, h2, h3⟩ := h
  simp only [relP, relM_len] at h1 h2
  exact ⟨A, c, h1, h2, h3⟩
end Go.Proofs.Ythpcippgifmabaa
