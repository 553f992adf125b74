/-
  Pairs: sizes, copies, equality, marks.
  The pairs of a relation, in the program and in the reference.
  Joining, meeting and subtracting relations; the converse and the composition, in the program.
  Joining, meeting and subtracting relations in the reference.
  Bounds of the sizes of results.
  Joining, meeting and subtracting relations in the reference: the three functions.
  Maps to truth values, as sets of keys.
  The relation of pairs, in the program and in the reference.
  The closure of a relation, in the reference and in the program.
  The closure of a relation, in the program.
  Whether a relation lies within another one, in the program and in the reference.
  The composition of relations, in the program.
  The composition of relations, in the reference.
  The algebra of relations: the plain law. No program in sight.
  The converse of a relation, in the program and in the reference.
  The functions of relations at valid relations of one size.
-/
import Derived.Test.YtnnjilkjjdiblaaFlat
import Derived.Test.YtnnjilkjjdiblaaXGRel
import Derived.Test.YtnnjilkjjdiblaaBase
import Derived.Maps.OwnOps
import Derived.Maps.OwnSet
import Derived.Test.YtnnjilkjjdiblaaOpen
import Derived.DeepKeys4

/-! ## ConvPair -/
namespace Go.Proofs.Ytnnjilkjjdiblaa
set_option maxRecDepth 100000
open Go.RowKit

structure Pair where
  a : Int
  b : Int
  deriving DecidableEq
def EPair : Elem Pair := .flat 181 2 (fun s => [.int .i64 s.a, .int .i64 s.b]) (fun _ => rfl) (fun _ => rfl)
section
variable {w : World} {lo hi : Nat} {A : Option Addr} {k : Nat}
theorem APair.at_ {xs : List Pair} (h : EPair.AS w lo hi A xs) (hk : k < xs.length) : ∃ b off x, A = some ⟨b, off, none⟩ ∧ lo ≤ b ∧ b < hi ∧ xs.drop k = x :: xs.drop (k + 1) ∧ xs[k]? = some x ∧
    w.cell? ⟨b, off + k * 2, none⟩ = some (.int .i64 x.a) ∧ w.cell? ⟨b, off + k * 2 + 1, none⟩ = some (.int .i64 x.b) := by
  obtain ⟨b, off, x, cs, rfl, h1, h2, h3, h4, rfl, hc⟩ := h.at_ hk
  exact ⟨b, off, x, rfl, h1, h2, h3, h4, by simpa [EPair, Elem.flat, Nat.add_assoc] using hc 0 _ rfl, by simpa [EPair, Elem.flat, Nat.add_assoc] using hc 1 _ rfl⟩
end

end Go.Proofs.Ytnnjilkjjdiblaa

/-! ## Pairs -/
namespace Go.Proofs.Ytnnjilkjjdiblaa
set_option maxRecDepth 100000
open Go.RowKit

end Go.Proofs.Ytnnjilkjjdiblaa

/-! ## RelMix -/
namespace Go.Proofs.Ytnnjilkjjdiblaa
set_option maxRecDepth 100000
open Go.RowKit

theorem gridP_at {xs : List (List Int)} {a : Nat} {r : List Int} (h : xs[a]? = some r) (b : Nat) : gridP xs a b = hasB r b := by simp [gridP, List.getD, h]
def stepP (n : Nat) (p q : Nat → Nat → Bool) : Nat → Nat → Bool := fun a c => (List.range n).any fun b => p a b && q b c
def compM (r s : Relation) : Relation := if bothOk r s = true then ⟨r.size, relM r.size.toNat (stepP r.size.toNat (gridP r.rows) (gridP s.rows))⟩ else zeroRel
theorem compM_in {n : Nat} {xs ys : List (List Int)} (h : bothOk ⟨n, xs⟩ ⟨n, ys⟩ = true) : compM ⟨n, xs⟩ ⟨n, ys⟩ = ⟨n, relM n (stepP n (gridP xs) (gridP ys))⟩ := by rw [compM, if_pos h]; simp
theorem compM_out {r s : Relation} (h : bothOk r s = false) : compM r s = zeroRel := by rw [compM, if_neg (by rw [h]; simp)]

end Go.Proofs.Ytnnjilkjjdiblaa

/-! ## MixS -/
namespace Go.Proofs.Ytnnjilkjjdiblaa
set_option maxRecDepth 100000
open Go.RowKit

end Go.Proofs.Ytnnjilkjjdiblaa

/-! ## Bound -/
namespace Go.Proofs.Ytnnjilkjjdiblaa
set_option maxRecDepth 100000
open Go.RowKit

end Go.Proofs.Ytnnjilkjjdiblaa

/-! ## MixS2 -/
namespace Go.Proofs.Ytnnjilkjjdiblaa
set_option maxRecDepth 100000
open Go.RowKit

end Go.Proofs.Ytnnjilkjjdiblaa

/-! ## BMap -/
namespace Go.Proofs.Ytnnjilkjjdiblaa
set_option maxRecDepth 100000
open Go.RowKit Go.Maps

theorem plainElem_bool_inv {H : Type} {P : Program} {e : TypeId} (he : P.underlying e = some .bool) {v : Value} {z : DataW H × List MemPlace} (h : plainElem P e v = some z) : ∃ x, v = .bool x ∧ z = (.lit (.bool x), []) := by
  unfold plainElem at h
  rw [he] at h
  cases v <;> simp at h
  exact ⟨_, rfl, h.symm⟩

/-- Block b is a map of at most n entries from keys of type k to truth values; S says which keys are true in it. -/
def BSet (w : World) (k b n : Nat) (S : Lit → Bool) : Prop :=
  ∃ D : DataW Unit, w.ownsMap Try.prog k (plainElem Try.prog 4) b n D ∧ ∀ kl, WideAt.IsKeyLit kl → D.atKey kl (.lit (.bool false)) = .lit (.bool (S kl))
section
variable {w w' : World} {k b n t : Nat} {S : Lit → Bool} {row : Option Nat}
theorem BSet.made (w : World) (k : Nat) : BSet (w.alloc (.map #[] 0)) k w.heap.size 0 fun _ => false :=
  ⟨.map [], World.ownsMap_made _ _ _ _, fun _kl _ => rfl⟩
theorem BSet.lt (h : BSet w k b n S) : b < w.heap.size := by obtain ⟨D, h1, _⟩ := h; exact h1.lt
theorem BSet.to (h : BSet w k b n S) (he : w'.heap[b]? = w.heap[b]?) : BSet w' k b n S := by
  obtain ⟨D, ⟨es, clock, hb, r⟩, hS⟩ := h
  exact ⟨D, ⟨es, clock, he.trans hb, r⟩, hS⟩
theorem BSet.alloc (h : BSet w k b n S) (o : Obj) : BSet (w.alloc o) k b n S := h.to (Below.heap_alloc _ _ _ h.lt)
theorem BSet.drew (h : BSet w k b n S) : BSet w.drew k b n S := h
theorem BSet.below {B : Nat} (h : BSet w k b n S) (hb : Below B w w') (hl : b < B) : BSet w' k b n S := h.to (hb.block _ hl)
theorem BSet.same {lo hi : Nat} (h : BSet w k b n S) (hs : Same lo hi w w') (h1 : lo ≤ b) (h2 : b < hi) : BSet w' k b n S := h.to (hs.block _ h1 h2)
theorem BSet.far (h : BSet w k b n S) {p : Addr} (hp : b ≠ p.block) (u : Value) : BSet (w.setCell p u) k b n S := h.to (Below.heap_setCell _ _ _ _ hp)
theorem BSet.mono {n' : Nat} (h : BSet w k b n S) (hn : n ≤ n') : BSet w k b n' S := by obtain ⟨D, h1, h2⟩ := h; exact ⟨D, h1.mono hn, h2⟩
theorem bool_und : Try.prog.underlying 4 = some .bool := by kernel_rfl
theorem bool_zero (w : World) : (zeroValue 4).run Try.prog w = .ok (.bool false) w := by kernel_rfl
/-- 'm[k]'. -/
theorem BSet.look (h : BSet w k b n S) (K : Keyed Try.prog k) (ht : Try.prog.underlying t = some (.map k 4)) {key : Value} {kl : Lit} (hkey : keyOf Try.prog k key = some kl) :
    (Instr.lookup t (.map (some b)) key false).run Try.prog w = .ok (.bool (S kl)) w := by
  obtain ⟨D, h1, h2⟩ := h
  obtain ⟨v, ps, hrun, hv⟩ := h1.lookup K ht (bool_zero w) (plainElem_bool bool_und false) hkey
  obtain ⟨c, rfl, hc⟩ := plainElem_bool_inv bool_und hv
  simp only [Prod.mk.injEq] at hc
  rw [h2 kl (K.key hkey)] at hc
  have e : c = S kl := by
    have := hc.1
    injection this with this
    injection this with this
    exact this.symm
  rw [← e]; exact hrun
/-- 'm[k] = true'. -/
theorem BSet.put (h : BSet w k b n S) (K : Keyed Try.prog k) (ht : Try.prog.underlying t = some (.map k 4)) (hn : n < maxLen) {key : Value} {kl : Lit} (hkey : keyOf Try.prog k key = some kl) :
    ∃ w', (Instr.mapUpdate t (.map (some b)) key (.bool true)).run Try.prog w = .ok () w' ∧ BSet w' k b (n + 1) (fun l => l.sameKey kl || S l) ∧ w.grownBy w' (some b) := by
  obtain ⟨D, h1, h2⟩ := h
  obtain ⟨w', hrun, hown, hg⟩ := h1.update K ht hn hkey (plainElem_bool bool_und true)
  refine ⟨w', hrun, ⟨_, hown, fun l hl => ?_⟩, hg⟩
  by_cases he : l = kl
  · subst he
    rw [atKey_put_same h1.isMap hl]; simp [WideAt.sameKey_self hl]
  · rw [atKey_put_other he, h2 l hl]; simp [sameKey_ne he]
theorem sameKey_iff {a b : Lit} (h : WideAt.IsKeyLit b) : a.sameKey b = true ↔ a = b := by
  constructor
  · exact WideAt.sameKey_eq
  · rintro rfl; exact WideAt.sameKey_self h
end

/-- 'm[k] = true' in a walk. -/
theorem wpList_put_set {w : World} {ops : Array Oper} {rest : List Oper} {o : Oper} {a : Act} {Q : Exit → Act → World → Prop} (hg : o.guard = none) (m x y : Operand) (t : TypeId) (hop : o.op = Op.mapUpdate t m x y)
    (k : TypeId) (K : Keyed Try.prog k) (ht : Try.prog.underlying t = some (.map k 4)) (b n : Nat) (S : Lit → Bool) (hm : a.eval m = .map (some b)) (hs : BSet w k b n S) (hn : n < maxLen) (key : Value) (kl : Lit) (hx : a.eval x = key) (hy : a.eval y = .bool true) (hkey : keyOf Try.prog k key = some kl)
    (hK : ∀ w', BSet w' k b (n + 1) (fun l => l.sameKey kl || S l) → w.grownBy w' (some b) → wpList Try.prog ops Q rest (a.put o.dst undef) w') : wpList Try.prog ops Q (o :: rest) a w := by
  refine wpList_plain hg fun K' hK' => ?_
  obtain ⟨w', hrun, h1, h2⟩ := hs.put K ht hn hkey
  unfold Oper.wp
  simp [execOp, hop, hm, hx, hy, hrun, Result.andThen]
  exact hK' _ _ (hK w' h1 h2)
end Go.Proofs.Ytnnjilkjjdiblaa

/-! ## RelOf -/
namespace Go.Proofs.Ytnnjilkjjdiblaa
set_option maxRecDepth 100000
open Go.RowKit Go.Maps

theorem pair_row : (181 : TypeId) < Try.prog.types.size := of_decide_eq_true (by kernel_rfl)
theorem pair_wide : (match Try.prog.underlying 181 with | some (.array _ _) | some (.struct _) => true | _ => false) = true := by kernel_rfl
theorem pair_keyed : Keyed Try.prog 181 := Keyed.of_law (deep_law_laid laidOut (m := 3) (by omega) pair_row (by kernel_rfl) pair_wide)
theorem pair_map : Try.prog.underlying 177 = some (.map 181 4) := by kernel_rfl
theorem pair_keyType : Try.prog.keyType 181 = true := by kernel_rfl
theorem pair_size : ∃ m, Try.prog.types.size = m + 1 := ⟨Try.prog.types.size - 1, (Nat.sub_add_cancel (Nat.lt_of_le_of_lt (Nat.zero_le _) pair_row)).symm⟩
theorem pair_cells : Try.prog.cellsOf 181 = 2 := by kernel_rfl
theorem int_cells : Try.prog.cellsOf 3 = 1 := by kernel_rfl
theorem pair_key {a b : Int} (ha : -9223372036854775808 ≤ a ∧ a ≤ 9223372036854775807) (hb : -9223372036854775808 ≤ b ∧ b ≤ 9223372036854775807) :
    ∃ kl, keyOf Try.prog 181 (.agg #[.int .i64 a, .int .i64 b]) = some kl := by
  obtain ⟨m, hm⟩ := pair_size
  unfold keyOf
  rw [Try.underlying181]
  simp only [pair_keyType, Bool.true_and]
  have wa : (Lit.int .i64 a).wf = true := WalkArith.wf_i64 (by omega)
  have wb : (Lit.int .i64 b).wf = true := WalkArith.wf_i64 (by omega)
  have hf : (Value.agg #[.int .i64 a, .int .i64 b]).formed Try.prog 181 = true := by simp [Value.formed, Try.underlying181, pair_cells]
  rw [if_pos hf, hm]
  simp [Program.keyLits, Try.underlying181, Try.underlying3, pair_cells, int_cells, Value.cells, wa, wb]

def hasP (ps : List Pair) : Nat → Nat → Bool := fun a b => decide ((⟨a, b⟩ : Pair) ∈ ps)
def RetRelB (w : World) (m : Relation × Bool) (e : Ending) (w' : World) : Prop :=
  ∃ (A : Option Addr) (c : Nat), e = .returned (.tuple #[.agg #[.int .i64 m.1.size, .slice A m.1.rows.length c], .bool m.2]) ∧ EIntS.OS w' w.heap.size w'.heap.size (.slice A m.1.rows.length c) m.1.rows ∧ Below w.heap.size w w'
theorem RetRelB.zero {w w' : World} (h : Below w.heap.size w w') : RetRelB w (zeroRel, false) (.returned (.tuple #[.agg #[.int .i64 0, .slice none 0 0], .bool false])) w' := ⟨none, 0, rfl, Elem.OS.nil, h⟩

theorem hasP_succ {k : Nat} {ps : List Pair} {x y : Nat} (h : ps[k]? = some ⟨x, y⟩) (a b : Nat) : hasP (ps.take (k + 1)) a b = (decide (a = x ∧ b = y) || hasP (ps.take k) a b) := by
  unfold hasP
  rw [List.take_add_one, h, Bool.eq_iff_iff]
  simp only [List.mem_append, Option.toList_some, List.mem_singleton, decide_eq_true_eq, Bool.or_eq_true, Pair.mk.injEq]
  constructor
  · rintro (h | ⟨h1, h2⟩)
    · exact .inr h
    · exact .inl ⟨by omega, by omega⟩
  · rintro (⟨rfl, rfl⟩ | h)
    · exact .inr ⟨rfl, rfl⟩
    · exact .inl h
theorem pair_lit {a b x y : Int} {k l : Lit} (h1 : keyOf Try.prog 181 (.agg #[.int .i64 a, .int .i64 b]) = some k) (h2 : keyOf Try.prog 181 (.agg #[.int .i64 x, .int .i64 y]) = some l) : k.sameKey l = decide (a = x ∧ b = y) := by
  rw [Bool.eq_iff_iff, sameKey_iff (pair_keyed.key h2), decide_eq_true_eq]
  constructor
  · rintro rfl
    have := pair_keyed.inj h1 h2
    simp at this
    exact this
  · rintro ⟨rfl, rfl⟩
    rw [h1] at h2
    injection h2

end Go.Proofs.Ytnnjilkjjdiblaa

/-! ## Clos -/
namespace Go.Proofs.Ytnnjilkjjdiblaa
set_option maxRecDepth 100000
open Go.RowKit

end Go.Proofs.Ytnnjilkjjdiblaa

/-! ## Clos2 -/
namespace Go.Proofs.Ytnnjilkjjdiblaa
set_option maxRecDepth 100000
open Go.RowKit

end Go.Proofs.Ytnnjilkjjdiblaa

/-! ## Within -/
namespace Go.Proofs.Ytnnjilkjjdiblaa
set_option maxRecDepth 100000
open Go.RowKit

end Go.Proofs.Ytnnjilkjjdiblaa

/-! ## Comp -/
namespace Go.Proofs.Ytnnjilkjjdiblaa
set_option maxRecDepth 100000
open Go.RowKit

/-- Whether a step from one of a row leads to c. -/
def compB (ys : List (List Int)) (row : List Int) (c : Nat) : Bool := row.any fun b => hasB (ys.getD b.toNat []) c
theorem compB_cons (ys : List (List Int)) (b : Int) (row : List Int) (c : Nat) : compB ys (b :: row) c = (hasB (ys.getD b.toNat []) c || compB ys row c) := by simp [compB]
theorem compB_eq {n a : Nat} {xs ys : List (List Int)} {row : List Int} (c : Nat) (hr : xs[a]? = some row) (hm : ∀ x ∈ row, 0 ≤ x ∧ x < (n : Int)) : stepP n (gridP xs) (gridP ys) a c = compB ys row c := by
  rw [Bool.eq_iff_iff]
  simp only [stepP, compB, List.any_eq_true, Bool.and_eq_true, List.mem_range, gridP_at hr]
  constructor
  · rintro ⟨b, hb, h1, h2⟩
    exact ⟨b, of_decide_eq_true h1, by simpa [gridP] using h2⟩
  · rintro ⟨x, hx, h2⟩
    have hxb := hm x hx
    obtain ⟨b, rfl⟩ := Int.eq_ofNat_of_zero_le hxb.1
    exact ⟨b, by omega, decide_eq_true hx, by simpa [gridP] using h2⟩
theorem relOk_mem {n : Nat} {xs : List (List Int)} (h : relOk ⟨n, xs⟩ = true) : ∀ r ∈ xs, ∀ x ∈ r, 0 ≤ x ∧ x < (n : Int) := by
  obtain ⟨m, hm, _, _, hr⟩ := relOk_parts h
  obtain rfl : m = n := by omega
  intro r h1 x h2
  have := rowOk_mem (hr r h1) x h2
  omega

def CompRel (ys : List (List Int)) (row : List Int) (c : Nat) (w : World) (i : Value) (wr : World) : Prop :=
  ∃ k : Nat, k ≤ row.length ∧ i = .int .i64 k ∧ w = wr ∧ compB ys (row.drop k) c = compB ys row c

set_option maxHeartbeats 1000000 in
theorem ruleComposeRelations (W : World) (n b1 b2 : Nat) (A B : Option Addr) (c d : Nat) (xs ys : List (List Int)) (hx : xs.length = n) (hy : ys.length = n)
    (c1 : W.cell? ⟨b1, 1, none⟩ = some (.slice A n c)) (c2 : W.cell? ⟨b2, 1, none⟩ = some (.slice B n d)) (h : EIntS.AS W 0 W.heap.size A xs) (h' : EIntS.AS W 0 W.heap.size B ys) (l1 : b1 < W.heap.size) (l2 : b2 < W.heap.size) (hm : ∀ r ∈ xs, ∀ x ∈ r, 0 ≤ x ∧ x < (n : Int)) :
    Rule2 W n 0 W.heap.size 155 #[] #[.pointer (some ⟨b1, 0, none⟩), .pointer (some ⟨b2, 0, none⟩)] (stepP n (gridP xs) (gridP ys)) where
  enter := fun args w' => by kernel_rfl
  ans := fun a cc w' ha hb hs => by
    have d1 := (hs.cell (p := ⟨b1, 1, none⟩) (Nat.zero_le _) l1).trans c1
    have d2 := (hs.cell (p := ⟨b2, 1, none⟩) (Nat.zero_le _) l2).trans c2
    obtain ⟨g1, o1, r1, B1, e1, rfl, _, m1, _, x1, k1, _, _, q1⟩ := AIntS.at_ (k := a) (h.same hs) (by omega)
    have i1 : (0 : Int) ≤ (a : Int) ∧ (a : Int) < (n : Int) := by omega
    have hm1 := hm r1 (List.mem_of_getElem? x1)
    have HP := Lib.hid (compB_eq (ys := ys) cc x1 hm1)
    have h2 := h'.same hs
    have hrl := q1.le
    unfold BIG at hrl
    clear x1 hx
    go_enter Try.func155, Try.ntmps155
    go_wp2
    go_loopw [15] (fun i wr => CompRel ys r1 cc w' i wr) (fun i _ => r1.length - (intOf i).toNat)
    case atStart => exact ⟨0, Nat.zero_le _, rfl, rfl, rfl⟩
    case round =>
      obtain ⟨k, hk, rfl, rfl, he⟩ := hrel
      have HE := Lib.hid he; clear he
      by_cases hlt : k < r1.length
      · obtain ⟨b3, o3, x, rfl, _, _, hxd, hxk, hc3⟩ := AInt.at_ q1 hlt
        have hxb := hm1 x (List.mem_of_getElem? hxk)
        obtain ⟨m, rfl⟩ := Int.eq_ofNat_of_zero_le hxb.1
        obtain ⟨g2, o2, r2, B2, e2, rfl, _, m2, _, x2, k2, _, _, q2⟩ := AIntS.at_ (k := m) h2 (by omega)
        have HD := Lib.hid hxd; have HY := Lib.hid (show hasB (ys.getD (m : Int).toNat []) cc = hasB r2 cc by simp [List.getD, x2])
        clear hxd hxk x2 hm1 hm
        cases v1 : hasB r2 cc
        all_goals
          have V1 := Lib.hid v1; clear v1
          go_wp2_with (go_at_call 156; (with_reducible refine (hasInt_any B2 e2 0 W.heap.size r2 cc _ q2).mono ?_); rintro e w2 ⟨rfl, rfl⟩; simp only [V1.out])
        · exact ⟨⟨k + 1, by omega, by go_num, rfl, by rw [← HE.out, HD.out, compB_cons, HY.out, V1.out]; rfl⟩, by simp [intOf]; omega⟩
        · go_ret
          exact ⟨ret_bool (by rw [HP.out, ← HE.out, HD.out, compB_cons, HY.out, V1.out]; rfl), Below.refl _ _⟩
      · go_wp2
        go_ret
        exact ⟨ret_bool (by rw [HP.out, ← HE.out, List.drop_eq_nil_of_le (by omega)]; rfl), Below.refl _ _⟩
theorem implComposeRelations_any (s t : Int) (A B : Option Addr) (c d lo hi lo' hi' : Nat) (xs ys : List (List Int)) (w : World) (h : EIntS.AS w lo hi A xs) (h' : EIntS.AS w lo' hi' B ys) (hh : hi ≤ w.heap.size) (hh' : hi' ≤ w.heap.size) :
    Calls Try.prog 71 #[.agg #[.int .i64 s, .slice A xs.length c], .agg #[.int .i64 t, .slice B ys.length d]] w (RetRel w (compM ⟨s, xs⟩ ⟨t, ys⟩)) := by
  cases hok : bothOk ⟨s, xs⟩ ⟨t, ys⟩ with
  | false =>
    rw [compM_out hok]
    have HO := Lib.hid hok; clear hok
    go_enter Try.func71, Try.ntmps71
    go_wp2_with (go_at_call 154; refine (two_any s t A B c d lo hi lo' hi' xs ys _ (h.same (by (with_reducible repeat' first | exact Same.refl _ _ _ | assumption | (refine Same.setCell ?_ (by first | omega | (simp; omega) | (simp; done) | (dsimp only; omega)) _) | (refine Same.alloc ?_ (by first | omega | (simp; omega) | (simp; done) | (dsimp only; omega)) _) | (refine Same.drewN ?_ _) | (refine Same.drew ?_)))) (h'.same (by (with_reducible repeat' first | exact Same.refl _ _ _ | assumption | (refine Same.setCell ?_ (by first | omega | (simp; omega) | (simp; done) | (dsimp only; omega)) _) | (refine Same.alloc ?_ (by first | omega | (simp; omega) | (simp; done) | (dsimp only; omega)) _) | (refine Same.drewN ?_ _) | (refine Same.drew ?_)))) (by first | omega | (simp; omega) | (simp; done) | (dsimp only; omega)) (by first | omega | (simp; omega) | (simp; done) | (dsimp only; omega))).mono ?_; rintro e w1 ⟨rfl, hb1⟩; simp only [HO.out]; (obtain ⟨hb1c, hb1f⟩ := bcell hb1); (have hb1z := hb1.size); (try simp only [szs] at hb1c hb1f hb1z))
    exact bodyPost_ret (v := .agg #[.int .i64 0, .slice none 0 0]) (by simp [results, Try.results71, go_sem, hb1c]) rfl (RetRel.zero (by (with_reducible repeat' first | exact Below.refl _ _ | assumption | (refine Below.setCell ?_ (by first | omega | (simp; omega) | (simp; done) | (dsimp only; omega)) _) | (refine Below.alloc ?_ (by first | omega | (simp; omega) | (simp; done) | (dsimp only; omega)) _) | (refine below_drewN ?_ _) | (refine Below.drew ?_) | (refine Below.trans ?_ (hb1.mono (by first | omega | (simp; omega) | (simp; done) | (dsimp only; omega)))))))
  | true =>
    obtain ⟨o1, o2, hst⟩ := bothOk_parts hok
    obtain ⟨n, rfl, hn, hl, _⟩ := relOk_parts o1
    obtain ⟨n', hnn, _, hl', _⟩ := relOk_parts o2
    obtain rfl : t = (n : Int) := hst.symm
    obtain rfl : n' = n := by omega
    clear hst hnn o2
    have HM := Lib.hid (relOk_mem o1); clear o1
    rw [compM_in hok]
    have HO := Lib.hid hok; clear hok
    have HL := Lib.hid hl; have HL' := Lib.hid hl'; clear hl hl'
    go_enter Try.func71, Try.ntmps71
    go_wp2_with (first
      | (go_at_call 154; (with_reducible refine (two_any n' n' A B c d lo hi lo' hi' xs ys _ (h.same (by (with_reducible repeat' first | exact Same.refl _ _ _ | assumption | (refine Same.setCell ?_ (by first | omega | (simp; omega) | (simp; done) | (dsimp only; omega)) _) | (refine Same.alloc ?_ (by first | omega | (simp; omega) | (simp; done) | (dsimp only; omega)) _) | (refine Same.drewN ?_ _) | (refine Same.drew ?_)))) (h'.same (by (with_reducible repeat' first | exact Same.refl _ _ _ | assumption | (refine Same.setCell ?_ (by first | omega | (simp; omega) | (simp; done) | (dsimp only; omega)) _) | (refine Same.alloc ?_ (by first | omega | (simp; omega) | (simp; done) | (dsimp only; omega)) _) | (refine Same.drewN ?_ _) | (refine Same.drew ?_)))) (by first | omega | (simp; omega) | (simp; done) | (dsimp only; omega)) (by first | omega | (simp; omega) | (simp; done) | (dsimp only; omega))).mono ?_); rintro e w1 ⟨rfl, hb1⟩; simp only [HO.out]; (obtain ⟨hb1c, hb1f⟩ := bcell hb1); (have hb1z := hb1.size); (try simp only [szs] at hb1c hb1f hb1z); (have g1 : EIntS.AS w1 lo hi A xs := h.same (by (with_reducible repeat' first | exact Same.refl _ _ _ | assumption | (refine Same.setCell ?_ (by first | omega | (simp; omega) | (simp; done) | (dsimp only; omega)) _) | (refine Same.alloc ?_ (by first | omega | (simp; omega) | (simp; done) | (dsimp only; omega)) _) | (refine Same.drewN ?_ _) | (refine Same.drew ?_) | (refine Same.trans ?_ (Same.of_below hb1 (by first | omega | (simp; omega) | (simp; done) | (dsimp only; omega))))))); (have g2 : EIntS.AS w1 lo' hi' B ys := h'.same (by (with_reducible repeat' first | exact Same.refl _ _ _ | assumption | (refine Same.setCell ?_ (by first | omega | (simp; omega) | (simp; done) | (dsimp only; omega)) _) | (refine Same.alloc ?_ (by first | omega | (simp; omega) | (simp; done) | (dsimp only; omega)) _) | (refine Same.drewN ?_ _) | (refine Same.drew ?_) | (refine Same.trans ?_ (Same.of_below hb1 (by first | omega | (simp; omega) | (simp; done) | (dsimp only; omega))))))))
      | (go_at_call 95; refine (related_any _ #[] _ n' 0 w1.heap.size _ w1 hn (ruleComposeRelations w1 n' w.heap.size (w.heap.size + 1) A B c d xs ys HL.out HL'.out ?_ ?_ (g1.mono (Nat.zero_le _) (by omega)) (g2.mono (Nat.zero_le _) (by omega)) (by omega) (by omega) HM.out) (Nat.le_refl _)).mono ?_; (rw [hb1c _ _ (by omega)]; simp [go_sem, HL.out]); (rw [hb1c _ _ (by omega)]; simp [go_sem, HL'.out]); rintro e w2 ⟨A2, c2, rfl, ho2, hb2⟩; (obtain ⟨hb2c, hb2f⟩ := bcell hb2); (have hb2z := hb2.size); (try simp only [szs] at hb2c hb2f hb2z); (have lt2 : w.heap.size + 2 < w1.heap.size := (by omega))))
    exact bodyPost_ret (v := .agg #[.int .i64 n', .slice A2 n' c2]) (by simp [results, Try.results71, go_sem, hb1c, hb2c, lt2]) rfl ⟨A2, c2, by simp only [relM_len], by simpa only [relM_len] using (ho2.same (by (with_reducible repeat' first | exact Same.refl _ _ _ | assumption | (refine Same.setCell ?_ (by first | omega | (simp; omega) | (simp; done) | (dsimp only; omega)) _) | (refine Same.alloc ?_ (by first | omega | (simp; omega) | (simp; done) | (dsimp only; omega)) _) | (refine Same.drewN ?_ _) | (refine Same.drew ?_)))).mono (by first | omega | (simp; omega) | (simp; done) | (dsimp only; omega)) (by first | omega | (simp; omega) | (simp; done) | (dsimp only; omega)), by (with_reducible repeat' first | exact Below.refl _ _ | assumption | (refine Below.setCell ?_ (by first | omega | (simp; omega) | (simp; done) | (dsimp only; omega)) _) | (refine Below.alloc ?_ (by first | omega | (simp; omega) | (simp; done) | (dsimp only; omega)) _) | (refine below_drewN ?_ _) | (refine Below.drew ?_) | (refine Below.trans ?_ (hb2.mono (by first | omega | (simp; omega) | (simp; done) | (dsimp only; omega)))) | (refine Below.trans ?_ (hb1.mono (by first | omega | (simp; omega) | (simp; done) | (dsimp only; omega)))))⟩

end Go.Proofs.Ytnnjilkjjdiblaa

/-! ## Comp2 -/
namespace Go.Proofs.Ytnnjilkjjdiblaa
set_option maxRecDepth 100000
open Go.RowKit

end Go.Proofs.Ytnnjilkjjdiblaa

/-! ## AlgM -/
namespace Go.Proofs.Ytnnjilkjjdiblaa
set_option maxRecDepth 100000
open Go.RowKit

def relP (n : Nat) (p : Nat → Nat → Bool) : Relation := ⟨n, relM n p⟩
theorem mem_idxTo {q : Nat → Bool} {k : Nat} {x : Int} : x ∈ idxTo q k ↔ ∃ b : Nat, b < k ∧ q b = true ∧ (b : Int) = x := by
  simp [idxTo, and_assoc]
theorem hasB_idx (q : Nat → Bool) (n b : Nat) : hasB (idxTo q n) b = (decide (b < n) && q b) := by
  rw [Bool.eq_iff_iff]
  simp only [hasB, decide_eq_true_eq, mem_idxTo, Bool.and_eq_true]
  constructor
  · rintro ⟨c, h1, h2, h3⟩
    obtain rfl : c = b := by omega
    exact ⟨h1, h2⟩
  · rintro ⟨h1, h2⟩
    exact ⟨b, h1, h2, rfl⟩
theorem rowOk_snoc {n : Int} {xs : List Int} {y : Int} : ∀ {last : Int}, rowOk n last xs = true → (∀ x ∈ xs, x < y) → last < y → y < n → rowOk n last (xs ++ [y]) = true := by
  induction xs with
  | nil => intro last _ _ h1 h2; simp [rowOk]; omega
  | cons b r ih =>
    intro last h hx h1 h2
    rw [List.cons_append, rowOk]
    rw [rowOk] at h
    split at h
    · cases h
    · rename_i hc
      rw [if_neg hc]
      exact ih h (fun x hm => hx x (by simp [hm])) (hx b (by simp)) h2
theorem rowOk_idx (q : Nat → Bool) (n : Nat) : ∀ k, k ≤ n → rowOk (n : Int) (-1) (idxTo q k) = true := by
  intro k
  induction k with
  | zero => intro _; rfl
  | succ k ih =>
    intro hk
    rw [idxTo_succ]
    split
    · refine rowOk_snoc (ih (by omega)) (fun x hx => ?_) (by omega) (by omega)
      obtain ⟨b, h1, _, h3⟩ := mem_idxTo.1 hx
      omega
    · exact ih (by omega)
theorem rowsOk_of {n : Int} {xs : List (List Int)} (h : ∀ x ∈ xs, rowOk n (-1) x = true) : rowsOk n xs = true := by
  induction xs with
  | nil => rfl
  | cons x r ih => simp only [rowsOk, Bool.and_eq_true]; exact ⟨h x (by simp), ih fun y hy => h y (by simp [hy])⟩
theorem relOk_relP {n : Nat} (p : Nat → Nat → Bool) (hn : n ≤ 40) : relOk ⟨(n : Int), relM n p⟩ = true := by
  simp only [relOk, Bool.and_eq_true, decide_eq_true_eq, relM_len]
  refine ⟨⟨by omega, by omega, trivial⟩, rowsOk_of fun x hx => ?_⟩
  obtain ⟨a, _, rfl⟩ := List.mem_map.1 hx
  exact rowOk_idx _ n n (Nat.le_refl _)
theorem bothOk_relP {n : Nat} (p q : Nat → Nat → Bool) (hn : n ≤ 40) : bothOk ⟨(n : Int), relM n p⟩ ⟨(n : Int), relM n q⟩ = true := by
  simp [bothOk, relOk_relP _ hn]
theorem relM_at {n a : Nat} (p : Nat → Nat → Bool) (ha : a < n) : (relM n p)[a]? = some (idxTo (p a) n) := by simp [relM, relTo, ha]
theorem gridP_relM {n a b : Nat} (p : Nat → Nat → Bool) (ha : a < n) (hb : b < n) : gridP (relM n p) a b = p a b := by
  rw [gridP_at (relM_at p ha), hasB_idx]; simp [hb]
theorem stepP_congr {n a b : Nat} {p p' q q' : Nat → Nat → Bool} (ha : a < n) (hb : b < n) (h : ∀ a b, a < n → b < n → p a b = p' a b) (h' : ∀ a b, a < n → b < n → q a b = q' a b) : stepP n p q a b = stepP n p' q' a b := by
  unfold stepP
  rw [Bool.eq_iff_iff]
  simp only [List.any_eq_true, List.mem_range, Bool.and_eq_true]
  constructor <;> rintro ⟨c, hc, h1, h2⟩
  · exact ⟨c, hc, by rw [← h a c ha hc]; exact h1, by rw [← h' c b hc hb]; exact h2⟩
  · exact ⟨c, hc, by rw [h a c ha hc]; exact h1, by rw [h' c b hc hb]; exact h2⟩
theorem compM_relP {n : Nat} (p q : Nat → Nat → Bool) (hn : n ≤ 40) : compM ⟨(n : Int), relM n p⟩ ⟨(n : Int), relM n q⟩ = relP n (stepP n p q) := by
  rw [compM_in (bothOk_relP p q hn), relP, relM_congr fun a b ha hb => stepP_congr ha hb (fun a b ha hb => gridP_relM p ha hb) (fun a b ha hb => gridP_relM q ha hb)]
theorem equalM_relP {n : Nat} {p q : Nat → Nat → Bool} (hn : n ≤ 40) (h : ∀ a b, a < n → b < n → p a b = q a b) : equalM ⟨(n : Int), relM n p⟩ ⟨(n : Int), relM n q⟩ = true := by
  rw [relM_congr h]
  simp [equalM, bothOk_relP q q hn, eqB_refl]

/-! ### The laws of composition -/
theorem stepP_iff {n a c : Nat} {p q : Nat → Nat → Bool} : stepP n p q a c = true ↔ ∃ b, b < n ∧ p a b = true ∧ q b c = true := by simp [stepP]

/-! ### The closure -/
end Go.Proofs.Ytnnjilkjjdiblaa

/-! ## Conv -/
namespace Go.Proofs.Ytnnjilkjjdiblaa
set_option maxRecDepth 100000
open Go.RowKit

end Go.Proofs.Ytnnjilkjjdiblaa

/-! ## Alg -/
namespace Go.Proofs.Ytnnjilkjjdiblaa
set_option maxRecDepth 100000
open Go.RowKit

/-- A valid relation of n numbers is returned, which the call has made. -/
def RetP (w : World) (n : Nat) (p : Nat → Nat → Bool) (e : Ending) (w' : World) : Prop :=
  ∃ (A : Option Addr) (c : Nat), e = .returned (.agg #[.int .i64 n, .slice A n c]) ∧ EIntS.OS w' w.heap.size w'.heap.size (.slice A n c) (relM n p) ∧ Below w.heap.size w w'
theorem RetP.of {w w' : World} {n : Nat} {p : Nat → Nat → Bool} {e : Ending} (h : RetRel w (relP n p) e w') : RetP w n p e w' := by
  obtain ⟨A, c, h1, h2, h3⟩ := h
  simp only [relP, relM_len] at h1 h2
  exact ⟨A, c, h1, h2, h3⟩
theorem compP_any (n : Nat) (p q : Nat → Nat → Bool) (A B : Option Addr) (c d lo hi lo' hi' : Nat) (w : World) (hn : n ≤ 40) (h : EIntS.AS w lo hi A (relM n p)) (h' : EIntS.AS w lo' hi' B (relM n q)) (hh : hi ≤ w.heap.size) (hh' : hi' ≤ w.heap.size) :
    Calls Try.prog 71 #[.agg #[.int .i64 n, .slice A n c], .agg #[.int .i64 n, .slice B n d]] w (RetP w n (stepP n p q)) := by
  have H := implComposeRelations_any n n A B c d lo hi lo' hi' (relM n p) (relM n q) w h h' hh hh'
  rw [compM_relP _ _ hn] at H
  simp only [relM_len] at H
  exact H.mono fun _ _ h => RetP.of h
end Go.Proofs.Ytnnjilkjjdiblaa
