/-
  Words for memory: slices that read as lists, slices that a call owns, frames. No condition; nothing of one function is said here.
-/
import Derived.Test.YthpcippgifmabaaRows
import Derived.WalkKit
import Derived.WalkSpells
import Derived.Lib.Hide
import Derived.Deep.Draws
import Derived.Laws.MakeOwn
import Derived.Deep.RegionHeld3
import Derived.BigQuiet
import Derived.Deep.QuietTactic
import Derived.Maps.AppendAt
namespace Go.Proofs.Ythpcippgifmabaa
set_option maxRecDepth 100000
open Go.RowKit

/-- No slice that was read is longer. -/
def BIG : Nat := 17592186043904

/-- The cells vs lie from the address on, in a block from lo to hi. -/
def RV (w : World) (lo hi : Nat) (A : Option Addr) (vs : List Value) : Prop :=
  0 < vs.length → ∃ b off, A = some ⟨b, off, none⟩ ∧ lo ≤ b ∧ b < hi ∧ ∀ i u, vs[i]? = some u → w.cell? ⟨b, off + i, none⟩ = some u

/-- The blocks from lo to hi are as they were. -/
structure Same (lo hi : Nat) (w w' : World) : Prop where
  size : w.heap.size ≤ w'.heap.size
  block : ∀ k, lo ≤ k → k < hi → w'.heap[k]? = w.heap[k]?

/-- A slice of n elements of sz cells each, whose cells are vs. -/
def RSl (w : World) (lo hi sz : Nat) (v : Value) (n : Nat) (vs : List Value) : Prop :=
  ∃ A c, v = .slice A n c ∧ n ≤ c ∧ c ≤ maxLen ∧ vs.length = n * sz ∧ n ≤ BIG ∧ RV w lo hi A vs

/-- A slice that the call owns. -/
def OSl (w : World) (lo hi e sz : Nat) (v : Value) (n : Nat) (vs : List Value) : Prop :=
  w.ownsRow lo e sz v n vs ∧ (∀ k, v.ownBlock = some k → k < hi) ∧ n ≤ BIG

/-- What is changed lies in the blocks from lo to hi, or is new. -/
structure Chg (lo hi : Nat) (w w' : World) : Prop where
  os : w'.os = w.os
  tape : w'.tape = w.tape
  output : w'.output = w.output
  size : w.heap.size ≤ w'.heap.size
  block : ∀ k, k < w.heap.size → (k < lo ∨ hi ≤ k) → w'.heap[k]? = w.heap[k]?

section
variable {w w' w'' a : World} {lo hi lo' hi' B e sz n : Nat} {A : Option Addr} {vs : List Value} {v : Value}

theorem Same.refl (lo hi : Nat) (w : World) : Same lo hi w w := ⟨Nat.le_refl _, fun _ _ _ => rfl⟩
theorem Same.trans (h : Same lo hi w w') (k : Same lo hi w' w'') : Same lo hi w w'' :=
  ⟨Nat.le_trans h.size k.size, fun i h1 h2 => (k.block i h1 h2).trans (h.block i h1 h2)⟩
theorem Same.of_below (h : Below B w w') (hB : hi ≤ B) : Same lo hi w w' := ⟨h.size, fun k _ h2 => h.block k (by omega)⟩
theorem Same.of_chg (h : Chg lo' hi' w w') (hs : hi ≤ w.heap.size) (hd : hi ≤ lo' ∨ hi' ≤ lo) : Same lo hi w w' :=
  ⟨h.size, fun k h1 h2 => h.block k (by omega) (by omega)⟩
theorem Same.mono (h : Same lo hi w w') (h1 : lo ≤ lo') (h2 : hi' ≤ hi) : Same lo' hi' w w' := ⟨h.size, fun k k1 k2 => h.block k (by omega) (by omega)⟩
theorem Same.cell (h : Same lo hi w w') {p : Addr} (h1 : lo ≤ p.block) (h2 : p.block < hi) : w'.cell? p = w.cell? p := World.cell?_of_block (h.block _ h1 h2)
theorem Same.of_grown {row : Option Nat} (h : w.grownBy w' row) (hs : hi ≤ w.heap.size) (hr : ∀ k, row = some k → k < lo ∨ hi ≤ k) : Same lo hi w w' :=
  ⟨h.size, fun k h1 h2 => h.block k (by omega) (fun e => by have := hr k e.symm; omega)⟩
theorem Same.alloc (h : Same lo hi w w') (hs : hi ≤ w'.heap.size) (o : Obj) : Same lo hi w (w'.alloc o) :=
  h.trans ⟨by simp, fun k _ h2 => Below.heap_alloc _ _ _ (by omega)⟩
theorem Same.drew (h : Same lo hi w w') : Same lo hi w w'.drew := ⟨h.size, h.block⟩
theorem Same.drewN (h : Same lo hi w w') (n : Nat) : Same lo hi w (w'.drewN n) := ⟨h.size, h.block⟩
theorem Same.setCell (h : Same lo hi w w') {p : Addr} (hp : p.block < lo ∨ hi ≤ p.block) (u : Value) : Same lo hi w (w'.setCell p u) :=
  h.trans ⟨by simp [World.setCell], fun k _ _ => Below.heap_setCell _ _ _ _ (by omega)⟩

theorem Chg.refl (lo hi : Nat) (w : World) : Chg lo hi w w := ⟨rfl, rfl, rfl, Nat.le_refl _, fun _ _ _ => rfl⟩
theorem Chg.trans (h : Chg lo hi w w') (k : Chg lo hi w' w'') : Chg lo hi w w'' :=
  ⟨k.os.trans h.os, k.tape.trans h.tape, k.output.trans h.output, Nat.le_trans h.size k.size, fun i hi' hd => (k.block i (Nat.lt_of_lt_of_le hi' h.size) hd).trans (h.block i hi' hd)⟩
theorem Chg.of_below (h : Below w.heap.size w w') : Chg lo hi w w' := ⟨h.os, h.tape, h.output, h.size, fun k hk _ => h.block k hk⟩
theorem Chg.of_grown {row : Option Nat} (h : w.grownBy w' row) (hr : ∀ k, row = some k → lo ≤ k ∧ k < hi) : Chg lo hi w w' :=
  ⟨h.os, h.tape, h.output, h.size, fun k hk hd => h.block k hk (fun e => by have := hr k e.symm; omega)⟩
theorem Chg.mono (h : Chg lo' hi' w w') (h1 : lo ≤ lo') (h2 : hi' ≤ hi) : Chg lo hi w w' := ⟨h.os, h.tape, h.output, h.size, fun k hk hd => h.block k hk (by omega)⟩
theorem Chg.below (h : Chg lo hi w w') (hB : B ≤ w.heap.size) (hl : B ≤ lo) : Below B w w' := ⟨h.os, h.tape, h.output, h.size, fun k hk => h.block k (by omega) (.inl (by omega))⟩
theorem Chg.setCell (h : Chg lo hi w w') {p : Addr} (hp : lo ≤ p.block ∧ p.block < hi) (u : Value) : Chg lo hi w (w'.setCell p u) :=
  h.trans ⟨rfl, rfl, rfl, by simp [World.setCell], fun k _ _ => Below.heap_setCell _ _ _ _ (by omega)⟩
theorem Chg.drew (h : Chg lo hi w w') : Chg lo hi w w'.drew := ⟨h.os, h.tape, h.output, h.size, h.block⟩
theorem Chg.alloc (h : Chg lo hi w w') (o : Obj) : Chg lo hi w (w'.alloc o) :=
  h.trans ⟨rfl, rfl, rfl, by simp, fun k hk _ => Below.heap_alloc _ _ _ hk⟩

theorem World.size_drewN (w : World) (n : Nat) : (w.drewN n).heap.size = w.heap.size := rfl
theorem szs : (∀ (w : World) (o : Obj), (w.alloc o).heap.size = w.heap.size + 1) ∧ (∀ (w : World), w.drew.heap.size = w.heap.size) ∧ (∀ (w : World) (a : Addr) (u : Value), (w.setCell a u).heap.size = w.heap.size) ∧ (∀ (w : World) (n : Nat), (w.drewN n).heap.size = w.heap.size) :=
  ⟨fun _ _ => World.size_alloc .., fun _ => rfl, fun _ _ _ => World.size_setCell .., fun _ _ => rfl⟩
theorem undrew (h : Below w.drew.heap.size w.drew w') : Below w.heap.size w w' := ⟨h.os, h.tape, h.output, h.size, h.block⟩
theorem below_drewN (h : Below B a w) (n : Nat) : Below B a (w.drewN n) := ⟨h.os, h.tape, h.output, h.size, h.block⟩

theorem RV.same (h : RV w lo hi A vs) (k : Same lo hi w w') : RV w' lo hi A vs := fun hn => by
  obtain ⟨b, off, rfl, h1, h2, hc⟩ := h hn
  exact ⟨b, off, rfl, h1, h2, fun i u hu => (k.cell (p := ⟨b, off + i, none⟩) h1 h2).trans (hc i u hu)⟩
theorem RV.mono (h : RV w lo hi A vs) (h1 : lo' ≤ lo) (h2 : hi ≤ hi') : RV w lo' hi' A vs := fun hn => by
  obtain ⟨b, off, rfl, a1, a2, hc⟩ := h hn
  exact ⟨b, off, rfl, by omega, by omega, hc⟩
theorem RSl.same (h : RSl w lo hi sz v n vs) (k : Same lo hi w w') : RSl w' lo hi sz v n vs := by
  obtain ⟨A, c, rfl, h1, h2, h3, h4, h5⟩ := h
  exact ⟨A, c, rfl, h1, h2, h3, h4, h5.same k⟩
theorem RSl.mono (h : RSl w lo hi sz v n vs) (h1 : lo' ≤ lo) (h2 : hi ≤ hi') : RSl w lo' hi' sz v n vs := by
  obtain ⟨A, c, rfl, a1, a2, a3, a4, a5⟩ := h
  exact ⟨A, c, rfl, a1, a2, a3, a4, a5.mono h1 h2⟩

theorem OSl.same (h : OSl w lo hi e sz v n vs) (k : Same lo hi w w') : OSl w' lo hi e sz v n vs := by
  obtain ⟨⟨hl, ho⟩, hh, hb⟩ := h
  refine ⟨⟨hl, ?_⟩, hh, hb⟩
  rcases ho with ho | ⟨g, cap, cur, rfl, hg, hc, r⟩
  · exact .inl ho
  · exact .inr ⟨g, cap, cur, rfl, hg, (k.block g hg (hh g rfl)).trans hc, r⟩
theorem OSl.mono (h : OSl w lo hi e sz v n vs) (h1 : lo' ≤ lo) (h2 : hi ≤ hi') : OSl w lo' hi' e sz v n vs := by
  obtain ⟨⟨hl, ho⟩, hh, hb⟩ := h
  refine ⟨⟨hl, ?_⟩, fun k hk => Nat.lt_of_lt_of_le (hh k hk) h2, hb⟩
  rcases ho with ho | ⟨g, cap, cur, rfl, hg, r⟩
  · exact .inl ho
  · exact .inr ⟨g, cap, cur, rfl, Nat.le_trans h1 hg, r⟩
/-- What is owned can be read. -/
theorem OSl.read (h : OSl w lo hi e sz v n vs) : RSl w lo hi sz v n vs := by
  obtain ⟨⟨hl, ho⟩, hh, hb⟩ := h
  rcases ho with ⟨rfl, rfl⟩ | ⟨g, cap, cur, rfl, hg, hc, hn, hcap, hsz, ht⟩
  · exact ⟨none, 0, rfl, Nat.le_refl _, by simp [maxLen], hl, hb, fun hn => absurd hn (by rw [hl]; simp)⟩
  · refine ⟨some ⟨g, 0, none⟩, cap, rfl, hn, hcap, hl, hb, fun _ => ⟨g, 0, rfl, hg, hh g rfl, fun i u hu => ?_⟩⟩
    rw [Nat.zero_add, cell_of_row w g i cur e (0, 0) hc]
    rw [← ht, List.getElem?_take] at hu
    split at hu
    · simpa using hu
    · cases hu
theorem OSl.of_own (h : w.ownsRow lo e sz v n vs) (hb : n ≤ BIG) : OSl w lo w.heap.size e sz v n vs := ⟨h, fun k hk => (h.lt k hk).2, hb⟩
end

/-- Every old cell and mark reads as before. -/
theorem bcell {W w1 : World} (hb : Below W.heap.size W w1) : (∀ b o, b < W.heap.size → w1.cell? ⟨b, o, none⟩ = W.cell? ⟨b, o, none⟩) ∧ (∀ b o, b < W.heap.size → w1.frozen? ⟨b, o, none⟩ = W.frozen? ⟨b, o, none⟩) :=
  ⟨fun b o h => hb.cell (p := ⟨b, o, none⟩) h, fun b o h => hb.frozen (p := ⟨b, o, none⟩) h⟩

/-- A quiet call, for a region that draws its order. -/
theorem quietE {P : Program} {f : FuncId} {args : Array Value} {w : World} {a : Nat} {v : Value}
    (h : Calls P f args (w.drewN a) fun e w' => ∃ n, e = .returned v ∧ (w.drewN a).drewN n = w') :
    Calls P f args (w.drewN a) fun e w'' => e = .returned v ∧ ∃ m, w'' = w.drewN m :=
  h.mono fun _ _ ⟨n, he, hm⟩ => ⟨he, a + n, by rw [← hm, World.drewN_drewN]⟩
/-- Equality, asked. (A name of its own, which a walk does not open.) -/
def eqB {α : Type} [DecidableEq α] (a b : α) : Bool := decide (a = b)
section
variable {α : Type} [DecidableEq α]
theorem eqB_iff {a b : α} : eqB a b = true ↔ a = b := by simp [eqB]
theorem eqB_refl (a : α) : eqB a a = true := by simp [eqB]
theorem eqB_of {a b : α} (h : a = b) : eqB a b = true := eqB_iff.2 h
theorem eqB_ne {a b : α} (h : a ≠ b) : eqB a b = false := by simp [eqB, h]
theorem eqB_cons (a b : α) (x y : List α) : eqB (a :: x) (b :: y) = (eqB a b && eqB x y) := by simp [eqB, List.cons.injEq]
theorem eqB_len {x y : List α} (h : x.length ≠ y.length) : eqB x y = false := eqB_ne fun e => h (by rw [e])
theorem eqB_no {x y xs ys : List α} {a b : α} {k : Nat} (he : eqB (xs.drop k) (ys.drop k) = eqB xs ys) (h1 : xs.drop k = a :: x) (h2 : ys.drop k = b :: y) (h : eqB a b = false) : false = eqB xs ys := by
  rw [← he, h1, h2, eqB_cons, h]; rfl
theorem eqB_yes {x y xs ys : List α} {a b : α} {k : Nat} (he : eqB (xs.drop k) (ys.drop k) = eqB xs ys) (h1 : xs.drop k = a :: x) (h2 : ys.drop k = b :: y) (h : eqB a b = true) : eqB x y = eqB xs ys := by
  rw [← he, h1, h2, eqB_cons, h]; rfl
theorem eqB_end {xs ys : List α} {k : Nat} (he : eqB (xs.drop k) (ys.drop k) = eqB xs ys) (h1 : xs.length ≤ k) (h2 : ys.length ≤ k) : true = eqB xs ys := by
  rw [← he, List.drop_eq_nil_of_le h1, List.drop_eq_nil_of_le h2, eqB_refl]
theorem not_true {b : Bool} (h : (!b) = true) : b = false := by simpa using h
theorem not_false {b : Bool} (h : (!b) = false) : b = true := by simpa using h
end
theorem eqB_int_ne {x y : Int} (h : (x != y) = true) : eqB x y = false := eqB_ne (by simpa using h)
theorem eqB_int_eq {x y : Int} (h : (x != y) = false) : eqB x y = true := eqB_of (by simpa using h)
theorem drop_cons {α} (xs : List α) (d : α) (k : Nat) (h : k < xs.length) : xs.drop k = xs.getD k d :: xs.drop (k + 1) := by
  rw [List.drop_eq_getElem_cons h]; simp [List.getD, h]
theorem ret_int {k : IntKind} {a b : Int} (h : a = b) : Ending.returned (.int k a) = .returned (.int k b) := by rw [h]
theorem ret_bool {a b : Bool} (h : a = b) : Ending.returned (.bool a) = .returned (.bool b) := by rw [h]

/-! ### A block that is filled cell by cell -/
/-- Block g holds N cells of type e; the first j are those of vs. -/
def Fill (w : World) (g e N : Nat) (vs : List Value) (j : Nat) : Prop :=
  ∃ cur, w.heap[g]? = some (.cells cur e (0, 0)) ∧ cur.size = N ∧ ∀ i, i < j → cur[i]? = vs[i]?
section
variable {w w' : World} {g e N j lo hi : Nat} {vs : List Value}
theorem Fill.new (w : World) (e N : Nat) (cur : Array Value) (vs : List Value) (h : cur.size = N) : Fill (w.alloc (.cells cur e)) w.heap.size e N vs 0 :=
  ⟨cur, heap_alloc_new w _, h, fun _ hi => absurd hi (Nat.not_lt_zero _)⟩
theorem Fill.same (h : Fill w g e N vs j) (k : Same lo hi w w') (h1 : lo ≤ g) (h2 : g < hi) : Fill w' g e N vs j := by
  obtain ⟨cur, hc, r⟩ := h
  exact ⟨cur, (k.block g h1 h2).trans hc, r⟩
theorem Fill.drew (h : Fill w g e N vs j) : Fill w.drew g e N vs j := h
theorem Fill.alloc (h : Fill w g e N vs j) (o : Obj) : Fill (w.alloc o) g e N vs j := by
  obtain ⟨cur, hc, r⟩ := h
  exact ⟨cur, (Below.heap_alloc w o g (Array.getElem?_eq_some_iff.1 hc).1).trans hc, r⟩
theorem Fill.lt (h : Fill w g e N vs j) : g < w.heap.size := by
  obtain ⟨cur, hc, _⟩ := h
  exact (Array.getElem?_eq_some_iff.1 hc).1
theorem Fill.next (h : Fill w g e N vs j) {i : Nat} (hi : i < N) : ∃ u, w.cell? ⟨g, i, none⟩ = some u := by
  obtain ⟨cur, hc, hs, _⟩ := h
  exact ⟨cur[i]'(by omega), by rw [cell_of_row w g i cur e (0, 0) hc, Array.getElem?_eq_getElem]⟩
theorem Fill.free (h : Fill w g e N vs j) (i : Nat) : w.frozen? ⟨g, i, none⟩ = false := by
  obtain ⟨cur, hc, _⟩ := h
  simp [World.frozen?, hc]
theorem Fill.set (h : Fill w g e N vs j) {u : Value} (hu : vs[j]? = some u) (hj : j < N) : Fill (w.setCell ⟨g, j, none⟩ u) g e N vs (j + 1) := by
  obtain ⟨cur, hc, hs, hr⟩ := h
  refine ⟨cur.setIfInBounds j u, by simp [World.setCell, Array.getElem?_modify, hc], by simpa using hs, fun i hi => ?_⟩
  by_cases hij : i = j
  · subst hij; rw [hu]; simp [hs, hj]
  · rw [← hr i (by omega)]; simp [Ne.symm hij]
theorem Fill.far (h : Fill w g e N vs j) {p : Addr} (hp : g ≠ p.block) (u : Value) : Fill (w.setCell p u) g e N vs j := by
  obtain ⟨cur, hc, r⟩ := h
  exact ⟨cur, (Below.heap_setCell w p u g hp).trans hc, r⟩
theorem Fill.own (h : Fill w g e N vs N) {n sz : Nat} (hn : N = n * sz) (hv : vs.length = N) (hg : lo ≤ g) (hb : n ≤ BIG) : OSl w lo w.heap.size e sz (.slice (some ⟨g, 0, none⟩) n n) n vs := by
  have hlt := h.lt
  obtain ⟨cur, hc, hs, hr⟩ := h
  refine ⟨⟨by omega, .inr ⟨g, n, cur, rfl, hg, hc, Nat.le_refl _, by unfold BIG at hb; simp only [maxLen]; omega, by omega, ?_⟩⟩, fun k hk => by simp [Value.ownBlock] at hk; omega, hb⟩
  apply List.ext_getElem?
  intro i
  rw [List.getElem?_take]
  by_cases hi : i < N
  · rw [if_pos (by omega), ← hr i hi]; simp
  · rw [if_neg (by omega), List.getElem?_eq_none (by omega)]
end

/-- make([]T, n) at a size that is a variable. -/
theorem run_mk {P : Program} (t e : TypeId) (i : TypeInfo) (z : Value) (sz bytes : Nat) (ht : P.underlying t = some (.slice e)) (hi : P.info? e = some i) (hz : i.zero = some z) (hs : i.size = sz) (hby : i.bytes = bytes)
    (n : Nat) (hb : bytes * n ≤ 281474976710656) (hn : n ≤ BIG) : ∀ w : World, (Instr.makeSlice t (.int .i64 (n : Int)) (.int .i64 (n : Int))).run P w = .ok (.slice (some ⟨w.heap.size, 0, none⟩) n n) (w.alloc (.cells (madeCells z.cells (n * sz)) e)) := by
  intro w
  subst hs hby
  have hb' : (i.bytes : Int) * (n : Int) ≤ 281474976710656 := by
    have h : ((i.bytes * n : Nat) : Int) ≤ 281474976710656 := by omega
    rwa [Int.natCast_mul] at h
  have hr := run_make (P := P) w t e i z ht hi hz .i64 .i64 n n (by omega) (by omega) hb' (by unfold BIG at hn; omega)
  simpa using hr

/-- What a size leaves. -/
def Sz (r left : Int) (n : Nat) : Prop := (r = -1 ∧ left < n) ∨ (0 ≤ r ∧ r = left - n)

/-! ### Elements and slices of them -/
/-- The blocks that cells own. -/
def blocks (cs : List Value) : List Nat := cs.filterMap Value.ownBlock

/-- How a thing lies in cells: owned (O), or only to be read (R). -/
structure Elem (α : Type) where
  e : Nat
  sz : Nat
  O : World → Nat → Nat → List Value → α → Prop
  R : World → Nat → Nat → List Value → α → Prop
  len : ∀ {w lo hi cs x}, R w lo hi cs x → cs.length = sz
  read : ∀ {w lo hi cs x}, O w lo hi cs x → R w lo hi cs x
  sameO : ∀ {w w' lo hi cs x}, O w lo hi cs x → Same lo hi w w' → O w' lo hi cs x
  sameR : ∀ {w w' lo hi cs x}, R w lo hi cs x → Same lo hi w w' → R w' lo hi cs x
  monoO : ∀ {w lo hi lo' hi' cs x}, O w lo hi cs x → lo' ≤ lo → hi ≤ hi' → O w lo' hi' cs x
  monoR : ∀ {w lo hi lo' hi' cs x}, R w lo hi cs x → lo' ≤ lo → hi ≤ hi' → R w lo' hi' cs x
  blk : ∀ {w lo hi cs x}, O w lo hi cs x → ∀ b ∈ blocks cs, lo ≤ b ∧ b < hi
  loc : ∀ {w w' lo hi cs x}, O w lo hi cs x → (∀ b ∈ blocks cs, w'.heap[b]? = w.heap[b]?) → O w' lo hi cs x

/-- A thing without slices in it. -/
def Elem.flat {α : Type} (e sz : Nat) (f : α → List Value) (hl : ∀ x, (f x).length = sz) (hb : ∀ x, blocks (f x) = []) : Elem α where
  e := e
  sz := sz
  O := fun _ _ _ cs x => cs = f x
  R := fun _ _ _ cs x => cs = f x
  len := fun h => by rw [h, hl]
  read := fun h => h
  sameO := fun h _ => h
  sameR := fun h _ => h
  monoO := fun h _ _ => h
  monoR := fun h _ _ => h
  blk := fun h b hx => by rw [h, hb] at hx; cases hx
  loc := fun h _ => h

/-- Elements in a list of cells' rows, each for itself, no two of them in one block. -/
structure Elem.OL {α : Type} (E : Elem α) (w : World) (lo hi : Nat) (css : List (List Value)) (xs : List α) : Prop where
  len : css.length = xs.length
  at_ : ∀ (i : Nat) (x : α), xs[i]? = some x → ∃ cs, css[i]? = some cs ∧ E.O w lo hi cs x
  apart : ∀ (i j : Nat) (cs cs' : List Value) (b : Nat), i ≠ j → css[i]? = some cs → css[j]? = some cs' → b ∈ blocks cs → b ∉ blocks cs'
structure Elem.RL {α : Type} (E : Elem α) (w : World) (lo hi : Nat) (css : List (List Value)) (xs : List α) : Prop where
  len : css.length = xs.length
  at_ : ∀ (i : Nat) (x : α), xs[i]? = some x → ∃ cs, css[i]? = some cs ∧ E.R w lo hi cs x

/-- The cells' rows css lie one behind the other from the address on. -/
def RC (w : World) (lo hi sz : Nat) (A : Option Addr) (css : List (List Value)) : Prop :=
  0 < css.length → ∃ b off, A = some ⟨b, off, none⟩ ∧ lo ≤ b ∧ b < hi ∧ ∀ (i : Nat) (cs : List Value), css[i]? = some cs → ∀ (j : Nat) (u : Value), cs[j]? = some u → w.cell? ⟨b, off + (i * sz + j), none⟩ = some u

/-- The address reads as the elements xs. -/
def Elem.AS {α : Type} (E : Elem α) (w : World) (lo hi : Nat) (A : Option Addr) (xs : List α) : Prop :=
  xs.length ≤ BIG ∧ ∃ css, RC w lo hi E.sz A css ∧ E.RL w lo hi css xs
/-- The slice reads as the elements xs. -/
def Elem.RS {α : Type} (E : Elem α) (w : World) (lo hi : Nat) (v : Value) (xs : List α) : Prop :=
  ∃ A c, v = .slice A xs.length c ∧ xs.length ≤ c ∧ c ≤ maxLen ∧ E.AS w lo hi A xs
/-- The slice, which the call owns, reads as the elements xs. -/
def Elem.OS {α : Type} (E : Elem α) (w : World) (lo hi : Nat) (v : Value) (xs : List α) : Prop :=
  ∃ css, OSl w lo hi E.e E.sz v xs.length css.flatten ∧ E.OL w lo hi css xs ∧ ∀ cs ∈ css, ∀ b ∈ blocks cs, v.ownBlock ≠ some b

theorem flatten_at {css : List (List Value)} {sz : Nat} (h : ∀ cs ∈ css, cs.length = sz) {i j : Nat} {cs : List Value} {u : Value} (hi : css[i]? = some cs) (hj : cs[j]? = some u) : css.flatten[i * sz + j]? = some u := by
  induction css generalizing i with
  | nil => simp at hi
  | cons c r ih =>
    have hc := h c (by simp)
    cases i with
    | zero =>
      simp at hi; subst hi
      have : j < c.length := (List.getElem?_eq_some_iff.1 hj).1
      rw [List.flatten_cons, Nat.zero_mul, Nat.zero_add, List.getElem?_append_left this]; exact hj
    | succ i =>
      simp at hi
      rw [List.flatten_cons, List.getElem?_append_right (by rw [hc, Nat.succ_mul]; omega), hc, show (i + 1) * sz + j - sz = i * sz + j from by rw [Nat.succ_mul]; omega]
      exact ih (fun cs hcs => h cs (by simp [hcs])) hi
theorem flatten_len {css : List (List Value)} {sz : Nat} (h : ∀ cs ∈ css, cs.length = sz) : css.flatten.length = css.length * sz := by
  induction css with
  | nil => simp
  | cons c r ih => rw [List.flatten_cons, List.length_append, ih (fun cs hcs => h cs (by simp [hcs])), h c (by simp), List.length_cons, Nat.succ_mul]; omega

section
variable {α : Type} {E : Elem α} {w w' : World} {lo hi lo' hi' : Nat} {v : Value} {xs : List α} {A : Option Addr} {css : List (List Value)}

theorem Elem.OL.same (h : E.OL w lo hi css xs) (k : Same lo hi w w') : E.OL w' lo hi css xs :=
  ⟨h.len, fun i x hx => let ⟨cs, a, b⟩ := h.at_ i x hx; ⟨cs, a, E.sameO b k⟩, h.apart⟩
theorem Elem.OL.mono (h : E.OL w lo hi css xs) (h1 : lo' ≤ lo) (h2 : hi ≤ hi') : E.OL w lo' hi' css xs :=
  ⟨h.len, fun i x hx => let ⟨cs, a, b⟩ := h.at_ i x hx; ⟨cs, a, E.monoO b h1 h2⟩, h.apart⟩
theorem Elem.RL.same (h : E.RL w lo hi css xs) (k : Same lo hi w w') : E.RL w' lo hi css xs :=
  ⟨h.len, fun i x hx => let ⟨cs, a, b⟩ := h.at_ i x hx; ⟨cs, a, E.sameR b k⟩⟩
theorem Elem.RL.mono (h : E.RL w lo hi css xs) (h1 : lo' ≤ lo) (h2 : hi ≤ hi') : E.RL w lo' hi' css xs :=
  ⟨h.len, fun i x hx => let ⟨cs, a, b⟩ := h.at_ i x hx; ⟨cs, a, E.monoR b h1 h2⟩⟩
theorem Elem.OL.nil : E.OL w lo hi [] [] := ⟨rfl, fun i x hx => by simp at hx, fun i j cs cs' b _ hi => by simp at hi⟩
theorem Elem.RL.nil : E.RL w lo hi [] [] := ⟨rfl, fun i x hx => by simp at hx⟩
theorem Elem.OL.read (h : E.OL w lo hi css xs) : E.RL w lo hi css xs := ⟨h.len, fun i x hx => let ⟨cs, a, b⟩ := h.at_ i x hx; ⟨cs, a, E.read b⟩⟩
theorem Elem.RL.sizes (h : E.RL w lo hi css xs) : ∀ cs ∈ css, cs.length = E.sz := by
  intro cs hcs
  obtain ⟨i, hi, rfl⟩ := List.mem_iff_getElem.1 hcs
  have hi' : i < xs.length := by rw [← h.len]; exact hi
  obtain ⟨cs', h1, h2⟩ := h.at_ i xs[i] (List.getElem?_eq_getElem hi')
  rw [List.getElem?_eq_getElem hi] at h1
  injection h1 with h1
  rw [h1]; exact E.len h2
theorem Elem.OL.blk (h : E.OL w lo hi css xs) : ∀ cs ∈ css, ∀ b ∈ blocks cs, lo ≤ b ∧ b < hi := by
  intro cs hcs b hb
  obtain ⟨i, hi, rfl⟩ := List.mem_iff_getElem.1 hcs
  have hi' : i < xs.length := by rw [← h.len]; exact hi
  obtain ⟨cs', h1, h2⟩ := h.at_ i xs[i] (List.getElem?_eq_getElem hi')
  rw [List.getElem?_eq_getElem hi] at h1
  injection h1 with h1
  rw [h1] at hb
  exact E.blk h2 b hb
/-- One element more: its blocks are newer. -/
theorem Elem.OL.snoc (h : E.OL w lo hi css xs) {cs : List Value} {x : α} (hx : E.O w hi hi' cs x) (h1 : lo ≤ hi) (h2 : hi ≤ hi') : E.OL w lo hi' (css ++ [cs]) (xs ++ [x]) := by
  refine ⟨by simp [h.len], fun i y hy => ?_, fun i j c c' b hij hc hc' hb hb' => ?_⟩
  · rcases Nat.lt_trichotomy i xs.length with hlt | rfl | hgt
    · rw [List.getElem?_append_left hlt] at hy
      obtain ⟨c, a, d⟩ := h.at_ i y hy
      exact ⟨c, by rw [List.getElem?_append_left (by rw [h.len]; exact hlt)]; exact a, E.monoO d (Nat.le_refl _) h2⟩
    · rw [List.getElem?_append_right (Nat.le_refl _)] at hy
      simp at hy; subst hy
      exact ⟨cs, by rw [List.getElem?_append_right (by rw [h.len]; exact Nat.le_refl _), h.len]; simp, E.monoO hx h1 (Nat.le_refl _)⟩
    · rw [List.getElem?_eq_none (by simp; omega)] at hy; cases hy
  · have old : ∀ (i : Nat) (c : List Value), (css ++ [cs])[i]? = some c → (i < css.length ∧ css[i]? = some c) ∨ (i = css.length ∧ c = cs) := by
      intro i c hc
      rcases Nat.lt_trichotomy i css.length with hlt | rfl | hgt
      · rw [List.getElem?_append_left hlt] at hc; exact .inl ⟨hlt, hc⟩
      · rw [List.getElem?_append_right (Nat.le_refl _)] at hc; simp at hc; exact .inr ⟨rfl, hc.symm⟩
      · rw [List.getElem?_eq_none (by simp; omega)] at hc; cases hc
    rcases old i c hc with ⟨hi1, hci⟩ | ⟨hi1, rfl⟩ <;> rcases old j c' hc' with ⟨hj1, hcj⟩ | ⟨hj1, rfl⟩
    · exact h.apart i j c c' b hij hci hcj hb hb'
    · have a1 := (h.blk c (List.mem_of_getElem? hci) b hb).2
      have a2 := (E.blk hx b hb').1
      omega
    · have a1 := (h.blk c' (List.mem_of_getElem? hcj) b hb').2
      have a2 := (E.blk hx b hb).1
      omega
    · omega

theorem RC.same {sz : Nat} (h : RC w lo hi sz A css) (k : Same lo hi w w') : RC w' lo hi sz A css := fun hn => by
  obtain ⟨b, off, rfl, h1, h2, hc⟩ := h hn
  exact ⟨b, off, rfl, h1, h2, fun i cs hi j u hu => (k.cell (p := ⟨b, off + (i * sz + j), none⟩) h1 h2).trans (hc i cs hi j u hu)⟩
theorem RC.mono {sz : Nat} (h : RC w lo hi sz A css) (h1 : lo' ≤ lo) (h2 : hi ≤ hi') : RC w lo' hi' sz A css := fun hn => by
  obtain ⟨b, off, rfl, a1, a2, hc⟩ := h hn
  exact ⟨b, off, rfl, by omega, by omega, hc⟩
theorem Elem.AS.same (h : E.AS w lo hi A xs) (k : Same lo hi w w') : E.AS w' lo hi A xs := by
  obtain ⟨h0, css, h1, h2⟩ := h
  exact ⟨h0, css, h1.same k, h2.same k⟩
theorem Elem.AS.mono (h : E.AS w lo hi A xs) (k1 : lo' ≤ lo) (k2 : hi ≤ hi') : E.AS w lo' hi' A xs := by
  obtain ⟨h0, css, h1, h2⟩ := h
  exact ⟨h0, css, h1.mono k1 k2, h2.mono k1 k2⟩
theorem Elem.AS.drew (h : E.AS w lo hi A xs) : E.AS w.drew lo hi A xs := h.same ⟨Nat.le_refl _, fun _ _ _ => rfl⟩
theorem Elem.AS.drewN (h : E.AS w lo hi A xs) (n : Nat) : E.AS (w.drewN n) lo hi A xs := h.same ⟨Nat.le_refl _, fun _ _ _ => rfl⟩
theorem Elem.RS.same (h : E.RS w lo hi v xs) (k : Same lo hi w w') : E.RS w' lo hi v xs := by
  obtain ⟨A, c, rfl, h1, h2, h3⟩ := h
  exact ⟨A, c, rfl, h1, h2, h3.same k⟩
theorem Elem.RS.mono (h : E.RS w lo hi v xs) (k1 : lo' ≤ lo) (k2 : hi ≤ hi') : E.RS w lo' hi' v xs := by
  obtain ⟨A, c, rfl, h1, h2, h3⟩ := h
  exact ⟨A, c, rfl, h1, h2, h3.mono k1 k2⟩
theorem Elem.RS.open_ (h : E.RS w lo hi v xs) : ∃ A c, v = .slice A xs.length c ∧ xs.length ≤ c ∧ c ≤ maxLen ∧ E.AS w lo hi A xs := h
theorem Elem.RS.shut {c : Nat} (h : E.AS w lo hi A xs) (h1 : xs.length ≤ c) (h2 : c ≤ maxLen) : E.RS w lo hi (.slice A xs.length c) xs := ⟨A, c, rfl, h1, h2, h⟩
theorem Elem.RS.as {n c : Nat} (h : E.RS w lo hi (.slice A n c) xs) : E.AS w lo hi A xs := by
  obtain ⟨A', c', hv, _, _, h3⟩ := h
  injection hv with hv _ _
  subst hv; exact h3
theorem Elem.OS.same (h : E.OS w lo hi v xs) (k : Same lo hi w w') : E.OS w' lo hi v xs := by
  obtain ⟨css, h1, h2, h3⟩ := h
  exact ⟨css, h1.same k, h2.same k, h3⟩
theorem Elem.OS.mono (h : E.OS w lo hi v xs) (k1 : lo' ≤ lo) (k2 : hi ≤ hi') : E.OS w lo' hi' v xs := by
  obtain ⟨css, h1, h2, h3⟩ := h
  exact ⟨css, h1.mono k1 k2, h2.mono k1 k2, h3⟩
theorem Elem.OS.read (h : E.OS w lo hi v xs) : E.RS w lo hi v xs := by
  obtain ⟨css, h1, h2, _⟩ := h
  obtain ⟨A, c, rfl, a1, a2, _, a4, a5⟩ := h1.read
  refine ⟨A, c, rfl, a1, a2, a4, css, fun hn => ?_, h2.read⟩
  by_cases hz : 0 < css.flatten.length
  · obtain ⟨b, off, rfl, b1, b2, hc⟩ := a5 hz
    exact ⟨b, off, rfl, b1, b2, fun i cs hi j u hu => hc _ u (flatten_at h2.read.sizes hi hu)⟩
  · -- no cells at all: the elements have none
    have hsz : E.sz = 0 := by
      have hl := flatten_len h2.read.sizes
      rcases Nat.eq_zero_or_pos E.sz with h0 | h0
      · exact h0
      · exfalso
        have := Nat.mul_pos hn h0
        omega
    obtain ⟨ho, hh, _⟩ := h1
    rcases ho.2 with ⟨hv, h0⟩ | ⟨g, cap, cur, hv, hg, _⟩
    · exfalso; have := h2.len; omega
    · injection hv with hv _ _
      subst hv
      refine ⟨g, 0, rfl, hg, hh g rfl, fun i cs hi j u hu => ?_⟩
      have hcs := h2.read.sizes cs (List.mem_of_getElem? hi)
      rw [hsz] at hcs
      have : cs = [] := List.eq_nil_of_length_eq_zero hcs
      subst this
      simp at hu
/-- The k-th element of a slice that is read. -/
theorem Elem.AS.at_ (h : E.AS w lo hi A xs) {k : Nat} (hk : k < xs.length) : ∃ b off x cs, A = some ⟨b, off, none⟩ ∧ lo ≤ b ∧ b < hi ∧ xs.drop k = x :: xs.drop (k + 1) ∧ xs[k]? = some x ∧
    E.R w lo hi cs x ∧ ∀ (j : Nat) (u : Value), cs[j]? = some u → w.cell? ⟨b, off + (k * E.sz + j), none⟩ = some u := by
  obtain ⟨_, css, h1, h2⟩ := h
  obtain ⟨b, off, rfl, a1, a2, hc⟩ := h1 (by rw [h2.len]; omega)
  obtain ⟨cs, hcs, hR⟩ := h2.at_ k xs[k] (List.getElem?_eq_getElem hk)
  exact ⟨b, off, xs[k], cs, rfl, a1, a2, List.drop_eq_getElem_cons hk, List.getElem?_eq_getElem hk, hR, hc k cs hcs⟩
theorem Elem.AS.le (h : E.AS w lo hi A xs) : xs.length ≤ BIG := h.1
theorem Elem.AS.nil : E.AS w lo hi A [] := ⟨by simp, [], fun h => absurd h (by simp), .nil⟩
theorem Elem.OS.nil : E.OS w lo hi (.slice none 0 0) [] := ⟨[], ⟨World.ownsRow_nil w lo E.e E.sz, fun k hk => by simp [Value.ownBlock] at hk, by simp⟩, .nil, fun cs hcs => by cases hcs⟩
theorem Elem.OS.blkv (h : E.OS w lo hi v xs) : ∀ b, v.ownBlock = some b → lo ≤ b ∧ b < hi := by
  obtain ⟨_, ⟨h1, h2, _⟩, _⟩ := h
  exact fun b hb => ⟨(h1.lt b hb).1, h2 b hb⟩
end

theorem OSl.loc {w w' : World} {lo hi e sz n : Nat} {v : Value} {vs : List Value} (h : OSl w lo hi e sz v n vs) (k : ∀ b, v.ownBlock = some b → w'.heap[b]? = w.heap[b]?) : OSl w' lo hi e sz v n vs := by
  obtain ⟨⟨hl, ho⟩, hh, hb⟩ := h
  refine ⟨⟨hl, ?_⟩, hh, hb⟩
  rcases ho with ho | ⟨g, cap, cur, rfl, hg, hc, r⟩
  · exact .inl ho
  · exact .inr ⟨g, cap, cur, rfl, hg, (k g rfl).trans hc, r⟩
theorem Elem.OS.loc {α : Type} {E : Elem α} {w w' : World} {lo hi : Nat} {v : Value} {xs : List α} (h : E.OS w lo hi v xs) (k : ∀ b, v.ownBlock = some b → w'.heap[b]? = w.heap[b]?)
    (hE : ∀ {w w' lo hi cs x}, E.O w lo hi cs x → E.O w' lo hi cs x) : E.OS w' lo hi v xs := by
  obtain ⟨css, h1, h2, h3⟩ := h
  exact ⟨css, h1.loc k, ⟨h2.len, fun i x hx => let ⟨cs, a, b⟩ := h2.at_ i x hx; ⟨cs, a, hE b⟩, h2.apart⟩, h3⟩

/-- Slices as elements. -/
def Elem.slice {α : Type} (E : Elem α) (e : Nat) (hE : ∀ {w w' lo hi cs x}, E.O w lo hi cs x → E.O w' lo hi cs x) : Elem (List α) where
  e := e
  sz := 1
  O := fun w lo hi cs xs => ∃ v, cs = [v] ∧ E.OS w lo hi v xs
  R := fun w lo hi cs xs => ∃ v, cs = [v] ∧ E.RS w lo hi v xs
  len := fun ⟨v, h, _⟩ => by rw [h]; rfl
  read := fun ⟨v, h, k⟩ => ⟨v, h, k.read⟩
  sameO := fun ⟨v, h, k⟩ s => ⟨v, h, k.same s⟩
  sameR := fun ⟨v, h, k⟩ s => ⟨v, h, k.same s⟩
  monoO := fun ⟨v, h, k⟩ a b => ⟨v, h, k.mono a b⟩
  monoR := fun ⟨v, h, k⟩ a b => ⟨v, h, k.mono a b⟩
  blk := fun ⟨v, h, k⟩ b hb => by
    rw [h] at hb
    cases hv : v.ownBlock with
    | none => simp [blocks, hv] at hb
    | some g => simp [blocks, hv] at hb; subst hb; exact k.blkv _ hv
  loc := fun {w w' lo hi cs x} ⟨v, h, k⟩ hb => by
    refine ⟨v, h, k.loc (fun b hv => hb b (by rw [h]; simp [blocks, hv])) hE⟩

/-! ### Writing into what is owned -/
/-- What is changed satisfies p, or is new. -/
structure Only (p : Nat → Prop) (w w' : World) : Prop where
  os : w'.os = w.os
  tape : w'.tape = w.tape
  output : w'.output = w.output
  size : w.heap.size ≤ w'.heap.size
  block : ∀ k, k < w.heap.size → ¬ p k → w'.heap[k]? = w.heap[k]?
section
variable {w w' w'' : World} {p q : Nat → Prop} {lo hi : Nat}
theorem Only.refl (p : Nat → Prop) (w : World) : Only p w w := ⟨rfl, rfl, rfl, Nat.le_refl _, fun _ _ _ => rfl⟩
theorem Only.trans (h : Only p w w') (k : Only p w' w'') : Only p w w'' :=
  ⟨k.os.trans h.os, k.tape.trans h.tape, k.output.trans h.output, Nat.le_trans h.size k.size, fun i hi hp => (k.block i (Nat.lt_of_lt_of_le hi h.size) hp).trans (h.block i hi hp)⟩
theorem Only.mono (h : Only p w w') (k : ∀ b, p b → q b) : Only q w w' := ⟨h.os, h.tape, h.output, h.size, fun i hi hq => h.block i hi (fun hp => hq (k i hp))⟩
theorem Only.setCell (h : Only p w w') {a : Addr} (ha : p a.block) (u : Value) : Only p w (w'.setCell a u) :=
  h.trans ⟨rfl, rfl, rfl, by simp [World.setCell], fun k _ hk => Below.heap_setCell _ _ _ _ (fun e => hk (e ▸ ha))⟩
theorem Only.alloc (h : Only p w w') (o : Obj) : Only p w (w'.alloc o) := h.trans ⟨rfl, rfl, rfl, by simp, fun k hk _ => Below.heap_alloc _ _ _ hk⟩
theorem Only.drew (h : Only p w w') : Only p w w'.drew := ⟨h.os, h.tape, h.output, h.size, h.block⟩
theorem Only.of_below (h : Below w.heap.size w w') : Only p w w' := ⟨h.os, h.tape, h.output, h.size, fun k hk _ => h.block k hk⟩
theorem Only.same (h : Only p w w') (hs : hi ≤ w.heap.size) (hp : ∀ b, lo ≤ b → b < hi → ¬ p b) : Same lo hi w w' := ⟨h.size, fun k h1 h2 => h.block k (by omega) (hp k h1 h2)⟩
theorem Only.chg (h : Only p w w') (k : ∀ b, p b → lo ≤ b ∧ b < hi) : Chg lo hi w w' := ⟨h.os, h.tape, h.output, h.size, fun i hi hd => h.block i hi (fun hp => by have := k i hp; omega)⟩
end
theorem Chg.cell {w w' : World} {lo hi : Nat} (h : Chg lo hi w w') {p : Addr} (hs : p.block < w.heap.size) (hd : p.block < lo ∨ hi ≤ p.block) : w'.cell? p = w.cell? p := World.cell?_of_block (h.block _ hs hd)

/-- The j-th cell of what is owned, and a store into it. -/
theorem OSl.cell {w : World} {lo hi e sz n g c j : Nat} {vs : List Value} {u : Value} (h : OSl w lo hi e sz (.slice (some ⟨g, 0, none⟩) n c) n vs) (hj : vs[j]? = some u) : w.cell? ⟨g, j, none⟩ = some u ∧ w.frozen? ⟨g, j, none⟩ = false := by
  obtain ⟨⟨hl, ho⟩, hh, hb⟩ := h
  rcases ho with ⟨hv, _⟩ | ⟨g', cap, cur, hv, hg, hc, hn, hcap, hsz, ht⟩
  · injection hv with hv; cases hv
  · injection hv with hv _ _
    injection hv with hv
    injection hv with hv _ _
    subst hv
    constructor
    · rw [cell_of_row w g j cur e (0, 0) hc]
      rw [← ht, List.getElem?_take] at hj
      split at hj
      · simpa using hj
      · cases hj
    · simp [World.frozen?, hc]
theorem OSl.set {w : World} {lo hi e sz n g c j : Nat} {vs : List Value} {u : Value} (h : OSl w lo hi e sz (.slice (some ⟨g, 0, none⟩) n c) n vs) (_hj : j < vs.length) : OSl (w.setCell ⟨g, j, none⟩ u) lo hi e sz (.slice (some ⟨g, 0, none⟩) n c) n (vs.set j u) := by
  obtain ⟨⟨hl, ho⟩, hh, hb⟩ := h
  rcases ho with ⟨hv, _⟩ | ⟨g', cap, cur, hv, hg, hc, hn, hcap, hsz, ht⟩
  · injection hv with hv; cases hv
  · injection hv with hv _ hcc
    injection hv with hv
    injection hv with hv _ _
    subst hv
    subst hcc
    refine ⟨⟨by simpa using hl, .inr ⟨g, c, cur.setIfInBounds j u, rfl, hg, by simp [World.setCell, Array.getElem?_modify, hc], hn, hcap, by simpa using hsz, ?_⟩⟩, hh, hb⟩
    rw [← ht]
    simp [Array.toList_setIfInBounds, List.take_set]
theorem OSl.form {w : World} {lo hi e sz n : Nat} {v : Value} {vs : List Value} (h : OSl w lo hi e sz v n vs) (hn : 0 < n) : ∃ g c, v = .slice (some ⟨g, 0, none⟩) n c ∧ lo ≤ g ∧ g < hi ∧ g < w.heap.size := by
  obtain ⟨⟨hl, ho⟩, hh, hb⟩ := h
  rcases ho with ⟨_, h0⟩ | ⟨g, cap, cur, rfl, hg, hc, _⟩
  · omega
  · exact ⟨g, cap, rfl, hg, hh g rfl, (Array.getElem?_eq_some_iff.1 hc).1⟩
theorem OSl.ne_type {w : World} {lo hi e sz n lo' hi' e' sz' n' : Nat} {v v' : Value} {vs vs' : List Value} (h : OSl w lo hi e sz v n vs) (h' : OSl w lo' hi' e' sz' v' n' vs') (hne : e ≠ e') {b : Nat} (hb : v.ownBlock = some b) : v'.ownBlock ≠ some b := by
  obtain ⟨⟨_, ho⟩, _⟩ := h
  obtain ⟨⟨_, ho'⟩, _⟩ := h'
  intro hb'
  rcases ho with ⟨rfl, _⟩ | ⟨g, cap, cur, rfl, _, hc, _⟩
  · simp [Value.ownBlock] at hb
  rcases ho' with ⟨rfl, _⟩ | ⟨g', cap', cur', rfl, _, hc', _⟩
  · simp [Value.ownBlock] at hb'
  simp [Value.ownBlock] at hb hb'
  subst hb; subst hb'
  rw [hc] at hc'
  injection hc' with hc'
  injection hc' with _ ht
  exact hne ht

theorem flatten_set {css : List (List Value)} {sz : Nat} (h : ∀ cs ∈ css, cs.length = sz) {i j : Nat} {cs : List Value} {u : Value} (hi : css[i]? = some cs) (hj : j < cs.length) : css.flatten.set (i * sz + j) u = (css.set i (cs.set j u)).flatten := by
  induction css generalizing i with
  | nil => simp at hi
  | cons c r ih =>
    have hc := h c (by simp)
    cases i with
    | zero =>
      simp at hi; subst hi
      rw [List.flatten_cons, Nat.zero_mul, Nat.zero_add, List.set_append_left _ _ hj]; simp
    | succ i =>
      simp at hi
      rw [List.flatten_cons, List.set_append_right _ _ (by rw [hc, Nat.succ_mul]; omega), hc, show (i + 1) * sz + j - sz = i * sz + j from by rw [Nat.succ_mul]; omega, ih (fun cs hcs => h cs (by simp [hcs])) hi]
      simp

section
variable {α : Type} {E : Elem α} {w w' : World} {lo hi : Nat} {v : Value} {xs : List α} {css : List (List Value)}
/-- One element is changed in the blocks that it owns. -/
theorem Elem.OL.inner (h : E.OL w lo hi css xs) {i : Nat} {cs : List Value} {x' : α} (hci : css[i]? = some cs) (hx : E.O w' lo hi cs x') (ho : Only (fun b => b ∈ blocks cs) w w') (hsz : hi ≤ w.heap.size) : E.OL w' lo hi css (xs.set i x') := by
  refine ⟨by simp [h.len], fun j y hy => ?_, h.apart⟩
  by_cases hij : i = j
  · subst hij
    rw [List.getElem?_set_self (by have := (List.getElem?_eq_some_iff.1 hci).1; rw [h.len] at this; exact this)] at hy
    injection hy with hy
    subst hy
    exact ⟨cs, hci, hx⟩
  · rw [List.getElem?_set_ne hij] at hy
    obtain ⟨c, a, b⟩ := h.at_ j y hy
    refine ⟨c, a, E.loc b fun k hk => ho.block k ?_ ?_⟩
    · have := (E.blk b k hk).2; omega
    · exact fun hk' => h.apart i j cs c k hij hci a hk' hk
/-- The cells of one element are changed. -/
theorem Elem.OL.cells (h : E.OL w lo hi css xs) {i : Nat} {cs cs' : List Value} {x' : α} (hci : css[i]? = some cs) (hx : E.O w' lo hi cs' x') (hb : ∀ b ∈ blocks cs', b ∈ blocks cs) (hs : Same lo hi w w') : E.OL w' lo hi (css.set i cs') (xs.set i x') := by
  have hlt := (List.getElem?_eq_some_iff.1 hci).1
  refine ⟨by simp [h.len], fun j y hy => ?_, fun j k c c' b hjk hc hc' hbb hbb' => ?_⟩
  · by_cases hij : i = j
    · subst hij
      rw [List.getElem?_set_self (by rw [← h.len]; exact hlt)] at hy
      injection hy with hy
      subst hy
      exact ⟨cs', List.getElem?_set_self hlt, hx⟩
    · rw [List.getElem?_set_ne hij] at hy
      obtain ⟨c, a, b⟩ := h.at_ j y hy
      exact ⟨c, by rw [List.getElem?_set_ne hij]; exact a, E.sameO b hs⟩
  · have old : ∀ (j : Nat) (c : List Value), (css.set i cs')[j]? = some c → b ∈ blocks c → ∃ c0, css[j]? = some c0 ∧ b ∈ blocks c0 := by
      intro j c hc hbb
      by_cases hij : i = j
      · subst hij
        rw [List.getElem?_set_self hlt] at hc
        injection hc with hc
        subst hc
        exact ⟨cs, hci, hb b hbb⟩
      · rw [List.getElem?_set_ne hij] at hc
        exact ⟨c, hc, hbb⟩
    obtain ⟨c0, a0, b0⟩ := old j c hc hbb
    obtain ⟨c1, a1, b1⟩ := old k c' hc' hbb'
    exact h.apart j k c0 c1 b hjk a0 a1 b0 b1
end

theorem set_same {α : Type} {l : List α} {i : Nat} {x : α} (h : l[i]? = some x) : l.set i x = l := by
  apply List.ext_getElem?
  intro j
  by_cases hij : i = j
  · subst hij; rw [h, List.getElem?_set_self (List.getElem?_eq_some_iff.1 h).1]
  · rw [List.getElem?_set_ne hij]

section
variable {α : Type} {E : Elem α} {w : World} {lo hi i : Nat} {v : Value} {xs : List α}
/-- The i-th element of what is owned: its cells, and what becomes of the whole when it is changed. -/
theorem Elem.OS.elem (h : E.OS w lo hi v xs) (hlt : i < xs.length) (hhs : hi ≤ w.heap.size) : ∃ g c x cs, v = .slice (some ⟨g, 0, none⟩) xs.length c ∧ lo ≤ g ∧ g < hi ∧ g < w.heap.size ∧ xs[i]? = some x ∧ E.O w lo hi cs x ∧
    (∀ (j : Nat) (u : Value), cs[j]? = some u → w.cell? ⟨g, i * E.sz + j, none⟩ = some u ∧ w.frozen? ⟨g, i * E.sz + j, none⟩ = false) ∧
    (∀ (w' : World) (x' : α), E.O w' lo hi cs x' → Only (fun b => b ∈ blocks cs) w w' → E.OS w' lo hi v (xs.set i x')) ∧
    (∀ (j : Nat) (u u0 : Value) (x' : α), cs[j]? = some u0 → (∀ b, u.ownBlock = some b → u0.ownBlock = some b) → E.O (w.setCell ⟨g, i * E.sz + j, none⟩ u) lo hi (cs.set j u) x' → E.OS (w.setCell ⟨g, i * E.sz + j, none⟩ u) lo hi v (xs.set i x')) := by
  obtain ⟨css, h1, h2, h3⟩ := h
  obtain ⟨x, hx⟩ : ∃ x, xs[i]? = some x := ⟨xs[i], List.getElem?_eq_getElem hlt⟩
  obtain ⟨cs, hcs, hO⟩ := h2.at_ i x hx
  obtain ⟨g, c, rfl, g1, g2, g3⟩ := h1.form (by omega)
  have hmem := List.mem_of_getElem? hcs
  refine ⟨g, c, x, cs, rfl, g1, g2, g3, hx, hO, fun j u hu => h1.cell (flatten_at h2.read.sizes hcs hu), fun w' x' hx' ho => ?_, fun j u u0 x' hu0 hu hx' => ?_⟩
  · refine ⟨css, ?_, h2.inner hcs hx' ho hhs, h3⟩
    rw [List.length_set]
    exact h1.loc fun b hb => ho.block b (by simp [Value.ownBlock] at hb; omega) (fun hbb => h3 cs hmem b hbb hb)
  · have hj : j < cs.length := (List.getElem?_eq_some_iff.1 hu0).1
    have hbl : ∀ b ∈ blocks (cs.set j u), b ∈ blocks cs := by
      intro b hb
      obtain ⟨a, ha, hab⟩ := List.mem_filterMap.1 hb
      rcases List.mem_or_eq_of_mem_set ha with ha | rfl
      · exact List.mem_filterMap.2 ⟨a, ha, hab⟩
      · exact List.mem_filterMap.2 ⟨u0, List.mem_of_getElem? hu0, hu b hab⟩
    refine ⟨css.set i (cs.set j u), ?_, ?_, fun c' hc' b hb => ?_⟩
    · rw [List.length_set, ← flatten_set h2.read.sizes hcs hj]
      exact h1.set (by have := (List.getElem?_eq_some_iff.1 (flatten_at h2.read.sizes hcs hu0)).1; exact this)
    · -- the elements: only the block of the outer row has changed
      have hlt' := (List.getElem?_eq_some_iff.1 hcs).1
      refine ⟨by simp [h2.len], fun k y hy => ?_, fun k l c1 c2 b hkl hc1 hc2 hb1 hb2 => ?_⟩
      · by_cases hik : i = k
        · subst hik
          rw [List.getElem?_set_self hlt] at hy
          injection hy with hy
          subst hy
          exact ⟨_, List.getElem?_set_self hlt', hx'⟩
        · rw [List.getElem?_set_ne hik] at hy
          obtain ⟨ck, a, b⟩ := h2.at_ k y hy
          refine ⟨ck, by rw [List.getElem?_set_ne hik]; exact a, E.loc b fun b' hb' => Below.heap_setCell _ _ _ _ ?_⟩
          intro e
          exact h3 ck (List.mem_of_getElem? a) b' hb' (by simp [Value.ownBlock]; exact e.symm)
      · have old : ∀ (k : Nat) (c : List Value), (css.set i (cs.set j u))[k]? = some c → b ∈ blocks c → ∃ c0, css[k]? = some c0 ∧ b ∈ blocks c0 := by
          intro k c hc hbb
          by_cases hik : i = k
          · subst hik
            rw [List.getElem?_set_self hlt'] at hc
            injection hc with hc
            subst hc
            exact ⟨cs, hcs, hbl b hbb⟩
          · rw [List.getElem?_set_ne hik] at hc
            exact ⟨c, hc, hbb⟩
        obtain ⟨c0, a0, b0⟩ := old k c1 hc1 hb1
        obtain ⟨c1', a1, b1⟩ := old l c2 hc2 hb2
        exact h2.apart k l c0 c1' b hkl a0 a1 b0 b1
    · rcases List.mem_or_eq_of_mem_set hc' with hc' | rfl
      · exact h3 c' hc' b hb
      · exact h3 cs hmem b (hbl b hb)
end

/-! ### append of one element to what is owned -/
/-- The slice type number t has elements of this kind, of so many bytes. -/
structure SlTy {α : Type} (E : Elem α) (t bytes : Nat) : Prop where
  ht : Try.prog.underlying t = some (.slice E.e)
  hi : ∃ i z, Try.prog.info? E.e = some i ∧ i.zero = some z ∧ i.size = E.sz ∧ i.bytes = bytes ∧ z.cells.size = E.sz
  pos : 0 < E.sz
theorem SlTy.mk' {α : Type} {E : Elem α} {t bytes : Nat} {z : Value} (ht : Try.prog.underlying t = some (.slice E.e)) (hi : (Try.prog.info? E.e).map (fun i => (i.zero, i.size, i.bytes)) = some (some z, E.sz, bytes)) (hz : z.cells.size = E.sz) (pos : 0 < E.sz) : SlTy E t bytes := by
  obtain ⟨i, a, b, c, d⟩ := info_parts hi
  exact ⟨ht, ⟨i, z, a, b, c, d, hz⟩, pos⟩

theorem Elem.OS.app {α : Type} {E : Elem α} {w w' : World} {lo hi : Nat} {v v' : Value} {xs : List α} {x : α} {cs : List Value} {css : List (List Value)} (h1 : OSl w lo hi E.e E.sz v xs.length css.flatten) (h2 : E.OL w lo hi css xs) (h3 : ∀ cs ∈ css, ∀ b ∈ blocks cs, v.ownBlock ≠ some b) (hhi : hi ≤ w.heap.size) (hlo : lo ≤ hi) (hx : E.O w hi w.heap.size cs x)
    (ho : w'.ownsRow lo E.e E.sz v' (xs.length + 1) (css.flatten ++ cs))
    (hg : w.grownBy w' v.ownBlock) (hv : v'.ownBlock = v.ownBlock ∨ v'.ownBlock = some w.heap.size) (hb : xs.length + 1 ≤ BIG) : E.OS w' lo w'.heap.size v' (xs ++ [x]) := by
  have hvb : ∀ b, v.ownBlock = some b → lo ≤ b ∧ b < hi := fun b hb' => ⟨(h1.1.lt b hb').1, h1.2.1 b hb'⟩
  have e1 : E.OL w' lo hi css xs := ⟨h2.len, fun i y hy => by
    obtain ⟨c, a, b⟩ := h2.at_ i y hy
    exact ⟨c, a, E.loc b fun k hk => hg.block k (by have := (E.blk b k hk).2; omega) (fun e => h3 c (List.mem_of_getElem? a) k hk e.symm)⟩, h2.apart⟩
  have e2 : E.O w' hi w'.heap.size cs x := E.monoO (E.loc hx fun k hk => by
    have := E.blk hx k hk
    exact hg.block k this.2 (fun e => by have := hvb k e.symm; omega)) (Nat.le_refl _) hg.size
  refine ⟨css ++ [cs], ?_, e1.snoc e2 hlo (Nat.le_trans hhi hg.size), fun c hc b hbb hvv => ?_⟩
  · rw [List.flatten_append, List.length_append, List.flatten_singleton]
    exact OSl.of_own ho hb
  · rcases List.mem_append.1 hc with hc | hc
    · rcases hv with hv | hv
      · exact h3 c hc b hbb (hv ▸ hvv)
      · have := (h2.blk c hc b hbb).2
        rw [hv] at hvv
        injection hvv with hvv
        omega
    · simp at hc
      subst hc
      have := E.blk hx b hbb
      rcases hv with hv | hv
      · rw [hv] at hvv
        have := hvb b hvv
        omega
      · rw [hv] at hvv
        injection hvv with hvv
        omega

/-- append(out, x): out is owned, x lies in a block of its own at ad. -/
theorem wpList_app1 {α : Type} {E : Elem α} {t bytes lo hi n c0 : Nat} {w : World} {ops : Array Oper} {rest : List Oper} {o : Oper} {a : Act} {Q : Exit → Act → World → Prop} (T : SlTy E t bytes) (A0 : Option Addr) (xs : List α) (x : α) (cs : List Value) (ad : Addr) (c : Nat)
    (hown : E.OS w lo hi (.slice A0 n c0) xs) (hn : xs.length = n) (hhi : hi ≤ w.heap.size) (hlo : lo ≤ hi) (hx : E.O w hi w.heap.size cs x) (s y : Operand)
    (ho : o.op = .call { callee := .builtin .append, args := #[s, y], argTypes := #[t, t] }) (hgd : o.guard = none) (hs : a.eval s = .slice A0 n c0) (hy : a.eval y = .slice (some ad) 1 c)
    (hcs : ∀ (j : Nat) (u : Value), cs[j]? = some u → w.cell? (ad.add j) = some u) (h1 : ∀ u ∈ cs, u.oneCell' = true) (hb : n + 1 ≤ 1048576) (hby : bytes ≤ 128)
    (h : ∀ A' c' w', E.OS w' lo w'.heap.size (.slice A' (n + 1) c') (xs ++ [x]) → w.grownBy w' (Value.slice A0 n c0).ownBlock → n + 1 ≤ c' → c' ≤ maxLen → wpList Try.prog ops Q rest (a.put o.dst (.slice A' (n + 1) c')) w') :
    wpList Try.prog ops Q (o :: rest) a w := by
  subst hn
  obtain ⟨css, k1, k2, k3⟩ := hown
  obtain ⟨i, z, i1, i2, i3, i4, i5⟩ := T.hi
  have hmul : (xs.length + 1) * bytes ≤ 1048576 * 128 := Nat.mul_le_mul hb hby
  have hcl : cs.length = E.sz := E.len (E.read hx)
  refine wpList_append_own_at _ hgd s y t ho lo E.e i z E.sz bytes T.ht i1 i2 i3 i4 i5 T.pos _ _ css.flatten hs k1.1 ad 1 c cs hy (by rw [hcl, Nat.one_mul]) hcs h1 (by simp only [maxLen]; omega) (by omega) (by omega) ?_
  intro v' w' p1 p2 p3 p4
  have hos : E.OS w' lo w'.heap.size v' (xs ++ [x]) := Elem.OS.app k1 k2 k3 hhi hlo hx p1 p2 p4 (by unfold BIG; omega)
  obtain ⟨A', c', e1, e2, e3, _⟩ := hos.read.open_
  subst e1
  simp only [List.length_append, List.length_singleton] at e2 hos h ⊢
  exact h A' c' w' hos p2 e2 e3

theorem Elem.OS.made0 {α : Type} {E : Elem α} (w : World) : E.OS (w.alloc (.cells #[] E.e)) w.heap.size (w.alloc (.cells #[] E.e)).heap.size (.slice (some ⟨w.heap.size, 0, none⟩) 0 0) [] :=
  ⟨[], ⟨World.ownsRow_made w #[] 0 (Nat.le_refl _) (by simp) (by simp), fun k hk => by simp [Value.ownBlock] at hk; simp; omega, by simp⟩, .nil, fun cs hcs => by cases hcs⟩
theorem grown_cell {w w' : World} {o : Obj} {row : Option Nat} (hg : (w.alloc o).grownBy w' row) {a : Addr} {v : Value} (h : w.cell? a = some v) (hne : some a.block ≠ row) : w'.cell? a = some v :=
  hg.cell ((World.cell?_of_block (Below.heap_alloc w o a.block (World.block_lt_of_cell? w a h))).trans h) hne
theorem grown_frozen {w w' : World} {o : Obj} {row : Option Nat} (hg : (w.alloc o).grownBy w' row) {a : Addr} {v : Value} (hc : w.cell? a = some v) (h : w.frozen? a = false) (hne : some a.block ≠ row) : w'.frozen? a = false := by
  have hlt := World.block_lt_of_cell? w a hc
  rw [World.frozen?_of_block (w := w.alloc o) (hg.block a.block (by simp; omega) hne), World.frozen?_of_block (w := w) (Below.heap_alloc w o a.block hlt)]
  exact h
/-- Block g holds just the cells cs, of type t. -/
def Blk (w : World) (g t : Nat) (cs : Array Value) : Prop := w.heap[g]? = some (.cells cs t (0, 0))
section
variable {w w' : World} {g t lo hi B i : Nat} {cs : Array Value} {u : Value}
theorem Blk.new (W : World) (hg : g = W.heap.size) : Blk (W.alloc (.cells cs t)) g t cs := by subst hg; exact heap_alloc_new W _
theorem Blk.lt (h : Blk w g t cs) : g < w.heap.size := (Array.getElem?_eq_some_iff.1 h).1
theorem Blk.cell (h : Blk w g t cs) (hu : cs[i]? = some u) : w.cell? ⟨g, i, none⟩ = some u := (cell_of_row w g i cs t (0, 0) h).trans hu
theorem Blk.free (h : Blk w g t cs) (i : Nat) : w.frozen? ⟨g, i, none⟩ = false := by unfold Blk at h; simp [World.frozen?, h]
theorem Blk.same (h : Blk w g t cs) (k : Same lo hi w w') (h1 : lo ≤ g) (h2 : g < hi) : Blk w' g t cs := (k.block g h1 h2).trans h
theorem Blk.below (h : Blk w g t cs) (k : Below B w w') (h2 : g < B) : Blk w' g t cs := (k.block g h2).trans h
theorem Blk.alloc (h : Blk w g t cs) (o : Obj) : Blk (w.alloc o) g t cs := (Below.heap_alloc w o g h.lt).trans h
theorem Blk.far (h : Blk w g t cs) {p : Addr} (hp : g ≠ p.block) (u : Value) : Blk (w.setCell p u) g t cs := (Below.heap_setCell w p u g hp).trans h
theorem Blk.set (h : Blk w g t cs) (i : Nat) (u : Value) : Blk (w.setCell ⟨g, i, none⟩ u) g t (cs.setIfInBounds i u) := by
  unfold Blk at h ⊢; simp [World.setCell, Array.getElem?_modify, h]
theorem Blk.grown {row : Option Nat} (h : Blk w g t cs) (hg : w.grownBy w' row) (hne : some g ≠ row) : Blk w' g t cs := (hg.block g h.lt hne).trans h
theorem Blk.drew (h : Blk w g t cs) : Blk w.drew g t cs := h
theorem Blk.chg (h : Blk w g t cs) (k : Chg lo hi w w') (hd : g < lo ∨ hi ≤ g) : Blk w' g t cs := (k.block g h.lt hd).trans h
end
theorem cell_one_at (W : World) (v : Value) (t b : Nat) (hb : b = W.heap.size) : ∀ (j : Nat) (u : Value), [v][j]? = some u → (W.alloc (.cells #[v] t)).cell? ((⟨b, 0, none⟩ : Addr).add j) = some u := by
  subst hb; exact cell_one_new _ _ _
theorem cell_row_at (W : World) (cs : Array Value) (t b : Nat) (hb : b = W.heap.size) : ∀ (j : Nat) (u : Value), cs.toList[j]? = some u → (W.alloc (.cells cs t)).cell? ((⟨b, 0, none⟩ : Addr).add j) = some u := by
  subst hb
  intro j u hu
  have hadd : (⟨W.heap.size, 0, none⟩ : Addr).add j = ⟨W.heap.size, j, none⟩ := by unfold Addr.add; split <;> simp_all
  rw [hadd, cell_of_row _ _ _ cs t (0, 0) (heap_alloc_new W _)]
  simpa using hu

/-! ### A made slice that a loop fills element by element -/
theorem Fill.ext {w : World} {g e N j : Nat} {vs ws : List Value} (h : Fill w g e N vs j) (hl : vs.length = j) : Fill w g e N (vs ++ ws) j := by
  obtain ⟨cur, h1, h2, h3⟩ := h
  exact ⟨cur, h1, h2, fun i hi => by rw [h3 i hi, List.getElem?_append_left (by omega)]⟩

/-- k elements of xs lie in the made block; the call's world was w. -/
def ToRel {α : Type} (E : Elem α) (w : World) (xs : List α) (i : Value) (wr : World) : Prop :=
  ∃ (k : Nat) (css : List (List Value)), k ≤ xs.length ∧ i = .int .i64 k ∧ Below w.heap.size w wr ∧ w.heap.size + 1 ≤ wr.heap.size ∧
    Fill wr w.heap.size E.e (xs.length * E.sz) css.flatten (k * E.sz) ∧ E.OL wr (w.heap.size + 1) wr.heap.size css (xs.take k)

section
variable {α : Type} {E : Elem α} {w wr : World} {xs : List α}
theorem ToRel.start (cur : Array Value) (h : cur.size = xs.length * E.sz) : ToRel E w xs (.int .i64 0) (w.alloc (.cells cur E.e)) :=
  ⟨0, [], Nat.zero_le _, rfl, (Below.refl _ _).alloc (Nat.le_refl _) _, by simp, by simpa using Fill.new w E.e _ cur _ h, by simpa using Elem.OL.nil⟩
theorem ToRel.done {i : Nat} (hrel : ToRel E w xs (.int .i64 i) wr) (hi : ¬ i < xs.length) (hb : xs.length ≤ BIG) :
    E.OS wr w.heap.size wr.heap.size (.slice (some ⟨w.heap.size, 0, none⟩) xs.length xs.length) xs ∧ Below w.heap.size w wr := by
  obtain ⟨k, css, hk, he, hb1, hs, hf, ho⟩ := hrel
  have hik : (i : Int) = k := by injection he
  obtain rfl : k = xs.length := by omega
  rw [List.take_length] at ho
  have hl := flatten_len ho.read.sizes
  rw [ho.len] at hl
  refine ⟨⟨css, hf.own rfl hl (Nat.le_refl _) hb, ho.mono (by omega) (Nat.le_refl _), fun cs hcs b hbb hv => ?_⟩, hb1⟩
  have := (ho.blk cs hcs b hbb).1
  simp [Value.ownBlock] at hv
  omega
/-- One element more; the world behind the stores is w2, the element lies in blocks that are newer than wr's. -/
theorem ToRel.step {k : Nat} {css : List (List Value)} {w2 : World} {cs : List Value} {x : α} (hk : k < xs.length) (hx : xs[k]? = some x)
    (hb : Below w.heap.size w w2) (hs : w.heap.size + 1 ≤ wr.heap.size)
    (hf : Fill w2 w.heap.size E.e (xs.length * E.sz) (css.flatten ++ cs) ((k + 1) * E.sz)) (ho : E.OL wr (w.heap.size + 1) wr.heap.size css (xs.take k))
    (hsame : Same (w.heap.size + 1) wr.heap.size wr w2) (hcs : E.O w2 wr.heap.size w2.heap.size cs x) : ToRel E w xs (.int .i64 ((k : Int) + 1)) w2 := by
  refine ⟨k + 1, css ++ [cs], by omega, by simp, hb, Nat.le_trans hs hsame.size, by simpa using hf, ?_⟩
  rw [List.take_add_one, hx]
  exact (ho.same hsame).snoc hcs hs hsame.size
/-- The cells of one element, stored one by one. -/
theorem ToRel.fill1 {k n g e : Nat} {css : List (List Value)} {w1 : World} {u : Value} (hf : Fill w1 g e (n * 1) css.flatten (k * 1)) (hl : css.flatten.length = k * 1) (hk : k < n) :
    Fill (w1.setCell ⟨g, k, none⟩ u) g e (n * 1) (css.flatten ++ [u]) ((k + 1) * 1) := by
  have h := (hf.ext (ws := [u]) hl).set (j := k * 1) (u := u) (by rw [List.getElem?_append_right (by omega), hl]; simp) (by omega)
  simpa using h
theorem Fill.push {w1 : World} {g e N j o : Nat} {vs : List Value} {u : Value} (hf : Fill w1 g e N vs j) (hl : vs.length = j) (hj : j < N) (ho : o = j) : Fill (w1.setCell ⟨g, o, none⟩ u) g e N (vs ++ [u]) (j + 1) := by
  subst ho
  exact (hf.ext (ws := [u]) hl).set (by rw [List.getElem?_append_right (by omega), hl]; simp) hj
theorem ToRel.fill2 {k n g e : Nat} {css : List (List Value)} {w1 : World} {a b : Value} (hf : Fill w1 g e (n * 2) css.flatten (k * 2)) (hl : css.flatten.length = k * 2) (hk : k < n) :
    Fill ((w1.setCell ⟨g, k * 2, none⟩ a).setCell ⟨g, k * 2 + 1, none⟩ b) g e (n * 2) (css.flatten ++ [a, b]) ((k + 1) * 2) := by
  have h := (hf.push (o := k * 2) (u := a) hl (by omega) rfl).push (o := k * 2 + 1) (u := b) (by simp [hl]) (by omega) rfl
  simpa [Nat.succ_mul] using h
theorem ToRel.flen {k : Nat} {css : List (List Value)} {lo hi : Nat} (ho : E.OL wr lo hi css (xs.take k)) (hk : k ≤ xs.length) : css.flatten.length = k * E.sz := by
  rw [flatten_len ho.read.sizes, ho.len, List.length_take, Nat.min_eq_left hk]
end

/-- The relation of a loop that compares: the rests are equal just if the wholes are. -/
def EqRel {α : Type} [DecidableEq α] (xs ys : List α) (w : World) (i : Value) (wr : World) : Prop :=
  ∃ (k n : Nat), k ≤ xs.length ∧ i = .int .i64 k ∧ wr = w.drewN n ∧ eqB (xs.drop k) (ys.drop k) = eqB xs ys

/-- .. where a round makes memory. -/
def EqRelB {α : Type} [DecidableEq α] (xs ys : List α) (w : World) (i : Value) (wr : World) : Prop :=
  ∃ (k : Nat), k ≤ xs.length ∧ i = .int .i64 k ∧ Below w.heap.size w wr ∧ eqB (xs.drop k) (ys.drop k) = eqB xs ys

/-- A slice of things without slices in them, which the call owns: its cells are written out. -/
theorem flat_os {α : Type} {e sz : Nat} {f : α → List Value} {hl : ∀ x, (f x).length = sz} {hb : ∀ x, blocks (f x) = []} {w : World} {lo hi : Nat} {v : Value} {xs : List α} :
    (Elem.flat e sz f hl hb).OS w lo hi v xs ↔ OSl w lo hi e sz v xs.length (xs.flatMap f) := by
  constructor
  · rintro ⟨css, h1, h2, _⟩
    have hc : css = xs.map f := by
      apply List.ext_getElem?
      intro i
      rw [List.getElem?_map]
      cases hx : xs[i]? with
      | none =>
        have := h2.len
        rw [List.getElem?_eq_none_iff] at hx
        simp; omega
      | some x =>
        obtain ⟨cs, a, b⟩ := h2.at_ i x hx
        rw [a]; exact congrArg some b
    subst hc
    rw [List.flatMap_def]; exact h1
  · intro h
    refine ⟨xs.map f, by rw [← List.flatMap_def]; exact h, ⟨by simp, fun i x hx => ⟨f x, by simp [hx], rfl⟩, fun i j cs cs' b _ hi hj hbb => ?_⟩, fun cs hcs b hbb => ?_⟩
    · rw [List.getElem?_map] at hi
      cases hx : xs[i]? with
      | none => simp [hx] at hi
      | some x => simp [hx] at hi; subst hi; rw [hb] at hbb; cases hbb
    · obtain ⟨x, _, rfl⟩ := List.mem_map.1 hcs
      rw [hb] at hbb; cases hbb

/-! ### The elements of this program -/
def EInt : Elem Int := .flat 3 1 (fun n => [.int .i64 n]) (fun _ => rfl) (fun _ => rfl)
def EBool : Elem Bool := .flat 4 1 (fun n => [.bool n]) (fun _ => rfl) (fun _ => rfl)
def EIntS : Elem (List Int) := EInt.slice 29 (fun h => h)
structure Step where
  kind : Int
  age : Int
  deriving DecidableEq

section
variable {w : World} {lo hi : Nat} {A : Option Addr} {k : Nat}
/-- The k-th of a slice of ints. -/
theorem AInt.at_ {xs : List Int} (h : EInt.AS w lo hi A xs) (hk : k < xs.length) : ∃ b off x, A = some ⟨b, off, none⟩ ∧ lo ≤ b ∧ b < hi ∧ xs.drop k = x :: xs.drop (k + 1) ∧ xs[k]? = some x ∧
    w.cell? ⟨b, off + k, none⟩ = some (.int .i64 x) := by
  obtain ⟨b, off, x, cs, rfl, h1, h2, h3, h4, rfl, hc⟩ := h.at_ hk
  exact ⟨b, off, x, rfl, h1, h2, h3, h4, by simpa [EInt, Elem.flat] using hc 0 _ rfl⟩
theorem AIntS.at_ {xs : List (List Int)} (h : EIntS.AS w lo hi A xs) (hk : k < xs.length) : ∃ b off x B c, A = some ⟨b, off, none⟩ ∧ lo ≤ b ∧ b < hi ∧ xs.drop k = x :: xs.drop (k + 1) ∧ xs[k]? = some x ∧
    w.cell? ⟨b, off + k, none⟩ = some (.slice B x.length c) ∧ x.length ≤ c ∧ c ≤ maxLen ∧ EInt.AS w lo hi B x := by
  obtain ⟨b, off, x, cs, rfl, h1, h2, h3, h4, ⟨v, rfl, B, c, rfl, h5, h6, h7⟩, hc⟩ := h.at_ hk
  exact ⟨b, off, x, B, c, rfl, h1, h2, h3, h4, by simpa [EIntS, Elem.slice] using hc 0 _ rfl, h5, h6, h7⟩
end
end Go.Proofs.Ythpcippgifmabaa
