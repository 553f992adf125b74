/-
  Words for memory: slices that read as lists, slices that a call owns, frames. No condition; nothing of one function is said here.
-/
import Derived.Test.YtagmeeplgmocdaaRows
import Derived.WalkKit
import Derived.WalkSpells
import Derived.Lib.Hide
import Derived.Deep.Draws
import Derived.Laws.MakeOwn
import Derived.Deep.RegionHeld3
import Derived.BigQuiet
import Derived.Deep.QuietTactic
namespace Go.Proofs.Ytagmeeplgmocdaa
open Go.RowKit

/-- No slice that was read is longer. -/
def BIG : Nat := 17592186043904

/-- The cells vs lie from the address on, in a block from lo to hi. -/
def RV (w : World) (lo hi : Nat) (A : Option Addr) (vs : List Value) : Prop :=
  0 < vs.length → ∃ b off, A = some ⟨b, off, none⟩ ∧ lo ≤ b ∧ b < hi ∧ ∀ i u, vs[i]? = some u → w.cell? ⟨b, off + i, none⟩ = some u

/-- The blocks from lo to hi are as they were. -/
structure Same (lo hi : Nat) (w w' : World) : Prop where
  size : w.heap.size ≤ w'.heap.size
  block : ∀ k, lo ≤ k → k < hi → w'.heap[k]? = w.heap[k]?

/-- A slice of n elements of sz cells each, whose cells are vs. -/
def RSl (w : World) (lo hi sz : Nat) (v : Value) (n : Nat) (vs : List Value) : Prop :=
  ∃ A c, v = .slice A n c ∧ n ≤ c ∧ c ≤ maxLen ∧ vs.length = n * sz ∧ n ≤ BIG ∧ RV w lo hi A vs

/-- A slice that the call owns. -/
def OSl (w : World) (lo hi e sz : Nat) (v : Value) (n : Nat) (vs : List Value) : Prop :=
  w.ownsRow lo e sz v n vs ∧ (∀ k, v.ownBlock = some k → k < hi) ∧ n ≤ BIG

/-- What is changed lies in the blocks from lo to hi, or is new. -/
structure Chg (lo hi : Nat) (w w' : World) : Prop where
  os : w'.os = w.os
  tape : w'.tape = w.tape
  output : w'.output = w.output
  size : w.heap.size ≤ w'.heap.size
  block : ∀ k, k < w.heap.size → (k < lo ∨ hi ≤ k) → w'.heap[k]? = w.heap[k]?

section
variable {w w' w'' a : World} {lo hi lo' hi' B e sz n : Nat} {A : Option Addr} {vs : List Value} {v : Value}

theorem Same.refl (lo hi : Nat) (w : World) : Same lo hi w w := ⟨Nat.le_refl _, fun _ _ _ => rfl⟩
theorem Same.trans (h : Same lo hi w w') (k : Same lo hi w' w'') : Same lo hi w w'' :=
  ⟨Nat.le_trans h.size k.size, fun i h1 h2 => (k.block i h1 h2).trans (h.block i h1 h2)⟩
theorem Same.of_below (h : Below B w w') (hB : hi ≤ B) : Same lo hi w w' := ⟨h.size, fun k _ h2 => h.block k (by omega)⟩
theorem Same.of_chg (h : Chg lo' hi' w w') (hs : hi ≤ w.heap.size) (hd : hi ≤ lo' ∨ hi' ≤ lo) : Same lo hi w w' :=
  ⟨h.size, fun k h1 h2 => h.block k (by omega) (by omega)⟩
theorem Same.mono (h : Same lo hi w w') (h1 : lo ≤ lo') (h2 : hi' ≤ hi) : Same lo' hi' w w' := ⟨h.size, fun k k1 k2 => h.block k (by omega) (by omega)⟩
theorem Same.cell (h : Same lo hi w w') {p : Addr} (h1 : lo ≤ p.block) (h2 : p.block < hi) : w'.cell? p = w.cell? p := World.cell?_of_block (h.block _ h1 h2)
theorem Same.of_grown {row : Option Nat} (h : w.grownBy w' row) (hs : hi ≤ w.heap.size) (hr : ∀ k, row = some k → k < lo ∨ hi ≤ k) : Same lo hi w w' :=
  ⟨h.size, fun k h1 h2 => h.block k (by omega) (fun e => by have := hr k e.symm; omega)⟩
theorem Same.alloc (h : Same lo hi w w') (hs : hi ≤ w'.heap.size) (o : Obj) : Same lo hi w (w'.alloc o) :=
  h.trans ⟨by simp, fun k _ h2 => Below.heap_alloc _ _ _ (by omega)⟩
theorem Same.drew (h : Same lo hi w w') : Same lo hi w w'.drew := ⟨h.size, h.block⟩
theorem Same.drewN (h : Same lo hi w w') (n : Nat) : Same lo hi w (w'.drewN n) := ⟨h.size, h.block⟩
theorem Same.setCell (h : Same lo hi w w') {p : Addr} (hp : p.block < lo ∨ hi ≤ p.block) (u : Value) : Same lo hi w (w'.setCell p u) :=
  h.trans ⟨by simp [World.setCell], fun k _ _ => Below.heap_setCell _ _ _ _ (by omega)⟩

theorem Chg.refl (lo hi : Nat) (w : World) : Chg lo hi w w := ⟨rfl, rfl, rfl, Nat.le_refl _, fun _ _ _ => rfl⟩
theorem Chg.trans (h : Chg lo hi w w') (k : Chg lo hi w' w'') : Chg lo hi w w'' :=
  ⟨k.os.trans h.os, k.tape.trans h.tape, k.output.trans h.output, Nat.le_trans h.size k.size, fun i hi' hd => (k.block i (Nat.lt_of_lt_of_le hi' h.size) hd).trans (h.block i hi' hd)⟩
theorem Chg.of_below (h : Below w.heap.size w w') : Chg lo hi w w' := ⟨h.os, h.tape, h.output, h.size, fun k hk _ => h.block k hk⟩
theorem Chg.of_grown {row : Option Nat} (h : w.grownBy w' row) (hr : ∀ k, row = some k → lo ≤ k ∧ k < hi) : Chg lo hi w w' :=
  ⟨h.os, h.tape, h.output, h.size, fun k hk hd => h.block k hk (fun e => by have := hr k e.symm; omega)⟩
theorem Chg.mono (h : Chg lo' hi' w w') (h1 : lo ≤ lo') (h2 : hi' ≤ hi) : Chg lo hi w w' := ⟨h.os, h.tape, h.output, h.size, fun k hk hd => h.block k hk (by omega)⟩
theorem Chg.below (h : Chg lo hi w w') (hB : B ≤ w.heap.size) (hl : B ≤ lo) : Below B w w' := ⟨h.os, h.tape, h.output, h.size, fun k hk => h.block k (by omega) (.inl (by omega))⟩
theorem Chg.setCell (h : Chg lo hi w w') {p : Addr} (hp : lo ≤ p.block ∧ p.block < hi) (u : Value) : Chg lo hi w (w'.setCell p u) :=
  h.trans ⟨rfl, rfl, rfl, by simp [World.setCell], fun k _ _ => Below.heap_setCell _ _ _ _ (by omega)⟩
theorem Chg.drew (h : Chg lo hi w w') : Chg lo hi w w'.drew := ⟨h.os, h.tape, h.output, h.size, h.block⟩
theorem Chg.alloc (h : Chg lo hi w w') (o : Obj) : Chg lo hi w (w'.alloc o) :=
  h.trans ⟨rfl, rfl, rfl, by simp, fun k hk _ => Below.heap_alloc _ _ _ hk⟩

theorem World.size_drewN (w : World) (n : Nat) : (w.drewN n).heap.size = w.heap.size := rfl
theorem undrew (h : Below w.drew.heap.size w.drew w') : Below w.heap.size w w' := ⟨h.os, h.tape, h.output, h.size, h.block⟩
theorem below_drewN (h : Below B a w) (n : Nat) : Below B a (w.drewN n) := ⟨h.os, h.tape, h.output, h.size, h.block⟩

theorem RV.same (h : RV w lo hi A vs) (k : Same lo hi w w') : RV w' lo hi A vs := fun hn => by
  obtain ⟨b, off, rfl, h1, h2, hc⟩ := h hn
  exact ⟨b, off, rfl, h1, h2, fun i u hu => (k.cell (p := ⟨b, off + i, none⟩) h1 h2).trans (hc i u hu)⟩
theorem RV.mono (h : RV w lo hi A vs) (h1 : lo' ≤ lo) (h2 : hi ≤ hi') : RV w lo' hi' A vs := fun hn => by
  obtain ⟨b, off, rfl, a1, a2, hc⟩ := h hn
  exact ⟨b, off, rfl, by omega, by omega, hc⟩
theorem RSl.same (h : RSl w lo hi sz v n vs) (k : Same lo hi w w') : RSl w' lo hi sz v n vs := by
  obtain ⟨A, c, rfl, h1, h2, h3, h4, h5⟩ := h
  exact ⟨A, c, rfl, h1, h2, h3, h4, h5.same k⟩
theorem RSl.mono (h : RSl w lo hi sz v n vs) (h1 : lo' ≤ lo) (h2 : hi ≤ hi') : RSl w lo' hi' sz v n vs := by
  obtain ⟨A, c, rfl, a1, a2, a3, a4, a5⟩ := h
  exact ⟨A, c, rfl, a1, a2, a3, a4, a5.mono h1 h2⟩

theorem OSl.same (h : OSl w lo hi e sz v n vs) (k : Same lo hi w w') : OSl w' lo hi e sz v n vs := by
  obtain ⟨⟨hl, ho⟩, hh, hb⟩ := h
  refine ⟨⟨hl, ?_⟩, hh, hb⟩
  rcases ho with ho | ⟨g, cap, cur, rfl, hg, hc, r⟩
  · exact .inl ho
  · exact .inr ⟨g, cap, cur, rfl, hg, (k.block g hg (hh g rfl)).trans hc, r⟩
theorem OSl.mono (h : OSl w lo hi e sz v n vs) (h1 : lo' ≤ lo) (h2 : hi ≤ hi') : OSl w lo' hi' e sz v n vs := by
  obtain ⟨⟨hl, ho⟩, hh, hb⟩ := h
  refine ⟨⟨hl, ?_⟩, fun k hk => Nat.lt_of_lt_of_le (hh k hk) h2, hb⟩
  rcases ho with ho | ⟨g, cap, cur, rfl, hg, r⟩
  · exact .inl ho
  · exact .inr ⟨g, cap, cur, rfl, Nat.le_trans h1 hg, r⟩
/-- What is owned can be read. -/
theorem OSl.read (h : OSl w lo hi e sz v n vs) : RSl w lo hi sz v n vs := by
  obtain ⟨⟨hl, ho⟩, hh, hb⟩ := h
  rcases ho with ⟨rfl, rfl⟩ | ⟨g, cap, cur, rfl, hg, hc, hn, hcap, hsz, ht⟩
  · exact ⟨none, 0, rfl, Nat.le_refl _, by simp [maxLen], hl, hb, fun hn => absurd hn (by rw [hl]; simp)⟩
  · refine ⟨some ⟨g, 0, none⟩, cap, rfl, hn, hcap, hl, hb, fun _ => ⟨g, 0, rfl, hg, hh g rfl, fun i u hu => ?_⟩⟩
    rw [Nat.zero_add, cell_of_row w g i cur e (0, 0) hc]
    rw [← ht, List.getElem?_take] at hu
    split at hu
    · simpa using hu
    · cases hu
theorem OSl.of_own (h : w.ownsRow lo e sz v n vs) (hb : n ≤ BIG) : OSl w lo w.heap.size e sz v n vs := ⟨h, fun k hk => (h.lt k hk).2, hb⟩
end

/-- Every old cell and mark reads as before. -/
theorem bcell {W w1 : World} (hb : Below W.heap.size W w1) : (∀ b o, b < W.heap.size → w1.cell? ⟨b, o, none⟩ = W.cell? ⟨b, o, none⟩) ∧ (∀ b o, b < W.heap.size → w1.frozen? ⟨b, o, none⟩ = W.frozen? ⟨b, o, none⟩) :=
  ⟨fun b o h => hb.cell (p := ⟨b, o, none⟩) h, fun b o h => hb.frozen (p := ⟨b, o, none⟩) h⟩

/-- A quiet call, for a region that draws its order. -/
theorem quietE {P : Program} {f : FuncId} {args : Array Value} {w : World} {a : Nat} {v : Value}
    (h : Calls P f args (w.drewN a) fun e w' => ∃ n, e = .returned v ∧ (w.drewN a).drewN n = w') :
    Calls P f args (w.drewN a) fun e w'' => e = .returned v ∧ ∃ m, w'' = w.drewN m :=
  h.mono fun _ _ ⟨n, he, hm⟩ => ⟨he, a + n, by rw [← hm, World.drewN_drewN]⟩
/-- Equality, asked. (A name of its own, which a walk does not open.) -/
def eqB {α : Type} [DecidableEq α] (a b : α) : Bool := decide (a = b)
section
variable {α : Type} [DecidableEq α]
theorem eqB_iff {a b : α} : eqB a b = true ↔ a = b := by simp [eqB]
theorem eqB_refl (a : α) : eqB a a = true := by simp [eqB]
theorem eqB_of {a b : α} (h : a = b) : eqB a b = true := eqB_iff.2 h
theorem eqB_ne {a b : α} (h : a ≠ b) : eqB a b = false := by simp [eqB, h]
theorem eqB_cons (a b : α) (x y : List α) : eqB (a :: x) (b :: y) = (eqB a b && eqB x y) := by simp [eqB, List.cons.injEq]
theorem eqB_len {x y : List α} (h : x.length ≠ y.length) : eqB x y = false := eqB_ne fun e => h (by rw [e])
theorem eqB_no {x y xs ys : List α} {a b : α} {k : Nat} (he : eqB (xs.drop k) (ys.drop k) = eqB xs ys) (h1 : xs.drop k = a :: x) (h2 : ys.drop k = b :: y) (h : eqB a b = false) : false = eqB xs ys := by
  rw [← he, h1, h2, eqB_cons, h]; rfl
theorem eqB_yes {x y xs ys : List α} {a b : α} {k : Nat} (he : eqB (xs.drop k) (ys.drop k) = eqB xs ys) (h1 : xs.drop k = a :: x) (h2 : ys.drop k = b :: y) (h : eqB a b = true) : eqB x y = eqB xs ys := by
  rw [← he, h1, h2, eqB_cons, h]; rfl
theorem eqB_end {xs ys : List α} {k : Nat} (he : eqB (xs.drop k) (ys.drop k) = eqB xs ys) (h1 : xs.length ≤ k) (h2 : ys.length ≤ k) : true = eqB xs ys := by
  rw [← he, List.drop_eq_nil_of_le h1, List.drop_eq_nil_of_le h2, eqB_refl]
theorem not_true {b : Bool} (h : (!b) = true) : b = false := by simpa using h
theorem not_false {b : Bool} (h : (!b) = false) : b = true := by simpa using h
end
theorem eqB_int_ne {x y : Int} (h : (x != y) = true) : eqB x y = false := eqB_ne (by simpa using h)
theorem eqB_int_eq {x y : Int} (h : (x != y) = false) : eqB x y = true := eqB_of (by simpa using h)
theorem drop_cons {α} (xs : List α) (d : α) (k : Nat) (h : k < xs.length) : xs.drop k = xs.getD k d :: xs.drop (k + 1) := by
  rw [List.drop_eq_getElem_cons h]; simp [List.getD, h]
theorem ret_int {k : IntKind} {a b : Int} (h : a = b) : Ending.returned (.int k a) = .returned (.int k b) := by rw [h]
theorem ret_bool {a b : Bool} (h : a = b) : Ending.returned (.bool a) = .returned (.bool b) := by rw [h]

/-! ### A block that is filled cell by cell -/
/-- Block g holds N cells of type e; the first j are those of vs. -/
def Fill (w : World) (g e N : Nat) (vs : List Value) (j : Nat) : Prop :=
  ∃ cur, w.heap[g]? = some (.cells cur e (0, 0)) ∧ cur.size = N ∧ ∀ i, i < j → cur[i]? = vs[i]?
section
variable {w w' : World} {g e N j lo hi : Nat} {vs : List Value}
theorem Fill.new (w : World) (e N : Nat) (cur : Array Value) (vs : List Value) (h : cur.size = N) : Fill (w.alloc (.cells cur e)) w.heap.size e N vs 0 :=
  ⟨cur, heap_alloc_new w _, h, fun _ hi => absurd hi (Nat.not_lt_zero _)⟩
theorem Fill.same (h : Fill w g e N vs j) (k : Same lo hi w w') (h1 : lo ≤ g) (h2 : g < hi) : Fill w' g e N vs j := by
  obtain ⟨cur, hc, r⟩ := h
  exact ⟨cur, (k.block g h1 h2).trans hc, r⟩
theorem Fill.drew (h : Fill w g e N vs j) : Fill w.drew g e N vs j := h
theorem Fill.alloc (h : Fill w g e N vs j) (o : Obj) : Fill (w.alloc o) g e N vs j := by
  obtain ⟨cur, hc, r⟩ := h
  exact ⟨cur, (Below.heap_alloc w o g (Array.getElem?_eq_some_iff.1 hc).1).trans hc, r⟩
theorem Fill.lt (h : Fill w g e N vs j) : g < w.heap.size := by
  obtain ⟨cur, hc, _⟩ := h
  exact (Array.getElem?_eq_some_iff.1 hc).1
theorem Fill.next (h : Fill w g e N vs j) {i : Nat} (hi : i < N) : ∃ u, w.cell? ⟨g, i, none⟩ = some u := by
  obtain ⟨cur, hc, hs, _⟩ := h
  exact ⟨cur[i]'(by omega), by rw [cell_of_row w g i cur e (0, 0) hc, Array.getElem?_eq_getElem]⟩
theorem Fill.free (h : Fill w g e N vs j) (i : Nat) : w.frozen? ⟨g, i, none⟩ = false := by
  obtain ⟨cur, hc, _⟩ := h
  simp [World.frozen?, hc]
theorem Fill.set (h : Fill w g e N vs j) {u : Value} (hu : vs[j]? = some u) (hj : j < N) : Fill (w.setCell ⟨g, j, none⟩ u) g e N vs (j + 1) := by
  obtain ⟨cur, hc, hs, hr⟩ := h
  refine ⟨cur.setIfInBounds j u, by simp [World.setCell, Array.getElem?_modify, hc], by simpa using hs, fun i hi => ?_⟩
  by_cases hij : i = j
  · subst hij; rw [hu]; simp [hs, hj]
  · rw [← hr i (by omega)]; simp [Ne.symm hij]
theorem Fill.far (h : Fill w g e N vs j) {p : Addr} (hp : g ≠ p.block) (u : Value) : Fill (w.setCell p u) g e N vs j := by
  obtain ⟨cur, hc, r⟩ := h
  exact ⟨cur, (Below.heap_setCell w p u g hp).trans hc, r⟩
theorem Fill.own (h : Fill w g e N vs N) {n sz : Nat} (hn : N = n * sz) (hv : vs.length = N) (hg : lo ≤ g) (hb : n ≤ BIG) : OSl w lo w.heap.size e sz (.slice (some ⟨g, 0, none⟩) n n) n vs := by
  have hlt := h.lt
  obtain ⟨cur, hc, hs, hr⟩ := h
  refine ⟨⟨by omega, .inr ⟨g, n, cur, rfl, hg, hc, Nat.le_refl _, by unfold BIG at hb; simp only [maxLen]; omega, by omega, ?_⟩⟩, fun k hk => by simp [Value.ownBlock] at hk; omega, hb⟩
  apply List.ext_getElem?
  intro i
  rw [List.getElem?_take]
  by_cases hi : i < N
  · rw [if_pos (by omega), ← hr i hi]; simp
  · rw [if_neg (by omega), List.getElem?_eq_none (by omega)]
end

/-- make([]T, n) at a size that is a variable. -/
theorem run_mk {P : Program} (t e : TypeId) (i : TypeInfo) (z : Value) (sz bytes : Nat) (ht : P.underlying t = some (.slice e)) (hi : P.info? e = some i) (hz : i.zero = some z) (hs : i.size = sz) (hby : i.bytes = bytes)
    (n : Nat) (hb : bytes * n ≤ 281474976710656) (hn : n ≤ BIG) : ∀ w : World, (Instr.makeSlice t (.int .i64 (n : Int)) (.int .i64 (n : Int))).run P w = .ok (.slice (some ⟨w.heap.size, 0, none⟩) n n) (w.alloc (.cells (madeCells z.cells (n * sz)) e)) := by
  intro w
  subst hs hby
  have hb' : (i.bytes : Int) * (n : Int) ≤ 281474976710656 := by
    have h : ((i.bytes * n : Nat) : Int) ≤ 281474976710656 := by omega
    rwa [Int.natCast_mul] at h
  have hr := run_make (P := P) w t e i z ht hi hz .i64 .i64 n n (by omega) (by omega) hb' (by unfold BIG at hn; omega)
  simpa using hr

/-- What a size leaves. -/
def Sz (r left : Int) (n : Nat) : Prop := (r = -1 ∧ left < n) ∨ (0 ≤ r ∧ r = left - n)

/-! ### Elements and slices of them -/
/-- The blocks that cells own. -/
def blocks (cs : List Value) : List Nat := cs.filterMap Value.ownBlock

/-- How a thing lies in cells: owned (O), or only to be read (R). -/
structure Elem (α : Type) where
  e : Nat
  sz : Nat
  O : World → Nat → Nat → List Value → α → Prop
  R : World → Nat → Nat → List Value → α → Prop
  len : ∀ {w lo hi cs x}, R w lo hi cs x → cs.length = sz
  read : ∀ {w lo hi cs x}, O w lo hi cs x → R w lo hi cs x
  sameO : ∀ {w w' lo hi cs x}, O w lo hi cs x → Same lo hi w w' → O w' lo hi cs x
  sameR : ∀ {w w' lo hi cs x}, R w lo hi cs x → Same lo hi w w' → R w' lo hi cs x
  monoO : ∀ {w lo hi lo' hi' cs x}, O w lo hi cs x → lo' ≤ lo → hi ≤ hi' → O w lo' hi' cs x
  monoR : ∀ {w lo hi lo' hi' cs x}, R w lo hi cs x → lo' ≤ lo → hi ≤ hi' → R w lo' hi' cs x
  blk : ∀ {w lo hi cs x}, O w lo hi cs x → ∀ b ∈ blocks cs, lo ≤ b ∧ b < hi

/-- A thing without slices in it. -/
def Elem.flat {α : Type} (e sz : Nat) (f : α → List Value) (hl : ∀ x, (f x).length = sz) (hb : ∀ x, blocks (f x) = []) : Elem α where
  e := e
  sz := sz
  O := fun _ _ _ cs x => cs = f x
  R := fun _ _ _ cs x => cs = f x
  len := fun h => by rw [h, hl]
  read := fun h => h
  sameO := fun h _ => h
  sameR := fun h _ => h
  monoO := fun h _ _ => h
  monoR := fun h _ _ => h
  blk := fun h b hx => by rw [h, hb] at hx; cases hx

/-- Elements in a list of cells' rows, each for itself, no two of them in one block. -/
structure Elem.OL {α : Type} (E : Elem α) (w : World) (lo hi : Nat) (css : List (List Value)) (xs : List α) : Prop where
  len : css.length = xs.length
  at_ : ∀ (i : Nat) (x : α), xs[i]? = some x → ∃ cs, css[i]? = some cs ∧ E.O w lo hi cs x
  apart : ∀ (i j : Nat) (cs cs' : List Value) (b : Nat), i ≠ j → css[i]? = some cs → css[j]? = some cs' → b ∈ blocks cs → b ∉ blocks cs'
structure Elem.RL {α : Type} (E : Elem α) (w : World) (lo hi : Nat) (css : List (List Value)) (xs : List α) : Prop where
  len : css.length = xs.length
  at_ : ∀ (i : Nat) (x : α), xs[i]? = some x → ∃ cs, css[i]? = some cs ∧ E.R w lo hi cs x

/-- The cells' rows css lie one behind the other from the address on. -/
def RC (w : World) (lo hi sz : Nat) (A : Option Addr) (css : List (List Value)) : Prop :=
  0 < css.length → ∃ b off, A = some ⟨b, off, none⟩ ∧ lo ≤ b ∧ b < hi ∧ ∀ (i : Nat) (cs : List Value), css[i]? = some cs → ∀ (j : Nat) (u : Value), cs[j]? = some u → w.cell? ⟨b, off + (i * sz + j), none⟩ = some u

/-- The address reads as the elements xs. -/
def Elem.AS {α : Type} (E : Elem α) (w : World) (lo hi : Nat) (A : Option Addr) (xs : List α) : Prop :=
  xs.length ≤ BIG ∧ ∃ css, RC w lo hi E.sz A css ∧ E.RL w lo hi css xs
/-- The slice reads as the elements xs. -/
def Elem.RS {α : Type} (E : Elem α) (w : World) (lo hi : Nat) (v : Value) (xs : List α) : Prop :=
  ∃ A c, v = .slice A xs.length c ∧ xs.length ≤ c ∧ c ≤ maxLen ∧ E.AS w lo hi A xs
/-- The slice, which the call owns, reads as the elements xs. -/
def Elem.OS {α : Type} (E : Elem α) (w : World) (lo hi : Nat) (v : Value) (xs : List α) : Prop :=
  ∃ css, OSl w lo hi E.e E.sz v xs.length css.flatten ∧ E.OL w lo hi css xs ∧ ∀ cs ∈ css, ∀ b ∈ blocks cs, v.ownBlock ≠ some b

theorem flatten_at {css : List (List Value)} {sz : Nat} (h : ∀ cs ∈ css, cs.length = sz) {i j : Nat} {cs : List Value} {u : Value} (hi : css[i]? = some cs) (hj : cs[j]? = some u) : css.flatten[i * sz + j]? = some u := by
  induction css generalizing i with
  | nil => simp at hi
  | cons c r ih =>
    have hc := h c (by simp)
    cases i with
    | zero =>
      simp at hi; subst hi
      have : j < c.length := (List.getElem?_eq_some_iff.1 hj).1
      rw [List.flatten_cons, Nat.zero_mul, Nat.zero_add, List.getElem?_append_left this]; exact hj
    | succ i =>
      simp at hi
      rw [List.flatten_cons, List.getElem?_append_right (by rw [hc, Nat.succ_mul]; omega), hc, show (i + 1) * sz + j - sz = i * sz + j from by rw [Nat.succ_mul]; omega]
      exact ih (fun cs hcs => h cs (by simp [hcs])) hi
theorem flatten_len {css : List (List Value)} {sz : Nat} (h : ∀ cs ∈ css, cs.length = sz) : css.flatten.length = css.length * sz := by
  induction css with
  | nil => simp
  | cons c r ih => rw [List.flatten_cons, List.length_append, ih (fun cs hcs => h cs (by simp [hcs])), h c (by simp), List.length_cons, Nat.succ_mul]; omega

section
variable {α : Type} {E : Elem α} {w w' : World} {lo hi lo' hi' : Nat} {v : Value} {xs : List α} {A : Option Addr} {css : List (List Value)}

theorem Elem.OL.same (h : E.OL w lo hi css xs) (k : Same lo hi w w') : E.OL w' lo hi css xs :=
  ⟨h.len, fun i x hx => let ⟨cs, a, b⟩ := h.at_ i x hx; ⟨cs, a, E.sameO b k⟩, h.apart⟩
theorem Elem.OL.mono (h : E.OL w lo hi css xs) (h1 : lo' ≤ lo) (h2 : hi ≤ hi') : E.OL w lo' hi' css xs :=
  ⟨h.len, fun i x hx => let ⟨cs, a, b⟩ := h.at_ i x hx; ⟨cs, a, E.monoO b h1 h2⟩, h.apart⟩
theorem Elem.RL.same (h : E.RL w lo hi css xs) (k : Same lo hi w w') : E.RL w' lo hi css xs :=
  ⟨h.len, fun i x hx => let ⟨cs, a, b⟩ := h.at_ i x hx; ⟨cs, a, E.sameR b k⟩⟩
theorem Elem.RL.mono (h : E.RL w lo hi css xs) (h1 : lo' ≤ lo) (h2 : hi ≤ hi') : E.RL w lo' hi' css xs :=
  ⟨h.len, fun i x hx => let ⟨cs, a, b⟩ := h.at_ i x hx; ⟨cs, a, E.monoR b h1 h2⟩⟩
theorem Elem.OL.nil : E.OL w lo hi [] [] := ⟨rfl, fun i x hx => by simp at hx, fun i j cs cs' b _ hi => by simp at hi⟩
theorem Elem.RL.nil : E.RL w lo hi [] [] := ⟨rfl, fun i x hx => by simp at hx⟩
theorem Elem.OL.read (h : E.OL w lo hi css xs) : E.RL w lo hi css xs := ⟨h.len, fun i x hx => let ⟨cs, a, b⟩ := h.at_ i x hx; ⟨cs, a, E.read b⟩⟩
theorem Elem.RL.sizes (h : E.RL w lo hi css xs) : ∀ cs ∈ css, cs.length = E.sz := by
  intro cs hcs
  obtain ⟨i, hi, rfl⟩ := List.mem_iff_getElem.1 hcs
  have hi' : i < xs.length := by rw [← h.len]; exact hi
  obtain ⟨cs', h1, h2⟩ := h.at_ i xs[i] (List.getElem?_eq_getElem hi')
  rw [List.getElem?_eq_getElem hi] at h1
  injection h1 with h1
  rw [h1]; exact E.len h2
theorem Elem.OL.blk (h : E.OL w lo hi css xs) : ∀ cs ∈ css, ∀ b ∈ blocks cs, lo ≤ b ∧ b < hi := by
  intro cs hcs b hb
  obtain ⟨i, hi, rfl⟩ := List.mem_iff_getElem.1 hcs
  have hi' : i < xs.length := by rw [← h.len]; exact hi
  obtain ⟨cs', h1, h2⟩ := h.at_ i xs[i] (List.getElem?_eq_getElem hi')
  rw [List.getElem?_eq_getElem hi] at h1
  injection h1 with h1
  rw [h1] at hb
  exact E.blk h2 b hb
/-- One element more: its blocks are newer. -/
theorem Elem.OL.snoc (h : E.OL w lo hi css xs) {cs : List Value} {x : α} (hx : E.O w hi hi' cs x) (h1 : lo ≤ hi) (h2 : hi ≤ hi') : E.OL w lo hi' (css ++ [cs]) (xs ++ [x]) := by
  refine ⟨by simp [h.len], fun i y hy => ?_, fun i j c c' b hij hc hc' hb hb' => ?_⟩
  · rcases Nat.lt_trichotomy i xs.length with hlt | rfl | hgt
    · rw [List.getElem?_append_left hlt] at hy
      obtain ⟨c, a, d⟩ := h.at_ i y hy
      exact ⟨c, by rw [List.getElem?_append_left (by rw [h.len]; exact hlt)]; exact a, E.monoO d (Nat.le_refl _) h2⟩
    · rw [List.getElem?_append_right (Nat.le_refl _)] at hy
      simp at hy; subst hy
      exact ⟨cs, by rw [List.getElem?_append_right (by rw [h.len]; exact Nat.le_refl _), h.len]; simp, E.monoO hx h1 (Nat.le_refl _)⟩
    · rw [List.getElem?_eq_none (by simp; omega)] at hy; cases hy
  · have old : ∀ (i : Nat) (c : List Value), (css ++ [cs])[i]? = some c → (i < css.length ∧ css[i]? = some c) ∨ (i = css.length ∧ c = cs) := by
      intro i c hc
      rcases Nat.lt_trichotomy i css.length with hlt | rfl | hgt
      · rw [List.getElem?_append_left hlt] at hc; exact .inl ⟨hlt, hc⟩
      · rw [List.getElem?_append_right (Nat.le_refl _)] at hc; simp at hc; exact .inr ⟨rfl, hc.symm⟩
      · rw [List.getElem?_eq_none (by simp; omega)] at hc; cases hc
    rcases old i c hc with ⟨hi1, hci⟩ | ⟨hi1, rfl⟩ <;> rcases old j c' hc' with ⟨hj1, hcj⟩ | ⟨hj1, rfl⟩
    · exact h.apart i j c c' b hij hci hcj hb hb'
    · have a1 := (h.blk c (List.mem_of_getElem? hci) b hb).2
      have a2 := (E.blk hx b hb').1
      omega
    · have a1 := (h.blk c' (List.mem_of_getElem? hcj) b hb').2
      have a2 := (E.blk hx b hb).1
      omega
    · omega

theorem RC.same {sz : Nat} (h : RC w lo hi sz A css) (k : Same lo hi w w') : RC w' lo hi sz A css := fun hn => by
  obtain ⟨b, off, rfl, h1, h2, hc⟩ := h hn
  exact ⟨b, off, rfl, h1, h2, fun i cs hi j u hu => (k.cell (p := ⟨b, off + (i * sz + j), none⟩) h1 h2).trans (hc i cs hi j u hu)⟩
theorem RC.mono {sz : Nat} (h : RC w lo hi sz A css) (h1 : lo' ≤ lo) (h2 : hi ≤ hi') : RC w lo' hi' sz A css := fun hn => by
  obtain ⟨b, off, rfl, a1, a2, hc⟩ := h hn
  exact ⟨b, off, rfl, by omega, by omega, hc⟩
theorem Elem.AS.same (h : E.AS w lo hi A xs) (k : Same lo hi w w') : E.AS w' lo hi A xs := by
  obtain ⟨h0, css, h1, h2⟩ := h
  exact ⟨h0, css, h1.same k, h2.same k⟩
theorem Elem.AS.mono (h : E.AS w lo hi A xs) (k1 : lo' ≤ lo) (k2 : hi ≤ hi') : E.AS w lo' hi' A xs := by
  obtain ⟨h0, css, h1, h2⟩ := h
  exact ⟨h0, css, h1.mono k1 k2, h2.mono k1 k2⟩
theorem Elem.AS.drew (h : E.AS w lo hi A xs) : E.AS w.drew lo hi A xs := h.same ⟨Nat.le_refl _, fun _ _ _ => rfl⟩
theorem Elem.AS.drewN (h : E.AS w lo hi A xs) (n : Nat) : E.AS (w.drewN n) lo hi A xs := h.same ⟨Nat.le_refl _, fun _ _ _ => rfl⟩
theorem Elem.RS.same (h : E.RS w lo hi v xs) (k : Same lo hi w w') : E.RS w' lo hi v xs := by
  obtain ⟨A, c, rfl, h1, h2, h3⟩ := h
  exact ⟨A, c, rfl, h1, h2, h3.same k⟩
theorem Elem.RS.mono (h : E.RS w lo hi v xs) (k1 : lo' ≤ lo) (k2 : hi ≤ hi') : E.RS w lo' hi' v xs := by
  obtain ⟨A, c, rfl, h1, h2, h3⟩ := h
  exact ⟨A, c, rfl, h1, h2, h3.mono k1 k2⟩
theorem Elem.RS.open_ (h : E.RS w lo hi v xs) : ∃ A c, v = .slice A xs.length c ∧ xs.length ≤ c ∧ c ≤ maxLen ∧ E.AS w lo hi A xs := h
theorem Elem.RS.shut {c : Nat} (h : E.AS w lo hi A xs) (h1 : xs.length ≤ c) (h2 : c ≤ maxLen) : E.RS w lo hi (.slice A xs.length c) xs := ⟨A, c, rfl, h1, h2, h⟩
theorem Elem.RS.as {n c : Nat} (h : E.RS w lo hi (.slice A n c) xs) : E.AS w lo hi A xs := by
  obtain ⟨A', c', hv, _, _, h3⟩ := h
  injection hv with hv _ _
  subst hv; exact h3
theorem Elem.OS.same (h : E.OS w lo hi v xs) (k : Same lo hi w w') : E.OS w' lo hi v xs := by
  obtain ⟨css, h1, h2, h3⟩ := h
  exact ⟨css, h1.same k, h2.same k, h3⟩
theorem Elem.OS.mono (h : E.OS w lo hi v xs) (k1 : lo' ≤ lo) (k2 : hi ≤ hi') : E.OS w lo' hi' v xs := by
  obtain ⟨css, h1, h2, h3⟩ := h
  exact ⟨css, h1.mono k1 k2, h2.mono k1 k2, h3⟩
theorem Elem.OS.read (h : E.OS w lo hi v xs) : E.RS w lo hi v xs := by
  obtain ⟨css, h1, h2, _⟩ := h
  obtain ⟨A, c, rfl, a1, a2, _, a4, a5⟩ := h1.read
  refine ⟨A, c, rfl, a1, a2, a4, css, fun hn => ?_, h2.read⟩
  by_cases hz : 0 < css.flatten.length
  · obtain ⟨b, off, rfl, b1, b2, hc⟩ := a5 hz
    exact ⟨b, off, rfl, b1, b2, fun i cs hi j u hu => hc _ u (flatten_at h2.read.sizes hi hu)⟩
  · -- no cells at all: the elements have none
    have hsz : E.sz = 0 := by
      have hl := flatten_len h2.read.sizes
      rcases Nat.eq_zero_or_pos E.sz with h0 | h0
      · exact h0
      · exfalso
        have := Nat.mul_pos hn h0
        omega
    obtain ⟨ho, hh, _⟩ := h1
    rcases ho.2 with ⟨hv, h0⟩ | ⟨g, cap, cur, hv, hg, _⟩
    · exfalso; have := h2.len; omega
    · injection hv with hv _ _
      subst hv
      refine ⟨g, 0, rfl, hg, hh g rfl, fun i cs hi j u hu => ?_⟩
      have hcs := h2.read.sizes cs (List.mem_of_getElem? hi)
      rw [hsz] at hcs
      have : cs = [] := List.eq_nil_of_length_eq_zero hcs
      subst this
      simp at hu
/-- The k-th element of a slice that is read. -/
theorem Elem.AS.at_ (h : E.AS w lo hi A xs) {k : Nat} (hk : k < xs.length) : ∃ b off x cs, A = some ⟨b, off, none⟩ ∧ lo ≤ b ∧ b < hi ∧ xs.drop k = x :: xs.drop (k + 1) ∧ xs[k]? = some x ∧
    E.R w lo hi cs x ∧ ∀ (j : Nat) (u : Value), cs[j]? = some u → w.cell? ⟨b, off + (k * E.sz + j), none⟩ = some u := by
  obtain ⟨_, css, h1, h2⟩ := h
  obtain ⟨b, off, rfl, a1, a2, hc⟩ := h1 (by rw [h2.len]; omega)
  obtain ⟨cs, hcs, hR⟩ := h2.at_ k xs[k] (List.getElem?_eq_getElem hk)
  exact ⟨b, off, xs[k], cs, rfl, a1, a2, List.drop_eq_getElem_cons hk, List.getElem?_eq_getElem hk, hR, hc k cs hcs⟩
theorem Elem.AS.le (h : E.AS w lo hi A xs) : xs.length ≤ BIG := h.1
theorem Elem.AS.nil : E.AS w lo hi A [] := ⟨by simp, [], fun h => absurd h (by simp), .nil⟩
theorem Elem.OS.nil : E.OS w lo hi (.slice none 0 0) [] := ⟨[], ⟨World.ownsRow_nil w lo E.e E.sz, fun k hk => by simp [Value.ownBlock] at hk, by simp⟩, .nil, fun cs hcs => by cases hcs⟩
theorem Elem.OS.blkv (h : E.OS w lo hi v xs) : ∀ b, v.ownBlock = some b → lo ≤ b ∧ b < hi := by
  obtain ⟨_, ⟨h1, h2, _⟩, _⟩ := h
  exact fun b hb => ⟨(h1.lt b hb).1, h2 b hb⟩
end

/-- Slices as elements. -/
def Elem.slice {α : Type} (E : Elem α) (e : Nat) : Elem (List α) where
  e := e
  sz := 1
  O := fun w lo hi cs xs => ∃ v, cs = [v] ∧ E.OS w lo hi v xs
  R := fun w lo hi cs xs => ∃ v, cs = [v] ∧ E.RS w lo hi v xs
  len := fun ⟨v, h, _⟩ => by rw [h]; rfl
  read := fun ⟨v, h, k⟩ => ⟨v, h, k.read⟩
  sameO := fun ⟨v, h, k⟩ s => ⟨v, h, k.same s⟩
  sameR := fun ⟨v, h, k⟩ s => ⟨v, h, k.same s⟩
  monoO := fun ⟨v, h, k⟩ a b => ⟨v, h, k.mono a b⟩
  monoR := fun ⟨v, h, k⟩ a b => ⟨v, h, k.mono a b⟩
  blk := fun ⟨v, h, k⟩ b hb => by
    rw [h] at hb
    cases hv : v.ownBlock with
    | none => simp [blocks, hv] at hb
    | some g => simp [blocks, hv] at hb; subst hb; exact k.blkv _ hv

/-! ### A made slice that a loop fills element by element -/
theorem Fill.ext {w : World} {g e N j : Nat} {vs ws : List Value} (h : Fill w g e N vs j) (hl : vs.length = j) : Fill w g e N (vs ++ ws) j := by
  obtain ⟨cur, h1, h2, h3⟩ := h
  exact ⟨cur, h1, h2, fun i hi => by rw [h3 i hi, List.getElem?_append_left (by omega)]⟩

/-- k elements of xs lie in the made block; the call's world was w. -/
def ToRel {α : Type} (E : Elem α) (w : World) (xs : List α) (i : Value) (wr : World) : Prop :=
  ∃ (k : Nat) (css : List (List Value)), k ≤ xs.length ∧ i = .int .i64 k ∧ Below w.heap.size w wr ∧ w.heap.size + 1 ≤ wr.heap.size ∧
    Fill wr w.heap.size E.e (xs.length * E.sz) css.flatten (k * E.sz) ∧ E.OL wr (w.heap.size + 1) wr.heap.size css (xs.take k)

section
variable {α : Type} {E : Elem α} {w wr : World} {xs : List α}
theorem ToRel.start (cur : Array Value) (h : cur.size = xs.length * E.sz) : ToRel E w xs (.int .i64 0) (w.alloc (.cells cur E.e)) :=
  ⟨0, [], Nat.zero_le _, rfl, (Below.refl _ _).alloc (Nat.le_refl _) _, by simp, by simpa using Fill.new w E.e _ cur _ h, by simpa using Elem.OL.nil⟩
theorem ToRel.done {i : Nat} (hrel : ToRel E w xs (.int .i64 i) wr) (hi : ¬ i < xs.length) (hb : xs.length ≤ BIG) :
    E.OS wr w.heap.size wr.heap.size (.slice (some ⟨w.heap.size, 0, none⟩) xs.length xs.length) xs ∧ Below w.heap.size w wr := by
  obtain ⟨k, css, hk, he, hb1, hs, hf, ho⟩ := hrel
  have hik : (i : Int) = k := by injection he
  obtain rfl : k = xs.length := by omega
  rw [List.take_length] at ho
  have hl := flatten_len ho.read.sizes
  rw [ho.len] at hl
  refine ⟨⟨css, hf.own rfl hl (Nat.le_refl _) hb, ho.mono (by omega) (Nat.le_refl _), fun cs hcs b hbb hv => ?_⟩, hb1⟩
  have := (ho.blk cs hcs b hbb).1
  simp [Value.ownBlock] at hv
  omega
/-- One element more; the world behind the stores is w2, the element lies in blocks that are newer than wr's. -/
theorem ToRel.step {k : Nat} {css : List (List Value)} {w1 w2 : World} {cs : List Value} {x : α} (hk : k < xs.length) (hx : xs[k]? = some x)
    (hb : Below w.heap.size w w2) (hs : w.heap.size + 1 ≤ wr.heap.size)
    (hf : Fill w2 w.heap.size E.e (xs.length * E.sz) (css.flatten ++ cs) ((k + 1) * E.sz)) (ho : E.OL wr (w.heap.size + 1) wr.heap.size css (xs.take k))
    (hsame : Same (w.heap.size + 1) wr.heap.size wr w2) (hcs : E.O w2 wr.heap.size w2.heap.size cs x) : ToRel E w xs (.int .i64 ((k : Int) + 1)) w2 := by
  refine ⟨k + 1, css ++ [cs], by omega, by simp, hb, Nat.le_trans hs hsame.size, by simpa using hf, ?_⟩
  rw [List.take_add_one, hx]
  exact (ho.same hsame).snoc hcs hs hsame.size
/-- The cells of one element, stored one by one. -/
theorem ToRel.fill1 {k n g e : Nat} {css : List (List Value)} {w1 : World} {u : Value} (hf : Fill w1 g e (n * 1) css.flatten (k * 1)) (hl : css.flatten.length = k * 1) (hk : k < n) :
    Fill (w1.setCell ⟨g, k, none⟩ u) g e (n * 1) (css.flatten ++ [u]) ((k + 1) * 1) := by
  have h := (hf.ext (ws := [u]) hl).set (j := k * 1) (u := u) (by rw [List.getElem?_append_right (by omega), hl]; simp) (by omega)
  simpa using h
theorem Fill.push {w1 : World} {g e N j o : Nat} {vs : List Value} {u : Value} (hf : Fill w1 g e N vs j) (hl : vs.length = j) (hj : j < N) (ho : o = j) : Fill (w1.setCell ⟨g, o, none⟩ u) g e N (vs ++ [u]) (j + 1) := by
  subst ho
  exact (hf.ext (ws := [u]) hl).set (by rw [List.getElem?_append_right (by omega), hl]; simp) hj
theorem ToRel.fill2 {k n g e : Nat} {css : List (List Value)} {w1 : World} {a b : Value} (hf : Fill w1 g e (n * 2) css.flatten (k * 2)) (hl : css.flatten.length = k * 2) (hk : k < n) :
    Fill ((w1.setCell ⟨g, k * 2, none⟩ a).setCell ⟨g, k * 2 + 1, none⟩ b) g e (n * 2) (css.flatten ++ [a, b]) ((k + 1) * 2) := by
  have h := (hf.push (o := k * 2) (u := a) hl (by omega) rfl).push (o := k * 2 + 1) (u := b) (by simp [hl]) (by omega) rfl
  simpa [Nat.succ_mul] using h
theorem ToRel.flen {k : Nat} {css : List (List Value)} {lo hi : Nat} (ho : E.OL wr lo hi css (xs.take k)) (hk : k ≤ xs.length) : css.flatten.length = k * E.sz := by
  rw [flatten_len ho.read.sizes, ho.len, List.length_take, Nat.min_eq_left hk]
end

/-- The relation of a loop that compares: the rests are equal just if the wholes are. -/
def EqRel {α : Type} [DecidableEq α] (xs ys : List α) (w : World) (i : Value) (wr : World) : Prop :=
  ∃ (k n : Nat), k ≤ xs.length ∧ i = .int .i64 k ∧ wr = w.drewN n ∧ eqB (xs.drop k) (ys.drop k) = eqB xs ys

/-- .. where a round makes memory. -/
def EqRelB {α : Type} [DecidableEq α] (xs ys : List α) (w : World) (i : Value) (wr : World) : Prop :=
  ∃ (k : Nat), k ≤ xs.length ∧ i = .int .i64 k ∧ Below w.heap.size w wr ∧ eqB (xs.drop k) (ys.drop k) = eqB xs ys

/-! ### The elements of this program -/
def EInt : Elem Int := .flat 3 1 (fun n => [.int .i64 n]) (fun _ => rfl) (fun _ => rfl)
def EIntS : Elem (List Int) := EInt.slice 58
structure Step where
  kind : Int
  age : Int
  deriving DecidableEq
def EStep : Elem Step := .flat 68 2 (fun s => [.int .i64 s.kind, .int .i64 s.age]) (fun _ => rfl) (fun _ => rfl)

section
variable {w : World} {lo hi : Nat} {A : Option Addr} {k : Nat}
/-- The k-th of a slice of ints. -/
theorem AInt.at_ {xs : List Int} (h : EInt.AS w lo hi A xs) (hk : k < xs.length) : ∃ b off x, A = some ⟨b, off, none⟩ ∧ lo ≤ b ∧ b < hi ∧ xs.drop k = x :: xs.drop (k + 1) ∧ xs[k]? = some x ∧
    w.cell? ⟨b, off + k, none⟩ = some (.int .i64 x) := by
  obtain ⟨b, off, x, cs, rfl, h1, h2, h3, h4, rfl, hc⟩ := h.at_ hk
  exact ⟨b, off, x, rfl, h1, h2, h3, h4, by simpa [EInt, Elem.flat] using hc 0 _ rfl⟩
theorem AIntS.at_ {xs : List (List Int)} (h : EIntS.AS w lo hi A xs) (hk : k < xs.length) : ∃ b off x B c, A = some ⟨b, off, none⟩ ∧ lo ≤ b ∧ b < hi ∧ xs.drop k = x :: xs.drop (k + 1) ∧ xs[k]? = some x ∧
    w.cell? ⟨b, off + k, none⟩ = some (.slice B x.length c) ∧ x.length ≤ c ∧ c ≤ maxLen ∧ EInt.AS w lo hi B x := by
  obtain ⟨b, off, x, cs, rfl, h1, h2, h3, h4, ⟨v, rfl, B, c, rfl, h5, h6, h7⟩, hc⟩ := h.at_ hk
  exact ⟨b, off, x, B, c, rfl, h1, h2, h3, h4, by simpa [EIntS, Elem.slice] using hc 0 _ rfl, h5, h6, h7⟩
theorem AStep.at_ {xs : List Step} (h : EStep.AS w lo hi A xs) (hk : k < xs.length) : ∃ b off x, A = some ⟨b, off, none⟩ ∧ lo ≤ b ∧ b < hi ∧ xs.drop k = x :: xs.drop (k + 1) ∧ xs[k]? = some x ∧
    w.cell? ⟨b, off + k * 2, none⟩ = some (.int .i64 x.kind) ∧ w.cell? ⟨b, off + k * 2 + 1, none⟩ = some (.int .i64 x.age) := by
  obtain ⟨b, off, x, cs, rfl, h1, h2, h3, h4, rfl, hc⟩ := h.at_ hk
  exact ⟨b, off, x, rfl, h1, h2, h3, h4, by simpa [EStep, Elem.flat] using hc 0 _ rfl, by simpa [EStep, Elem.flat, Nat.add_assoc] using hc 1 _ rfl⟩
end
end Go.Proofs.Ytagmeeplgmocdaa
