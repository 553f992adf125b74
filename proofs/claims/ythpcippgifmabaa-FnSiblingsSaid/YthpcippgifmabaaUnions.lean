/-
  Unions: what makes one right.
-/
import Derived.Test.YthpcippgifmabaaConvFam
import Derived.Test.YthpcippgifmabaaSmall
namespace Go.Proofs.Ythpcippgifmabaa
set_option maxRecDepth 100000
open Go.RowKit

def yearsOk (u : Union) : Bool := decide (u.since ≤ 9999) && (decide (u.till = -1) || decide (u.since ≤ u.till ∧ u.till ≤ 9999))
def liveOk (u : Union) (a : Person) : Bool := decide (a.born ≤ u.since) && (decide (a.died = -1) || decide (u.since ≤ a.died ∧ u.till ≤ a.died))
def sameUnion (u v : Union) : Bool := decide (v.man = u.man ∧ v.woman = u.woman)
def noDup (ys : List Union) (k : Nat) (u : Union) : Bool := (ys.take k).all fun v => !(sameUnion u v)
def unionOf (xs : List Person) (ys : List Union) (k : Nat) (u : Union) : Bool :=
  if 0 ≤ u.man ∧ u.man < xs.length ∧ 0 ≤ u.woman ∧ u.woman < xs.length then match xs[u.man.toNat]?, xs[u.woman.toNat]? with
    | some a, some b => decide (a.sex = 1 ∧ b.sex = 2) && yearsOk u && liveOk u a && liveOk u b && noDup ys k u
    | _, _ => false
  else false
def unionOk (xs : List Person) (ys : List Union) (k : Nat) : Bool := match ys[k]? with
  | none => false
  | some u => unionOf xs ys k u
section
variable {xs : List Person} {ys : List Union} {k : Nat} {u : Union} {a b : Person}
theorem unionOk_of (h : ys[k]? = some u) : unionOk xs ys k = unionOf xs ys k u := by rw [unionOk, h]
theorem unionOf_out (h : ¬ (0 ≤ u.man ∧ u.man < xs.length ∧ 0 ≤ u.woman ∧ u.woman < xs.length)) : unionOf xs ys k u = false := if_neg h
theorem unionOf_in {m f : Nat} (hm : u.man = m) (hf : u.woman = f) (ha : xs[m]? = some a) (hb : xs[f]? = some b) : unionOf xs ys k u = (decide (a.sex = 1 ∧ b.sex = 2) && yearsOk u && liveOk u a && liveOk u b && noDup ys k u) := by
  have h1 := (List.getElem?_eq_some_iff.1 ha).1
  have h2 := (List.getElem?_eq_some_iff.1 hb).1
  rw [unionOf, if_pos (by omega), hm, hf]
  simp [ha, hb]
theorem noDup_step {j : Nat} {v : Union} (h : ys[j]? = some v) (hs : sameUnion u v = false) (he : noDup ys j u = true) : noDup ys (j + 1) u = true := by
  simp only [noDup] at he ⊢
  rw [List.take_add_one, h, List.all_append, he]; simp [hs]
theorem noDup_found {j : Nat} {v : Union} (h : ys[j]? = some v) (hs : sameUnion u v = true) (hj : j < k) : noDup ys k u = false := by
  rw [noDup, List.all_eq_false]
  exact ⟨v, List.mem_of_getElem? (i := j) (by rw [List.getElem?_take, if_pos hj, h]), by simp [hs]⟩
end
theorem past1 {w : World} {p : Addr} (h : p.block < w.heap.size) (o : Obj) : (w.alloc o).cell? p = w.cell? p := World.cell?_of_block (Below.heap_alloc w o p.block h)
theorem past2 {w : World} {p : Addr} (h : p.block < w.heap.size) (o o' : Obj) : ((w.alloc o).alloc o').cell? p = w.cell? p := (past1 (by simp; omega) o').trans (past1 h o)
def UFLive (u : Union) (a b : Person) (w : World) (g : Nat) (cs : Array Value) (i : Value) (wr : World) : Prop :=
  ∃ j : Nat, j ≤ 2 ∧ i = .int .i64 j ∧ Below w.heap.size w wr ∧ Blk wr g 48 cs ∧ (1 ≤ j → liveOk u a = true) ∧ (2 ≤ j → liveOk u b = true)
def UFDup (ys : List Union) (u : Union) (k : Nat) (w : World) (i : Value) (wr : World) : Prop :=
  ∃ j : Nat, j ≤ k ∧ i = .int .i64 j ∧ Below w.heap.size w wr ∧ noDup ys j u = true
end Go.Proofs.Ythpcippgifmabaa
