/-
  Sizes, copies and equality of slices of ints and of slices of such slices: what each function returns and what it leaves of memory.
  Sizes, copies and equality of relations.
  Marks: each number of a relation's rows is overwritten by a number of its own, and asked for again.
  Tables of truth values, which the reference makes.
  Relations: validity, in the reference and in the program; membership in a row.
  From a table of truth values to a relation; the program's own way of building a relation.
  The program's way of building a relation from a rule; the relations of nothing and of each number with itself.
  Square tables: reading and writing one place; the relations of nothing and of each number with itself.
  The relation of nothing and that of each number with itself.
  The table of a valid relation; whether two numbers are related.
  Equality of relations.
  Equality of relations, continued.
-/
import Derived.Test.YthpcippgifmabaaBase
import Derived.Test.YthpcippgifmabaaSmall

/-! ## ConvInts -/
namespace Go.Proofs.Ythpcippgifmabaa
set_option maxRecDepth 100000
open Go.RowKit

theorem int_info : (Try.prog.info? 3).map (fun i => (i.zero, i.size, i.bytes)) = some (some (.int .i64 0), 1, 8) := by kernel_rfl
theorem ints_info : (Try.prog.info? 29).map (fun i => (i.zero, i.size, i.bytes)) = some (some (.slice none 0 0), 1, 24) := by kernel_rfl

def tot : List (List Int) → Nat
  | [] => 0
  | x :: r => x.length + tot r

theorem le_tot {x : List Int} {xs : List (List Int)} (h : x ∈ xs) : x.length ≤ tot xs := by
  induction xs with
  | nil => cases h
  | cons y r ih =>
    simp only [tot]
    rcases List.mem_cons.1 h with rfl | h
    · omega
    · have := ih h; omega
def SzRel (xss : List (List Int)) (left0 : Int) (l i : Value) : Prop :=
  ∃ (k : Nat) (left : Int), k ≤ xss.length ∧ i = .int .i64 k ∧ l = .int .i64 left ∧ 0 ≤ left ∧ left ≤ 1048576 ∧ left - tot (xss.drop k) = left0 - xss.length - tot xss
theorem eqIntS_any (A B : Option Addr) (c d lo hi lo' hi' : Nat) (xs ys : List Int) (w : World) (h : EInt.AS w lo hi A xs) (h' : EInt.AS w lo' hi' B ys) :
    Calls Try.prog 18 #[.slice A xs.length c, .slice B ys.length d] w fun e w' => ∃ n, e = .returned (.bool (eqB xs ys)) ∧ w.drewN n = w' := by
  have hx := h.le
  unfold BIG at hx
  by_cases hn : xs.length = ys.length
  · have n1 : xs.length ≤ ys.length := by omega
    have n2 : ys.length ≤ xs.length := by omega
    clear hn
    go_enter Try.func18, Try.ntmps18
    go_wp2
    go_loopw [5] (fun i wr => EqRel xs ys w i wr) (fun i _ => xs.length - (intOf i).toNat)
    case atStart => exact ⟨0, 0, Nat.zero_le _, rfl, rfl, by simp⟩
    case round =>
      obtain ⟨k, n, hk, rfl, hw, he⟩ := hrel
      have HE := Lib.hid he; clear he
      have h := hw ▸ h.drewN n; have h' := hw ▸ h'.drewN n
      have HW := Lib.hid hw; clear hw
      by_cases hlt : k < xs.length
      · obtain ⟨b1, o1, x, rfl, _, _, hd1, _, hc1⟩ := AInt.at_ h hlt
        obtain ⟨b2, o2, y, rfl, _, _, hd2, _, hc2⟩ := AInt.at_ h' (by omega : k < ys.length)
        have HD1 := Lib.hid hd1; have HD2 := Lib.hid hd2; clear hd1 hd2
        have q1 : (0 : Int) ≤ (k : Int) := by omega
        have q2 : (k : Int) < (xs.length : Int) := by omega
        have q3 : (k : Int) < (ys.length : Int) := by omega
        go_wp2
        go_quiet (fail)
        go_wp2
        · have hxy : (x != y) = true := by assumption
          go_ret
          exact ⟨_, ret_bool (eqB_no HE.out HD1.out HD2.out (eqB_int_ne hxy)), by rw [HW.out, World.drewN_drewN]⟩
        · have hxy : (x != y) = false := by assumption
          exact ⟨⟨k + 1, _, by omega, by go_num, by rw [HW.out, World.drewN_drewN], eqB_yes HE.out HD1.out HD2.out (eqB_int_eq hxy)⟩, by simp [intOf]; omega⟩
      · go_wp2
        go_ret
        exact ⟨_, ret_bool (eqB_end HE.out (by omega) (by omega)), HW.out.symm⟩
  · go_enter Try.func18, Try.ntmps18
    go_wp2
    go_ret
    exact ⟨0, ret_bool (eqB_len hn).symm, rfl⟩

end Go.Proofs.Ythpcippgifmabaa

/-! ## ConvRel -/
namespace Go.Proofs.Ythpcippgifmabaa
set_option maxRecDepth 100000
open Go.RowKit

structure Relation where
  size : Int
  rows : List (List Int)
  deriving DecidableEq

end Go.Proofs.Ythpcippgifmabaa

/-! ## MarkRel -/
namespace Go.Proofs.Ythpcippgifmabaa
set_option maxRecDepth 100000
open Go.RowKit

def marks (k : Int) (n : Nat) : List Int := (List.range n).map fun (i : Nat) => k + (i : Int)
theorem marks_len (k : Int) (n : Nat) : (marks k n).length = n := by simp [marks]
theorem marks_succ (k : Int) (n : Nat) : marks k (n + 1) = marks k n ++ [k + n] := by simp [marks, List.range_succ]
def ints (xs : List Int) : List Value := xs.flatMap fun n => [.int .i64 n]
theorem ints_len (xs : List Int) : (ints xs).length = xs.length := by induction xs <;> simp_all [ints]
theorem ints_at (xs : List Int) (i : Nat) : (ints xs)[i]? = (xs[i]?).map (Value.int .i64) := by
  have : ints xs = xs.map (Value.int .i64) := by induction xs <;> simp_all [ints]
  rw [this, List.getElem?_map]
theorem ints_set (xs : List Int) (i : Nat) (y : Int) : (ints xs).set i (.int .i64 y) = ints (xs.set i y) := by
  have h : ∀ xs, ints xs = xs.map (Value.int .i64) := fun xs => by induction xs <;> simp_all [ints]
  rw [h, h, List.map_set]
theorem EInt_os {w : World} {lo hi : Nat} {v : Value} {xs : List Int} : EInt.OS w lo hi v xs ↔ OSl w lo hi 3 1 v xs.length (ints xs) := flat_os
theorem set_mid {xs : List Int} {k : Int} {i : Nat} (h : i < xs.length) : (marks k i ++ xs.drop i).set i (k + i) = marks k (i + 1) ++ xs.drop (i + 1) := by
  rw [List.set_append_right _ _ (by rw [marks_len]; exact Nat.le_refl _), marks_len, Nat.sub_self, List.drop_eq_getElem_cons h, List.set_cons_zero, marks_succ]; simp

def MarkRel (w : World) (lo hi : Nat) (v : Value) (xs : List Int) (k : Int) (kk i : Value) (wr : World) : Prop :=
  ∃ j : Nat, j ≤ xs.length ∧ i = .int .i64 j ∧ kk = .int .i64 (k + j) ∧ EInt.OS wr lo hi v (marks k j ++ xs.drop j) ∧ Only (fun b => v.ownBlock = some b) w wr ∧ wr.heap.size = w.heap.size

theorem markIntS_any (A : Option Addr) (c lo hi : Nat) (xs : List Int) (k : Int) (w : World) (h : EInt.OS w lo hi (.slice A xs.length c) xs) (h0 : 0 ≤ k) (h1 : k + xs.length ≤ 4611686018427387904) :
    Calls Try.prog 21 #[.slice A xs.length c, .int .i64 k] w fun e w' => e = .returned (.int .i64 (k + xs.length)) ∧ EInt.OS w' lo hi (.slice A xs.length c) (marks k xs.length) ∧
      Only (fun b => (Value.slice A xs.length c).ownBlock = some b) w w' ∧ w'.heap.size = w.heap.size := by
  have hx := h.read.as.le
  unfold BIG at hx
  go_enter Try.func21, Try.ntmps21
  go_wp2
  go_loopw [1, 5] (fun kk i wr => MarkRel w lo hi (.slice A xs.length c) xs k kk i wr) (fun _ i _ => xs.length - (intOf i).toNat)
  case atStart => exact ⟨0, Nat.zero_le _, rfl, by simp, by simpa [marks] using h, Only.refl _ _, rfl⟩
  case round =>
    obtain ⟨j, hj, rfl, rfl, ho, hch, hsz⟩ := hrel
    have HS := Lib.hid hsz; clear hsz
    by_cases hlt : j < xs.length
    · have hlen : (marks k j ++ xs.drop j).length = xs.length := by rw [List.length_append, marks_len, List.length_drop]; omega
      have ho' := EInt_os.1 ho
      rw [hlen] at ho'
      obtain ⟨g, c', hv, hg1, hg2, hg3⟩ := ho'.form (by omega)
      injection hv with hv _ hc
      subst hv; subst hc
      have hcell := fun u hu => ho'.cell (j := j) (u := u) hu
      have hx' : (ints (marks k j ++ xs.drop j))[j]? = some (.int .i64 (xs.getD j 0)) := by
        rw [ints_at, List.getElem?_append_right (by rw [marks_len]; exact Nat.le_refl _), marks_len, Nat.sub_self, List.getElem?_drop]; simp [List.getD, hlt]
      obtain ⟨hc1, hc2⟩ := hcell _ hx'
      have HL := Lib.hid hlen; clear hlen hcell hx'
      go_wp2
      refine ⟨⟨j + 1, by omega, by go_num, by go_num, ?_, hch.setCell (a := ⟨g, j, none⟩) rfl _, by simp [World.setCell, HS.out]⟩, by simp [intOf]; omega⟩
      have h2 := ho'.set (j := j) (u := .int .i64 (k + j)) (by rw [ints_len, HL.out]; exact hlt)
      rw [ints_set, set_mid hlt] at h2
      refine EInt_os.2 ?_
      rw [show (marks k (j + 1) ++ xs.drop (j + 1)).length = xs.length from by rw [List.length_append, marks_len, List.length_drop]; omega]
      exact h2
    · obtain rfl : j = xs.length := by omega
      go_wp2
      go_ret
      exact ⟨rfl, by simpa using ho, hch, HS.out⟩

def HeldRel (xs : List Int) (k : Int) (kk i : Value) : Prop := ∃ j : Nat, j ≤ xs.length ∧ i = .int .i64 j ∧ kk = .int .i64 (k + j)
theorem heldIntS_any (A : Option Addr) (c lo hi n : Nat) (k : Int) (w : World) (h : EInt.AS w lo hi A (marks k n)) (h0 : 0 ≤ k) (h1 : k + n ≤ 4611686018427387904) :
    Calls Try.prog 22 #[.slice A n c, .int .i64 k] w fun e w' => e = .returned (.int .i64 (k + n)) ∧ w = w' := by
  have hx := h.le
  rw [marks_len] at hx
  unfold BIG at hx
  go_enter Try.func22, Try.ntmps22
  go_wp2
  go_loop [1, 5] (fun kk i => HeldRel (marks k n) k kk i) (fun _ i => n - (intOf i).toNat)
  case atStart => exact ⟨0, Nat.zero_le _, rfl, by simp⟩
  case round =>
    obtain ⟨j, hj, rfl, rfl⟩ := hrel
    rw [marks_len] at hj
    by_cases hlt : j < n
    · obtain ⟨b, off, x, rfl, _, _, _, hxk, hc⟩ := AInt.at_ h (by rw [marks_len]; exact hlt)
      obtain rfl : x = k + j := by simp [marks, hlt] at hxk; exact hxk.symm
      clear hxk
      go_wp2
      exact ⟨⟨j + 1, by rw [marks_len]; omega, by go_num, by go_num⟩, by simp [intOf]; omega⟩
    · obtain rfl : j = n := by omega
      go_wp2
      go_ret
      exact ⟨rfl, rfl⟩

def marksSS (k : Int) : List (List Int) → List (List Int)
  | [] => []
  | x :: r => marks k x.length :: marksSS (k + x.length) r
theorem marksSS_len (xs : List (List Int)) : ∀ k, (marksSS k xs).length = xs.length := by induction xs <;> simp_all [marksSS]
theorem marksSS_at {xs : List (List Int)} : ∀ {k : Int} {j : Nat} {x : List Int}, xs[j]? = some x → (marksSS k xs)[j]? = some (marks (k + tot (xs.take j)) x.length) := by
  induction xs with
  | nil => intro k j x h; simp at h
  | cons y r ih =>
    intro k j x h
    cases j with
    | zero => simp at h; subst h; simp [marksSS, tot]
    | succ j => simp at h; simp only [marksSS, List.getElem?_cons_succ, ih h, List.take_succ_cons, tot]; congr 2; omega
theorem tot_take_succ {xs : List (List Int)} : ∀ {j : Nat} {x : List Int}, xs[j]? = some x → tot (xs.take (j + 1)) = tot (xs.take j) + x.length := by
  induction xs with
  | nil => intro j x h; simp at h
  | cons y r ih =>
    intro j x h
    cases j with
    | zero => simp at h; subst h; simp [tot]
    | succ j => simp at h; simp only [List.take_succ_cons, tot, ih h]; omega
theorem tot_take_le (xs : List (List Int)) : ∀ j, tot (xs.take j) ≤ tot xs := by
  induction xs with
  | nil => intro j; simp [tot]
  | cons y r ih =>
    intro j
    cases j with
    | zero => simp [tot]
    | succ j => simp only [List.take_succ_cons, tot]; have := ih j; omega
theorem tot_marksSS (xs : List (List Int)) : ∀ k, tot (marksSS k xs) = tot xs := by
  induction xs with
  | nil => intro k; rfl
  | cons y r ih => intro k; simp only [marksSS, tot, marks_len, ih]

/-- The first j rows are marked, the others as they were. -/
def Marked (k : Int) (xs ys : List (List Int)) (j : Nat) : Prop := ys.length = xs.length ∧ (∀ i, i < j → ys[i]? = (marksSS k xs)[i]?) ∧ ∀ i, j ≤ i → ys[i]? = xs[i]?
theorem Marked.step {k : Int} {xs ys : List (List Int)} {j : Nat} {x : List Int} (h : Marked k xs ys j) (hx : xs[j]? = some x) : Marked k xs (ys.set j (marks (k + tot (xs.take j)) x.length)) (j + 1) := by
  obtain ⟨h1, h2, h3⟩ := h
  have hj : j < ys.length := by rw [h1]; exact (List.getElem?_eq_some_iff.1 hx).1
  refine ⟨by simpa using h1, fun i hi => ?_, fun i hi => ?_⟩
  · by_cases hij : j = i
    · subst hij; rw [List.getElem?_set_self hj, marksSS_at hx]
    · rw [List.getElem?_set_ne hij]; exact h2 i (by omega)
  · rw [List.getElem?_set_ne (by omega)]; exact h3 i (by omega)
theorem Marked.done {k : Int} {xs ys : List (List Int)} {j : Nat} (h : Marked k xs ys j) (hj : xs.length ≤ j) : ys = marksSS k xs := by
  obtain ⟨h1, h2, h3⟩ := h
  apply List.ext_getElem?
  intro i
  by_cases hi : i < xs.length
  · exact h2 i (by omega)
  · rw [List.getElem?_eq_none (by omega), List.getElem?_eq_none (by rw [marksSS_len]; omega)]

def MarkSSRel (w : World) (lo hi : Nat) (v : Value) (xs : List (List Int)) (k : Int) (kk i : Value) (wr : World) : Prop :=
  ∃ (j : Nat) (ys : List (List Int)), j ≤ xs.length ∧ i = .int .i64 j ∧ kk = .int .i64 (k + tot (xs.take j)) ∧ EIntS.OS wr lo hi v ys ∧ Marked k xs ys j ∧ Chg lo hi w wr ∧ wr.heap.size = w.heap.size

def HeldSSRel (xs : List (List Int)) (k : Int) (kk i : Value) (w wr : World) : Prop := ∃ j : Nat, j ≤ xs.length ∧ i = .int .i64 j ∧ kk = .int .i64 (k + tot (xs.take j)) ∧ w = wr
end Go.Proofs.Ythpcippgifmabaa

/-! ## Grid -/
namespace Go.Proofs.Ythpcippgifmabaa
set_option maxRecDepth 100000
open Go.RowKit

theorem bool_info : (Try.prog.info? 4).map (fun i => (i.zero, i.size, i.bytes)) = some (some (.bool false), 1, 1) := by kernel_rfl
theorem tyIntS : SlTy EInt 29 8 := SlTy.mk' Try.underlying29 int_info rfl (by decide)
/-- A slice that make has just laid. -/
theorem made_os {α : Type} {e sz : Nat} {f : α → List Value} {hl : ∀ x, (f x).length = sz} {hb : ∀ x, blocks (f x) = []} (w : World) (z : α) (n : Nat) (cur : Array Value) (hc : cur.toList = (List.replicate n z).flatMap f) (hn : n ≤ BIG) :
    (Elem.flat e sz f hl hb).OS (w.alloc (.cells cur e)) w.heap.size (w.alloc (.cells cur e)).heap.size (.slice (some ⟨w.heap.size, 0, none⟩) n n) (List.replicate n z) := by
  rw [flat_os]
  have hlen : ∀ xs : List α, (xs.flatMap f).length = xs.length * sz := fun xs => by
    induction xs with
    | nil => simp
    | cons x r ih => rw [List.flatMap_cons, List.length_append, ih, hl, List.length_cons, Nat.succ_mul]; omega
  refine ⟨⟨by rw [hlen], .inr ⟨w.heap.size, n, cur, by simp, Nat.le_refl _, heap_alloc_new w _, by simp, by unfold BIG at hn; simp only [maxLen]; omega, ?_, ?_⟩⟩, fun k hk => by simp [Value.ownBlock] at hk; simp; omega, by simpa using hn⟩
  · rw [← Array.length_toList, hc, hlen]; simp
  · rw [hc, List.length_replicate, List.take_of_length_le]; rw [hlen]; simp
theorem made_bools (n : Nat) : (madeCells (Value.bool false).cells (n * 1)).toList = (List.replicate n false).flatMap fun b => [Value.bool b] := by
  have : ∀ n : Nat, ((List.replicate n false).flatMap fun b => [Value.bool b]) = List.replicate n (Value.bool false) := fun n => by induction n <;> simp_all [List.replicate_succ]
  rw [this, Nat.mul_one]
  apply List.ext_getElem?
  intro i
  by_cases hi : i < n
  · simp [madeCells, Value.cells, hi, Nat.mod_one]
  · simp [madeCells, Value.cells, hi]

theorem made_one (n : Nat) (w : World) (hn : n ≤ 40) : EBool.OS (w.alloc (.cells (madeCells #[Value.bool false] n) 4)) w.heap.size (w.heap.size + 1) (.slice (some ⟨w.heap.size, 0, none⟩) n n) (List.replicate n false) := by
  have := made_os (e := 4) (sz := 1) (f := fun b => [Value.bool b]) (hl := fun _ => rfl) (hb := fun _ => rfl) w false n (madeCells #[Value.bool false] n) (by simpa [Value.cells] using made_bools n) (by unfold BIG; omega)
  rw [World.size_alloc] at this
  exact this
end Go.Proofs.Ythpcippgifmabaa

/-! ## Rel -/
namespace Go.Proofs.Ythpcippgifmabaa
set_option maxRecDepth 100000
open Go.RowKit

def rowOk (n : Int) : Int → List Int → Bool
  | _, [] => true
  | last, b :: r => if b ≤ last ∨ n ≤ b then false else rowOk n b r
theorem rowOk_no {n last last0 b : Int} {xs r : List Int} {k : Nat} (he : rowOk n last (xs.drop k) = rowOk n last0 xs) (h1 : xs.drop k = b :: r) (h : b ≤ last ∨ n ≤ b) : rowOk n last0 xs = false := by
  rw [← he, h1, rowOk, if_pos h]
theorem rowOk_yes {n last last0 b : Int} {xs r : List Int} {k : Nat} (he : rowOk n last (xs.drop k) = rowOk n last0 xs) (h1 : xs.drop k = b :: r) (h : last < b) (h' : b < n) : rowOk n b r = rowOk n last0 xs := by
  rw [← he, h1, rowOk, if_neg (by omega)]
theorem rowOk_end {n last last0 : Int} {xs : List Int} {k : Nat} (he : rowOk n last (xs.drop k) = rowOk n last0 xs) (h1 : xs.length ≤ k) : rowOk n last0 xs = true := by
  rw [← he, List.drop_eq_nil_of_le h1]; rfl
def rowsOk (n : Int) : List (List Int) → Bool
  | [] => true
  | x :: r => rowOk n (-1) x && rowsOk n r
theorem rowsOk_no {n : Int} {xs r : List (List Int)} {x : List Int} {k : Nat} (he : rowsOk n (xs.drop k) = rowsOk n xs) (h1 : xs.drop k = x :: r) (h : rowOk n (-1) x = false) : rowsOk n xs = false := by
  rw [← he, h1, rowsOk, h]; rfl
theorem rowsOk_yes {n : Int} {xs r : List (List Int)} {x : List Int} {k : Nat} (he : rowsOk n (xs.drop k) = rowsOk n xs) (h1 : xs.drop k = x :: r) (h : rowOk n (-1) x = true) : rowsOk n r = rowsOk n xs := by
  rw [← he, h1, rowsOk, h]; rfl
theorem rowsOk_end {n : Int} {xs : List (List Int)} {k : Nat} (he : rowsOk n (xs.drop k) = rowsOk n xs) (h1 : xs.length ≤ k) : rowsOk n xs = true := by
  rw [← he, List.drop_eq_nil_of_le h1]; rfl
def relOk (r : Relation) : Bool := decide (0 ≤ r.size ∧ r.size ≤ 40 ∧ (r.rows.length : Int) = r.size) && rowsOk r.size r.rows

theorem relOk_no {s : Int} {xs : List (List Int)} (h : ¬ (0 ≤ s ∧ s ≤ 40 ∧ (xs.length : Int) = s)) : false = relOk ⟨s, xs⟩ := by
  simp only [relOk, h, decide_false, Bool.false_and]
def RowRel (m : Int) (xs : List Int) (l i : Value) : Prop :=
  ∃ (k : Nat) (last : Int), k ≤ xs.length ∧ i = .int .i64 k ∧ l = .int .i64 last ∧ rowOk m last (xs.drop k) = rowOk m (-1) xs
def RowsRel (n : Int) (xs : List (List Int)) (i : Value) (w wr : World) : Prop := ∃ k : Nat, k ≤ xs.length ∧ i = .int .i64 k ∧ w = wr ∧ rowsOk n (xs.drop k) = rowsOk n xs
/-- Before the k-th of a row stands -1 or the number before. -/
def lastOf (xs : List Int) (k : Nat) : Int := if k = 0 then -1 else xs.getD (k - 1) 0
def RowRel2 (m : Int) (xs : List Int) (i : Value) (w wr : World) : Prop :=
  ∃ (k : Nat), k ≤ xs.length ∧ i = .int .i64 k ∧ w = wr ∧ -1 ≤ lastOf xs k ∧ rowOk m (lastOf xs k) (xs.drop k) = rowOk m (-1) xs
/-! ### Membership, equality of rows -/
def hasB (xs : List Int) (n : Int) : Bool := decide (n ∈ xs)
theorem hasB_cons (x n : Int) (r : List Int) : hasB (x :: r) n = (x == n || hasB r n) := by
  rw [Bool.eq_iff_iff]; simp only [hasB, List.mem_cons, decide_eq_true_eq, Bool.or_eq_true, beq_iff_eq]
  exact ⟨fun h => h.imp_left Eq.symm, fun h => h.imp_left Eq.symm⟩
def HasRel (xs : List Int) (n : Int) (i : Value) (w wr : World) : Prop := ∃ k : Nat, k ≤ xs.length ∧ i = .int .i64 k ∧ w = wr ∧ hasB (xs.drop k) n = hasB xs n
def bothOk (r s : Relation) : Bool := relOk r && relOk s && decide (r.size = s.size)
end Go.Proofs.Ythpcippgifmabaa

/-! ## Grid2 -/
namespace Go.Proofs.Ythpcippgifmabaa
set_option maxRecDepth 100000
open Go.RowKit

/-- The marked numbers below k. -/
def idxTo (q : Nat → Bool) (k : Nat) : List Int := ((List.range k).filter q).map fun (b : Nat) => (b : Int)
theorem idxTo_succ (q : Nat → Bool) (k : Nat) : idxTo q (k + 1) = if q k = true then idxTo q k ++ [(k : Int)] else idxTo q k := by
  unfold idxTo
  rw [List.range_succ, List.filter_append, List.map_append]
  by_cases h : q k = true <;> simp [h]
theorem idxTo_len (q : Nat → Bool) (k : Nat) : (idxTo q k).length ≤ k := by
  unfold idxTo
  rw [List.length_map]
  have := List.length_filter_le q (List.range k)
  simpa using this
/-- The relation of a table, and of a rule. -/
def ofM (g : List (List Bool)) : List (List Int) := g.map fun l => idxTo (fun b => l.getD b false) l.length
def relTo (n : Nat) (p : Nat → Nat → Bool) (k : Nat) : List (List Int) := (List.range k).map fun a => idxTo (p a) n
def relM (n : Nat) (p : Nat → Nat → Bool) : List (List Int) := relTo n p n
theorem relTo_succ (n : Nat) (p : Nat → Nat → Bool) (k : Nat) : relTo n p (k + 1) = relTo n p k ++ [idxTo (p k) n] := by
  simp [relTo, List.range_succ]
theorem relTo_len (n : Nat) (p : Nat → Nat → Bool) (k : Nat) : (relTo n p k).length = k := by simp [relTo]

def IdxRel (q : Nat → Bool) (n : Nat) (wo : World) (v i : Value) (wr : World) : Prop :=
  ∃ (k : Nat) (A : Option Addr) (c : Nat), k ≤ n ∧ i = .int .i64 k ∧ v = .slice A (idxTo q k).length c ∧ EInt.OS wr wo.heap.size wr.heap.size (.slice A (idxTo q k).length c) (idxTo q k) ∧ Below wo.heap.size wo wr

end Go.Proofs.Ythpcippgifmabaa

/-! ## Related -/
namespace Go.Proofs.Ythpcippgifmabaa
set_option maxRecDepth 100000
open Go.RowKit

/-- A rule between two numbers, as a function value of the program: in every world in which the blocks from lo to hi are as in w it answers p and makes memory at most. -/
structure Rule2 (w : World) (n lo hi F : Nat) (first cap : Array Value) (p : Nat → Nat → Bool) : Prop where
  enter : ∀ (args : Array Value) (w' : World), (callFunc F args).run Try.prog w' = .ok (.enter F args) w'
  ans : ∀ (a b : Nat) (w' : World), a < n → b < n → Same lo hi w w' → Calls Try.prog F (first ++ (#[.int .i64 a, .int .i64 b] ++ cap)) w' fun e w'' => e = .returned (.bool (p a b)) ∧ Below w'.heap.size w' w''

end Go.Proofs.Ythpcippgifmabaa

/-! ## Mat -/
namespace Go.Proofs.Ythpcippgifmabaa
set_option maxRecDepth 100000
open Go.RowKit

def mat (n : Nat) (p : Nat → Nat → Bool) : List (List Bool) := (List.range n).map fun a => (List.range n).map (p a)
def upd (p : Nat → Nat → Bool) (a b : Nat) (x : Bool) : Nat → Nat → Bool := fun i j => if i = a ∧ j = b then x else p i j
theorem mat_len (n : Nat) (p : Nat → Nat → Bool) : (mat n p).length = n := by simp [mat]
theorem mat_at {n a : Nat} {p : Nat → Nat → Bool} (ha : a < n) : (mat n p)[a]? = some ((List.range n).map (p a)) := by simp [mat, ha]
theorem mat_row {n : Nat} {p : Nat → Nat → Bool} : ∀ r ∈ mat n p, r.length ≤ n := by
  intro r hr
  obtain ⟨a, _, rfl⟩ := List.mem_map.1 hr
  simp
theorem mat_congr {n : Nat} {p q : Nat → Nat → Bool} (h : ∀ a b, a < n → b < n → p a b = q a b) : mat n p = mat n q := by
  unfold mat
  refine List.map_congr_left fun a ha => List.map_congr_left fun b hb => h a b (by simpa using ha) (by simpa using hb)
theorem mat_blank (n : Nat) : List.replicate n (List.replicate n false) = mat n fun _ _ => false := by
  unfold mat
  apply List.ext_getElem?
  intro i
  by_cases hi : i < n
  · simp only [List.getElem?_replicate, hi, if_true, List.getElem?_map, List.getElem?_range hi, Option.map_some]
    congr 1
    apply List.ext_getElem?
    intro j
    by_cases hj : j < n <;> simp [hj]
  · simp [hi]
theorem idxTo_congr {q q' : Nat → Bool} {k : Nat} (h : ∀ b, b < k → q b = q' b) : idxTo q k = idxTo q' k := by
  unfold idxTo
  rw [List.filter_congr fun b hb => h b (by simpa using hb)]
theorem relM_congr {n : Nat} {p q : Nat → Nat → Bool} (h : ∀ a b, a < n → b < n → p a b = q a b) : relM n p = relM n q := by
  unfold relM relTo
  exact List.map_congr_left fun a ha => idxTo_congr fun b hb => h a b (by simpa using ha) hb
theorem ofM_mat (n : Nat) (p : Nat → Nat → Bool) : ofM (mat n p) = relM n p := by
  unfold ofM mat relM relTo
  rw [List.map_map]
  refine List.map_congr_left fun a ha => ?_
  simp only [Function.comp, List.length_map, List.length_range]
  exact idxTo_congr fun b hb => by simp [List.getD, hb]
theorem mat_upd {n a b : Nat} {p : Nat → Nat → Bool} {x : Bool} (ha : a < n) (hb : b < n) : (mat n p).set a (((List.range n).map (p a)).set b x) = mat n (upd p a b x) := by
  apply List.ext_getElem?
  intro i
  by_cases hi : i < n
  · rw [mat_at hi]
    by_cases hia : a = i
    · subst hia
      rw [List.getElem?_set_self (by rw [mat_len]; exact ha)]
      congr 1
      apply List.ext_getElem?
      intro j
      by_cases hj : j < n
      · by_cases hjb : b = j
        · subst hjb; rw [List.getElem?_set_self (by simpa using hb)]; simp [upd, hj]
        · rw [List.getElem?_set_ne hjb]; simp [upd, hj, Ne.symm hjb]
      · rw [List.getElem?_eq_none (by simp; omega), List.getElem?_eq_none (by simp; omega)]
    · rw [List.getElem?_set_ne hia, mat_at hi]
      congr 1
      exact List.map_congr_left fun j _ => by simp [upd, Ne.symm hia]
  · rw [List.getElem?_eq_none (by simp [mat_len]; omega), List.getElem?_eq_none (by simp [mat_len]; omega)]

theorem EBool_os {w : World} {lo hi : Nat} {v : Value} {xs : List Bool} : EBool.OS w lo hi v xs ↔ OSl w lo hi 4 1 v xs.length (xs.flatMap fun b => [.bool b]) := flat_os
theorem bools_len (xs : List Bool) : (xs.flatMap fun b => [Value.bool b]).length = xs.length := by induction xs <;> simp_all
theorem bools_map (xs : List Bool) : (xs.flatMap fun b => [Value.bool b]) = xs.map Value.bool := by induction xs <;> simp_all

def zeroRel : Relation := ⟨0, []⟩
def emptyM (n : Int) : Relation := if 0 ≤ n ∧ n ≤ 40 then ⟨n, relM n.toNat fun _ _ => false⟩ else zeroRel
def identM (n : Int) : Relation := if 0 ≤ n ∧ n ≤ 40 then ⟨n, relM n.toNat fun a b => a == b⟩ else zeroRel
theorem relM_len (n : Nat) (p : Nat → Nat → Bool) : (relM n p).length = n := by simp [relM, relTo]
end Go.Proofs.Ythpcippgifmabaa

/-! ## Rel2 -/
namespace Go.Proofs.Ythpcippgifmabaa
set_option maxRecDepth 100000
open Go.RowKit

theorem emptyM_in {m : Nat} (h : m ≤ 40) : emptyM (m : Int) = ⟨(m : Int), relM m fun _ _ => false⟩ := by simp [emptyM]; omega
theorem identM_in {m : Nat} (h : m ≤ 40) : identM (m : Int) = ⟨(m : Int), relM m fun a b => a == b⟩ := by simp [identM]; omega
theorem emptyM_out {n : Int} (h : ¬ (0 ≤ n ∧ n ≤ 40)) : emptyM n = zeroRel := by simp only [emptyM, h, if_false]
theorem identM_out {n : Int} (h : ¬ (0 ≤ n ∧ n ≤ 40)) : identM n = zeroRel := by simp only [identM, h, if_false]

/-- What a function leaves that returns a relation of its own making. -/
def RetRel (w : World) (r : Relation) (e : Ending) (w' : World) : Prop :=
  ∃ (A : Option Addr) (c : Nat), e = .returned (.agg #[.int .i64 r.size, .slice A r.rows.length c]) ∧ EIntS.OS w' w.heap.size w'.heap.size (.slice A r.rows.length c) r.rows ∧ Below w.heap.size w w'
theorem RetRel.zero {w w' : World} (h : Below w.heap.size w w') : RetRel w zeroRel (.returned (.agg #[.int .i64 0, .slice none 0 0])) w' := ⟨none, 0, rfl, Elem.OS.nil, h⟩

theorem diag_step (n k : Nat) : mat n (upd (fun a b => a == b && decide (a < k)) k k true) = mat n fun a b => a == b && decide (a < k + 1) :=
  mat_congr fun a b _ _ => by
    unfold upd
    by_cases h : a = k ∧ b = k
    · obtain ⟨rfl, rfl⟩ := h; simp
    · rw [if_neg h, Bool.eq_iff_iff]; simp; omega
end Go.Proofs.Ythpcippgifmabaa

/-! ## Rel3 -/
namespace Go.Proofs.Ythpcippgifmabaa
set_option maxRecDepth 100000
open Go.RowKit

theorem rowOk_mem {n : Int} {xs : List Int} : ∀ {last : Int}, rowOk n last xs = true → ∀ x ∈ xs, last < x ∧ x < n := by
  induction xs with
  | nil => intro last _ x hx; cases hx
  | cons b r ih =>
    intro last h x hx
    rw [rowOk] at h
    split at h
    · cases h
    · rename_i hn
      rcases List.mem_cons.1 hx with rfl | hx
      · omega
      · have := ih h x hx; omega
theorem rowsOk_mem {n : Int} {xs : List (List Int)} (h : rowsOk n xs = true) : ∀ x ∈ xs, rowOk n (-1) x = true := by
  induction xs with
  | nil => intro x hx; cases hx
  | cons y r ih =>
    intro x hx
    simp only [rowsOk, Bool.and_eq_true] at h
    rcases List.mem_cons.1 hx with rfl | hx
    · exact h.1
    · exact ih h.2 x hx
/-- What a valid relation is. -/
theorem relOk_parts {s : Int} {xs : List (List Int)} (h : relOk ⟨s, xs⟩ = true) : ∃ n : Nat, s = n ∧ n ≤ 40 ∧ xs.length = n ∧ ∀ x ∈ xs, rowOk (n : Int) (-1) x = true := by
  simp only [relOk, Bool.and_eq_true, decide_eq_true_eq] at h
  obtain ⟨⟨h1, h2, h3⟩, h4⟩ := h
  obtain ⟨n, rfl⟩ := Int.eq_ofNat_of_zero_le h1
  exact ⟨n, rfl, by omega, by omega, rowsOk_mem h4⟩

/-- The table of a relation. -/
def gridP (xs : List (List Int)) : Nat → Nat → Bool := fun a b => hasB (xs.getD a []) b
def gridTo (xs : List (List Int)) (k : Nat) : Nat → Nat → Bool := fun a b => decide (a < k) && gridP xs a b
def gridIn (xs : List (List Int)) (k : Nat) (row : List Int) (j : Nat) : Nat → Nat → Bool := fun a b => (decide (a < k) && gridP xs a b) || (decide (a = k) && hasB (row.take j) b)

theorem gridIn_step {xs : List (List Int)} {n k j m : Nat} {row : List Int} (hj : row[j]? = some (m : Int)) : mat n (upd (gridIn xs k row j) k m true) = mat n (gridIn xs k row (j + 1)) :=
  mat_congr fun a b _ _ => by
    unfold upd gridIn hasB
    rw [List.take_add_one, hj]
    by_cases h : a = k ∧ b = m
    · obtain ⟨rfl, rfl⟩ := h; simp
    · rw [if_neg h, Bool.eq_iff_iff]
      simp only [Bool.or_eq_true, Bool.and_eq_true, decide_eq_true_eq, List.mem_append, Option.toList_some, List.mem_singleton]
      constructor
      · rintro (h1 | ⟨h1, h2⟩)
        · exact .inl h1
        · exact .inr ⟨h1, .inl h2⟩
      · rintro (h1 | ⟨h1, h2 | h2⟩)
        · exact .inl h1
        · exact .inr ⟨h1, h2⟩
        · exact absurd ⟨h1, by omega⟩ h
theorem gridIn_start (xs : List (List Int)) (n k : Nat) (row : List Int) : mat n (gridTo xs k) = mat n (gridIn xs k row 0) := mat_congr fun a b _ _ => by simp [gridTo, gridIn, hasB]
theorem gridIn_end {xs : List (List Int)} {n k : Nat} {row : List Int} (hk : xs[k]? = some row) : mat n (gridIn xs k row row.length) = mat n (gridTo xs (k + 1)) :=
  mat_congr fun a b _ _ => by
    unfold gridIn gridTo
    rw [List.take_length, Bool.eq_iff_iff]
    simp only [Bool.or_eq_true, Bool.and_eq_true, decide_eq_true_eq]
    constructor
    · rintro (⟨h1, h2⟩ | ⟨rfl, h2⟩)
      · exact ⟨by omega, h2⟩
      · exact ⟨by omega, by simpa [gridP, List.getD, hk] using h2⟩
    · rintro ⟨h1, h2⟩
      by_cases hak : a = k
      · subst hak; exact .inr ⟨rfl, by simpa [gridP, List.getD, hk] using h2⟩
      · exact .inl ⟨by omega, h2⟩

def relatedM (r : Relation) (a b : Int) : Bool := relOk r && decide (0 ≤ a ∧ a < r.size) && hasB (r.rows.getD a.toNat []) b

end Go.Proofs.Ythpcippgifmabaa

/-! ## Rel4 -/
namespace Go.Proofs.Ythpcippgifmabaa
set_option maxRecDepth 100000
open Go.RowKit

def SameRel (n : Nat) (p q : Nat → Nat → Bool) (w : World) (i : Value) (wr : World) : Prop := ∃ (k d : Nat), k ≤ n ∧ i = .int .i64 k ∧ wr = w.drewN d ∧ ∀ a b, a < k → b < n → p a b = q a b
def SameIn (n k : Nat) (p q : Nat → Nat → Bool) (w : World) (i : Value) (wr : World) : Prop := ∃ (j d : Nat), j ≤ n ∧ i = .int .i64 j ∧ wr = w.drewN d ∧ ∀ b, b < j → p k b = q k b
theorem mat_ne {n a b : Nat} {p q : Nat → Nat → Bool} (ha : a < n) (hb : b < n) (h : p a b ≠ q a b) : eqB (mat n p) (mat n q) = false := eqB_ne fun e => by
  have h1 : (mat n p)[a]? = (mat n q)[a]? := by rw [e]
  rw [mat_at ha, mat_at ha] at h1
  injection h1 with h1
  have h2 : ((List.range n).map (p a))[b]? = ((List.range n).map (q a))[b]? := by rw [h1]
  simp [hb] at h2
  exact h h2

/-- Ascending rows are equal just if they have the same members. -/
theorem row_ext {n : Int} {xs ys : List Int} : ∀ {last : Int}, rowOk n last xs = true → rowOk n last ys = true → (∀ b, b ∈ xs ↔ b ∈ ys) → xs = ys := by
  induction xs generalizing ys with
  | nil =>
    intro last _ _ h
    cases ys with
    | nil => rfl
    | cons y r => exact absurd ((h y).2 (by simp)) (by simp)
  | cons x r ih =>
    intro last hx hy h
    cases ys with
    | nil => exact absurd ((h x).1 (by simp)) (by simp)
    | cons y s =>
      have mx := rowOk_mem hx; have my := rowOk_mem hy
      rw [rowOk] at hx hy
      split at hx
      · cases hx
      split at hy
      · cases hy
      have rx := rowOk_mem hx; have ry := rowOk_mem hy
      have hxy : x = y := by
        rcases List.mem_cons.1 ((h x).1 (by simp)) with e | e
        · exact e
        · rcases List.mem_cons.1 ((h y).2 (by simp)) with e' | e'
          · exact e'.symm
          · have := (ry x e).1; have := (rx y e').1; omega
      subst hxy
      rw [ih hx hy fun b => ?_]
      constructor
      · intro hb
        rcases List.mem_cons.1 ((h b).1 (by simp [hb])) with e | e
        · have := (rx b hb).1; omega
        · exact e
      · intro hb
        rcases List.mem_cons.1 ((h b).2 (by simp [hb])) with e | e
        · have := (ry b hb).1; omega
        · exact e
theorem grid_eq {n : Nat} {xs ys : List (List Int)} (hx : xs.length = n) (hy : ys.length = n) (h1 : ∀ x ∈ xs, rowOk (n : Int) (-1) x = true) (h2 : ∀ x ∈ ys, rowOk (n : Int) (-1) x = true) : eqB (mat n (gridP xs)) (mat n (gridP ys)) = eqB xs ys := by
  by_cases h : xs = ys
  · subst h; rw [eqB_refl, eqB_refl]
  · rw [eqB_ne h]
    -- some row differs in some member
    have : ∃ a, a < n ∧ xs.getD a [] ≠ ys.getD a [] := by
      refine Classical.byContradiction fun hn => h ?_
      apply List.ext_getElem?
      intro a
      by_cases ha : a < n
      · have := Classical.byContradiction fun hne => hn ⟨a, ha, hne⟩
        simp only [List.getD] at this
        rw [List.getElem?_eq_getElem (by omega), List.getElem?_eq_getElem (by omega)] at this ⊢
        simpa using this
      · rw [List.getElem?_eq_none (by omega), List.getElem?_eq_none (by omega)]
    obtain ⟨a, ha, hne⟩ := this
    have m1 : xs.getD a [] ∈ xs := by simp [List.getD, List.getElem?_eq_getElem (show a < xs.length by omega)]
    have m2 : ys.getD a [] ∈ ys := by simp [List.getD, List.getElem?_eq_getElem (show a < ys.length by omega)]
    have : ∃ b : Int, ¬ (b ∈ xs.getD a [] ↔ b ∈ ys.getD a []) := Classical.byContradiction fun hn => hne (row_ext (h1 _ m1) (h2 _ m2) fun b => Classical.byContradiction fun hb => hn ⟨b, hb⟩)
    obtain ⟨b, hb⟩ := this
    have hr : 0 ≤ b ∧ b < n := by
      by_cases hm : b ∈ xs.getD a []
      · have := rowOk_mem (h1 _ m1) b hm; omega
      · have hm' : b ∈ ys.getD a [] := Classical.byContradiction fun hn => hb (iff_of_false hm hn)
        have := rowOk_mem (h2 _ m2) b hm'; omega
    obtain ⟨b, rfl⟩ := Int.eq_ofNat_of_zero_le hr.1
    refine mat_ne ha (show b < n by omega) fun e => hb ?_
    simp only [gridP, hasB, decide_eq_decide] at e
    exact e
def equalM (r s : Relation) : Bool := bothOk r s && eqB r.rows s.rows
theorem bothOk_parts {s t : Int} {xs ys : List (List Int)} (h : bothOk ⟨s, xs⟩ ⟨t, ys⟩ = true) : relOk ⟨s, xs⟩ = true ∧ relOk ⟨t, ys⟩ = true ∧ s = t := by
  simp only [bothOk, Bool.and_eq_true, decide_eq_true_eq] at h
  exact ⟨h.1.1, h.1.2, h.2⟩
end Go.Proofs.Ythpcippgifmabaa

/-! ## Rel5 -/
namespace Go.Proofs.Ythpcippgifmabaa
set_option maxRecDepth 100000
open Go.RowKit

end Go.Proofs.Ythpcippgifmabaa
