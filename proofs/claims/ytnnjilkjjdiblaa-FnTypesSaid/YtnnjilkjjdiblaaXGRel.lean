/-
  Sizes, copies and equality of slices of ints and of slices of such slices: what each function returns and what it leaves of memory.
  Sizes, copies and equality of relations.
  Marks: each number of a relation's rows is overwritten by a number of its own, and asked for again.
  Tables of truth values, which the reference makes.
  Relations: validity, in the reference and in the program; membership in a row.
  From a table of truth values to a relation; the program's own way of building a relation.
  The program's way of building a relation from a rule; the relations of nothing and of each number with itself.
  Square tables: reading and writing one place; the relations of nothing and of each number with itself.
  The relation of nothing and that of each number with itself.
  The table of a valid relation; whether two numbers are related.
  Equality of relations.
  Equality of relations, continued.
-/
import Derived.Test.YtnnjilkjjdiblaaBase
import Derived.Test.YtnnjilkjjdiblaaSmall

/-! ## ConvInts -/
namespace Go.Proofs.Ytnnjilkjjdiblaa
set_option maxRecDepth 100000
open Go.RowKit

theorem int_info : (Try.prog.info? 3).map (fun i => (i.zero, i.size, i.bytes)) = some (some (.int .i64 0), 1, 8) := by kernel_rfl
theorem ints_info : (Try.prog.info? 47).map (fun i => (i.zero, i.size, i.bytes)) = some (some (.slice none 0 0), 1, 24) := by kernel_rfl

def tot : List (List Int) → Nat
  | [] => 0
  | x :: r => x.length + tot r

end Go.Proofs.Ytnnjilkjjdiblaa

/-! ## ConvRel -/
namespace Go.Proofs.Ytnnjilkjjdiblaa
set_option maxRecDepth 100000
open Go.RowKit

structure Relation where
  size : Int
  rows : List (List Int)
  deriving DecidableEq

end Go.Proofs.Ytnnjilkjjdiblaa

/-! ## MarkRel -/
namespace Go.Proofs.Ytnnjilkjjdiblaa
set_option maxRecDepth 100000
open Go.RowKit

def marks (k : Int) (n : Nat) : List Int := (List.range n).map fun (i : Nat) => k + (i : Int)
def ints (xs : List Int) : List Value := xs.flatMap fun n => [.int .i64 n]
theorem ints_len (xs : List Int) : (ints xs).length = xs.length := by induction xs <;> simp_all [ints]
theorem ints_at (xs : List Int) (i : Nat) : (ints xs)[i]? = (xs[i]?).map (Value.int .i64) := by
  have : ints xs = xs.map (Value.int .i64) := by induction xs <;> simp_all [ints]
  rw [this, List.getElem?_map]
theorem EInt_os {w : World} {lo hi : Nat} {v : Value} {xs : List Int} : EInt.OS w lo hi v xs ↔ OSl w lo hi 3 1 v xs.length (ints xs) := flat_os

def MarkRel (w : World) (lo hi : Nat) (v : Value) (xs : List Int) (k : Int) (kk i : Value) (wr : World) : Prop :=
  ∃ j : Nat, j ≤ xs.length ∧ i = .int .i64 j ∧ kk = .int .i64 (k + j) ∧ EInt.OS wr lo hi v (marks k j ++ xs.drop j) ∧ Only (fun b => v.ownBlock = some b) w wr ∧ wr.heap.size = w.heap.size

def marksSS (k : Int) : List (List Int) → List (List Int)
  | [] => []
  | x :: r => marks k x.length :: marksSS (k + x.length) r
theorem marksSS_len (xs : List (List Int)) : ∀ k, (marksSS k xs).length = xs.length := by induction xs <;> simp_all [marksSS]
theorem marksSS_at {xs : List (List Int)} : ∀ {k : Int} {j : Nat} {x : List Int}, xs[j]? = some x → (marksSS k xs)[j]? = some (marks (k + tot (xs.take j)) x.length) := by
  induction xs with
  | nil => intro k j x h; simp at h
  | cons y r ih =>
    intro k j x h
    cases j with
    | zero => simp at h; subst h; simp [marksSS, tot]
    | succ j => simp at h; simp only [marksSS, List.getElem?_cons_succ, ih h, List.take_succ_cons, tot]; congr 2; omega

/-- The first j rows are marked, the others as they were. -/
def Marked (k : Int) (xs ys : List (List Int)) (j : Nat) : Prop := ys.length = xs.length ∧ (∀ i, i < j → ys[i]? = (marksSS k xs)[i]?) ∧ ∀ i, j ≤ i → ys[i]? = xs[i]?
theorem Marked.step {k : Int} {xs ys : List (List Int)} {j : Nat} {x : List Int} (h : Marked k xs ys j) (hx : xs[j]? = some x) : Marked k xs (ys.set j (marks (k + tot (xs.take j)) x.length)) (j + 1) := by
  obtain ⟨h1, h2, h3⟩ := h
  have hj : j < ys.length := by rw [h1]; exact (List.getElem?_eq_some_iff.1 hx).1
  refine ⟨by simpa using h1, fun i hi => ?_, fun i hi => ?_⟩
  · by_cases hij : j = i
    · subst hij; rw [List.getElem?_set_self hj, marksSS_at hx]
    · rw [List.getElem?_set_ne hij]; exact h2 i (by omega)
  · rw [List.getElem?_set_ne (by omega)]; exact h3 i (by omega)
theorem Marked.done {k : Int} {xs ys : List (List Int)} {j : Nat} (h : Marked k xs ys j) (hj : xs.length ≤ j) : ys = marksSS k xs := by
  obtain ⟨h1, h2, h3⟩ := h
  apply List.ext_getElem?
  intro i
  by_cases hi : i < xs.length
  · exact h2 i (by omega)
  · rw [List.getElem?_eq_none (by omega), List.getElem?_eq_none (by rw [marksSS_len]; omega)]

end Go.Proofs.Ytnnjilkjjdiblaa

/-! ## Grid -/
namespace Go.Proofs.Ytnnjilkjjdiblaa
set_option maxRecDepth 100000
open Go.RowKit

theorem bool_info : (Try.prog.info? 4).map (fun i => (i.zero, i.size, i.bytes)) = some (some (.bool false), 1, 1) := by kernel_rfl
theorem bools_info : (Try.prog.info? 112).map (fun i => (i.zero, i.size, i.bytes)) = some (some (.slice none 0 0), 1, 24) := by kernel_rfl
theorem tyIntS : SlTy EInt 47 8 := SlTy.mk' Try.underlying47 int_info rfl (by decide)
theorem tyIntSS : SlTy EIntS 36 24 := SlTy.mk' Try.underlying36 ints_info rfl (by decide)
theorem tyBoolSS : SlTy EBoolS 106 24 := SlTy.mk' Try.underlying106 bools_info rfl (by decide)

/-- A slice that make has just laid. -/
theorem made_os {α : Type} {e sz : Nat} {f : α → List Value} {hl : ∀ x, (f x).length = sz} {hb : ∀ x, blocks (f x) = []} (w : World) (z : α) (n : Nat) (cur : Array Value) (hc : cur.toList = (List.replicate n z).flatMap f) (hn : n ≤ BIG) :
    (Elem.flat e sz f hl hb).OS (w.alloc (.cells cur e)) w.heap.size (w.alloc (.cells cur e)).heap.size (.slice (some ⟨w.heap.size, 0, none⟩) n n) (List.replicate n z) := by
  rw [flat_os]
  have hlen : ∀ xs : List α, (xs.flatMap f).length = xs.length * sz := fun xs => by
    induction xs with
    | nil => simp
    | cons x r ih => rw [List.flatMap_cons, List.length_append, ih, hl, List.length_cons, Nat.succ_mul]; omega
  refine ⟨⟨by rw [hlen], .inr ⟨w.heap.size, n, cur, by simp, Nat.le_refl _, heap_alloc_new w _, by simp, by unfold BIG at hn; simp only [maxLen]; omega, ?_, ?_⟩⟩, fun k hk => by simp [Value.ownBlock] at hk; simp; omega, by simpa using hn⟩
  · rw [← Array.length_toList, hc, hlen]; simp
  · rw [hc, List.length_replicate, List.take_of_length_le]; rw [hlen]; simp
theorem made_bools (n : Nat) : (madeCells (Value.bool false).cells (n * 1)).toList = (List.replicate n false).flatMap fun b => [Value.bool b] := by
  have : ∀ n : Nat, ((List.replicate n false).flatMap fun b => [Value.bool b]) = List.replicate n (Value.bool false) := fun n => by induction n <;> simp_all [List.replicate_succ]
  rw [this, Nat.mul_one]
  apply List.ext_getElem?
  intro i
  by_cases hi : i < n
  · simp [madeCells, Value.cells, hi, Nat.mod_one]
  · simp [madeCells, Value.cells, hi]

theorem made_one (n : Nat) (w : World) (hn : n ≤ 40) : EBool.OS (w.alloc (.cells (madeCells #[Value.bool false] n) 4)) w.heap.size (w.heap.size + 1) (.slice (some ⟨w.heap.size, 0, none⟩) n n) (List.replicate n false) := by
  have := made_os (e := 4) (sz := 1) (f := fun b => [Value.bool b]) (hl := fun _ => rfl) (hb := fun _ => rfl) w false n (madeCells #[Value.bool false] n) (by simpa [Value.cells] using made_bools n) (by unfold BIG; omega)
  rw [World.size_alloc] at this
  exact this
def BlankRel (w : World) (n : Nat) (v i : Value) (wr : World) : Prop :=
  ∃ (k : Nat) (A : Option Addr) (c : Nat), k ≤ n ∧ i = .int .i64 k ∧ v = .slice A k c ∧ EBoolS.OS wr w.heap.size wr.heap.size (.slice A k c) (List.replicate k (List.replicate n false)) ∧ Below w.heap.size w wr

theorem l2Blank_any (n : Nat) (w : World) (hn : n ≤ 40) :
    Calls Try.prog 99 #[.int .i64 n] w fun e w' => ∃ A c, e = .returned (.slice A n c) ∧ EBoolS.OS w' w.heap.size w'.heap.size (.slice A n c) (List.replicate n (List.replicate n false)) ∧ Below w.heap.size w w' := by
  obtain ⟨i0, hi0, hz0, hz1, hz2⟩ := info_parts bool_info
  have hmk := run_mk (P := Try.prog) 112 4 i0 _ 1 1 Try.underlying112 hi0 hz0 hz1 hz2 n (by omega) (by unfold BIG; omega)
  clear hi0 hz0 hz1 hz2
  go_enter Try.func99, Try.ntmps99
  go_wp2
  go_loopw [3, 4] (fun v i wr => BlankRel w n v i wr) (fun _ i _ => n - (intOf i).toNat)
  case atStart => 
    refine ⟨0, _, _, Nat.zero_le _, rfl, rfl, ?_, by (with_reducible repeat' first | exact Below.refl _ _ | assumption | (refine Below.setCell ?_ (by first | omega | (simp; omega) | (simp; done) | (dsimp only; omega)) _) | (refine Below.alloc ?_ (by first | omega | (simp; omega) | (simp; done) | (dsimp only; omega)) _) | (refine below_drewN ?_ _) | (refine Below.drew ?_))⟩
    have := (made_os (e := 0) (sz := 1) (f := fun b => [Value.bool b]) (hl := fun _ => rfl) (hb := fun _ => rfl) w false 0 #[] rfl (by simp))
    exact ⟨[], ⟨World.ownsRow_made w #[] 0 (Nat.le_refl _) (by simp) (by simp), fun k hk => by simp [Value.ownBlock] at hk; simp; omega, by simp⟩, .nil, fun cs hcs => by cases hcs⟩
  case round =>
    obtain ⟨k, A, c, hk, rfl, rfl, ho, hb⟩ := hrel
    have hz := hb.size
    by_cases hlt : k < n
    · go_wp2_with (at_builtin; refine wpList_app1 tyBoolSS A (List.replicate k (List.replicate n false)) (List.replicate n false) [.slice (some ⟨wr.heap.size, 0, none⟩) n n] ⟨wr.heap.size + 1, 0, none⟩ 1 (lo := w.heap.size) (hi := wr.heap.size) (ho.same ?q1) (by simp) ?q2 hz ?q3 _ _ rfl rfl rfl rfl ?q4 ?q5 ?q6 (by decide) (fun A' c' w1 ho1 hg1 hc1 hm1 => ?_))
      case q1 => (with_reducible repeat' first | exact Same.refl _ _ _ | assumption | (refine Same.setCell ?_ (by first | omega | (simp; omega) | (simp; done) | (dsimp only; omega)) _) | (refine Same.alloc ?_ (by first | omega | (simp; omega) | (simp; done) | (dsimp only; omega)) _) | (refine Same.drewN ?_ _) | (refine Same.drew ?_))
      case q2 => (first | omega | (simp; omega) | (simp; done) | (dsimp only; omega))
      case q3 => exact ⟨_, rfl, ((made_one n wr (by omega)).same (by (with_reducible repeat' first | exact Same.refl _ _ _ | assumption | (refine Same.setCell ?_ (by first | omega | (simp; omega) | (simp; done) | (dsimp only; omega)) _) | (refine Same.alloc ?_ (by first | omega | (simp; omega) | (simp; done) | (dsimp only; omega)) _) | (refine Same.drewN ?_ _) | (refine Same.drew ?_)))).mono (Nat.le_refl _) (by simp)⟩
      case q4 => exact cell_one_at _ _ _ _ (by simp)
      case q5 => simp; rfl
      case q6 => omega
      refine ⟨⟨k + 1, A', c', by omega, by go_num, rfl, by simpa [List.replicate_succ'] using ho1, ?_⟩, by simp [intOf]; omega⟩
      exact Below.grown (w := (wr.alloc _).alloc _) (by (with_reducible repeat' first | exact Below.refl _ _ | assumption | (refine Below.setCell ?_ (by first | omega | (simp; omega) | (simp; done) | (dsimp only; omega)) _) | (refine Below.alloc ?_ (by first | omega | (simp; omega) | (simp; done) | (dsimp only; omega)) _) | (refine below_drewN ?_ _) | (refine Below.drew ?_))) hg1 (by simp; omega) (fun k hk => (ho.blkv k hk).1)
    · obtain rfl : k = n := by omega
      go_wp2
      go_ret
      exact ⟨_, _, rfl, ho, hb⟩
end Go.Proofs.Ytnnjilkjjdiblaa

/-! ## Rel -/
namespace Go.Proofs.Ytnnjilkjjdiblaa
set_option maxRecDepth 100000
open Go.RowKit

def rowOk (n : Int) : Int → List Int → Bool
  | _, [] => true
  | last, b :: r => if b ≤ last ∨ n ≤ b then false else rowOk n b r
theorem rowOk_no {n last last0 b : Int} {xs r : List Int} {k : Nat} (he : rowOk n last (xs.drop k) = rowOk n last0 xs) (h1 : xs.drop k = b :: r) (h : b ≤ last ∨ n ≤ b) : rowOk n last0 xs = false := by
  rw [← he, h1, rowOk, if_pos h]
theorem rowOk_yes {n last last0 b : Int} {xs r : List Int} {k : Nat} (he : rowOk n last (xs.drop k) = rowOk n last0 xs) (h1 : xs.drop k = b :: r) (h : last < b) (h' : b < n) : rowOk n b r = rowOk n last0 xs := by
  rw [← he, h1, rowOk, if_neg (by omega)]
theorem rowOk_end {n last last0 : Int} {xs : List Int} {k : Nat} (he : rowOk n last (xs.drop k) = rowOk n last0 xs) (h1 : xs.length ≤ k) : rowOk n last0 xs = true := by
  rw [← he, List.drop_eq_nil_of_le h1]; rfl
def rowsOk (n : Int) : List (List Int) → Bool
  | [] => true
  | x :: r => rowOk n (-1) x && rowsOk n r
theorem rowsOk_no {n : Int} {xs r : List (List Int)} {x : List Int} {k : Nat} (he : rowsOk n (xs.drop k) = rowsOk n xs) (h1 : xs.drop k = x :: r) (h : rowOk n (-1) x = false) : rowsOk n xs = false := by
  rw [← he, h1, rowsOk, h]; rfl
theorem rowsOk_yes {n : Int} {xs r : List (List Int)} {x : List Int} {k : Nat} (he : rowsOk n (xs.drop k) = rowsOk n xs) (h1 : xs.drop k = x :: r) (h : rowOk n (-1) x = true) : rowsOk n r = rowsOk n xs := by
  rw [← he, h1, rowsOk, h]; rfl
theorem rowsOk_end {n : Int} {xs : List (List Int)} {k : Nat} (he : rowsOk n (xs.drop k) = rowsOk n xs) (h1 : xs.length ≤ k) : rowsOk n xs = true := by
  rw [← he, List.drop_eq_nil_of_le h1]; rfl
def relOk (r : Relation) : Bool := decide (0 ≤ r.size ∧ r.size ≤ 40 ∧ (r.rows.length : Int) = r.size) && rowsOk r.size r.rows

theorem relOk_no {s : Int} {xs : List (List Int)} (h : ¬ (0 ≤ s ∧ s ≤ 40 ∧ (xs.length : Int) = s)) : false = relOk ⟨s, xs⟩ := by
  simp only [relOk, h, decide_false, Bool.false_and]
def RowRel (m : Int) (xs : List Int) (l i : Value) : Prop :=
  ∃ (k : Nat) (last : Int), k ≤ xs.length ∧ i = .int .i64 k ∧ l = .int .i64 last ∧ rowOk m last (xs.drop k) = rowOk m (-1) xs
theorem l2Row_any (A : Option Addr) (c lo hi : Nat) (xs : List Int) (m : Int) (w : World) (h : EInt.AS w lo hi A xs) :
    Calls Try.prog 181 #[.slice A xs.length c, .int .i64 m] w fun e w' => e = .returned (.bool (rowOk m (-1) xs)) ∧ w = w' := by
  have hx := h.le
  unfold BIG at hx
  go_enter Try.func181, Try.ntmps181
  go_wp2
  go_loop [5, 10] (fun l i => RowRel m xs l i) (fun _ i => xs.length - (intOf i).toNat)
  case atStart => exact ⟨0, -1, Nat.zero_le _, rfl, rfl, rfl⟩
  case round =>
    obtain ⟨k, last, hk, rfl, rfl, he⟩ := hrel
    have HE := Lib.hid he; clear he
    by_cases hlt : k < xs.length
    · obtain ⟨b, off, x, rfl, _, _, hd, hxk, hck⟩ := AInt.at_ h hlt
      have HD := Lib.hid hd; clear hd hxk
      by_cases hc : x ≤ last ∨ m ≤ x
      · have HC := Lib.hid hc
        go_wp2
        all_goals (go_ret; exact ⟨ret_bool (rowOk_no HE.out HD.out HC.out).symm, rfl⟩)
      · have h1 : last < x := by omega
        have h2 : x < m := by omega
        clear hc
        go_wp2
        exact ⟨⟨k + 1, x, by omega, by go_num, rfl, rowOk_yes HE.out HD.out h1 h2⟩, by simp [intOf]; omega⟩
    · go_wp2
      go_ret
      exact ⟨ret_bool (rowOk_end HE.out (by omega)).symm, rfl⟩

def RowsRel (n : Int) (xs : List (List Int)) (i : Value) (w wr : World) : Prop := ∃ k : Nat, k ≤ xs.length ∧ i = .int .i64 k ∧ w = wr ∧ rowsOk n (xs.drop k) = rowsOk n xs
theorem specIsRelation_any (s : Int) (A : Option Addr) (c lo hi : Nat) (xs : List (List Int)) (w : World) (h : EIntS.AS w lo hi A xs) (hh : hi ≤ w.heap.size) :
    Calls Try.prog 98 #[.agg #[.int .i64 s, .slice A xs.length c]] w fun e w' => e = .returned (.bool (relOk ⟨s, xs⟩)) ∧ Below w.heap.size w w' := by
  have hx := h.le
  unfold BIG at hx
  by_cases h0 : 0 ≤ s ∧ s ≤ 40
  · by_cases h1 : (xs.length : Int) = s
    · have HI := Lib.hid (inB_true h0)
      have hb : ((xs.length : Int) != s) = false := by simp [h1]
      have H1 := Lib.hid h1; clear h1
      go_enter Try.func98, Try.ntmps98
      go_wp2_with (go_at_call 111; refine (l1In_any _ _ _ _).mono ?_; rintro e w' ⟨rfl, rfl⟩; simp only [HI.out])
      generalize hW : w.alloc (.cells #[.int .i64 s, .slice A xs.length c] 38) = W
      have a0 : W.cell? ⟨w.heap.size, 0, none⟩ = some (.int .i64 s) := by subst hW; simp [go_sem]
      have hbw : Below w.heap.size w W := by subst hW; (with_reducible repeat' first | exact Below.refl _ _ | assumption | (refine Below.setCell ?_ (by first | omega | (simp; omega) | (simp; done) | (dsimp only; omega)) _) | (refine Below.alloc ?_ (by first | omega | (simp; omega) | (simp; done) | (dsimp only; omega)) _) | (refine below_drewN ?_ _) | (refine Below.drew ?_))
      clear hW
      go_loopw [20] (fun i wr => RowsRel s xs i W wr) (fun i _ => xs.length - (intOf i).toNat)
      case atStart => exact ⟨0, Nat.zero_le _, rfl, rfl, rfl⟩
      case round =>
        obtain ⟨k, hk, rfl, rfl, he⟩ := hrel
        have HE := Lib.hid he; clear he
        by_cases hlt : k < xs.length
        · obtain ⟨b, off, x, B, cx, rfl, _, _, hd, hxk, hc, _, _, hr⟩ := AIntS.at_ (h.same (Same.of_below hbw hh)) hlt
          have HD := Lib.hid hd; clear hd hxk
          cases hok : rowOk s (-1) x with
          | false =>
            have HO := Lib.hid hok; clear hok
            go_wp2_with (go_at_call 181; refine (l2Row_any _ _ _ _ _ _ _ hr).mono ?_; rintro e w1 ⟨rfl, rfl⟩; simp only [HO.out])
            go_ret
            exact ⟨ret_bool (by have := rowsOk_no HE.out HD.out HO.out; simp [relOk, this]), hbw⟩
          | true =>
            have HO := Lib.hid hok; clear hok
            go_wp2_with (go_at_call 181; refine (l2Row_any _ _ _ _ _ _ _ hr).mono ?_; rintro e w1 ⟨rfl, rfl⟩; simp only [HO.out])
            exact ⟨⟨k + 1, by omega, by go_num, rfl, rowsOk_yes HE.out HD.out HO.out⟩, by simp [intOf]; omega⟩
        · go_wp2
          go_ret
          exact ⟨ret_bool (by have e1 := rowsOk_end HE.out (by omega); have e2 := H1.out; rw [relOk, e1, Bool.and_true]; simp only; symm; rw [decide_eq_true_eq]; omega), hbw⟩
    · have HI := Lib.hid (inB_true h0)
      have hb : ((xs.length : Int) != s) = true := by simpa using h1
      go_enter Try.func98, Try.ntmps98
      go_wp2_with (go_at_call 111; refine (l1In_any _ _ _ _).mono ?_; rintro e w' ⟨rfl, rfl⟩; simp only [HI.out])
      all_goals (go_ret; exact ⟨ret_bool (relOk_no (by omega)), by (with_reducible repeat' first | exact Below.refl _ _ | assumption | (refine Below.setCell ?_ (by first | omega | (simp; omega) | (simp; done) | (dsimp only; omega)) _) | (refine Below.alloc ?_ (by first | omega | (simp; omega) | (simp; done) | (dsimp only; omega)) _) | (refine below_drewN ?_ _) | (refine Below.drew ?_))⟩)
  · have HI := Lib.hid (inB_false h0)
    go_enter Try.func98, Try.ntmps98
    go_wp2_with (go_at_call 111; refine (l1In_any _ _ _ _).mono ?_; rintro e w' ⟨rfl, rfl⟩; simp only [HI.out])
    all_goals (go_ret; exact ⟨ret_bool (relOk_no (by omega)), by (with_reducible repeat' first | exact Below.refl _ _ | assumption | (refine Below.setCell ?_ (by first | omega | (simp; omega) | (simp; done) | (dsimp only; omega)) _) | (refine Below.alloc ?_ (by first | omega | (simp; omega) | (simp; done) | (dsimp only; omega)) _) | (refine below_drewN ?_ _) | (refine Below.drew ?_))⟩)

/-- Before the k-th of a row stands -1 or the number before. -/
def lastOf (xs : List Int) (k : Nat) : Int := if k = 0 then -1 else xs.getD (k - 1) 0
def RowRel2 (m : Int) (xs : List Int) (i : Value) (w wr : World) : Prop :=
  ∃ (k : Nat), k ≤ xs.length ∧ i = .int .i64 k ∧ w = wr ∧ -1 ≤ lastOf xs k ∧ rowOk m (lastOf xs k) (xs.drop k) = rowOk m (-1) xs
set_option maxHeartbeats 1000000 in
theorem implIsRelation_any (s : Int) (A : Option Addr) (c lo hi : Nat) (xs : List (List Int)) (w : World) (h : EIntS.AS w lo hi A xs) (hh : hi ≤ w.heap.size) :
    Calls Try.prog 203 #[.agg #[.int .i64 s, .slice A xs.length c]] w fun e w' => e = .returned (.bool (relOk ⟨s, xs⟩)) ∧ Below w.heap.size w w' := by
  have hx := h.le
  unfold BIG at hx
  by_cases h0 : 0 ≤ s ∧ s ≤ 40 ∧ (xs.length : Int) = s
  · obtain ⟨g1, g2, h1⟩ := h0
    have hb : ((xs.length : Int) != s) = false := by simp [h1]
    have H1 := Lib.hid h1; clear h1
    go_enter Try.func203, Try.ntmps203
    go_wp2
    generalize hW : w.alloc (.cells #[.int .i64 s, .slice A xs.length c] 38) = W
    have a0 : W.cell? ⟨w.heap.size, 0, none⟩ = some (.int .i64 s) := by subst hW; simp [go_sem]
    have hbw : Below w.heap.size w W := by subst hW; (with_reducible repeat' first | exact Below.refl _ _ | assumption | (refine Below.setCell ?_ (by first | omega | (simp; omega) | (simp; done) | (dsimp only; omega)) _) | (refine Below.alloc ?_ (by first | omega | (simp; omega) | (simp; done) | (dsimp only; omega)) _) | (refine below_drewN ?_ _) | (refine Below.drew ?_))
    clear hW
    go_loopw [26] (fun i wr => RowsRel s xs i W wr) (fun i _ => xs.length - (intOf i).toNat)
    case atStart => exact ⟨0, Nat.zero_le _, rfl, rfl, rfl⟩
    case round =>
      obtain ⟨k, hk, rfl, rfl, he⟩ := hrel
      have HE := Lib.hid he; clear he
      by_cases hlt : k < xs.length
      · obtain ⟨b, off, x, B, cx, rfl, _, _, hd, hxk, hc, _, _, hr⟩ := AIntS.at_ (h.same (Same.of_below hbw hh)) hlt
        have HD := Lib.hid hd; clear hd hxk
        have hxx := hr.le
        unfold BIG at hxx
        go_wp2
        go_loopw [32] (fun i wr => RowRel2 s x i W wr) (fun i _ => x.length - (intOf i).toNat)
        case atStart => exact ⟨0, Nat.zero_le _, rfl, rfl, by simp [lastOf], by simp [lastOf]⟩
        case round =>
          obtain ⟨j, hj, rfl, rfl, hlast, he2⟩ := hrel
          have HE2 := Lib.hid he2; clear he2
          by_cases hlt2 : j < x.length
          · obtain ⟨b2, off2, y, rfl, _, _, hd2, hyk, hc2⟩ := AInt.at_ hr hlt2
            have HD2 := Lib.hid hd2; clear hd2
            have hl2 : lastOf x (j + 1) = y := by simp [lastOf, List.getD, hyk]
            have HL2 := Lib.hid hl2
            clear hyk hl2
            have fin : ∀ (v : Bool), rowOk s (-1) x = false → relOk ⟨s, xs⟩ = false := fun _ hf => by have := rowsOk_no HE.out HD.out hf; simp [relOk, this]
            cases j with
            | zero =>
              simp only [lastOf, if_true] at HE2 hlast
              simp only [Nat.add_zero] at hc2
              by_cases hbad : y ≤ -1 ∨ s ≤ y
              · have HB := Lib.hid hbad
                go_wp2
                all_goals (go_ret; exact ⟨ret_bool (fin true (rowOk_no HE2.out HD2.out HB.out)).symm, hbw⟩)
              · have q1 : 0 ≤ y := by omega
                have q2 : y < s := by omega
                clear hbad
                go_wp2
                refine ⟨⟨1, by omega, rfl, rfl, ?_, ?_⟩, by simp [intOf]; omega⟩
                · rw [HL2.out]; omega
                · rw [HL2.out]; exact rowOk_yes HE2.out HD2.out (by omega) q2
            | succ i =>
              obtain ⟨b3, off3, z, e3, _, _, _, hzk, hc3⟩ := AInt.at_ hr (by omega : i < x.length)
              injection e3 with e3
              injection e3 with e3 e4
              subst e3; subst e4
              have hl1 : lastOf x (i + 1) = z := by simp [lastOf, List.getD, hzk]
              rw [hl1] at HE2 hlast
              clear hzk hl1
              by_cases hbad : y ≤ z ∨ s ≤ y
              · have HB := Lib.hid hbad
                go_wp2
                all_goals (go_ret; exact ⟨ret_bool (fin true (rowOk_no HE2.out HD2.out HB.out)).symm, hbw⟩)
              · have q1 : z < y := by omega
                have q2 : y < s := by omega
                have q3 : 0 ≤ y := by omega
                clear hbad
                go_wp2
                refine ⟨⟨i + 1 + 1, by omega, by go_num, rfl, ?_, ?_⟩, by simp [intOf]; omega⟩
                · rw [HL2.out]; omega
                · rw [HL2.out]; exact rowOk_yes HE2.out HD2.out q1 q2
          · have hok := rowOk_end HE2.out (by omega)
            have HO := Lib.hid hok; clear hok
            go_wp2
            exact ⟨⟨k + 1, by omega, by go_num, rfl, rowsOk_yes HE.out HD.out HO.out⟩, by simp [intOf]; omega⟩
      · go_wp2
        go_ret
        exact ⟨ret_bool (by have e1 := rowsOk_end HE.out (by omega); have e2 := H1.out; rw [relOk, e1, Bool.and_true]; simp only; symm; rw [decide_eq_true_eq]; omega), hbw⟩
  · by_cases h1 : 0 ≤ s ∧ s ≤ 40
    · obtain ⟨g1, g2⟩ := h1
      have hb : ((xs.length : Int) != s) = true := bne_iff_ne.2 (by omega)
      go_enter Try.func203, Try.ntmps203
      go_wp2
      go_ret; exact ⟨ret_bool (relOk_no (by omega)), by (with_reducible repeat' first | exact Below.refl _ _ | assumption | (refine Below.setCell ?_ (by first | omega | (simp; omega) | (simp; done) | (dsimp only; omega)) _) | (refine Below.alloc ?_ (by first | omega | (simp; omega) | (simp; done) | (dsimp only; omega)) _) | (refine below_drewN ?_ _) | (refine Below.drew ?_))⟩
    · go_enter Try.func203, Try.ntmps203
      go_wp2
      all_goals (go_ret; exact ⟨ret_bool (relOk_no (by omega)), by (with_reducible repeat' first | exact Below.refl _ _ | assumption | (refine Below.setCell ?_ (by first | omega | (simp; omega) | (simp; done) | (dsimp only; omega)) _) | (refine Below.alloc ?_ (by first | omega | (simp; omega) | (simp; done) | (dsimp only; omega)) _) | (refine below_drewN ?_ _) | (refine Below.drew ?_))⟩)

/-! ### Membership, equality of rows -/
def hasB (xs : List Int) (n : Int) : Bool := decide (n ∈ xs)
theorem hasB_cons (x n : Int) (r : List Int) : hasB (x :: r) n = (x == n || hasB r n) := by
  rw [Bool.eq_iff_iff]; simp only [hasB, List.mem_cons, decide_eq_true_eq, Bool.or_eq_true, beq_iff_eq]
  exact ⟨fun h => h.imp_left Eq.symm, fun h => h.imp_left Eq.symm⟩
def HasRel (xs : List Int) (n : Int) (i : Value) (w wr : World) : Prop := ∃ k : Nat, k ≤ xs.length ∧ i = .int .i64 k ∧ w = wr ∧ hasB (xs.drop k) n = hasB xs n
theorem hasInt_any (A : Option Addr) (c lo hi : Nat) (xs : List Int) (n : Int) (w : World) (h : EInt.AS w lo hi A xs) :
    Calls Try.prog 156 #[.slice A xs.length c, .int .i64 n] w fun e w' => e = .returned (.bool (hasB xs n)) ∧ w = w' := by
  have hx := h.le
  unfold BIG at hx
  go_enter Try.func156, Try.ntmps156
  go_wp2
  go_loopw [9] (fun i wr => HasRel xs n i w wr) (fun i _ => xs.length - (intOf i).toNat)
  case atStart => exact ⟨0, Nat.zero_le _, rfl, rfl, rfl⟩
  case round =>
    obtain ⟨k, hk, rfl, rfl, he⟩ := hrel
    have HE := Lib.hid he; clear he
    by_cases hlt : k < xs.length
    · obtain ⟨b, off, x, rfl, _, _, hd, hxk, hc⟩ := AInt.at_ h hlt
      have HD := Lib.hid hd; clear hd hxk
      go_wp2
      · have hxn : (x == n) = true := by assumption
        go_ret
        exact ⟨ret_bool (by rw [← HE.out, HD.out, hasB_cons, hxn]; rfl), rfl⟩
      · have hxn : (x == n) = false := by assumption
        exact ⟨⟨k + 1, by omega, by go_num, rfl, by rw [← HE.out, HD.out, hasB_cons, hxn]; rfl⟩, by simp [intOf]; omega⟩
    · go_wp2
      go_ret
      exact ⟨ret_bool (by rw [← HE.out, List.drop_eq_nil_of_le (by omega)]; rfl), rfl⟩

def bothOk (r s : Relation) : Bool := relOk r && relOk s && decide (r.size = s.size)
theorem two_any (s t : Int) (A B : Option Addr) (c d lo hi lo' hi' : Nat) (xs ys : List (List Int)) (w : World) (h : EIntS.AS w lo hi A xs) (h' : EIntS.AS w lo' hi' B ys) (hh : hi ≤ w.heap.size) (hh' : hi' ≤ w.heap.size) :
    Calls Try.prog 154 #[.agg #[.int .i64 s, .slice A xs.length c], .agg #[.int .i64 t, .slice B ys.length d]] w fun e w' => e = .returned (.bool (bothOk ⟨s, xs⟩ ⟨t, ys⟩)) ∧ Below w.heap.size w w' := by
  cases h1 : relOk ⟨s, xs⟩ with
  | false =>
    have H1 := Lib.hid h1; clear h1
    go_enter Try.func154, Try.ntmps154
    go_wp2_with (go_at_call 203; refine (implIsRelation_any s A c lo hi xs _ (h.same ?_) ?_).mono ?_; (with_reducible repeat' first | exact Same.refl _ _ _ | assumption | (refine Same.setCell ?_ (by first | omega | (simp; omega) | (simp; done) | (dsimp only; omega)) _) | (refine Same.alloc ?_ (by first | omega | (simp; omega) | (simp; done) | (dsimp only; omega)) _) | (refine Same.drewN ?_ _) | (refine Same.drew ?_)); (first | omega | (simp; omega) | (simp; done) | (dsimp only; omega)); rintro e w1 ⟨rfl, hb1⟩; simp only [H1.out]; (obtain ⟨hb1c, hb1f⟩ := bcell hb1); (have hb1z := hb1.size); (try simp only [szs] at hb1c hb1f hb1z))
    go_ret
    exact ⟨ret_bool (by simp [bothOk, H1.out]), by (with_reducible repeat' first | exact Below.refl _ _ | assumption | (refine Below.setCell ?_ (by first | omega | (simp; omega) | (simp; done) | (dsimp only; omega)) _) | (refine Below.alloc ?_ (by first | omega | (simp; omega) | (simp; done) | (dsimp only; omega)) _) | (refine below_drewN ?_ _) | (refine Below.drew ?_) | (refine Below.trans ?_ (hb1.mono (by first | omega | (simp; omega) | (simp; done) | (dsimp only; omega)))))⟩
  | true =>
    have H1 := Lib.hid h1; clear h1
    cases h2 : relOk ⟨t, ys⟩ with
    | false =>
      have H2 := Lib.hid h2; clear h2
      go_enter Try.func154, Try.ntmps154
      go_wp2_with (go_at_call 203; first | ((with_reducible refine (implIsRelation_any s A c lo hi xs ((w.alloc _).alloc _) (h.same ?_) ?_).mono ?_); (with_reducible repeat' first | exact Same.refl _ _ _ | assumption | (refine Same.setCell ?_ (by first | omega | (simp; omega) | (simp; done) | (dsimp only; omega)) _) | (refine Same.alloc ?_ (by first | omega | (simp; omega) | (simp; done) | (dsimp only; omega)) _) | (refine Same.drewN ?_ _) | (refine Same.drew ?_)); (first | omega | (simp; omega) | (simp; done) | (dsimp only; omega)); rintro e w1 ⟨rfl, hb1⟩; simp only [H1.out]; (obtain ⟨hb1c, hb1f⟩ := bcell hb1); (have hb1z := hb1.size); (try simp only [szs] at hb1c hb1f hb1z)) | ((with_reducible refine (implIsRelation_any t B d lo' hi' ys _ (h'.same ?_) ?_).mono ?_); (with_reducible repeat' first | exact Same.refl _ _ _ | assumption | (refine Same.setCell ?_ (by first | omega | (simp; omega) | (simp; done) | (dsimp only; omega)) _) | (refine Same.alloc ?_ (by first | omega | (simp; omega) | (simp; done) | (dsimp only; omega)) _) | (refine Same.drewN ?_ _) | (refine Same.drew ?_) | (refine Same.trans ?_ (Same.of_below hb1 (by first | omega | (simp; omega) | (simp; done) | (dsimp only; omega))))); (first | omega | (simp; omega) | (simp; done) | (dsimp only; omega)); rintro e w2 ⟨rfl, hb2⟩; simp only [H2.out]; (obtain ⟨hb2c, hb2f⟩ := bcell hb2); (have hb2z := hb2.size); (try simp only [szs] at hb2c hb2f hb2z)))
      go_ret
      exact ⟨ret_bool (by simp [bothOk, H2.out]), by (with_reducible repeat' first | exact Below.refl _ _ | assumption | (refine Below.setCell ?_ (by first | omega | (simp; omega) | (simp; done) | (dsimp only; omega)) _) | (refine Below.alloc ?_ (by first | omega | (simp; omega) | (simp; done) | (dsimp only; omega)) _) | (refine below_drewN ?_ _) | (refine Below.drew ?_) | (refine Below.trans ?_ (hb2.mono (by first | omega | (simp; omega) | (simp; done) | (dsimp only; omega)))) | (refine Below.trans ?_ (hb1.mono (by first | omega | (simp; omega) | (simp; done) | (dsimp only; omega)))))⟩
    | true =>
      have H2 := Lib.hid h2; clear h2
      by_cases hst : s = t
      · have hb : (s == t) = true := by simpa using hst
        have HST := Lib.hid hst; clear hst
        go_enter Try.func154, Try.ntmps154
        go_wp2_with (go_at_call 203; first | ((with_reducible refine (implIsRelation_any s A c lo hi xs ((w.alloc _).alloc _) (h.same ?_) ?_).mono ?_); (with_reducible repeat' first | exact Same.refl _ _ _ | assumption | (refine Same.setCell ?_ (by first | omega | (simp; omega) | (simp; done) | (dsimp only; omega)) _) | (refine Same.alloc ?_ (by first | omega | (simp; omega) | (simp; done) | (dsimp only; omega)) _) | (refine Same.drewN ?_ _) | (refine Same.drew ?_)); (first | omega | (simp; omega) | (simp; done) | (dsimp only; omega)); rintro e w1 ⟨rfl, hb1⟩; simp only [H1.out]; (obtain ⟨hb1c, hb1f⟩ := bcell hb1); (have hb1z := hb1.size); (try simp only [szs] at hb1c hb1f hb1z)) | ((with_reducible refine (implIsRelation_any t B d lo' hi' ys _ (h'.same ?_) ?_).mono ?_); (with_reducible repeat' first | exact Same.refl _ _ _ | assumption | (refine Same.setCell ?_ (by first | omega | (simp; omega) | (simp; done) | (dsimp only; omega)) _) | (refine Same.alloc ?_ (by first | omega | (simp; omega) | (simp; done) | (dsimp only; omega)) _) | (refine Same.drewN ?_ _) | (refine Same.drew ?_) | (refine Same.trans ?_ (Same.of_below hb1 (by first | omega | (simp; omega) | (simp; done) | (dsimp only; omega))))); (first | omega | (simp; omega) | (simp; done) | (dsimp only; omega)); rintro e w2 ⟨rfl, hb2⟩; simp only [H2.out]; (obtain ⟨hb2c, hb2f⟩ := bcell hb2); (have hb2z := hb2.size); (try simp only [szs] at hb2c hb2f hb2z); have hlt1 : w.heap.size < w1.heap.size := (by omega); have hlt2 : w.heap.size + 1 < w1.heap.size := (by omega)))
        go_ret
        exact ⟨ret_bool (by rw [bothOk, H1.out, H2.out]; simp [HST.out]), by (with_reducible repeat' first | exact Below.refl _ _ | assumption | (refine Below.setCell ?_ (by first | omega | (simp; omega) | (simp; done) | (dsimp only; omega)) _) | (refine Below.alloc ?_ (by first | omega | (simp; omega) | (simp; done) | (dsimp only; omega)) _) | (refine below_drewN ?_ _) | (refine Below.drew ?_) | (refine Below.trans ?_ (hb2.mono (by first | omega | (simp; omega) | (simp; done) | (dsimp only; omega)))) | (refine Below.trans ?_ (hb1.mono (by first | omega | (simp; omega) | (simp; done) | (dsimp only; omega)))))⟩
      · have hb : (s == t) = false := by simpa using hst
        go_enter Try.func154, Try.ntmps154
        go_wp2_with (go_at_call 203; first | ((with_reducible refine (implIsRelation_any s A c lo hi xs ((w.alloc _).alloc _) (h.same ?_) ?_).mono ?_); (with_reducible repeat' first | exact Same.refl _ _ _ | assumption | (refine Same.setCell ?_ (by first | omega | (simp; omega) | (simp; done) | (dsimp only; omega)) _) | (refine Same.alloc ?_ (by first | omega | (simp; omega) | (simp; done) | (dsimp only; omega)) _) | (refine Same.drewN ?_ _) | (refine Same.drew ?_)); (first | omega | (simp; omega) | (simp; done) | (dsimp only; omega)); rintro e w1 ⟨rfl, hb1⟩; simp only [H1.out]; (obtain ⟨hb1c, hb1f⟩ := bcell hb1); (have hb1z := hb1.size); (try simp only [szs] at hb1c hb1f hb1z)) | ((with_reducible refine (implIsRelation_any t B d lo' hi' ys _ (h'.same ?_) ?_).mono ?_); (with_reducible repeat' first | exact Same.refl _ _ _ | assumption | (refine Same.setCell ?_ (by first | omega | (simp; omega) | (simp; done) | (dsimp only; omega)) _) | (refine Same.alloc ?_ (by first | omega | (simp; omega) | (simp; done) | (dsimp only; omega)) _) | (refine Same.drewN ?_ _) | (refine Same.drew ?_) | (refine Same.trans ?_ (Same.of_below hb1 (by first | omega | (simp; omega) | (simp; done) | (dsimp only; omega))))); (first | omega | (simp; omega) | (simp; done) | (dsimp only; omega)); rintro e w2 ⟨rfl, hb2⟩; simp only [H2.out]; (obtain ⟨hb2c, hb2f⟩ := bcell hb2); (have hb2z := hb2.size); (try simp only [szs] at hb2c hb2f hb2z); have hlt1 : w.heap.size < w1.heap.size := (by omega); have hlt2 : w.heap.size + 1 < w1.heap.size := (by omega)))
        go_ret
        exact ⟨ret_bool (by simp [bothOk, hst]), by (with_reducible repeat' first | exact Below.refl _ _ | assumption | (refine Below.setCell ?_ (by first | omega | (simp; omega) | (simp; done) | (dsimp only; omega)) _) | (refine Below.alloc ?_ (by first | omega | (simp; omega) | (simp; done) | (dsimp only; omega)) _) | (refine below_drewN ?_ _) | (refine Below.drew ?_) | (refine Below.trans ?_ (hb2.mono (by first | omega | (simp; omega) | (simp; done) | (dsimp only; omega)))) | (refine Below.trans ?_ (hb1.mono (by first | omega | (simp; omega) | (simp; done) | (dsimp only; omega)))))⟩
theorem l2Both_any (s t : Int) (A B : Option Addr) (c d lo hi lo' hi' : Nat) (xs ys : List (List Int)) (w : World) (h : EIntS.AS w lo hi A xs) (h' : EIntS.AS w lo' hi' B ys) (hh : hi ≤ w.heap.size) (hh' : hi' ≤ w.heap.size) :
    Calls Try.prog 91 #[.agg #[.int .i64 s, .slice A xs.length c], .agg #[.int .i64 t, .slice B ys.length d]] w fun e w' => e = .returned (.bool (bothOk ⟨s, xs⟩ ⟨t, ys⟩)) ∧ Below w.heap.size w w' := by
  by_cases hst : s = t
  · have hb : (s == t) = true := by simpa using hst
    have HST := Lib.hid hst; clear hst
    cases h1 : relOk ⟨s, xs⟩ with
    | false =>
      have H1 := Lib.hid h1; clear h1
      go_enter Try.func91, Try.ntmps91
      go_wp2_with (go_at_call 98; ((with_reducible refine (specIsRelation_any s A c lo hi xs ((w.alloc _).alloc _) (h.same ?_) ?_).mono ?_); (with_reducible repeat' first | exact Same.refl _ _ _ | assumption | (refine Same.setCell ?_ (by first | omega | (simp; omega) | (simp; done) | (dsimp only; omega)) _) | (refine Same.alloc ?_ (by first | omega | (simp; omega) | (simp; done) | (dsimp only; omega)) _) | (refine Same.drewN ?_ _) | (refine Same.drew ?_)); (first | omega | (simp; omega) | (simp; done) | (dsimp only; omega)); rintro e w1 ⟨rfl, hb1⟩; simp only [H1.out]; (obtain ⟨hb1c, hb1f⟩ := bcell hb1); (have hb1z := hb1.size); (try simp only [szs] at hb1c hb1f hb1z); have hlt1 : w.heap.size < w1.heap.size := (by omega); have hlt2 : w.heap.size + 1 < w1.heap.size := (by omega)))
      go_ret
      exact ⟨ret_bool (by simp [bothOk, H1.out]), by (with_reducible repeat' first | exact Below.refl _ _ | assumption | (refine Below.setCell ?_ (by first | omega | (simp; omega) | (simp; done) | (dsimp only; omega)) _) | (refine Below.alloc ?_ (by first | omega | (simp; omega) | (simp; done) | (dsimp only; omega)) _) | (refine below_drewN ?_ _) | (refine Below.drew ?_) | (refine Below.trans ?_ (hb1.mono (by first | omega | (simp; omega) | (simp; done) | (dsimp only; omega)))))⟩
    | true =>
      have H1 := Lib.hid h1; clear h1
      cases h2 : relOk ⟨t, ys⟩ with
      | false =>
        have H2 := Lib.hid h2; clear h2
        go_enter Try.func91, Try.ntmps91
        go_wp2_with (go_at_call 98; first | ((with_reducible refine (specIsRelation_any s A c lo hi xs ((w.alloc _).alloc _) (h.same ?_) ?_).mono ?_); (with_reducible repeat' first | exact Same.refl _ _ _ | assumption | (refine Same.setCell ?_ (by first | omega | (simp; omega) | (simp; done) | (dsimp only; omega)) _) | (refine Same.alloc ?_ (by first | omega | (simp; omega) | (simp; done) | (dsimp only; omega)) _) | (refine Same.drewN ?_ _) | (refine Same.drew ?_)); (first | omega | (simp; omega) | (simp; done) | (dsimp only; omega)); rintro e w1 ⟨rfl, hb1⟩; simp only [H1.out]; (obtain ⟨hb1c, hb1f⟩ := bcell hb1); (have hb1z := hb1.size); (try simp only [szs] at hb1c hb1f hb1z); have hlt1 : w.heap.size < w1.heap.size := (by omega); have hlt2 : w.heap.size + 1 < w1.heap.size := (by omega)) | ((with_reducible refine (specIsRelation_any t B d lo' hi' ys _ (h'.same ?_) ?_).mono ?_); (with_reducible repeat' first | exact Same.refl _ _ _ | assumption | (refine Same.setCell ?_ (by first | omega | (simp; omega) | (simp; done) | (dsimp only; omega)) _) | (refine Same.alloc ?_ (by first | omega | (simp; omega) | (simp; done) | (dsimp only; omega)) _) | (refine Same.drewN ?_ _) | (refine Same.drew ?_) | (refine Same.trans ?_ (Same.of_below hb1 (by first | omega | (simp; omega) | (simp; done) | (dsimp only; omega))))); (first | omega | (simp; omega) | (simp; done) | (dsimp only; omega)); rintro e w2 ⟨rfl, hb2⟩; simp only [H2.out]; (obtain ⟨hb2c, hb2f⟩ := bcell hb2); (have hb2z := hb2.size); (try simp only [szs] at hb2c hb2f hb2z)))
        go_ret
        exact ⟨ret_bool (by simp [bothOk, H2.out]), by (with_reducible repeat' first | exact Below.refl _ _ | assumption | (refine Below.setCell ?_ (by first | omega | (simp; omega) | (simp; done) | (dsimp only; omega)) _) | (refine Below.alloc ?_ (by first | omega | (simp; omega) | (simp; done) | (dsimp only; omega)) _) | (refine below_drewN ?_ _) | (refine Below.drew ?_) | (refine Below.trans ?_ (hb2.mono (by first | omega | (simp; omega) | (simp; done) | (dsimp only; omega)))) | (refine Below.trans ?_ (hb1.mono (by first | omega | (simp; omega) | (simp; done) | (dsimp only; omega)))))⟩
      | true =>
        have H2 := Lib.hid h2; clear h2
        go_enter Try.func91, Try.ntmps91
        go_wp2_with (go_at_call 98; first | ((with_reducible refine (specIsRelation_any s A c lo hi xs ((w.alloc _).alloc _) (h.same ?_) ?_).mono ?_); (with_reducible repeat' first | exact Same.refl _ _ _ | assumption | (refine Same.setCell ?_ (by first | omega | (simp; omega) | (simp; done) | (dsimp only; omega)) _) | (refine Same.alloc ?_ (by first | omega | (simp; omega) | (simp; done) | (dsimp only; omega)) _) | (refine Same.drewN ?_ _) | (refine Same.drew ?_)); (first | omega | (simp; omega) | (simp; done) | (dsimp only; omega)); rintro e w1 ⟨rfl, hb1⟩; simp only [H1.out]; (obtain ⟨hb1c, hb1f⟩ := bcell hb1); (have hb1z := hb1.size); (try simp only [szs] at hb1c hb1f hb1z); have hlt1 : w.heap.size < w1.heap.size := (by omega); have hlt2 : w.heap.size + 1 < w1.heap.size := (by omega)) | ((with_reducible refine (specIsRelation_any t B d lo' hi' ys _ (h'.same ?_) ?_).mono ?_); (with_reducible repeat' first | exact Same.refl _ _ _ | assumption | (refine Same.setCell ?_ (by first | omega | (simp; omega) | (simp; done) | (dsimp only; omega)) _) | (refine Same.alloc ?_ (by first | omega | (simp; omega) | (simp; done) | (dsimp only; omega)) _) | (refine Same.drewN ?_ _) | (refine Same.drew ?_) | (refine Same.trans ?_ (Same.of_below hb1 (by first | omega | (simp; omega) | (simp; done) | (dsimp only; omega))))); (first | omega | (simp; omega) | (simp; done) | (dsimp only; omega)); rintro e w2 ⟨rfl, hb2⟩; simp only [H2.out]; (obtain ⟨hb2c, hb2f⟩ := bcell hb2); (have hb2z := hb2.size); (try simp only [szs] at hb2c hb2f hb2z)))
        go_ret
        exact ⟨ret_bool (by rw [bothOk, H1.out, H2.out]; simp [HST.out]), by (with_reducible repeat' first | exact Below.refl _ _ | assumption | (refine Below.setCell ?_ (by first | omega | (simp; omega) | (simp; done) | (dsimp only; omega)) _) | (refine Below.alloc ?_ (by first | omega | (simp; omega) | (simp; done) | (dsimp only; omega)) _) | (refine below_drewN ?_ _) | (refine Below.drew ?_) | (refine Below.trans ?_ (hb2.mono (by first | omega | (simp; omega) | (simp; done) | (dsimp only; omega)))) | (refine Below.trans ?_ (hb1.mono (by first | omega | (simp; omega) | (simp; done) | (dsimp only; omega)))))⟩
  · have hb : (s == t) = false := by simpa using hst
    go_enter Try.func91, Try.ntmps91
    go_wp2
    go_ret
    exact ⟨ret_bool (by simp [bothOk, hst]), by (with_reducible repeat' first | exact Below.refl _ _ | assumption | (refine Below.setCell ?_ (by first | omega | (simp; omega) | (simp; done) | (dsimp only; omega)) _) | (refine Below.alloc ?_ (by first | omega | (simp; omega) | (simp; done) | (dsimp only; omega)) _) | (refine below_drewN ?_ _) | (refine Below.drew ?_))⟩
end Go.Proofs.Ytnnjilkjjdiblaa

/-! ## Grid2 -/
namespace Go.Proofs.Ytnnjilkjjdiblaa
set_option maxRecDepth 100000
open Go.RowKit

/-- The marked numbers below k. -/
def idxTo (q : Nat → Bool) (k : Nat) : List Int := ((List.range k).filter q).map fun (b : Nat) => (b : Int)
theorem idxTo_succ (q : Nat → Bool) (k : Nat) : idxTo q (k + 1) = if q k = true then idxTo q k ++ [(k : Int)] else idxTo q k := by
  unfold idxTo
  rw [List.range_succ, List.filter_append, List.map_append]
  by_cases h : q k = true <;> simp [h]
theorem idxTo_len (q : Nat → Bool) (k : Nat) : (idxTo q k).length ≤ k := by
  unfold idxTo
  rw [List.length_map]
  have := List.length_filter_le q (List.range k)
  simpa using this
def relTo (n : Nat) (p : Nat → Nat → Bool) (k : Nat) : List (List Int) := (List.range k).map fun a => idxTo (p a) n
def relM (n : Nat) (p : Nat → Nat → Bool) : List (List Int) := relTo n p n

def IdxRel (q : Nat → Bool) (n : Nat) (wo : World) (v i : Value) (wr : World) : Prop :=
  ∃ (k : Nat) (A : Option Addr) (c : Nat), k ≤ n ∧ i = .int .i64 k ∧ v = .slice A (idxTo q k).length c ∧ EInt.OS wr wo.heap.size wr.heap.size (.slice A (idxTo q k).length c) (idxTo q k) ∧ Below wo.heap.size wo wr

def OfRel (w : World) (rows : List (List Int)) (n : Nat) (i : Value) (wr : World) : Prop :=
  ∃ (k : Nat) (A : Option Addr) (c : Nat), k ≤ n ∧ i = .int .i64 k ∧ Blk wr w.heap.size 38 #[.int .i64 0, .slice none 0 0] ∧ Blk wr (w.heap.size + 1) 38 #[.int .i64 n, .slice A k c] ∧
    EIntS.OS wr (w.heap.size + 2) wr.heap.size (.slice A k c) (rows.take k) ∧ Below w.heap.size w wr ∧ w.heap.size + 2 ≤ wr.heap.size

/-- A row is finished: it is appended to the rows of the relation that is being built. -/
theorem OfRel.step {w wo wr w1 : World} {rows : List (List Int)} {n k c c' : Nat} {A A' : Option Addr} {o : Obj} {x : List Int} (hk : k < n) (r : Blk wo w.heap.size 38 #[.int .i64 0, .slice none 0 0]) (b : Blk wo (w.heap.size + 1) 38 #[.int .i64 n, .slice A k c])
    (hb : Below w.heap.size w wo) (hz : w.heap.size + 2 ≤ wo.heap.size) (ho : EIntS.OS wo (w.heap.size + 2) wo.heap.size (.slice A k c) (rows.take k)) (hb2 : Below wo.heap.size wo wr) (hx : rows[k]? = some x)
    (ho1 : EIntS.OS w1 (w.heap.size + 2) w1.heap.size (.slice A' (k + 1) c') (rows.take k ++ [x])) (hg : (wr.alloc o).grownBy w1 (Value.slice A k c).ownBlock) :
    OfRel w rows n (.int .i64 ((k : Int) + 1)) (w1.setCell ⟨w.heap.size + 1, 1, none⟩ (.slice A' (k + 1) c')) := by
  have hne : ∀ b, b < w.heap.size + 2 → some b ≠ (Value.slice A k c).ownBlock := fun b hb e => by have := (ho.blkv b e.symm).1; omega
  have r1 := ((r.below hb2 (by omega)).alloc o).grown hg (hne _ (by omega))
  have b1 := ((b.below hb2 (by omega)).alloc o).grown hg (hne _ (by omega))
  have hz2 := hb2.size
  have hz1 := hg.size
  simp only [World.size_alloc] at hz1
  refine ⟨k + 1, A', c', by omega, by simp, r1.far (by simp) _, by simpa using b1.set 1 (.slice A' (k + 1) c'), ?_, ?_, by simp [World.setCell]; omega⟩
  · rw [List.take_add_one, hx]
    have := ho1.same (w' := w1.setCell ⟨w.heap.size + 1, 1, none⟩ (.slice A' (k + 1) c')) ((Same.refl _ _ _).setCell (.inl (by simp)) _)
    simpa [World.setCell] using this
  · exact (Below.grown (w := wr.alloc o) ((hb.trans (hb2.mono (by omega))).alloc (by omega) _) hg (by simp; omega) (fun k hk => by have := (ho.blkv k hk).1; omega)).setCell (by simp) _
/-- The cells of the relation that is being built, behind the append. -/
theorem OfRel.cells {w wo wr w1 : World} {n k c hi : Nat} {A : Option Addr} {o : Obj} {rows : List (List Int)} (b : Blk wo (w.heap.size + 1) 38 #[.int .i64 n, .slice A k c]) (hz : w.heap.size + 2 ≤ wo.heap.size) (hb2 : Below wo.heap.size wo wr)
    (ho : EIntS.OS wo (w.heap.size + 2) hi (.slice A k c) rows) (hg : (wr.alloc o).grownBy w1 (Value.slice A k c).ownBlock) : w1.cell? ⟨w.heap.size + 1, 1, none⟩ = some (.slice A k c) ∧ w1.frozen? ⟨w.heap.size + 1, 1, none⟩ = false := by
  have hne : some (w.heap.size + 1) ≠ (Value.slice A k c).ownBlock := fun e => by have := (ho.blkv _ e.symm).1; omega
  have b1 := ((b.below hb2 (by omega)).alloc o).grown hg hne
  exact ⟨b1.cell rfl, b1.free 1⟩

end Go.Proofs.Ytnnjilkjjdiblaa

/-! ## Related -/
namespace Go.Proofs.Ytnnjilkjjdiblaa
set_option maxRecDepth 100000
open Go.RowKit

/-- A rule between two numbers, as a function value of the program: in every world in which the blocks from lo to hi are as in w it answers p and makes memory at most. -/
structure Rule2 (w : World) (n lo hi F : Nat) (first cap : Array Value) (p : Nat → Nat → Bool) : Prop where
  enter : ∀ (args : Array Value) (w' : World), (callFunc F args).run Try.prog w' = .ok (.enter F args) w'
  ans : ∀ (a b : Nat) (w' : World), a < n → b < n → Same lo hi w w' → Calls Try.prog F (first ++ (#[.int .i64 a, .int .i64 b] ++ cap)) w' fun e w'' => e = .returned (.bool (p a b)) ∧ Below w'.heap.size w' w''

set_option maxHeartbeats 1000000 in
theorem related_any (F : Nat) (first cap : Array Value) (n lo hi : Nat) (p : Nat → Nat → Bool) (w : World) (hn : n ≤ 40) (h : Rule2 w n lo hi F first cap p) (hh : hi ≤ w.heap.size) :
    Calls Try.prog 95 #[.int .i64 n, .func (.func F) first cap] w fun e w' => ∃ A' c', e = .returned (.agg #[.int .i64 n, .slice A' n c']) ∧
      EIntS.OS w' w.heap.size w'.heap.size (.slice A' n c') (relM n p) ∧ Below w.heap.size w w' := by
  have hcf := h.enter
  go_enter Try.func95, Try.ntmps95
  go_wp2
  go_loopw [12] (fun i wr => OfRel w (relM n p) n i wr) (fun i _ => n - (intOf i).toNat)
  case atStart =>
    refine ⟨0, none, 0, Nat.zero_le _, rfl, (Blk.new w rfl).alloc _, Blk.new _ (by simp), by simpa using Elem.OS.nil, by (with_reducible repeat' first | exact Below.refl _ _ | assumption | (refine Below.setCell ?_ (by first | omega | (simp; omega) | (simp; done) | (dsimp only; omega)) _) | (refine Below.alloc ?_ (by first | omega | (simp; omega) | (simp; done) | (dsimp only; omega)) _) | (refine below_drewN ?_ _) | (refine Below.drew ?_)), by simp⟩
  case round =>
    obtain ⟨k, A1, c1, hk, rfl, hR, hB, ho, hb, hz⟩ := hrel
    by_cases hlt : k < n
    · have HX := Lib.hid (show (relM n p)[k]? = some (idxTo (p k) n) by simp [relM, relTo, hlt])
      go_wp2
      obtain ⟨wo, rfl⟩ : ∃ wo : World, wo = wr := ⟨_, rfl⟩
      go_loopw [7, 16] (fun v i w2 => IdxRel (p k) n wo v i w2) (fun _ i _ => n - (intOf i).toNat)
      case atStart => exact ⟨0, _, _, Nat.zero_le _, rfl, rfl, by simpa [idxTo] using Elem.OS.nil, by (with_reducible repeat' first | exact Below.refl _ _ | assumption | (refine Below.setCell ?_ (by first | omega | (simp; omega) | (simp; done) | (dsimp only; omega)) _) | (refine Below.alloc ?_ (by first | omega | (simp; omega) | (simp; done) | (dsimp only; omega)) _) | (refine below_drewN ?_ _) | (refine Below.drew ?_))⟩
      case round =>
        obtain ⟨j, A2, c2, hj, rfl, rfl, ho2, hb2⟩ := hrel
        have hz2 := hb2.size
        have hs := idxTo_succ (p k) j
        have hlen := idxTo_len (p k) j
        by_cases hlt2 : j < n
        · have hans := h.ans k j wr hlt hlt2 ((Same.of_below hb hh).trans (Same.of_below hb2 (by omega)))
          have HA := Lib.hid hans
          clear hans
          generalize hy : p k j = y at hs
          cases y with
          | false =>
            have HS := Lib.hid hs; have HY := Lib.hid hy; clear hs hy
            go_wp2_with (refine HA.out.mono ?_; rintro e w3 ⟨rfl, hb3⟩; simp only [HY.out]; have hz3 := hb3.size)
            exact ⟨⟨j + 1, A2, c2, by omega, by go_num, by rw [HS.out]; rfl, by rw [HS.out]; exact (ho2.same (by (with_reducible repeat' first | exact Same.refl _ _ _ | assumption | (refine Same.setCell ?_ (by first | omega | (simp; omega) | (simp; done) | (dsimp only; omega)) _) | (refine Same.alloc ?_ (by first | omega | (simp; omega) | (simp; done) | (dsimp only; omega)) _) | (refine Same.drewN ?_ _) | (refine Same.drew ?_) | (refine Same.trans ?_ (Same.of_below hb3 (by first | omega | (simp; omega) | (simp; done) | (dsimp only; omega))))))).mono (Nat.le_refl _) hz3, by (with_reducible repeat' first | exact Below.refl _ _ | assumption | (refine Below.setCell ?_ (by first | omega | (simp; omega) | (simp; done) | (dsimp only; omega)) _) | (refine Below.alloc ?_ (by first | omega | (simp; omega) | (simp; done) | (dsimp only; omega)) _) | (refine below_drewN ?_ _) | (refine Below.drew ?_) | (refine Below.trans ?_ (hb3.mono (by first | omega | (simp; omega) | (simp; done) | (dsimp only; omega)))))⟩, by simp [intOf]; omega⟩
          | true =>
            have HS := Lib.hid hs; have HY := Lib.hid hy; clear hs hy
            go_wp2_with (first | (refine HA.out.mono ?_; rintro e w3 ⟨rfl, hb3⟩; simp only [HY.out]; have hz3 := hb3.size) | (at_builtin; refine wpList_app1 tyIntS A2 (idxTo (p k) j) (j : Int) [.int .i64 j] ⟨w3.heap.size, 0, none⟩ 1 (lo := wo.heap.size) (hi := wr.heap.size) (ho2.same ?q1) rfl ?q2 hz2 rfl _ _ rfl rfl rfl rfl ?q4 ?q5 ?q6 (by decide) (fun A' c' w1 ho1 hg1 hc1 hm1 => ?_)))
            try (case q1 => (with_reducible repeat' first | exact Same.refl _ _ _ | assumption | (refine Same.setCell ?_ (by first | omega | (simp; omega) | (simp; done) | (dsimp only; omega)) _) | (refine Same.alloc ?_ (by first | omega | (simp; omega) | (simp; done) | (dsimp only; omega)) _) | (refine Same.drewN ?_ _) | (refine Same.drew ?_) | (refine Same.trans ?_ (Same.of_below hb3 (by first | omega | (simp; omega) | (simp; done) | (dsimp only; omega))))))
            try (case q2 => (first | omega | (simp; omega) | (simp; done) | (dsimp only; omega)))
            try (case q4 => exact cell_one_at _ _ _ _ rfl)
            try (case q5 => first | rfl | (simp; done) | (simp; rfl))
            try (case q6 => omega)
            refine ⟨⟨j + 1, A', c', by omega, by go_num, by rw [HS.out]; simp, by rw [HS.out]; simpa using ho1, ?_⟩, by simp [intOf]; omega⟩
            exact Below.grown (w := w3.alloc _) (by (with_reducible repeat' first | exact Below.refl _ _ | assumption | (refine Below.setCell ?_ (by first | omega | (simp; omega) | (simp; done) | (dsimp only; omega)) _) | (refine Below.alloc ?_ (by first | omega | (simp; omega) | (simp; done) | (dsimp only; omega)) _) | (refine below_drewN ?_ _) | (refine Below.drew ?_) | (refine Below.trans ?_ (hb3.mono (by first | omega | (simp; omega) | (simp; done) | (dsimp only; omega)))))) hg1 (by simp; omega) (fun k hk => (ho2.blkv k hk).1)
        · obtain rfl : j = n := by omega
          have b0 := (hB.below hb2 (by omega)).cell (i := 0) rfl
          have b1 := (hB.below hb2 (by omega)).cell (i := 1) rfl
          have f1 := (hB.below hb2 (by omega)).free 1
          have hkl : ((relM j p).take k).length = k := by simp [relM, relTo]; omega
          have HKL := Lib.hid hkl; clear hkl hs
          have l0 : w.heap.size + 1 < wr.heap.size := by omega
          go_wp2_with (at_builtin; refine wpList_app1 tyIntSS A1 ((relM j p).take k) (idxTo (p k) j) [.slice A2 (idxTo (p k) j).length c2] ⟨wr.heap.size, 0, none⟩ 1 (lo := w.heap.size + 2) (hi := wo.heap.size) (ho.same ?p1) HKL.out ?p2 hz ⟨_, rfl, (ho2.same ?p3).mono ?p4 ?p5⟩ _ _ rfl rfl rfl rfl ?p6 ?p7 ?p8 (by decide) (fun A' c' w1 ho1 hg1 hc1 hm1 => have e0 := (OfRel.cells hB hz hb2 ho hg1).1; have e1 := (OfRel.cells hB hz hb2 ho hg1).2; ?_))
          try (case p1 => (with_reducible repeat' first | exact Same.refl _ _ _ | assumption | (refine Same.setCell ?_ (by first | omega | (simp; omega) | (simp; done) | (dsimp only; omega)) _) | (refine Same.alloc ?_ (by first | omega | (simp; omega) | (simp; done) | (dsimp only; omega)) _) | (refine Same.drewN ?_ _) | (refine Same.drew ?_) | (refine Same.trans ?_ (Same.of_below hb2 (by first | omega | (simp; omega) | (simp; done) | (dsimp only; omega))))))
          try (case p2 => (first | omega | (simp; omega) | (simp; done) | (dsimp only; omega)))
          try (case p3 => (with_reducible repeat' first | exact Same.refl _ _ _ | assumption | (refine Same.setCell ?_ (by first | omega | (simp; omega) | (simp; done) | (dsimp only; omega)) _) | (refine Same.alloc ?_ (by first | omega | (simp; omega) | (simp; done) | (dsimp only; omega)) _) | (refine Same.drewN ?_ _) | (refine Same.drew ?_)))
          try (case p4 => (first | omega | (simp; omega) | (simp; done) | (dsimp only; omega)))
          try (case p5 => (first | omega | (simp; omega) | (simp; done) | (dsimp only; omega)))
          try (case p6 => exact cell_one_at _ _ _ _ rfl)
          try (case p7 => first | rfl | (simp; done) | (simp; rfl))
          try (case p8 => omega)
          exact ⟨OfRel.step hlt hR hB hb hz ho hb2 HX.out ho1 hg1, by simp [intOf]; omega⟩
    · obtain rfl : k = n := by omega
      have b0 := hB.cell (i := 0) rfl
      have b1 := hB.cell (i := 1) rfl
      have r0 := hR.cell (i := 0) rfl
      have r1 := hR.cell (i := 1) rfl
      have f0 := hR.free 0
      have f1 := hR.free 1
      go_wp2
      exact bodyPost_ret (v := .agg #[.int .i64 k, .slice A1 k c1]) (by simp [results, Try.results95, go_sem, r0, r1]) rfl ⟨_, _, rfl, ((show EIntS.OS wr (w.heap.size + 2) wr.heap.size (.slice A1 k c1) (relM k p) by rw [List.take_of_length_le (by simp [relM, relTo])] at ho; exact ho).same (by (with_reducible repeat' first | exact Same.refl _ _ _ | assumption | (refine Same.setCell ?_ (by first | omega | (simp; omega) | (simp; done) | (dsimp only; omega)) _) | (refine Same.alloc ?_ (by first | omega | (simp; omega) | (simp; done) | (dsimp only; omega)) _) | (refine Same.drewN ?_ _) | (refine Same.drew ?_)))).mono (by first | omega | (simp; omega) | (simp; done) | (dsimp only; omega)) (by first | omega | (simp; omega) | (simp; done) | (dsimp only; omega)), by (with_reducible repeat' first | exact Below.refl _ _ | assumption | (refine Below.setCell ?_ (by first | omega | (simp; omega) | (simp; done) | (dsimp only; omega)) _) | (refine Below.alloc ?_ (by first | omega | (simp; omega) | (simp; done) | (dsimp only; omega)) _) | (refine below_drewN ?_ _) | (refine Below.drew ?_))⟩
end Go.Proofs.Ytnnjilkjjdiblaa

/-! ## Mat -/
namespace Go.Proofs.Ytnnjilkjjdiblaa
set_option maxRecDepth 100000
open Go.RowKit

def mat (n : Nat) (p : Nat → Nat → Bool) : List (List Bool) := (List.range n).map fun a => (List.range n).map (p a)
def upd (p : Nat → Nat → Bool) (a b : Nat) (x : Bool) : Nat → Nat → Bool := fun i j => if i = a ∧ j = b then x else p i j
theorem mat_len (n : Nat) (p : Nat → Nat → Bool) : (mat n p).length = n := by simp [mat]
theorem mat_at {n a : Nat} {p : Nat → Nat → Bool} (ha : a < n) : (mat n p)[a]? = some ((List.range n).map (p a)) := by simp [mat, ha]
theorem mat_congr {n : Nat} {p q : Nat → Nat → Bool} (h : ∀ a b, a < n → b < n → p a b = q a b) : mat n p = mat n q := by
  unfold mat
  refine List.map_congr_left fun a ha => List.map_congr_left fun b hb => h a b (by simpa using ha) (by simpa using hb)
theorem mat_blank (n : Nat) : List.replicate n (List.replicate n false) = mat n fun _ _ => false := by
  unfold mat
  apply List.ext_getElem?
  intro i
  by_cases hi : i < n
  · simp only [List.getElem?_replicate, hi, if_true, List.getElem?_map, List.getElem?_range hi, Option.map_some]
    congr 1
    apply List.ext_getElem?
    intro j
    by_cases hj : j < n <;> simp [hj]
  · simp [hi]
theorem idxTo_congr {q q' : Nat → Bool} {k : Nat} (h : ∀ b, b < k → q b = q' b) : idxTo q k = idxTo q' k := by
  unfold idxTo
  rw [List.filter_congr fun b hb => h b (by simpa using hb)]
theorem relM_congr {n : Nat} {p q : Nat → Nat → Bool} (h : ∀ a b, a < n → b < n → p a b = q a b) : relM n p = relM n q := by
  unfold relM relTo
  exact List.map_congr_left fun a ha => idxTo_congr fun b hb => h a b (by simpa using ha) hb
theorem mat_upd {n a b : Nat} {p : Nat → Nat → Bool} {x : Bool} (ha : a < n) (hb : b < n) : (mat n p).set a (((List.range n).map (p a)).set b x) = mat n (upd p a b x) := by
  apply List.ext_getElem?
  intro i
  by_cases hi : i < n
  · rw [mat_at hi]
    by_cases hia : a = i
    · subst hia
      rw [List.getElem?_set_self (by rw [mat_len]; exact ha)]
      congr 1
      apply List.ext_getElem?
      intro j
      by_cases hj : j < n
      · by_cases hjb : b = j
        · subst hjb; rw [List.getElem?_set_self (by simpa using hb)]; simp [upd, hj]
        · rw [List.getElem?_set_ne hjb]; simp [upd, hj, Ne.symm hjb]
      · rw [List.getElem?_eq_none (by simp; omega), List.getElem?_eq_none (by simp; omega)]
    · rw [List.getElem?_set_ne hia, mat_at hi]
      congr 1
      exact List.map_congr_left fun j _ => by simp [upd, Ne.symm hia]
  · rw [List.getElem?_eq_none (by simp [mat_len]; omega), List.getElem?_eq_none (by simp [mat_len]; omega)]

/-- One place of a table that is only read. -/
theorem mat_read {w : World} {lo hi n a b : Nat} {A : Option Addr} {p : Nat → Nat → Bool} (h : EBoolS.AS w lo hi A (mat n p)) (ha : a < n) (hb : b < n) : ∃ g o r q c, A = some ⟨g, o, none⟩ ∧ lo ≤ g ∧ g < hi ∧ lo ≤ r ∧ r < hi ∧ n ≤ c ∧ c ≤ maxLen ∧
    w.cell? ⟨g, o + a, none⟩ = some (.slice (some ⟨r, q, none⟩) n c) ∧ w.cell? ⟨r, q + b, none⟩ = some (.bool (p a b)) := by
  obtain ⟨g, o, l, cs, rfl, g1, g2, _, hl, ⟨v, rfl, B, c, rfl, q1, q2, hr⟩, hc⟩ := h.at_ (k := a) (by rw [mat_len]; exact ha)
  have hc0 := hc 0 _ rfl
  rw [mat_at ha] at hl
  injection hl with hl
  subst hl
  obtain ⟨r, q, y, cs, rfl, r1, r2, _, hy, rfl, hc2⟩ := hr.at_ (k := b) (by simpa using hb)
  have hc1 := hc2 0 _ rfl
  simp [hb] at hy
  subst hy
  refine ⟨g, o, r, q, c, rfl, g1, g2, r1, r2, by simpa using q1, q2, ?_, ?_⟩
  · simpa [EBoolS, Elem.slice] using hc0
  · simpa [EBool, Elem.flat] using hc1

theorem EBool_os {w : World} {lo hi : Nat} {v : Value} {xs : List Bool} : EBool.OS w lo hi v xs ↔ OSl w lo hi 4 1 v xs.length (xs.flatMap fun b => [.bool b]) := flat_os
theorem bools_len (xs : List Bool) : (xs.flatMap fun b => [Value.bool b]).length = xs.length := by induction xs <;> simp_all
theorem bools_map (xs : List Bool) : (xs.flatMap fun b => [Value.bool b]) = xs.map Value.bool := by induction xs <;> simp_all

/-- One place of a table that the call owns. -/
theorem mat_own {w : World} {lo hi n a b : Nat} {v : Value} {p : Nat → Nat → Bool} (h : EBoolS.OS w lo hi v (mat n p)) (hhs : hi ≤ w.heap.size) (ha : a < n) (hb : b < n) : ∃ g r c c', v = .slice (some ⟨g, 0, none⟩) n c ∧ lo ≤ g ∧ g < hi ∧ lo ≤ r ∧ r < hi ∧
    w.cell? ⟨g, a, none⟩ = some (.slice (some ⟨r, 0, none⟩) n c') ∧ w.cell? ⟨r, b, none⟩ = some (.bool (p a b)) ∧ w.frozen? ⟨r, b, none⟩ = false ∧ n ≤ c' ∧
    ∀ x : Bool, EBoolS.OS (w.setCell ⟨r, b, none⟩ (.bool x)) lo hi v (mat n (upd p a b x)) := by
  obtain ⟨g, c, l, cs, hv, g1, g2, g3, hl, ⟨u, rfl, hu⟩, hcell, hin, _⟩ := h.elem (i := a) (by rw [mat_len]; exact ha) hhs
  rw [mat_len] at hv
  rw [mat_at ha] at hl
  injection hl with hl
  subst hl
  have ho := EBool_os.1 hu
  simp only [List.length_map, List.length_range] at ho
  obtain ⟨r, c', rfl, r1, r2, r3⟩ := ho.form (by omega)
  have hrow : (((List.range n).map (p a)).flatMap fun b => [Value.bool b])[b]? = some (.bool (p a b)) := by rw [bools_map]; simp [hb]
  obtain ⟨k1, k2⟩ := ho.cell hrow
  have hc0 := (hcell 0 _ rfl).1
  simp only [EBoolS, Elem.slice, Nat.mul_one, Nat.add_zero] at hc0
  obtain ⟨A', c'', e1, e2, _⟩ := hu.read.open_
  injection e1 with _ _ e1
  subst e1
  refine ⟨g, r, c, c', hv, g1, g2, r1, r2, hc0, k1, k2, by simpa using e2, fun x => ?_⟩
  have h2 := hin (w.setCell ⟨r, b, none⟩ (.bool x)) (((List.range n).map (p a)).set b x) ⟨_, rfl, ?_⟩ ((Only.refl _ _).setCell (a := ⟨r, b, none⟩) (by simp [blocks, Value.ownBlock]) _)
  · rw [mat_upd ha hb] at h2; exact h2
  · refine EBool_os.2 ?_
    have h3 := ho.set (j := b) (u := .bool x) (by rw [bools_len]; simpa using hb)
    rw [bools_map, ← List.map_set, ← bools_map] at h3
    simpa using h3

def zeroRel : Relation := ⟨0, []⟩
theorem relM_len (n : Nat) (p : Nat → Nat → Bool) : (relM n p).length = n := by simp [relM, relTo]
end Go.Proofs.Ytnnjilkjjdiblaa

/-! ## Rel2 -/
namespace Go.Proofs.Ytnnjilkjjdiblaa
set_option maxRecDepth 100000
open Go.RowKit

/-- What a function leaves that returns a relation of its own making. -/
def RetRel (w : World) (r : Relation) (e : Ending) (w' : World) : Prop :=
  ∃ (A : Option Addr) (c : Nat), e = .returned (.agg #[.int .i64 r.size, .slice A r.rows.length c]) ∧ EIntS.OS w' w.heap.size w'.heap.size (.slice A r.rows.length c) r.rows ∧ Below w.heap.size w w'
theorem RetRel.zero {w w' : World} (h : Below w.heap.size w w') : RetRel w zeroRel (.returned (.agg #[.int .i64 0, .slice none 0 0])) w' := ⟨none, 0, rfl, Elem.OS.nil, h⟩

end Go.Proofs.Ytnnjilkjjdiblaa

/-! ## Rel3 -/
namespace Go.Proofs.Ytnnjilkjjdiblaa
set_option maxRecDepth 100000
open Go.RowKit

theorem rowOk_mem {n : Int} {xs : List Int} : ∀ {last : Int}, rowOk n last xs = true → ∀ x ∈ xs, last < x ∧ x < n := by
  induction xs with
  | nil => intro last _ x hx; cases hx
  | cons b r ih =>
    intro last h x hx
    rw [rowOk] at h
    split at h
    · cases h
    · rename_i hn
      rcases List.mem_cons.1 hx with rfl | hx
      · omega
      · have := ih h x hx; omega
theorem rowsOk_mem {n : Int} {xs : List (List Int)} (h : rowsOk n xs = true) : ∀ x ∈ xs, rowOk n (-1) x = true := by
  induction xs with
  | nil => intro x hx; cases hx
  | cons y r ih =>
    intro x hx
    simp only [rowsOk, Bool.and_eq_true] at h
    rcases List.mem_cons.1 hx with rfl | hx
    · exact h.1
    · exact ih h.2 x hx
/-- What a valid relation is. -/
theorem relOk_parts {s : Int} {xs : List (List Int)} (h : relOk ⟨s, xs⟩ = true) : ∃ n : Nat, s = n ∧ n ≤ 40 ∧ xs.length = n ∧ ∀ x ∈ xs, rowOk (n : Int) (-1) x = true := by
  simp only [relOk, Bool.and_eq_true, decide_eq_true_eq] at h
  obtain ⟨⟨h1, h2, h3⟩, h4⟩ := h
  obtain ⟨n, rfl⟩ := Int.eq_ofNat_of_zero_le h1
  exact ⟨n, rfl, by omega, by omega, rowsOk_mem h4⟩

/-- The table of a relation. -/
def gridP (xs : List (List Int)) : Nat → Nat → Bool := fun a b => hasB (xs.getD a []) b
def gridTo (xs : List (List Int)) (k : Nat) : Nat → Nat → Bool := fun a b => decide (a < k) && gridP xs a b
def gridIn (xs : List (List Int)) (k : Nat) (row : List Int) (j : Nat) : Nat → Nat → Bool := fun a b => (decide (a < k) && gridP xs a b) || (decide (a = k) && hasB (row.take j) b)

def GridRel (xs : List (List Int)) (n lo hi : Nat) (A : Option Addr) (c : Nat) (W : World) (i : Value) (wr : World) : Prop :=
  ∃ k : Nat, k ≤ n ∧ i = .int .i64 k ∧ EBoolS.OS wr lo hi (.slice A n c) (mat n (gridTo xs k)) ∧ Chg lo hi W wr ∧ hi ≤ wr.heap.size
def GridIn (xs : List (List Int)) (n lo hi k : Nat) (row : List Int) (A : Option Addr) (c : Nat) (W : World) (i : Value) (wr : World) : Prop :=
  ∃ j : Nat, j ≤ row.length ∧ i = .int .i64 j ∧ EBoolS.OS wr lo hi (.slice A n c) (mat n (gridIn xs k row j)) ∧ Chg lo hi W wr ∧ hi ≤ wr.heap.size
theorem gridIn_step {xs : List (List Int)} {n k j m : Nat} {row : List Int} (hj : row[j]? = some (m : Int)) : mat n (upd (gridIn xs k row j) k m true) = mat n (gridIn xs k row (j + 1)) :=
  mat_congr fun a b _ _ => by
    unfold upd gridIn hasB
    rw [List.take_add_one, hj]
    by_cases h : a = k ∧ b = m
    · obtain ⟨rfl, rfl⟩ := h; simp
    · rw [if_neg h, Bool.eq_iff_iff]
      simp only [Bool.or_eq_true, Bool.and_eq_true, decide_eq_true_eq, List.mem_append, Option.toList_some, List.mem_singleton]
      constructor
      · rintro (h1 | ⟨h1, h2⟩)
        · exact .inl h1
        · exact .inr ⟨h1, .inl h2⟩
      · rintro (h1 | ⟨h1, h2 | h2⟩)
        · exact .inl h1
        · exact .inr ⟨h1, h2⟩
        · exact absurd ⟨h1, by omega⟩ h
theorem gridIn_start (xs : List (List Int)) (n k : Nat) (row : List Int) : mat n (gridTo xs k) = mat n (gridIn xs k row 0) := mat_congr fun a b _ _ => by simp [gridTo, gridIn, hasB]
theorem gridIn_end {xs : List (List Int)} {n k : Nat} {row : List Int} (hk : xs[k]? = some row) : mat n (gridIn xs k row row.length) = mat n (gridTo xs (k + 1)) :=
  mat_congr fun a b _ _ => by
    unfold gridIn gridTo
    rw [List.take_length, Bool.eq_iff_iff]
    simp only [Bool.or_eq_true, Bool.and_eq_true, decide_eq_true_eq]
    constructor
    · rintro (⟨h1, h2⟩ | ⟨rfl, h2⟩)
      · exact ⟨by omega, h2⟩
      · exact ⟨by omega, by simpa [gridP, List.getD, hk] using h2⟩
    · rintro ⟨h1, h2⟩
      by_cases hak : a = k
      · subst hak; exact .inr ⟨rfl, by simpa [gridP, List.getD, hk] using h2⟩
      · exact .inl ⟨by omega, h2⟩

set_option maxHeartbeats 1000000 in
theorem l2Grid_any (s : Int) (A : Option Addr) (c lo hi : Nat) (xs : List (List Int)) (w : World) (h : EIntS.AS w lo hi A xs) (hh : hi ≤ w.heap.size) (hok : relOk ⟨s, xs⟩ = true) :
    Calls Try.prog 93 #[.agg #[.int .i64 s, .slice A xs.length c]] w fun e w' => ∃ A' c', e = .returned (.slice A' xs.length c') ∧ EBoolS.OS w' w.heap.size w'.heap.size (.slice A' xs.length c') (mat xs.length (gridP xs)) ∧ Below w.heap.size w w' := by
  obtain ⟨n, rfl, hn, hl, hrows⟩ := relOk_parts hok
  clear hok
  rw [hl]
  have HL := Lib.hid hl
  clear hl
  have hx := h.le
  rw [HL.out] at hx
  go_enter Try.func93, Try.ntmps93
  go_wp2_with (go_at_call 99; refine (l2Blank_any n _ hn).mono ?_; rintro e w1 ⟨A1, c1, rfl, ho1, hb1⟩; rw [mat_blank] at ho1; (obtain ⟨hb1c, hb1f⟩ := bcell hb1); (have hb1z := hb1.size); (try simp only [szs] at hb1c hb1f hb1z))
  have hz1 : w.heap.size + 1 ≤ w1.heap.size := by omega
  have hbw : Below w.heap.size w w1 := by (with_reducible repeat' first | exact Below.refl _ _ | assumption | (refine Below.setCell ?_ (by first | omega | (simp; omega) | (simp; done) | (dsimp only; omega)) _) | (refine Below.alloc ?_ (by first | omega | (simp; omega) | (simp; done) | (dsimp only; omega)) _) | (refine below_drewN ?_ _) | (refine Below.drew ?_) | (refine Below.trans ?_ (hb1.mono (by first | omega | (simp; omega) | (simp; done) | (dsimp only; omega)))))
  simp only [World.size_alloc] at ho1
  clear hb1 hb1c hb1f hb1z
  go_loopw [14] (fun i wr => GridRel xs n (w.heap.size + 1) w1.heap.size A1 c1 w1 i wr) (fun i _ => n - (intOf i).toNat)
  case atStart => exact ⟨0, Nat.zero_le _, rfl, by rw [show mat n (gridTo xs 0) = mat n fun _ _ => false from mat_congr (by simp [gridTo])]; exact ho1, Chg.refl _ _ _, Nat.le_refl _⟩
  case round =>
    obtain ⟨k, hk, rfl, ho, hch, hsz⟩ := hrel
    have hbr : Below w.heap.size w wr := hbw.trans (hch.below (by omega) (by omega))
    by_cases hlt : k < n
    · obtain ⟨b, off, row, B, cx, rfl, _, _, _, hxk, hc, _, _, hr⟩ := AIntS.at_ (h.same (Same.of_below hbr hh)) (by rw [HL.out]; exact hlt)
      have hmem := rowOk_mem (hrows row (List.mem_of_getElem? hxk))
      have HXK := Lib.hid hxk; clear hxk
      have hrl := hr.le
      unfold BIG at hrl
      rw [gridIn_start xs n k row] at ho
      go_wp2
      obtain ⟨wo, rfl⟩ : ∃ wo : World, wo = wr := ⟨_, rfl⟩
      go_loopw [21] (fun i w2 => GridIn xs n (w.heap.size + 1) w1.heap.size k row A1 c1 wo i w2) (fun i _ => row.length - (intOf i).toNat)
      case atStart => exact ⟨0, Nat.zero_le _, rfl, ho, Chg.refl _ _ _, hsz⟩
      case round =>
        obtain ⟨j, hj, rfl, ho2, hch2, hsz2⟩ := hrel
        by_cases hlt2 : j < row.length
        · obtain ⟨b2, off2, x, rfl, _, _, _, hxj, hc2⟩ := AInt.at_ (hr.same (Same.of_chg hch2 (by omega) (by omega))) hlt2
          have hxb := hmem x (List.mem_of_getElem? hxj)
          obtain ⟨m, rfl⟩ := Int.eq_ofNat_of_zero_le (by omega : 0 ≤ x)
          have hmn : m < n := by omega
          have HXJ := Lib.hid hxj; clear hxj
          obtain ⟨g, r, c', c'', hv, g1, g2, r1, r2, k1, k2, k3, k4, hset⟩ := mat_own ho2 hsz2 hlt hmn
          injection hv with hv _ hcc
          subst hv; subst hcc
          go_wp2
          refine ⟨⟨j + 1, by omega, by go_num, ?_, hch2.setCell ⟨r1, r2⟩ _, by simpa [World.setCell] using hsz2⟩, by simp [intOf]; omega⟩
          rw [← gridIn_step HXJ.out]; exact hset true
        · obtain rfl : j = row.length := by omega
          rw [gridIn_end HXK.out] at ho2
          go_wp2
          exact ⟨⟨k + 1, by omega, by go_num, ho2, hch.trans hch2, hsz2⟩, by simp [intOf]; omega⟩
    · obtain rfl : k = n := by omega
      have hg : mat k (gridTo xs k) = mat k (gridP xs) := mat_congr fun a b ha _ => by simp [gridTo, ha]
      rw [hg] at ho
      go_wp2
      go_ret
      exact ⟨_, _, rfl, ho.mono (by omega) hsz, hbr⟩

end Go.Proofs.Ytnnjilkjjdiblaa

/-! ## Rel4 -/
namespace Go.Proofs.Ytnnjilkjjdiblaa
set_option maxRecDepth 100000
open Go.RowKit

def SameRel (n : Nat) (p q : Nat → Nat → Bool) (w : World) (i : Value) (wr : World) : Prop := ∃ (k d : Nat), k ≤ n ∧ i = .int .i64 k ∧ wr = w.drewN d ∧ ∀ a b, a < k → b < n → p a b = q a b
def SameIn (n k : Nat) (p q : Nat → Nat → Bool) (w : World) (i : Value) (wr : World) : Prop := ∃ (j d : Nat), j ≤ n ∧ i = .int .i64 j ∧ wr = w.drewN d ∧ ∀ b, b < j → p k b = q k b
theorem mat_ne {n a b : Nat} {p q : Nat → Nat → Bool} (ha : a < n) (hb : b < n) (h : p a b ≠ q a b) : eqB (mat n p) (mat n q) = false := eqB_ne fun e => by
  have h1 : (mat n p)[a]? = (mat n q)[a]? := by rw [e]
  rw [mat_at ha, mat_at ha] at h1
  injection h1 with h1
  have h2 : ((List.range n).map (p a))[b]? = ((List.range n).map (q a))[b]? := by rw [h1]
  simp [hb] at h2
  exact h h2

set_option maxHeartbeats 1000000 in
theorem l2Same_any (A B : Option Addr) (c d lo hi lo' hi' n : Nat) (p q : Nat → Nat → Bool) (w : World) (hn : n ≤ 40) (h : EBoolS.AS w lo hi A (mat n p)) (h' : EBoolS.AS w lo' hi' B (mat n q)) :
    Calls Try.prog 92 #[.slice A n c, .slice B n d] w fun e w' => ∃ m, e = .returned (.bool (eqB (mat n p) (mat n q))) ∧ w.drewN m = w' := by
  go_enter Try.func92, Try.ntmps92
  go_wp2
  go_loopw [9] (fun i wr => SameRel n p q w i wr) (fun i _ => n - (intOf i).toNat)
  case atStart => exact ⟨0, 0, Nat.zero_le _, rfl, rfl, fun a b ha _ => absurd ha (Nat.not_lt_zero _)⟩
  case round =>
    obtain ⟨k, m, hk, rfl, hw, he⟩ := hrel
    have HE := Lib.hid he; have HW := Lib.hid hw; clear he hw
    by_cases hlt : k < n
    · obtain ⟨g1, o1, r1, q1, cc1, rfl, _, _, _, _, _, _, k1, _⟩ := mat_read (b := 0) (HW.out ▸ h.drewN m : EBoolS.AS wr lo hi A (mat n p)) hlt (by omega)
      go_wp2
      obtain ⟨wo, rfl⟩ : ∃ wo : World, wo = wr := ⟨_, rfl⟩
      go_loopw [17] (fun i wr => SameIn n k p q wo i wr) (fun i _ => n - (intOf i).toNat)
      case atStart => exact ⟨0, 0, Nat.zero_le _, rfl, rfl, fun b hb => absurd hb (Nat.not_lt_zero _)⟩
      case round =>
        obtain ⟨j, m2, hj, rfl, hw2, he2⟩ := hrel
        have HE2 := Lib.hid he2; have HW2 := Lib.hid hw2; clear he2 hw2
        by_cases hlt2 : j < n
        · have e1 : EBoolS.AS wr lo hi (some ⟨g1, o1, none⟩) (mat n p) := HW2.out ▸ (HW.out ▸ h.drewN m : EBoolS.AS wo lo hi (some ⟨g1, o1, none⟩) (mat n p)).drewN m2
          have e2 : EBoolS.AS wr lo' hi' B (mat n q) := HW2.out ▸ (HW.out ▸ h'.drewN m : EBoolS.AS wo lo' hi' B (mat n q)).drewN m2
          obtain ⟨g1', o1', r1', q1', cc1', hA, _, _, _, _, _, _, k2, k3⟩ := mat_read e1 hlt hlt2
          obtain ⟨g2, o2, r2, q2, cc2, rfl, _, _, _, _, _, _, k4, k5⟩ := mat_read e2 hlt hlt2
          injection hA with hA
          injection hA with hA1 hA2
          subst hA1; subst hA2
          have t1 : (0 : Int) ≤ (k : Int) := by omega
          have t2 : (k : Int) < (n : Int) := by omega
          have t3 : (0 : Int) ≤ (j : Int) := by omega
          have t4 : (j : Int) < (n : Int) := by omega
          clear e1 e2 k1
          generalize hx : p k j = x at k3
          generalize hy : q k j = y at k5
          have HX := Lib.hid hx; have HY := Lib.hid hy; clear hx hy
          go_wp2
          go_quiet (fail)
          go_wp2
          · have hxy : (x != y) = true := by assumption
            go_ret
            refine ⟨_, ret_bool (mat_ne hlt hlt2 ?_).symm, by rw [HW2.out, HW.out, World.drewN_drewN, World.drewN_drewN]⟩
            rw [HX.out, HY.out]; simpa using hxy
          · have hxy : (x != y) = false := by assumption
            refine ⟨⟨j + 1, _, by omega, by go_num, by rw [HW2.out, World.drewN_drewN], fun b hb => ?_⟩, by simp [intOf]; omega⟩
            by_cases hbj : b = j
            · subst hbj; rw [HX.out, HY.out]; simpa using hxy
            · exact HE2.out b (by omega)
        · obtain rfl : j = n := by omega
          go_wp2
          refine ⟨⟨k + 1, _, by omega, by go_num, by rw [HW2.out, HW.out, World.drewN_drewN], fun a b ha hb => ?_⟩, by simp [intOf]; omega⟩
          by_cases hak : a = k
          · subst hak; exact HE2.out b hb
          · exact HE.out a b (by omega) hb
    · obtain rfl : k = n := by omega
      go_wp2
      go_ret
      exact ⟨_, ret_bool (eqB_of (mat_congr HE.out)).symm, HW.out.symm⟩

/-- Ascending rows are equal just if they have the same members. -/
theorem row_ext {n : Int} {xs ys : List Int} : ∀ {last : Int}, rowOk n last xs = true → rowOk n last ys = true → (∀ b, b ∈ xs ↔ b ∈ ys) → xs = ys := by
  induction xs generalizing ys with
  | nil =>
    intro last _ _ h
    cases ys with
    | nil => rfl
    | cons y r => exact absurd ((h y).2 (by simp)) (by simp)
  | cons x r ih =>
    intro last hx hy h
    cases ys with
    | nil => exact absurd ((h x).1 (by simp)) (by simp)
    | cons y s =>
      have mx := rowOk_mem hx; have my := rowOk_mem hy
      rw [rowOk] at hx hy
      split at hx
      · cases hx
      split at hy
      · cases hy
      have rx := rowOk_mem hx; have ry := rowOk_mem hy
      have hxy : x = y := by
        rcases List.mem_cons.1 ((h x).1 (by simp)) with e | e
        · exact e
        · rcases List.mem_cons.1 ((h y).2 (by simp)) with e' | e'
          · exact e'.symm
          · have := (ry x e).1; have := (rx y e').1; omega
      subst hxy
      rw [ih hx hy fun b => ?_]
      constructor
      · intro hb
        rcases List.mem_cons.1 ((h b).1 (by simp [hb])) with e | e
        · have := (rx b hb).1; omega
        · exact e
      · intro hb
        rcases List.mem_cons.1 ((h b).2 (by simp [hb])) with e | e
        · have := (ry b hb).1; omega
        · exact e
theorem grid_eq {n : Nat} {xs ys : List (List Int)} (hx : xs.length = n) (hy : ys.length = n) (h1 : ∀ x ∈ xs, rowOk (n : Int) (-1) x = true) (h2 : ∀ x ∈ ys, rowOk (n : Int) (-1) x = true) : eqB (mat n (gridP xs)) (mat n (gridP ys)) = eqB xs ys := by
  by_cases h : xs = ys
  · subst h; rw [eqB_refl, eqB_refl]
  · rw [eqB_ne h]
    -- some row differs in some member
    have : ∃ a, a < n ∧ xs.getD a [] ≠ ys.getD a [] := by
      refine Classical.byContradiction fun hn => h ?_
      apply List.ext_getElem?
      intro a
      by_cases ha : a < n
      · have := Classical.byContradiction fun hne => hn ⟨a, ha, hne⟩
        simp only [List.getD] at this
        rw [List.getElem?_eq_getElem (by omega), List.getElem?_eq_getElem (by omega)] at this ⊢
        simpa using this
      · rw [List.getElem?_eq_none (by omega), List.getElem?_eq_none (by omega)]
    obtain ⟨a, ha, hne⟩ := this
    have m1 : xs.getD a [] ∈ xs := by simp [List.getD, List.getElem?_eq_getElem (show a < xs.length by omega)]
    have m2 : ys.getD a [] ∈ ys := by simp [List.getD, List.getElem?_eq_getElem (show a < ys.length by omega)]
    have : ∃ b : Int, ¬ (b ∈ xs.getD a [] ↔ b ∈ ys.getD a []) := Classical.byContradiction fun hn => hne (row_ext (h1 _ m1) (h2 _ m2) fun b => Classical.byContradiction fun hb => hn ⟨b, hb⟩)
    obtain ⟨b, hb⟩ := this
    have hr : 0 ≤ b ∧ b < n := by
      by_cases hm : b ∈ xs.getD a []
      · have := rowOk_mem (h1 _ m1) b hm; omega
      · have hm' : b ∈ ys.getD a [] := Classical.byContradiction fun hn => hb (iff_of_false hm hn)
        have := rowOk_mem (h2 _ m2) b hm'; omega
    obtain ⟨b, rfl⟩ := Int.eq_ofNat_of_zero_le hr.1
    refine mat_ne ha (show b < n by omega) fun e => hb ?_
    simp only [gridP, hasB, decide_eq_decide] at e
    exact e
def equalM (r s : Relation) : Bool := bothOk r s && eqB r.rows s.rows
theorem bothOk_parts {s t : Int} {xs ys : List (List Int)} (h : bothOk ⟨s, xs⟩ ⟨t, ys⟩ = true) : relOk ⟨s, xs⟩ = true ∧ relOk ⟨t, ys⟩ = true ∧ s = t := by
  simp only [bothOk, Bool.and_eq_true, decide_eq_true_eq] at h
  exact ⟨h.1.1, h.1.2, h.2⟩
end Go.Proofs.Ytnnjilkjjdiblaa

/-! ## Rel5 -/
namespace Go.Proofs.Ytnnjilkjjdiblaa
set_option maxRecDepth 100000
open Go.RowKit

set_option maxHeartbeats 1000000 in
theorem specEqualRelations_any (s t : Int) (A B : Option Addr) (c d lo hi lo' hi' : Nat) (xs ys : List (List Int)) (w : World) (h : EIntS.AS w lo hi A xs) (h' : EIntS.AS w lo' hi' B ys) (hh : hi ≤ w.heap.size) (hh' : hi' ≤ w.heap.size) :
    Calls Try.prog 22 #[.agg #[.int .i64 s, .slice A xs.length c], .agg #[.int .i64 t, .slice B ys.length d]] w fun e w' => e = .returned (.bool (equalM ⟨s, xs⟩ ⟨t, ys⟩)) ∧ Below w.heap.size w w' := by
  cases hok : bothOk ⟨s, xs⟩ ⟨t, ys⟩ with
  | false =>
    have HO := Lib.hid hok; clear hok
    go_enter Try.func22, Try.ntmps22
    go_wp2_with fail
    generalize hW : (w.alloc (.cells #[.int .i64 s, .slice A xs.length c] 38)).alloc (.cells #[.int .i64 t, .slice B ys.length d] 38) = W
    have a0 : W.cell? ⟨w.heap.size, 0, none⟩ = some (.int .i64 s) := by subst hW; simp [go_sem]
    have a1 : W.cell? ⟨w.heap.size, 1, none⟩ = some (.slice A xs.length c) := by subst hW; simp [go_sem]
    have a2 : W.cell? ⟨w.heap.size + 1, 0, none⟩ = some (.int .i64 t) := by subst hW; simp [go_sem]
    have a3 : W.cell? ⟨w.heap.size + 1, 1, none⟩ = some (.slice B ys.length d) := by subst hW; simp [go_sem]
    have hb : Below w.heap.size w W := by subst hW; (with_reducible repeat' first | exact Below.refl _ _ | assumption | (refine Below.setCell ?_ (by first | omega | (simp; omega) | (simp; done) | (dsimp only; omega)) _) | (refine Below.alloc ?_ (by first | omega | (simp; omega) | (simp; done) | (dsimp only; omega)) _) | (refine below_drewN ?_ _) | (refine Below.drew ?_))
    have hz : w.heap.size + 1 + 1 ≤ W.heap.size := by subst hW; simp
    clear hW
    replace h : EIntS.AS W lo hi A xs := h.same (Same.of_below hb hh)
    replace h' : EIntS.AS W lo' hi' B ys := h'.same (Same.of_below hb hh')
    go_region_with (first | (go_at_call 91; refine (l2Both_any s t A B c d _ _ _ _ xs ys _ h.drew h'.drew ?_ ?_).mono ?_; (first | omega | (simp; omega) | (simp; done) | (dsimp only; omega)); (first | omega | (simp; omega) | (simp; done) | (dsimp only; omega)); rintro e w3 ⟨rfl, hb3⟩; simp only [HO.out]; replace hb3 := undrew hb3; have hb := hb.trans (hb3.mono (by first | omega | (simp; omega) | (simp; done) | (dsimp only; omega)))))
    all_goals (go_wp2; go_ret; exact ⟨ret_bool (by simp only [equalM, HO.out, Bool.false_and]), hb⟩)
  | true =>
    obtain ⟨p1, p2, p3⟩ := bothOk_parts hok
    obtain ⟨n, rfl, hn, hl1, hr1⟩ := relOk_parts p1
    subst p3
    obtain ⟨n', hnn, _, hl2, hr2⟩ := relOk_parts p2
    obtain rfl : n' = n := by omega
    have HO := Lib.hid hok; have H1 := Lib.hid hl1; have H2 := Lib.hid hl2; clear hok hnn hl1 hl2
    have P1 := Lib.hid p1; have P2 := Lib.hid p2; clear p1 p2
    go_enter Try.func22, Try.ntmps22
    go_wp2_with fail
    generalize hW : (w.alloc (.cells #[.int .i64 n', .slice A xs.length c] 38)).alloc (.cells #[.int .i64 n', .slice B ys.length d] 38) = W
    have a0 : W.cell? ⟨w.heap.size, 0, none⟩ = some (.int .i64 n') := by subst hW; simp [go_sem]
    have a1 : W.cell? ⟨w.heap.size, 1, none⟩ = some (.slice A xs.length c) := by subst hW; simp [go_sem]
    have a2 : W.cell? ⟨w.heap.size + 1, 0, none⟩ = some (.int .i64 n') := by subst hW; simp [go_sem]
    have a3 : W.cell? ⟨w.heap.size + 1, 1, none⟩ = some (.slice B ys.length d) := by subst hW; simp [go_sem]
    have hb : Below w.heap.size w W := by subst hW; (with_reducible repeat' first | exact Below.refl _ _ | assumption | (refine Below.setCell ?_ (by first | omega | (simp; omega) | (simp; done) | (dsimp only; omega)) _) | (refine Below.alloc ?_ (by first | omega | (simp; omega) | (simp; done) | (dsimp only; omega)) _) | (refine below_drewN ?_ _) | (refine Below.drew ?_))
    have hz : w.heap.size + 1 + 1 ≤ W.heap.size := by subst hW; simp
    clear hW
    replace h : EIntS.AS W lo hi A xs := h.same (Same.of_below hb hh)
    replace h' : EIntS.AS W lo' hi' B ys := h'.same (Same.of_below hb hh')
    go_region_held3 (fun w' => w'.cell? ⟨w.heap.size, 0, none⟩ = some (.int .i64 n') ∧ w'.cell? ⟨w.heap.size, 1, none⟩ = some (.slice A xs.length c) ∧ w'.cell? ⟨w.heap.size + 1, 0, none⟩ = some (.int .i64 n') ∧ w'.cell? ⟨w.heap.size + 1, 1, none⟩ = some (.slice B ys.length d)) (exact ⟨a0, a1, a2, a3⟩)
      (first
        | (go_at_call 91; refine (l2Both_any n' n' A B c d _ _ _ _ xs ys _ h.drew h'.drew ?_ ?_).mono ?_; (first | omega | (simp; omega) | (simp; done) | (dsimp only; omega)); (first | omega | (simp; omega) | (simp; done) | (dsimp only; omega)); rintro e w3 ⟨rfl, hb3⟩; simp only [HO.out]; replace hb3 := undrew hb3; (replace a0 := (hb3.cell (by first | omega | (simp; omega) | (simp; done) | (dsimp only; omega))).trans a0; replace a1 := (hb3.cell (by first | omega | (simp; omega) | (simp; done) | (dsimp only; omega))).trans a1; replace a2 := (hb3.cell (by first | omega | (simp; omega) | (simp; done) | (dsimp only; omega))).trans a2; replace a3 := (hb3.cell (by first | omega | (simp; omega) | (simp; done) | (dsimp only; omega))).trans a3; replace h := h.same (Same.of_below hb3 (by first | omega | (simp; omega) | (simp; done) | (dsimp only; omega))); replace h' := h'.same (Same.of_below hb3 (by first | omega | (simp; omega) | (simp; done) | (dsimp only; omega))); replace hb := hb.trans (hb3.mono (by first | omega | (simp; omega) | (simp; done) | (dsimp only; omega))); replace hz := Nat.le_trans hz hb3.size; have zhb3 := hb3.size; clear hb3))
        | (go_at_call 93; (with_reducible refine (l2Grid_any n' A c _ _ xs w3 h ?_ P1.out).mono ?_); (first | omega | (simp; omega) | (simp; done) | (dsimp only; omega)); rintro e w4 ⟨A4, c4, rfl, o4, hb4⟩; (replace a0 := (hb4.cell (by first | omega | (simp; omega) | (simp; done) | (dsimp only; omega))).trans a0; replace a1 := (hb4.cell (by first | omega | (simp; omega) | (simp; done) | (dsimp only; omega))).trans a1; replace a2 := (hb4.cell (by first | omega | (simp; omega) | (simp; done) | (dsimp only; omega))).trans a2; replace a3 := (hb4.cell (by first | omega | (simp; omega) | (simp; done) | (dsimp only; omega))).trans a3; replace h := h.same (Same.of_below hb4 (by first | omega | (simp; omega) | (simp; done) | (dsimp only; omega))); replace h' := h'.same (Same.of_below hb4 (by first | omega | (simp; omega) | (simp; done) | (dsimp only; omega))); replace hb := hb.trans (hb4.mono (by first | omega | (simp; omega) | (simp; done) | (dsimp only; omega))); replace hz := Nat.le_trans hz hb4.size; have zhb4 := hb4.size; clear hb4))
        | (go_at_call 93; (with_reducible refine (l2Grid_any n' B d _ _ ys w4 h' ?_ P2.out).mono ?_); (first | omega | (simp; omega) | (simp; done) | (dsimp only; omega)); rintro e w5 ⟨A5, c5, rfl, o5, hb5⟩; rw [H1.out] at o4 ⊢; rw [H2.out] at o5 ⊢; (replace a0 := (hb5.cell (by first | omega | (simp; omega) | (simp; done) | (dsimp only; omega))).trans a0; replace a1 := (hb5.cell (by first | omega | (simp; omega) | (simp; done) | (dsimp only; omega))).trans a1; replace a2 := (hb5.cell (by first | omega | (simp; omega) | (simp; done) | (dsimp only; omega))).trans a2; replace a3 := (hb5.cell (by first | omega | (simp; omega) | (simp; done) | (dsimp only; omega))).trans a3; replace h := h.same (Same.of_below hb5 (by first | omega | (simp; omega) | (simp; done) | (dsimp only; omega))); replace h' := h'.same (Same.of_below hb5 (by first | omega | (simp; omega) | (simp; done) | (dsimp only; omega))); replace o4 := o4.same (Same.of_below hb5 (by first | omega | (simp; omega) | (simp; done) | (dsimp only; omega))); replace hb := hb.trans (hb5.mono (by first | omega | (simp; omega) | (simp; done) | (dsimp only; omega))); replace hz := Nat.le_trans hz hb5.size; have zhb5 := hb5.size; clear hb5))
        | (go_at_call 92; refine (l2Same_any A4 A5 c4 c5 _ _ _ _ n' (gridP xs) (gridP ys) _ hn o4.read.as o5.read.as).mono ?_; rintro e w6 ⟨m, rfl, rfl⟩; replace a0 := (show (w5.drewN m).cell? _ = _ from a0); replace a1 := (show (w5.drewN m).cell? _ = _ from a1); replace a2 := (show (w5.drewN m).cell? _ = _ from a2); replace a3 := (show (w5.drewN m).cell? _ = _ from a3)))
    go_wp2
    go_ret
    refine ⟨ret_bool ?_, below_drewN hb _⟩
    rw [equalM, HO.out]
    exact grid_eq H1.out H2.out hr1 hr2
end Go.Proofs.Ytnnjilkjjdiblaa
