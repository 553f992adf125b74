/-
  sort.Slice's family with a comparison that lays blocks: the common words; insertion sort.
  sort.Slice's family: the heap sort.
  sort.Slice's family: the heap sort, whole.
  sort.Slice's family: the pivot.
  sort.Slice's family: is it sorted? (ranges of less than fifty).
  sort.Slice's family: the partition of equals.
  sort.Slice's family: the partition.
  sort.Slice: the laying at this seat (as lay-plain.mjs printed it); reverseRange, breakPatterns.
  The plain law of the sort: a sorted permutation of the persons sought is the reference's list.
  sort.Slice's family: pdqsort_func.
  sort.Slice with a comparison that lays blocks.
-/
import Derived.Test.YthpcippgifmabaaOrderS
import Derived.Shelf.GgSortFunc.Insertion
import Derived.Sort.WalkB3
import Derived.Sort.LotD4
import Derived.Sort.LotC
import Derived.Deep.CutBlock
import Derived.Shelf.GgSortFunc.Small
import Derived.Shelf.GgSortFunc.Compose
import Derived.Shelf.SlSortFunc.BreakPatterns
import Derived.Test.YthpcippgifmabaaSibM
import Derived.Sort.AssemblyPlain
import Derived.Sort.Walk13
import Derived.Shelf.GgSortFunc.Tiny

/-! ## SortA -/
namespace Go.Proofs.Ythpcippgifmabaa
set_option maxRecDepth 100000
open Go.RowKit
open Go.Sort (Holds swp insInner insOuter insertionSort size_swp)
variable {m9 : Nat}

/-- Numbers below a bound, as the cells hold them. -/
def encF {m9 : Nat} (x : Fin (m9 + 1)) : Value := .int .i64 ((x.val : Nat) : Int)
/-- The row's block is of the kind and the size of before. -/
def Frm (r : Nat) (w W : World) : Prop := ∀ cs t z, w.heap[r]? = some (.cells cs t z) → ∃ cs', W.heap[r]? = some (.cells cs' t z) ∧ cs'.size = cs.size
theorem Frm.refl (r : Nat) (w : World) : Frm r w w := fun cs _ _ h => ⟨cs, h, rfl⟩
theorem Frm.trans {r : Nat} {w W W' : World} (h : Frm r w W) (k : Frm r W W') : Frm r w W' := fun cs t z e => by
  obtain ⟨c1, h1, h2⟩ := h cs t z e
  obtain ⟨c2, h3, h4⟩ := k c1 t z h1
  exact ⟨c2, h3, h4.trans h2⟩
theorem Frm.of_eq {r : Nat} {w W : World} (h : W.heap[r]? = w.heap[r]?) : Frm r w W := fun cs _ _ e => ⟨cs, h.trans e, rfl⟩
theorem Frm.setCell {r : Nat} {w W : World} (h : Frm r w W) (i : Nat) (u : Value) : Frm r w (W.setCell ⟨r, i, none⟩ u) := fun cs t z e => by
  obtain ⟨c1, h1, h2⟩ := h cs t z e
  exact ⟨c1.setIfInBounds i u, by simp [World.setCell, Array.getElem?_modify, h1], by simpa using h2⟩
/-- Nothing old is changed but row r; it holds d. -/
structure Srt (w : World) (r off : Nat) (d : Array (Fin (m9 + 1))) (W : World) : Prop where
  chg : Chg r (r + 1) w W
  holds : Holds encF W r off d
  frm : Frm r w W
section
variable {w W W' : World} {r off n : Nat} {d d' : Array (Fin (m9 + 1))} {lt : Fin (m9 + 1) → Fin (m9 + 1) → Bool} {lb sb : Array Value}

theorem holds_below (h : Holds encF W r off d) (hr : r < W.heap.size) (k : Below W.heap.size W W') : Holds encF W' r off d := fun j hj =>
  ⟨(k.cell (p := ⟨r, off + j, none⟩) hr).trans (h j hj).1, by
    have e := k.block r hr
    have := (h j hj).2
    simp only [World.frozen?, e] at this ⊢
    exact this⟩
theorem Srt.refl (h : Holds encF w r off d) : Srt w r off d w := ⟨Chg.refl _ _ _, h, Frm.refl _ _⟩
theorem Srt.trans (h : Srt w r off d W) (k : Srt W r off d' W') : Srt w r off d' W' := ⟨h.chg.trans k.chg, k.holds, h.frm.trans k.frm⟩
theorem Srt.size (h : Srt w r off d W) : w.heap.size ≤ W.heap.size := h.chg.size
theorem Srt.below (h : Srt w r off d W) (hr : r < w.heap.size) (k : Below W.heap.size W W') : Srt w r off d W' :=
  ⟨h.chg.trans (Chg.of_below k), holds_below h.holds (Nat.lt_of_lt_of_le hr h.size) k, h.frm.trans (Frm.of_eq (k.block r (Nat.lt_of_lt_of_le hr h.size)))⟩
theorem Srt.blk {g t : Nat} {cs : Array Value} (h : Srt w r off d W) (F : Blk w g t cs) (hg : g ≠ r) : Blk W g t cs := F.chg h.chg (by omega)
theorem Srt.swap (h : Srt w r off d W) (i j : Nat) (hi : i < d.size) (hj : j < d.size) :
    Srt w r off (swp d i j) ((W.setCell ⟨r, off + i, none⟩ (encF d[j]!)).setCell ⟨r, off + j, none⟩ (encF d[i]!)) := by
  refine ⟨(h.chg.setCell ⟨Nat.le_refl _, by simp⟩ _).setCell ⟨Nat.le_refl _, by simp⟩ _, ?_, (h.frm.setCell _ _).setCell _ _⟩
  have e := Sort.putRow_swp encF W r off d i j hi hj
  rw [Sort.putRow_self _ _ _ _ _ h.holds] at e
  rw [e]
  exact Sort.holds_putRow _ _ _ _ d _ h.holds (size_swp _ _ _)

/-- What is asked of the comparison. -/
structure Less (lt : Fin (m9 + 1) → Fin (m9 + 1) → Bool) (lb : Array Value) (r off n : Nat) (w : World) : Prop where
  row : r < w.heap.size
  call : ∀ W d, Srt w r off d W → d.size = n → ∀ i j : Nat, i < n → j < n →
    Calls Try.prog 54 (#[.int .i64 i, .int .i64 j] ++ lb) W fun e w' => e = .returned (.bool (lt d[i]! d[j]!)) ∧ Below W.heap.size W w'
theorem Less.of (h : Less lt lb r off n w) (k : Srt w r off d W) : Less lt lb r off n W := ⟨Nat.lt_of_lt_of_le h.row k.size, fun W' d' h' => h.call W' d' (k.trans h')⟩
theorem Less.below (h : Less lt lb r off n w) (k : Below w.heap.size w W) : Less lt lb r off n W := ⟨Nat.lt_of_lt_of_le h.row k.size, fun W' d' h' => h.call W' d' ⟨(Chg.of_below k).trans h'.chg, h'.holds, (Frm.of_eq (k.block r h.row)).trans h'.frm⟩⟩
theorem Less.at (h : Less lt lb r off n w) (k : Srt w r off d W) (hs : d.size = n) (i j : Nat) (hi : i < n) (hj : j < n) : ∀ x y : Int, x = (i : Int) → y = (j : Int) →
    Calls Try.prog 54 (#[.int .i64 x, .int .i64 y] ++ lb) W fun e w' => e = .returned (.bool (lt d[i]! d[j]!)) ∧ Below W.heap.size W w' := by
  rintro x y rfl rfl; exact h.call W d k hs i j hi hj
end
def Swp (m9 : Nat) (sb : Array Value) (r off n : Nat) : Prop := SwapSwaps Try.prog 90 sb (encF (m9 := m9)) r off n
theorem Swp.at {sb : Array Value} {r off n : Nat} {d : Array (Fin (m9 + 1))} {w W : World} (h : Swp m9 sb r off n) (k : Srt w r off d W) (hs : d.size = n) (i j : Nat) (hi : i < n) (hj : j < n) :
    ∃ W2, (∀ x y : Int, x = (i : Int) → y = (j : Int) → (callFunc 90 (#[.int .i64 x, .int .i64 y] ++ sb)).run Try.prog W = .ok (.value (.tuple #[])) W2) ∧ Srt w r off (swp d i j) W2 :=
  ⟨_, by rintro x y rfl rfl; exact h W d k.holds hs i j hi hj, k.swap i j (by omega) (by omega)⟩

set_option maxHeartbeats 4000000 in
theorem insertion_any (lt : Fin (m9 + 1) → Fin (m9 + 1) → Bool) (lb sb : Array Value) (r off a b : Nat) (d : Array (Fin (m9 + 1))) (w : World) (hL : Less lt lb r off d.size w) (hS : Swp m9 sb r off d.size) (hH : Holds encF w r off d) (hab : a ≤ b) (hb : b ≤ d.size) (hsz : d.size < 1000) :
    Calls Try.prog 97 #[.agg #[.func (.func 54) #[] lb, .func (.func 90) #[] sb], .int .i64 a, .int .i64 b] w fun e w' =>
      e = .returned (.tuple #[]) ∧ Srt w r off (insertionSort lt d a b) w' := by
  have hr := hL.row
  go_enter Try.func97, Try.ntmps97
  go_upto_region 1 with fail
  have F : Blk (w.alloc (.cells #[.func (.func 54) #[] lb, .func (.func 90) #[] sb] 103)) w.heap.size 103 #[.func (.func 54) #[] lb, .func (.func 90) #[] sb] := Blk.new _ rfl
  have S0 : Srt w r off d (w.alloc (.cells #[.func (.func 54) #[] lb, .func (.func 90) #[] sb] 103)) := (Srt.refl hH).below hr (by (with_reducible repeat' first | exact Below.refl _ _ | assumption | (refine Below.setCell ?_ (by first | omega | (simp; omega) | (simp; done) | (dsimp only; omega)) _) | (refine Below.alloc ?_ (by first | omega | (simp; omega) | (simp; done) | (dsimp only; omega)) _) | (refine below_drewN ?_ _) | (refine Below.drew ?_)))
  generalize (w.alloc (.cells #[.func (.func 54) #[] lb, .func (.func 90) #[] sb] 103)) = w0 at F S0
  have lF := F.lt
  go_wp2
  go_loopw [6] (fun vi wr => ∃ (i : Nat) (dk : Array (Fin (m9 + 1))), vi = .int .i64 i ∧ a < i ∧ i ≤ b + 1 ∧ dk.size = d.size ∧ Srt w0 r off dk wr ∧ insOuter lt a b i dk = insOuter lt a b (a + 1) d) (fun vi _ => b + 1 - (intOf vi).toNat)
  case atStart => exact ⟨a + 1, d, by go_num, by omega, by omega, rfl, Srt.refl S0.holds, rfl⟩
  case round =>
    obtain ⟨i, dk, rfl, hai, hib, hsk, hwr, hO⟩ := hrel
    have HO := Lib.hid hO
    clear hO
    by_cases hlt : i < b
    · have hltz : (i : Int) < (b : Int) := by omega
      go_wp2
      go_loopw [7] (fun vj wr2 => ∃ (j : Nat) (dj : Array (Fin (m9 + 1))), vj = .int .i64 j ∧ a ≤ j ∧ j ≤ i ∧ dj.size = d.size ∧ Srt w0 r off dj wr2 ∧ insInner lt a j dj = insInner lt a i dk) (fun vj _ => (intOf vj).toNat)
      case atStart => exact ⟨i, dk, rfl, by omega, Nat.le_refl _, hsk, hwr, rfl⟩
      case round =>
        obtain ⟨j, dj, rfl, haj, hji, hsj, hw2, hI⟩ := hrel
        have HI := Lib.hid hI
        clear hI
        have Fr := hw2.blk F (by omega)
        have lr := Fr.lt
        have e0 := Fr.cell (i := 0) rfl
        have OUT := Lib.hid (fun (hs : j ≤ a ∨ lt dj[j]! dj[j - 1]! = false) => show insOuter lt a b (i + 1) dj = insOuter lt a b (a + 1) d by rw [← HO.out, insOuter_go _ _ _ _ _ hlt, ← HI.out, insInner_stop _ _ _ _ hs])
        by_cases hja : a < j
        · have hjaz : (a : Int) < (j : Int) := by omega
          have hl := (hL.of (S0.trans hw2)).call _ dj (Srt.refl hw2.holds) hsj j (j - 1) (by omega) (by omega)
          rw [show (((j - 1 : Nat) : Int)) = (j : Int) - 1 by omega] at hl
          cases hlv : lt dj[j]! dj[j - 1]! with
          | true =>
            rw [hlv] at hl
            go_wp2_with (go_at_call 54; (with_reducible refine hl.mono ?_); rintro e w' ⟨rfl, hq⟩; (have e1 := (Fr.below hq lr).cell (i := 1) rfl))
            have hs := hS w' dj (holds_below hw2.holds (by have := hw2.size; have := S0.size; omega) hq) hsj j (j - 1) (by omega) (by omega)
            rw [show (((j - 1 : Nat) : Int)) = (j : Int) - 1 by omega] at hs
            have S1 := (hw2.below (by have := S0.size; omega) hq).swap j (j - 1) (by omega) (by omega)
            rw [hs, Oper.upon_value]
            generalize ((w'.setCell ⟨r, off + j, none⟩ (encF dj[j - 1]!)).setCell ⟨r, off + (j - 1), none⟩ (encF dj[j]!)) = w2 at S1 ⊢
            go_wp2
            exact ⟨⟨j - 1, swp dj j (j - 1), by go_num, by omega, by omega, by rw [size_swp]; exact hsj, S1, by rw [← HI.out, insInner_go lt a j dj hja hlv]⟩, by simp [intOf]; omega⟩
          | false =>
            rw [hlv] at hl
            go_wp2_with (go_at_call 54; (with_reducible refine hl.mono ?_); rintro e w' ⟨rfl, hq⟩)
            exact ⟨⟨i + 1, dj, by go_num, by omega, by omega, hsj, hw2.below (by have := S0.size; omega) hq, OUT.out (Or.inr hlv)⟩, by simp [intOf]; omega⟩
        · have hjaz : ¬ (a : Int) < (j : Int) := by omega
          go_wp2
          exact ⟨⟨i + 1, dj, by go_num, by omega, by omega, hsj, hw2, OUT.out (Or.inl (by omega))⟩, by simp [intOf]; omega⟩
    · have hltz : ¬ (i : Int) < (b : Int) := by omega
      go_wp2
      go_end0
      exact ⟨rfl, S0.trans (by rw [insertionSort, ← HO.out, insOuter_stop _ _ _ _ _ hlt]; exact hwr)⟩
end Go.Proofs.Ythpcippgifmabaa

/-! ## SortB -/
namespace Go.Proofs.Ythpcippgifmabaa
set_option maxRecDepth 100000
open Go.RowKit
open Go.Sort (Holds swp siftDown heapBuild heapPop heapSort size_swp)
variable {m9 : Nat}

section
variable {lt : Fin (m9 + 1) → Fin (m9 + 1) → Bool} {hi first root : Nat} {d : Array (Fin (m9 + 1))}
theorem sift_stop (h : hi ≤ 2 * root + 1) : siftDown lt hi first root d = d := by rw [siftDown, dif_pos h]
theorem sift_right (h : 2 * root + 2 < hi) (hl : lt d[first + (2 * root + 1)]! d[first + (2 * root + 2)]! = true) :
    siftDown lt hi first root d = if lt d[first + root]! d[first + (2 * root + 2)]! = true then siftDown lt hi first (2 * root + 2) (swp d (first + root) (first + (2 * root + 2))) else d := by
  rw [siftDown, dif_neg (by omega), if_pos (by rw [Bool.and_eq_true, decide_eq_true_iff]; exact ⟨h, hl⟩)]
  cases lt d[first + root]! d[first + (2 * root + 2)]! <;> simp [h]
theorem sift_left (h : ¬ hi ≤ 2 * root + 1) (hl : ¬ 2 * root + 2 < hi ∨ lt d[first + (2 * root + 1)]! d[first + (2 * root + 2)]! = false) :
    siftDown lt hi first root d = if lt d[first + root]! d[first + (2 * root + 1)]! = true then siftDown lt hi first (2 * root + 1) (swp d (first + root) (first + (2 * root + 1))) else d := by
  rw [siftDown, dif_neg h, if_neg (by
    rw [Bool.and_eq_true, decide_eq_true_iff]; rintro ⟨h1, h2⟩
    rcases hl with hl | hl
    · exact hl h1
    · exact Bool.noConfusion (hl.symm.trans h2))]
  cases lt d[first + root]! d[first + (2 * root + 1)]! <;> simp
end

set_option maxHeartbeats 4000000 in
theorem siftDown_any (lt : Fin (m9 + 1) → Fin (m9 + 1) → Bool) (lb sb : Array Value) (r off root hi first : Nat) (d : Array (Fin (m9 + 1))) (w : World) (hL : Less lt lb r off d.size w) (hS : Swp m9 sb r off d.size) (hH : Holds encF w r off d) (hb : first + hi ≤ d.size) (hr0 : root ≤ d.size) (hsz : d.size < 1000) :
    Calls Try.prog 108 #[.agg #[.func (.func 54) #[] lb, .func (.func 90) #[] sb], .int .i64 root, .int .i64 hi, .int .i64 first] w fun e w' =>
      e = .returned (.tuple #[]) ∧ Srt w r off (siftDown lt hi first root d) w' := by
  have hr := hL.row
  go_enter Try.func108, Try.ntmps108
  go_upto_region 1 with fail
  have F : Blk (w.alloc (.cells #[.func (.func 54) #[] lb, .func (.func 90) #[] sb] 103)) w.heap.size 103 #[.func (.func 54) #[] lb, .func (.func 90) #[] sb] := Blk.new _ rfl
  have S0 : Srt w r off d (w.alloc (.cells #[.func (.func 54) #[] lb, .func (.func 90) #[] sb] 103)) := (Srt.refl hH).below hr (by (with_reducible repeat' first | exact Below.refl _ _ | assumption | (refine Below.setCell ?_ (by first | omega | (simp; omega) | (simp; done) | (dsimp only; omega)) _) | (refine Below.alloc ?_ (by first | omega | (simp; omega) | (simp; done) | (dsimp only; omega)) _) | (refine below_drewN ?_ _) | (refine Below.drew ?_)))
  generalize (w.alloc (.cells #[.func (.func 54) #[] lb, .func (.func 90) #[] sb] 103)) = w0 at F S0
  have lF := F.lt
  have hr0z := S0.size
  have L0 := hL.of S0
  go_wp2
  go_loopw [8] (fun v8 wr => ∃ (k : Nat) (dk : Array (Fin (m9 + 1))), v8 = .int .i64 k ∧ k ≤ d.size ∧ dk.size = d.size ∧ Srt w0 r off dk wr ∧ siftDown lt hi first k dk = siftDown lt hi first root d) (fun v _ => hi + d.size + 1 - (intOf v).toNat)
  case atStart => exact ⟨root, d, rfl, hr0, rfl, Srt.refl S0.holds, rfl⟩
  case round =>
    obtain ⟨k, dk, rfl, hk, hsk, hwr, hO⟩ := hrel
    have HO := Lib.hid hO
    clear hO
    have Fr := hwr.blk F (by omega)
    have lr := Fr.lt
    have hz := hwr.size
    have e0 := Fr.cell (i := 0) rfl
    by_cases h1 : hi ≤ 2 * k + 1
    · have h1z : (2 * (k : Int) + 1 ≥ (hi : Int)) := by omega
      go_wp2
      go_end0
      exact ⟨rfl, S0.trans (by rw [← HO.out, sift_stop h1]; exact hwr)⟩
    · have h1z : ¬ (2 * (k : Int) + 1 ≥ (hi : Int)) := by omega
--@sift
      by_cases h2 : 2 * k + 2 < hi
      · have h2z : 2 * (k : Int) + 1 + 1 < (hi : Int) := by omega
        have hl := L0.at hwr hsk (first + (2 * k + 1)) (first + (2 * k + 2)) (by omega) (by omega)
        cases hlv : lt dk[first + (2 * k + 1)]! dk[first + (2 * k + 2)]! with
        | true =>
          rw [hlv] at hl
          go_upto_region 6 with (go_at_call 54; (with_reducible refine (hl _ _ (by omega) (by omega)).mono ?_); rintro e w2 ⟨rfl, hq⟩)
          have S2 := hwr.below (by omega) hq
          have F2 := Fr.below hq lr
          have hz2 := hq.size
          replace e0 := F2.cell (i := 0) rfl
          have hl2 := L0.at S2 hsk (first + k) (first + (2 * k + 2)) (by omega) (by omega)
          have lr2 := F2.lt
          cases hlv2 : lt dk[first + k]! dk[first + (2 * k + 2)]! with
          | true =>
            rw [hlv2] at hl2
            go_wp2_with (go_at_call 54; (with_reducible refine (hl2 _ _ (by omega) (by omega)).mono ?_); rintro e w3 ⟨rfl, hq3⟩; (have e1 := (F2.below hq3 lr2).cell (i := 1) rfl))
            obtain ⟨w4, hs, S4⟩ := hS.at (S2.below (by omega) hq3) hsk (first + k) (first + (2 * k + 2)) (by omega) (by omega)
            rw [hs, Oper.upon_value]
            rotate_left
            · omega
            · omega
            clear hs
            go_wp2
            exact ⟨⟨2 * k + 2, swp dk (first + k) (first + (2 * k + 2)), by go_num, by omega, by rw [size_swp]; exact hsk, S4, by rw [← HO.out, sift_right h2 hlv, if_pos hlv2]⟩, by simp [intOf]; omega⟩
          | false =>
            rw [hlv2] at hl2
            go_wp2_with (go_at_call 54; (with_reducible refine (hl2 _ _ (by omega) (by omega)).mono ?_); rintro e w3 ⟨rfl, hq3⟩)
            (try simp only [Exit.inBlock, Exit.then]); refine bodyPost_ret (results_none rfl _ _ _) rfl ?_
            exact ⟨rfl, S0.trans (by rw [← HO.out, sift_right h2 hlv, if_neg (by rw [hlv2]; simp)]; exact S2.below (by omega) hq3)⟩
        | false =>
          rw [hlv] at hl
          go_upto_region 6 with (go_at_call 54; (with_reducible refine (hl _ _ (by omega) (by omega)).mono ?_); rintro e w2 ⟨rfl, hq⟩)
          have S2 := hwr.below (by omega) hq
          have F2 := Fr.below hq lr
          have hz2 := hq.size
          replace e0 := F2.cell (i := 0) rfl
          have hl2 := L0.at S2 hsk (first + k) (first + (2 * k + 1)) (by omega) (by omega)
          have lr2 := F2.lt
          cases hlv2 : lt dk[first + k]! dk[first + (2 * k + 1)]! with
          | true =>
            rw [hlv2] at hl2
            go_wp2_with (go_at_call 54; (with_reducible refine (hl2 _ _ (by omega) (by omega)).mono ?_); rintro e w3 ⟨rfl, hq3⟩; (have e1 := (F2.below hq3 lr2).cell (i := 1) rfl))
            obtain ⟨w4, hs, S4⟩ := hS.at (S2.below (by omega) hq3) hsk (first + k) (first + (2 * k + 1)) (by omega) (by omega)
            rw [hs, Oper.upon_value]
            rotate_left
            · omega
            · omega
            clear hs
            go_wp2
            exact ⟨⟨2 * k + 1, swp dk (first + k) (first + (2 * k + 1)), by go_num, by omega, by rw [size_swp]; exact hsk, S4, by rw [← HO.out, sift_left h1 (Or.inr hlv), if_pos hlv2]⟩, by simp [intOf]; omega⟩
          | false =>
            rw [hlv2] at hl2
            go_wp2_with (go_at_call 54; (with_reducible refine (hl2 _ _ (by omega) (by omega)).mono ?_); rintro e w3 ⟨rfl, hq3⟩)
            (try simp only [Exit.inBlock, Exit.then]); refine bodyPost_ret (results_none rfl _ _ _) rfl ?_
            exact ⟨rfl, S0.trans (by rw [← HO.out, sift_left h1 (Or.inr hlv), if_neg (by rw [hlv2]; simp)]; exact S2.below (by omega) hq3)⟩
      · have h2z : ¬ 2 * (k : Int) + 1 + 1 < (hi : Int) := by omega
        go_upto_region 6 with fail
        have hl2 := L0.at hwr hsk (first + k) (first + (2 * k + 1)) (by omega) (by omega)
        have lr2 := Fr.lt
        cases hlv2 : lt dk[first + k]! dk[first + (2 * k + 1)]! with
        | true =>
          rw [hlv2] at hl2
          go_wp2_with (go_at_call 54; (with_reducible refine (hl2 _ _ (by omega) (by omega)).mono ?_); rintro e w3 ⟨rfl, hq3⟩; (have e1 := (Fr.below hq3 lr2).cell (i := 1) rfl))
          obtain ⟨w4, hs, S4⟩ := hS.at (hwr.below (by omega) hq3) hsk (first + k) (first + (2 * k + 1)) (by omega) (by omega)
          rw [hs, Oper.upon_value]
          rotate_left
          · omega
          · omega
          clear hs
          go_wp2
          exact ⟨⟨2 * k + 1, swp dk (first + k) (first + (2 * k + 1)), by go_num, by omega, by rw [size_swp]; exact hsk, S4, by rw [← HO.out, sift_left h1 (Or.inl h2), if_pos hlv2]⟩, by simp [intOf]; omega⟩
        | false =>
          rw [hlv2] at hl2
          go_wp2_with (go_at_call 54; (with_reducible refine (hl2 _ _ (by omega) (by omega)).mono ?_); rintro e w3 ⟨rfl, hq3⟩)
          (try simp only [Exit.inBlock, Exit.then]); refine bodyPost_ret (results_none rfl _ _ _) rfl ?_
          exact ⟨rfl, S0.trans (by rw [← HO.out, sift_left h1 (Or.inl h2), if_neg (by rw [hlv2]; simp)]; exact hwr.below (by omega) hq3)⟩
--@/sift
end Go.Proofs.Ythpcippgifmabaa

/-! ## SortC -/
namespace Go.Proofs.Ythpcippgifmabaa
set_option maxRecDepth 100000
open Go.RowKit
open Go.Sort (Holds swp siftDown heapBuild heapPop heapSort size_swp)
variable {m9 : Nat}

set_option maxHeartbeats 4000000 in
theorem heapSort_any (lt : Fin (m9 + 1) → Fin (m9 + 1) → Bool) (lb sb : Array Value) (r off a b : Nat) (d : Array (Fin (m9 + 1))) (w : World) (hL : Less lt lb r off d.size w) (hS : Swp m9 sb r off d.size) (hH : Holds encF w r off d) (hab : a < b) (hb : b ≤ d.size) (hsz : d.size < 1000) :
    Calls Try.prog 98 #[.agg #[.func (.func 54) #[] lb, .func (.func 90) #[] sb], .int .i64 a, .int .i64 b] w fun e w' =>
      e = .returned (.tuple #[]) ∧ Srt w r off (heapSort lt d a b) w' := by
  have hr := hL.row
  obtain ⟨hi, hhi⟩ : ∃ hi, hi = b - a := ⟨b - a, rfl⟩
  have hz : heapSort lt d a b = heapPop lt a hi (heapBuild lt hi a ((hi - 1) / 2 + 1) d) := by rw [heapSort, ← hhi]
  have hA : a + hi ≤ b := by omega
  have hB : b ≤ a + hi := by omega
  clear hhi
  have HZ := Lib.hid hz
  clear hz
  go_enter Try.func98, Try.ntmps98
  go_upto_region 1 with fail
  have F : Blk (w.alloc (.cells #[.func (.func 54) #[] lb, .func (.func 90) #[] sb] 103)) w.heap.size 103 #[.func (.func 54) #[] lb, .func (.func 90) #[] sb] := Blk.new _ rfl
  have S0 : Srt w r off d (w.alloc (.cells #[.func (.func 54) #[] lb, .func (.func 90) #[] sb] 103)) := (Srt.refl hH).below hr (by (with_reducible repeat' first | exact Below.refl _ _ | assumption | (refine Below.setCell ?_ (by first | omega | (simp; omega) | (simp; done) | (dsimp only; omega)) _) | (refine Below.alloc ?_ (by first | omega | (simp; omega) | (simp; done) | (dsimp only; omega)) _) | (refine below_drewN ?_ _) | (refine Below.drew ?_)))
  generalize (w.alloc (.cells #[.func (.func 54) #[] lb, .func (.func 90) #[] sb] 103)) = w0 at F S0
  have lF := F.lt
  have hr0z := S0.size
  have L0 := hL.of S0
  have w1 : (b : Int) - (a : Int) = (hi : Int) := by omega
  go_wp2
  go_loopw [9] (fun v9 wr => ∃ (k : Nat) (x : Int) (dk : Array (Fin (m9 + 1))), v9 = .int .i64 x ∧ x + 1 = k ∧ k ≤ (hi - 1) / 2 + 1 ∧ dk.size = d.size ∧ Srt w0 r off dk wr ∧ heapBuild lt hi a k dk = heapBuild lt hi a ((hi - 1) / 2 + 1) d) (fun v _ => (intOf v + 1).toNat)
  case atStart => exact ⟨(hi - 1) / 2 + 1, _, d, rfl, by omega, Nat.le_refl _, rfl, Srt.refl S0.holds, rfl⟩
  case round =>
    obtain ⟨k, x, dk, rfl, hx, hk, hsk, hwr, hO⟩ := hrel
    have Fr := hwr.blk F (by omega)
    have lr := Fr.lt
    have e0 := Fr.cell (i := 0) rfl; have e1 := Fr.cell (i := 1) rfl
    have hzr := hwr.size
    cases k with
    | succ k =>
      obtain rfl : x = (k : Int) := by omega
      have HO := Lib.hid hO
      clear hO
      have hc := siftDown_any lt lb sb r off k hi a dk wr (by rw [hsk]; exact L0.of hwr) (by rw [hsk]; exact hS) hwr.holds (by omega) (by omega) (by omega)
      go_wp2_with (go_at_call 108; (with_reducible refine hc.mono ?_); rintro e w3 ⟨rfl, S3⟩)
      exact ⟨⟨k, (k : Int) - 1, siftDown lt hi a k dk, by go_num, by omega, by omega, by rw [Sort.size_siftDown _ _ _ _ _ _ (Nat.le_refl _)]; exact hsk, hwr.trans S3, by rw [← HO.out]; rfl⟩, by simp [intOf]⟩
    | zero =>
      obtain rfl : x = -1 := by omega
      have HO := Lib.hid (show dk = heapBuild lt hi a ((hi - 1) / 2 + 1) d from hO)
      clear hO hx hk
      have w3 : ((hi : Int) - 1) = (hi : Int) - 1 := rfl
      go_wp2
      go_loopw [10] (fun v9 wr => ∃ (k : Nat) (x : Int) (dj : Array (Fin (m9 + 1))), v9 = .int .i64 x ∧ x + 1 = k ∧ k ≤ hi ∧ dj.size = d.size ∧ Srt w0 r off dj wr ∧ heapPop lt a k dj = heapPop lt a hi dk) (fun v _ => (intOf v + 1).toNat)
      case atStart => exact ⟨hi, _, dk, rfl, by omega, Nat.le_refl _, hsk, hwr, rfl⟩
      case round =>
        clear Fr lr e0 e1 hzr
        obtain ⟨k, x, dj, rfl, hx, hk, hsj, hwj, hO⟩ := hrel
        have Fr := hwj.blk F (by omega)
        have lr := Fr.lt
        have e0 := Fr.cell (i := 0) rfl; have e1 := Fr.cell (i := 1) rfl
        have hzr := hwj.size
        cases k with
        | succ k =>
          obtain rfl : x = (k : Int) := by omega
          have HP := Lib.hid hO
          clear hO
          go_wp2
          obtain ⟨w4, hs, S4⟩ := hS.at hwj hsj a (a + k) (by omega) (by omega)
          rw [hs, Oper.upon_value]
          rotate_left
          · omega
          · omega
          clear hs
          have F4 := S4.blk F (by omega)
          have g0 := F4.cell (i := 0) rfl; have g1 := F4.cell (i := 1) rfl
          have hz4 := S4.size
          have hs4 : (swp dj a (a + k)).size = d.size := by rw [size_swp]; exact hsj
          have hc := siftDown_any lt lb sb r off 0 k a (swp dj a (a + k)) w4 (by rw [hs4]; exact L0.of S4) (by rw [hs4]; exact hS) S4.holds (by omega) (by omega) (by omega)
          rw [show ((0 : Nat) : Int) = 0 from rfl] at hc
          go_wp2_with (go_at_call 108; (with_reducible refine hc.mono ?_); rintro e w5 ⟨rfl, S5⟩)
          exact ⟨⟨k, (k : Int) - 1, siftDown lt k a 0 (swp dj a (a + k)), by go_num, by omega, by omega, by rw [Sort.size_siftDown _ _ _ _ _ _ (Nat.le_refl _)]; exact hs4, S4.trans S5, by rw [← HP.out]; rfl⟩, by simp [intOf]⟩
        | zero =>
          obtain rfl : x = -1 := by omega
          have HP := Lib.hid (show dj = heapPop lt a hi dk from hO)
          clear hO hx hk
          go_wp2
          go_end0
          exact ⟨rfl, S0.trans (by rw [HZ.out, ← HO.out, ← HP.out]; exact hwj)⟩
end Go.Proofs.Ythpcippgifmabaa

/-! ## SortD -/
namespace Go.Proofs.Ythpcippgifmabaa
set_option maxRecDepth 100000
open Go.RowKit
open Go.Sort (Holds swp order2 median choosePivot Hint hintCode size_swp)
variable {m9 : Nat}

section
variable {wb w w' W : World} {r off n g t : Nat} {d : Array (Fin (m9 + 1))} {cs : Array Value}
theorem Srt.far (h : Srt wb r off d w) (hr : r < wb.heap.size) (k : Chg g (g + 1) w w') (hg : wb.heap.size ≤ g) : Srt wb r off d w' := by
  refine ⟨⟨k.os.trans h.chg.os, k.tape.trans h.chg.tape, k.output.trans h.chg.output, Nat.le_trans h.chg.size k.size, fun i hi hd => (k.block i (Nat.lt_of_lt_of_le hi h.chg.size) (by omega)).trans (h.chg.block i hi hd)⟩, fun j hj => ?_, h.frm.trans (Frm.of_eq (k.block r (Nat.lt_of_lt_of_le hr h.chg.size) (by omega)))⟩
  have e := k.block r (Nat.lt_of_lt_of_le hr h.chg.size) (by omega)
  have h1 := (h.holds j hj).1
  have h2 := (h.holds j hj).2
  refine ⟨(World.cell?_of_block e).trans h1, ?_⟩
  simp only [World.frozen?, e] at h2 ⊢
  exact h2
theorem Chg.of_set {p : Addr} (u : Value) (hp : p.block = g) : Chg g (g + 1) w (w.setCell p u) := (Chg.refl g (g + 1) w).setCell (by omega) u
end

set_option maxHeartbeats 4000000 in
theorem order2_any (lt : Fin (m9 + 1) → Fin (m9 + 1) → Bool) (lb sb : Array Value) (r off g t a b n : Nat) (d : Array (Fin (m9 + 1))) (wb w : World) (hL : Less lt lb r off d.size wb) (hw : Srt wb r off d w) (_hg : wb.heap.size ≤ g) (G : Blk w g t #[.int .i64 n]) (ha : a < d.size) (hb : b < d.size) (hn : n < 100) :
    Calls Try.prog 113 #[.agg #[.func (.func 54) #[] lb, .func (.func 90) #[] sb], .int .i64 a, .int .i64 b, .pointer (some ⟨g, 0, none⟩)] w fun e w' =>
      e = .returned (.tuple #[.int .i64 (order2 lt d a b n).1, .int .i64 (order2 lt d a b n).2.1]) ∧ Chg g (g + 1) w w' ∧ Blk w' g t #[.int .i64 (order2 lt d a b n).2.2] := by
  have hr := hL.row
  have lG := G.lt
  have hzb := hw.size
  go_enter Try.func113, Try.ntmps113
  go_upto_region 1 with fail
  have F : Blk (w.alloc (.cells #[.func (.func 54) #[] lb, .func (.func 90) #[] sb] 103)) w.heap.size 103 #[.func (.func 54) #[] lb, .func (.func 90) #[] sb] := Blk.new _ rfl
  have hb0 : Below w.heap.size w (w.alloc (.cells #[.func (.func 54) #[] lb, .func (.func 90) #[] sb] 103)) := by (with_reducible repeat' first | exact Below.refl _ _ | assumption | (refine Below.setCell ?_ (by first | omega | (simp; omega) | (simp; done) | (dsimp only; omega)) _) | (refine Below.alloc ?_ (by first | omega | (simp; omega) | (simp; done) | (dsimp only; omega)) _) | (refine below_drewN ?_ _) | (refine Below.drew ?_))
  generalize (w.alloc (.cells #[.func (.func 54) #[] lb, .func (.func 90) #[] sb] 103)) = w0 at F hb0
  have e0 := F.cell (i := 0) rfl
  have hz0 := hb0.size
  have hl := hL.at (hw.below hr hb0) rfl b a hb ha
  have G0 := G.below hb0 lG
  cases hv : lt d[b]! d[a]! with
  | true =>
    rw [hv] at hl
    have HO := Lib.hid (show order2 lt d a b n = (b, a, n + 1) by rw [order2, if_pos hv])
    go_upto_region 2 with (go_at_call 54; (with_reducible refine (hl _ _ (by omega) (by omega)).mono ?_); rintro e w1 ⟨rfl, hq⟩)
    have G1 := G0.below hq (by omega)
    have g0 := G1.cell (i := 0) rfl
    have gf := G1.free 0
    go_wp2
    (try simp only [Exit.inBlock, Exit.then]); refine bodyPost_ret (v := .tuple #[.int .i64 b, .int .i64 a]) (by simp [results, Try.results113, go_sem]) rfl ?_
    rw [HO.out]
    refine ⟨rfl, ((Chg.of_below hb0).trans (Chg.of_below hq)).setCell (p := ⟨g, 0, none⟩) ⟨Nat.le_refl _, Nat.lt_succ_self _⟩ _, ?_⟩
    have := G1.set 0 (.int .i64 ((n : Int) + 1))
    exact this
  | false =>
    rw [hv] at hl
    have HO := Lib.hid (show order2 lt d a b n = (a, b, n) by rw [order2, if_neg (by rw [hv]; simp)])
    go_wp2_with (go_at_call 54; (with_reducible refine (hl _ _ (by omega) (by omega)).mono ?_); rintro e w1 ⟨rfl, hq⟩)
    (try simp only [Exit.inBlock, Exit.then]); refine bodyPost_ret (v := .tuple #[.int .i64 a, .int .i64 b]) (by simp [results, Try.results113, go_sem]) rfl ?_
    rw [HO.out]
    exact ⟨rfl, (Chg.of_below hb0).trans (Chg.of_below hq), G0.below hq (by omega)⟩

set_option maxHeartbeats 4000000 in
theorem median_any (lt : Fin (m9 + 1) → Fin (m9 + 1) → Bool) (lb sb : Array Value) (r off g t a b c n : Nat) (d : Array (Fin (m9 + 1))) (wb w : World) (hL : Less lt lb r off d.size wb) (hw : Srt wb r off d w) (hg : wb.heap.size ≤ g) (G : Blk w g t #[.int .i64 n]) (ha : a < d.size) (hb : b < d.size) (hc : c < d.size) (hn : n < 90) :
    Calls Try.prog 112 #[.agg #[.func (.func 54) #[] lb, .func (.func 90) #[] sb], .int .i64 a, .int .i64 b, .int .i64 c, .pointer (some ⟨g, 0, none⟩)] w fun e w' =>
      e = .returned (.int .i64 (median lt d a b c n).1) ∧ Chg g (g + 1) w w' ∧ Blk w' g t #[.int .i64 (median lt d a b c n).2] := by
  have hr := hL.row
  have lG := G.lt
  have hzb := hw.size
  go_enter Try.func112, Try.ntmps112
  go_upto_region 1 with fail
  have F : Blk (w.alloc (.cells #[.func (.func 54) #[] lb, .func (.func 90) #[] sb] 103)) w.heap.size 103 #[.func (.func 54) #[] lb, .func (.func 90) #[] sb] := Blk.new _ rfl
  have hb0 : Below w.heap.size w (w.alloc (.cells #[.func (.func 54) #[] lb, .func (.func 90) #[] sb] 103)) := by (with_reducible repeat' first | exact Below.refl _ _ | assumption | (refine Below.setCell ?_ (by first | omega | (simp; omega) | (simp; done) | (dsimp only; omega)) _) | (refine Below.alloc ?_ (by first | omega | (simp; omega) | (simp; done) | (dsimp only; omega)) _) | (refine below_drewN ?_ _) | (refine Below.drew ?_))
  generalize (w.alloc (.cells #[.func (.func 54) #[] lb, .func (.func 90) #[] sb] 103)) = w0 at F hb0
  have e0 := F.cell (i := 0) rfl; have e1 := F.cell (i := 1) rfl
  have lF := F.lt
  have hz0 := hb0.size
  have G0 := G.below hb0 lG
  have S0 := hw.below hr hb0
  have q1 := order2_any lt lb sb r off g t a b n d wb w0 hL S0 hg G0 ha hb (by omega)
  obtain ⟨x1, y1, n1, ho1⟩ : ∃ x y m, order2 lt d a b n = (x, y, m) := ⟨_, _, _, rfl⟩
  rw [ho1] at q1
  have b1 : (x1 < d.size ∧ y1 < d.size) ∧ n1 ≤ n + 1 := by
    unfold order2 at ho1; split at ho1 <;> (injection ho1 with h1 h2; injection h2 with h2 h3; subst h1 h2 h3; omega)
  have HO1 := Lib.hid ho1
  clear ho1
  go_upto_region 2 with (go_at_call 113; (with_reducible refine q1.mono ?_); rintro e w1 ⟨rfl, hc1, G1⟩)
  have F1 := F.chg hc1 (by omega)
  have S1 := S0.far hr hc1 hg
  have e0 := F1.cell (i := 0) rfl; have e1 := F1.cell (i := 1) rfl
  have q2 := order2_any lt lb sb r off g t y1 c n1 d wb w1 hL S1 hg G1 b1.1.2 hc (by omega)
  obtain ⟨x2, y2, n2, ho2⟩ : ∃ x y m, order2 lt d y1 c n1 = (x, y, m) := ⟨_, _, _, rfl⟩
  rw [ho2] at q2
  have b2 : (x2 < d.size ∧ y2 < d.size) ∧ n2 ≤ n1 + 1 := by
    unfold order2 at ho2; split at ho2 <;> (injection ho2 with h1 h2; injection h2 with h2 h3; subst h1 h2 h3; omega)
  have HO2 := Lib.hid ho2
  clear ho2
  go_upto_region 3 with (go_at_call 113; (with_reducible refine q2.mono ?_); rintro e w2 ⟨rfl, hc2, G2⟩)
  have hz1 := hc1.size
  have F2 := F1.chg hc2 (by omega)
  have S2 := S1.far hr hc2 hg
  have e0 := F2.cell (i := 0) rfl; have e1 := F2.cell (i := 1) rfl
  have q3 := order2_any lt lb sb r off g t x1 x2 n2 d wb w2 hL S2 hg G2 b1.1.1 b2.1.1 (by omega)
  obtain ⟨x3, y3, n3, ho3⟩ : ∃ x y m, order2 lt d x1 x2 n2 = (x, y, m) := ⟨_, _, _, rfl⟩
  rw [ho3] at q3
  have HO3 := Lib.hid ho3
  clear ho3
  go_wp2_with (go_at_call 113; (with_reducible refine q3.mono ?_); rintro e w3 ⟨rfl, hc3, G3⟩)
  go_ret
  have hm : median lt d a b c n = (y3, n3) := by simp only [median, HO1.out, HO2.out, HO3.out]
  rw [hm]
  exact ⟨rfl, (Chg.of_below hb0).trans (hc1.trans (hc2.trans hc3)), G3⟩

theorem order2_lt {lt : Fin (m9 + 1) → Fin (m9 + 1) → Bool} {d : Array (Fin (m9 + 1))} {a b n N : Nat} (ha : a < N) (hb : b < N) : (order2 lt d a b n).1 < N ∧ (order2 lt d a b n).2.1 < N ∧ (order2 lt d a b n).2.2 ≤ n + 1 := by
  unfold order2; split <;> refine ⟨?_, ?_, ?_⟩ <;> first | assumption | simp
theorem median_lt {lt : Fin (m9 + 1) → Fin (m9 + 1) → Bool} {d : Array (Fin (m9 + 1))} {a b c n N : Nat} (ha : a < N) (hb : b < N) (hc : c < N) : (median lt d a b c n).1 < N := by
  have h1 := order2_lt (lt := lt) (d := d) (n := n) ha hb
  have h2 := order2_lt (lt := lt) (d := d) (n := (order2 lt d a b n).2.2) h1.2.1 hc
  exact (order2_lt (lt := lt) (d := d) h1.1 h2.1).2.1

set_option maxHeartbeats 4000000 in
theorem choosePivot_any (lt : Fin (m9 + 1) → Fin (m9 + 1) → Bool) (lb sb : Array Value) (r off a b : Nat) (d : Array (Fin (m9 + 1))) (w : World) (hL : Less lt lb r off d.size w) (hH : Holds encF w r off d) (hab : a + 12 < b) (hb : b ≤ d.size) (hsz : d.size < 50) :
    Calls Try.prog 100 #[.agg #[.func (.func 54) #[] lb, .func (.func 90) #[] sb], .int .i64 a, .int .i64 b] w fun e w' =>
      e = .returned (.tuple #[.int .i64 (choosePivot lt d a b).1, .int .i64 (hintCode (choosePivot lt d a b).2)]) ∧ Below w.heap.size w w' := by
  have hr := hL.row
  obtain ⟨l, hl⟩ : ∃ l, b = a + l := ⟨b - a, by omega⟩
  have q : choosePivot lt d a b = ((median lt d (a + l / 4 * 1) (a + l / 4 * 2) (a + l / 4 * 3) 0).1, if (median lt d (a + l / 4 * 1) (a + l / 4 * 2) (a + l / 4 * 3) 0).2 = 0 then .increasing else if (median lt d (a + l / 4 * 1) (a + l / 4 * 2) (a + l / 4 * 3) 0).2 = 12 then .decreasing else .unknown) := by
    have h8 : l ≥ 8 := by omega
    have h50 : ¬ l ≥ 50 := by omega
    have hbl : b - a = l := by omega
    unfold choosePivot
    simp only [hbl, h8, h50, if_true, if_false]
  have w1 : (b : Int) - (a : Int) = (l : Int) := by omega
  have i8 : (l : Int) ≥ 8 := by omega
  have i50 : ¬ ((l : Int) ≥ 50) := by omega
  have hlb : a + l ≤ b := by omega
  clear hl
  obtain ⟨mm, hm⟩ : ∃ mm, median lt d (a + l / 4 * 1) (a + l / 4 * 2) (a + l / 4 * 3) 0 = mm := ⟨_, rfl⟩
  rw [hm] at q
  have HQ := Lib.hid q
  have HM := Lib.hid hm
  clear q hm
  go_enter Try.func100, Try.ntmps100
  have G : Blk ((w.alloc (.cells #[.func (.func 54) #[] lb, .func (.func 90) #[] sb] 103)).alloc (.cells #[.int .i64 0] 3)) (w.heap.size + 1) 3 #[.int .i64 ((0 : Nat) : Int)] := Blk.new _ (by simp)
  have hb0 : Below w.heap.size w ((w.alloc (.cells #[.func (.func 54) #[] lb, .func (.func 90) #[] sb] 103)).alloc (.cells #[.int .i64 0] 3)) := by (with_reducible repeat' first | exact Below.refl _ _ | assumption | (refine Below.setCell ?_ (by first | omega | (simp; omega) | (simp; done) | (dsimp only; omega)) _) | (refine Below.alloc ?_ (by first | omega | (simp; omega) | (simp; done) | (dsimp only; omega)) _) | (refine below_drewN ?_ _) | (refine Below.drew ?_))
  have hc := median_any lt lb sb r off _ _ (a + l / 4 * 1) (a + l / 4 * 2) (a + l / 4 * 3) 0 d w _ hL ((Srt.refl hH).below hr hb0) (by omega) G (by omega) (by omega) (by omega) (by omega)
  rw [HM.out, show ((a + l / 4 * 1 : Nat) : Int) = (a : Int) + (l : Int) / 4 by omega, show ((a + l / 4 * 2 : Nat) : Int) = (a : Int) + (l : Int) / 4 * 2 by omega, show ((a + l / 4 * 3 : Nat) : Int) = (a : Int) + (l : Int) / 4 * 3 by omega] at hc
  go_upto_region 12 with (go_at_call 112; (with_reducible refine hc.mono ?_); rintro e w1 ⟨rfl, hc1, G1⟩)
  have g0 := G1.cell (i := 0) rfl
  have hbb := hb0.trans (hc1.below hb0.size (by omega))
  clear hc G hb0 hc1
  obtain ⟨p, n⟩ := mm
  simp only at g0 HQ
  by_cases n0 : n = 0
  · subst n0
    have HR := Lib.hid (show choosePivot lt d a b = (p, .increasing) by rw [HQ.out, if_pos rfl])
    clear HQ
    go_wp2
    (try simp only [Exit.inBlock, Exit.then]); refine bodyPost_ret (v := .tuple #[.int .i64 p, .int .i64 1]) (by simp [results, Try.results100, go_sem]) rfl ?_
    rw [HR.out]
    exact ⟨rfl, hbb⟩
  · have z0 : ¬ (n : Int) = 0 := by omega
    by_cases n12 : n = 12
    · subst n12
      have HR := Lib.hid (show choosePivot lt d a b = (p, .decreasing) by rw [HQ.out, if_neg (by simp), if_pos rfl])
      clear HQ
      go_wp2
      (try simp only [Exit.inBlock, Exit.then]); refine bodyPost_ret (v := .tuple #[.int .i64 p, .int .i64 2]) (by simp [results, Try.results100, go_sem]) rfl ?_
      rw [HR.out]
      exact ⟨rfl, hbb⟩
    · have z12 : ¬ (n : Int) = 12 := by omega
      have HR := Lib.hid (show choosePivot lt d a b = (p, .unknown) by rw [HQ.out, if_neg n0, if_neg n12])
      clear HQ
      go_wp2
      (try simp only [Exit.inBlock, Exit.then]); refine bodyPost_ret (v := .tuple #[.int .i64 p, .int .i64 0]) (by simp [results, Try.results100, go_sem]) rfl ?_
      rw [HR.out]
      exact ⟨rfl, hbb⟩
end Go.Proofs.Ythpcippgifmabaa

/-! ## SortE -/
namespace Go.Proofs.Ythpcippgifmabaa
set_option maxRecDepth 100000
open Go.RowKit
open Go.Sort (Holds swp scanSorted partialIns partialInsertionSort size_swp)
variable {m9 : Nat}

theorem partial_eq {lt : Fin (m9 + 1) → Fin (m9 + 1) → Bool} {d : Array (Fin (m9 + 1))} {a b : Nat} (h : b - a < 50) : partialInsertionSort lt d a b = (d, decide (scanSorted lt d b (a + 1) = b)) := by
  unfold partialInsertionSort
  rw [partialIns]
  by_cases e : scanSorted lt d b (a + 1) = b
  · simp [e]
  · simp [e, h]
theorem scanSorted_go {lt : Fin (m9 + 1) → Fin (m9 + 1) → Bool} {d : Array (Fin (m9 + 1))} {b i : Nat} (h : i < b) (hl : lt d[i]! d[i - 1]! = false) : scanSorted lt d b i = scanSorted lt d b (i + 1) := by
  rw [scanSorted, if_pos (by simp [h, hl])]
theorem scanSorted_stop {lt : Fin (m9 + 1) → Fin (m9 + 1) → Bool} {d : Array (Fin (m9 + 1))} {b i : Nat} (h : ¬ i < b ∨ lt d[i]! d[i - 1]! = true) : scanSorted lt d b i = i := by
  rw [scanSorted, if_neg (by rcases h with h | h <;> simp [h])]

set_option maxHeartbeats 4000000 in
theorem partial_any (lt : Fin (m9 + 1) → Fin (m9 + 1) → Bool) (lb sb : Array Value) (r off a b : Nat) (d : Array (Fin (m9 + 1))) (w : World) (hL : Less lt lb r off d.size w) (hH : Holds encF w r off d) (hab : a < b) (hb : b ≤ d.size) (hsz : d.size < 50) :
    Calls Try.prog 102 #[.agg #[.func (.func 54) #[] lb, .func (.func 90) #[] sb], .int .i64 a, .int .i64 b] w fun e w' =>
      e = .returned (.bool (partialInsertionSort lt d a b).2) ∧ Below w.heap.size w w' := by
  have hr := hL.row
  rw [partial_eq (by omega)]
  obtain ⟨R, hR⟩ : ∃ R, scanSorted lt d b (a + 1) = R := ⟨_, rfl⟩
  simp only [hR]
  go_enter Try.func102, Try.ntmps102
  go_upto_region 1 with fail
  have F : Blk (w.alloc (.cells #[.func (.func 54) #[] lb, .func (.func 90) #[] sb] 103)) w.heap.size 103 #[.func (.func 54) #[] lb, .func (.func 90) #[] sb] := Blk.new _ rfl
  have hb0 : Below w.heap.size w (w.alloc (.cells #[.func (.func 54) #[] lb, .func (.func 90) #[] sb] 103)) := by (with_reducible repeat' first | exact Below.refl _ _ | assumption | (refine Below.setCell ?_ (by first | omega | (simp; omega) | (simp; done) | (dsimp only; omega)) _) | (refine Below.alloc ?_ (by first | omega | (simp; omega) | (simp; done) | (dsimp only; omega)) _) | (refine below_drewN ?_ _) | (refine Below.drew ?_))
  generalize (w.alloc (.cells #[.func (.func 54) #[] lb, .func (.func 90) #[] sb] 103)) = w0 at F hb0
  have lF := F.lt
  have hz0 := hb0.size
  have S0 := (Srt.refl hH).below hr hb0
  have L0 := hL.of S0
  have HR := Lib.hid hR
  clear hR
  go_wp2
  refine wp_loop_rounds 1 ?_
  rw [rounds_succ]
  go_wp2
  go_loopw [7] (fun v7 wr => ∃ i : Nat, v7 = .int .i64 i ∧ a + 1 ≤ i ∧ i ≤ b ∧ Below w0.heap.size w0 wr ∧ scanSorted lt d b i = R) (fun v _ => b + 1 - (intOf v).toNat)
  case atStart => exact ⟨a + 1, by go_num, Nat.le_refl _, by omega, Below.refl _ _, HR.out⟩
  case round =>
    obtain ⟨i, rfl, hi1, hi2, hbk, hS⟩ := hrel
    have HS := Lib.hid hS
    clear hS
    have Fr := F.below hbk lF
    have lr := Fr.lt
    have e0 := Fr.cell (i := 0) rfl
    by_cases h : i < b
    · have hz : (i : Int) < (b : Int) := by omega
      have hl := L0.at ((Srt.refl S0.holds).below (by omega) hbk) rfl i (i - 1) (by omega) (by omega)
      cases hv : lt d[i]! d[i - 1]! with
      | true =>
        rw [hv] at hl
        have hne : ¬ (i : Int) = (b : Int) := by omega
        have hsm : (b : Int) - (a : Int) < 50 := by omega
        go_wp2_with (go_at_call 54; (with_reducible refine (hl _ _ (by omega) (by omega)).mono ?_); rintro e w1 ⟨rfl, hq⟩)
        go_ret
        exact ⟨by rw [← HS.out, scanSorted_stop (Or.inr hv), decide_eq_false (by omega)]; rfl, hb0.trans ((hbk.trans (hq.mono hbk.size)).mono hz0)⟩
      | false =>
        rw [hv] at hl
        go_wp2_with (go_at_call 54; (with_reducible refine (hl _ _ (by omega) (by omega)).mono ?_); rintro e w1 ⟨rfl, hq⟩)
        exact ⟨⟨i + 1, by go_num, by omega, by omega, hbk.trans (hq.mono hbk.size), by rw [← HS.out, scanSorted_go h hv]⟩, by simp [intOf]; omega⟩
    · obtain rfl : i = b := by omega
      go_wp2
      go_ret
      exact ⟨by rw [← HS.out, scanSorted_stop (Or.inl h), decide_eq_true rfl]; rfl, hb0.trans (hbk.mono hz0)⟩
end Go.Proofs.Ythpcippgifmabaa

/-! ## SortF -/
namespace Go.Proofs.Ythpcippgifmabaa
set_option maxRecDepth 100000
open Go.RowKit
open Go.Sort (Holds swp scanUp scanDown partEqLoop partitionEqual size_swp)
variable {m9 : Nat}

section
variable {p : Fin (m9 + 1) → Bool} {d : Array (Fin (m9 + 1))} {i j : Nat}
theorem scanUp_go (h : i ≤ j) (hp : p d[i]! = true) : scanUp p d j i = scanUp p d j (i + 1) := by rw [scanUp, if_pos (by simp [h, hp])]
theorem scanUp_stop (h : ¬ i ≤ j ∨ p d[i]! = false) : scanUp p d j i = i := by rw [scanUp, if_neg (by rcases h with h | h <;> simp [h])]
theorem scanDown_go (h : i ≤ j + 1) (hp : p d[j + 1]! = true) : scanDown p d i (j + 1) = scanDown p d i j := by rw [scanDown, if_pos (by simp [h, hp])]
theorem scanDown_stop (_hi : 1 ≤ i) (h : ¬ i ≤ j ∨ p d[j]! = false) : scanDown p d i j = j := by
  cases j with
  | zero => rfl
  | succ j => rw [scanDown, if_neg (by rcases h with h | h <;> simp [h])]
end

set_option maxHeartbeats 8000000 in
theorem partEq_any (lt : Fin (m9 + 1) → Fin (m9 + 1) → Bool) (lb sb : Array Value) (r off a b pivot : Nat) (d : Array (Fin (m9 + 1))) (w : World) (hL : Less lt lb r off d.size w) (hS : Swp m9 sb r off d.size) (hH : Holds encF w r off d) (hap : a ≤ pivot) (hpb : pivot < b) (hb : b ≤ d.size) (hsz : d.size < 1000) :
    Calls Try.prog 103 #[.agg #[.func (.func 54) #[] lb, .func (.func 90) #[] sb], .int .i64 a, .int .i64 b, .int .i64 pivot] w fun e w' =>
      e = .returned (.int .i64 (partitionEqual lt d a b pivot).1) ∧ Srt w r off (partitionEqual lt d a b pivot).2 w' := by
  have hr := hL.row
  obtain ⟨R, hR⟩ : ∃ R, partitionEqual lt d a b pivot = R := ⟨_, rfl⟩
  rw [hR]
  have HR := Lib.hid (show partEqLoop lt a (a + 1) (b - 1) (swp d a pivot) = R from hR)
  clear hR
  go_enter Try.func103, Try.ntmps103
  go_upto_region 1 with fail
  have F : Blk (w.alloc (.cells #[.func (.func 54) #[] lb, .func (.func 90) #[] sb] 103)) w.heap.size 103 #[.func (.func 54) #[] lb, .func (.func 90) #[] sb] := Blk.new _ rfl
  have S0 : Srt w r off d (w.alloc (.cells #[.func (.func 54) #[] lb, .func (.func 90) #[] sb] 103)) := (Srt.refl hH).below hr (by (with_reducible repeat' first | exact Below.refl _ _ | assumption | (refine Below.setCell ?_ (by first | omega | (simp; omega) | (simp; done) | (dsimp only; omega)) _) | (refine Below.alloc ?_ (by first | omega | (simp; omega) | (simp; done) | (dsimp only; omega)) _) | (refine below_drewN ?_ _) | (refine Below.drew ?_)))
  generalize (w.alloc (.cells #[.func (.func 54) #[] lb, .func (.func 90) #[] sb] 103)) = w0 at F S0
  have lF := F.lt
  have hz0 := S0.size
  have L0 := hL.of S0
  have e0 := F.cell (i := 0) rfl; have e1 := F.cell (i := 1) rfl
  go_wp2
  obtain ⟨w1, hs, S1⟩ := hS.at (Srt.refl S0.holds) rfl a pivot (by omega) (by omega)
  rw [hs, Oper.upon_value]
  rotate_left
  · omega
  · omega
  clear hs e0 e1
  have hs1 : (swp d a pivot).size = d.size := size_swp _ _ _
  go_wp2
  go_loopw [9, 10] (fun vi vj wr => ∃ (i j : Nat) (dk : Array (Fin (m9 + 1))), vi = .int .i64 i ∧ vj = .int .i64 j ∧ a < i ∧ i ≤ j + 1 ∧ j < b ∧ dk.size = d.size ∧ Srt w0 r off dk wr ∧ partEqLoop lt a i j dk = R) (fun vi vj _ => (intOf vj + 1 - intOf vi).toNat)
  case atStart => exact ⟨a + 1, b - 1, _, by go_num, by go_num, by omega, by omega, by omega, hs1, S1, HR.out⟩
  case round =>
    obtain ⟨i, j, dk, rfl, rfl, hai, hij, hjb, hsk, hwr, hO⟩ := hrel
    rw [Sort.partEqLoop_eq] at hO
    obtain ⟨I, hI⟩ : ∃ I, Sort.scanUp (fun x => !lt dk[a]! x) dk j i = I := ⟨_, rfl⟩
    rw [hI] at hO
    obtain ⟨J, hJ⟩ : ∃ J, Sort.scanDown (fun x => lt dk[a]! x) dk I j = J := ⟨_, rfl⟩
    rw [hJ] at hO
    have HO := Lib.hid hO; have HI := Lib.hid hI; have HJ := Lib.hid hJ
    clear hO hI hJ
    go_upto_block 2 with fail
    go_cut [9] from 20 to 56 (fun v wc => v = .int .i64 I ∧ i ≤ I ∧ I ≤ j + 1 ∧ (I ≤ j → lt dk[a]! dk[I]! = true) ∧ Srt w0 r off dk wc)
    case first =>
      go_wp2_with fail
      go_loopw [9] (fun v wc => ∃ k : Nat, v = .int .i64 k ∧ i ≤ k ∧ k ≤ j + 1 ∧ Srt w0 r off dk wc ∧ scanUp (fun x => !lt dk[a]! x) dk j k = I) (fun v _ => j + 1 - (intOf v).toNat)
      case atStart => exact ⟨i, rfl, Nat.le_refl _, hij, hwr, HI.out⟩
      case round =>
        clear hwr
        obtain ⟨k, rfl, hk1, hk2, hwk, hK⟩ := hrel
        have HK := Lib.hid hK
        clear hK
        have Fr := hwk.blk F (by omega)
        have e0 := Fr.cell (i := 0) rfl
        have hzk := hwk.size
        by_cases h : k ≤ j
        · have hz : (k : Int) ≤ (j : Int) := by omega
          have hl := L0.at hwk hsk a k (by omega) (by omega)
          cases hv : lt dk[a]! dk[k]! with
          | false =>
            rw [hv] at hl
            go_wp2_with (go_at_call 54; (with_reducible refine (hl _ _ (by omega) (by omega)).mono ?_); rintro e w2 ⟨rfl, hq⟩)
            exact ⟨⟨k + 1, by go_num, by omega, by omega, hwk.below (by omega) hq, by rw [← HK.out, scanUp_go h (by simp [hv])]⟩, by simp [intOf]; omega⟩
          | true =>
            rw [hv] at hl
            have hk : k = I := by rw [← HK.out, scanUp_stop (Or.inr (by simp [hv]))]
            go_wp2_with (go_at_call 54; (with_reducible refine (hl _ _ (by omega) (by omega)).mono ?_); rintro e w2 ⟨rfl, hq⟩)
            go_meet
            case rel => exact ⟨by rw [← hk], by omega, by omega, fun _ => by rw [← hk]; exact hv, hwk.below (by omega) hq⟩
        · have hz : ¬ (k : Int) ≤ (j : Int) := by omega
          have hk : k = I := by rw [← HK.out, scanUp_stop (Or.inl h)]
          go_wp2
          go_meet
          case rel => exact ⟨by rw [← hk], by omega, by omega, fun h' => absurd h' (by omega), hwk⟩
    case rest =>
      clear hwr
      obtain ⟨rfl, hI1, hI2, hIv, hw2⟩ := hcut
      have HIV := Lib.hid hIv
      clear hIv
      go_upto_block 4 with fail
      go_cut [10] from 20 to 56 (fun v wc => v = .int .i64 J ∧ I ≤ J + 1 ∧ J ≤ j ∧ (I ≤ J → lt dk[a]! dk[J]! = false) ∧ Srt w0 r off dk wc)
      case first =>
        go_wp2_with fail
        go_loopw [10] (fun v wc => ∃ k : Nat, v = .int .i64 k ∧ I ≤ k + 1 ∧ k ≤ j ∧ Srt w0 r off dk wc ∧ scanDown (fun x => lt dk[a]! x) dk I k = J) (fun v _ => (intOf v).toNat)
        case atStart => exact ⟨j, rfl, hI2, Nat.le_refl _, hw2, HJ.out⟩
        case round =>
          clear hw2
          obtain ⟨k, rfl, hk1, hk2, hwk, hK⟩ := hrel
          have HK := Lib.hid hK
          clear hK
          have Fr := hwk.blk F (by omega)
          have e0 := Fr.cell (i := 0) rfl
          have hzk := hwk.size
          by_cases h : I ≤ k
          · have hz : (I : Int) ≤ (k : Int) := by omega
            have hl := L0.at hwk hsk a k (by omega) (by omega)
            obtain ⟨m, rfl⟩ : ∃ m, k = m + 1 := ⟨k - 1, by omega⟩
            cases hv : lt dk[a]! dk[m + 1]! with
            | true =>
              rw [hv] at hl
              go_wp2_with (go_at_call 54; (with_reducible refine (hl _ _ (by omega) (by omega)).mono ?_); rintro e w2 ⟨rfl, hq⟩)
              exact ⟨⟨m, by go_num, by omega, by omega, hwk.below (by omega) hq, by rw [← HK.out, scanDown_go h (by simp [hv])]⟩, by simp [intOf]⟩
            | false =>
              rw [hv] at hl
              have hk : m + 1 = J := by rw [← HK.out, scanDown_stop (by omega) (Or.inr (by simp [hv]))]
              go_wp2_with (go_at_call 54; (with_reducible refine (hl _ _ (by omega) (by omega)).mono ?_); rintro e w2 ⟨rfl, hq⟩)
              go_meet
              case rel => exact ⟨by rw [← hk], by omega, by omega, fun _ => by rw [← hk]; exact hv, hwk.below (by omega) hq⟩
          · have hz : ¬ (I : Int) ≤ (k : Int) := by omega
            have hk : k = J := by rw [← HK.out, scanDown_stop (by omega) (Or.inl h)]
            go_wp2
            go_meet
            case rel => exact ⟨by rw [← hk], by omega, by omega, fun h' => absurd h' (by omega), hwk⟩
      case rest =>
        clear hw2
        obtain ⟨rfl, hJ1, hJ2, hJv, hw3⟩ := hcut
        have HJV := Lib.hid hJv
        clear hJv
        have Fr := hw3.blk F (by omega)
        have lr := Fr.lt
        have e0 := Fr.cell (i := 0) rfl; have e1 := Fr.cell (i := 1) rfl
        have hz3 := hw3.size
        by_cases h : I > J
        · have hz : (I : Int) > (J : Int) := by omega
          have HO2 := HO.out
          rw [if_pos h] at HO2
          go_wp2
          go_ret
          subst HO2
          exact ⟨rfl, S0.trans hw3⟩
        · have hz : ¬ (I : Int) > (J : Int) := by omega
          have hIJ : I < J := by
            rcases Nat.lt_or_ge I J with h' | h'
            · exact h'
            · obtain rfl : I = J := by omega
              exact absurd ((HIV.out (by omega)).symm.trans (HJV.out (by omega))) (by simp)
          have HO2 := HO.out
          rw [if_neg h] at HO2
          have HP := Lib.hid HO2
          clear HO2
          go_wp2
          obtain ⟨w4, hs, S4⟩ := hS.at hw3 hsk I J (by omega) (by omega)
          rw [hs, Oper.upon_value]
          rotate_left
          · omega
          · omega
          clear hs
          go_wp2
          go_roundw
          case rel => exact ⟨I + 1, J - 1, swp dk I J, by go_num, by go_num, by omega, by omega, by omega, by rw [size_swp]; exact hsk, S4, HP.out⟩
          case measure => simp [intOf]; omega
end Go.Proofs.Ythpcippgifmabaa

/-! ## SortG -/
namespace Go.Proofs.Ythpcippgifmabaa
set_option maxRecDepth 100000
open Go.RowKit
open Go.Sort (Holds swp scanUp scanDown partLoop partition size_swp)
variable {m9 : Nat}

theorem partition_eq {lt : Fin (m9 + 1) → Fin (m9 + 1) → Bool} {d : Array (Fin (m9 + 1))} {a b pivot I J : Nat} (hI : scanUp (fun x => lt x (swp d a pivot)[a]!) (swp d a pivot) (b - 1) (a + 1) = I) (hJ : scanDown (fun x => !lt x (swp d a pivot)[a]!) (swp d a pivot) I (b - 1) = J) :
    partition lt d a b pivot = if I > J then (J, true, swp (swp d a pivot) J a) else ((partLoop lt a (I + 1) (J - 1) (swp (swp d a pivot) I J)).1, false, swp (partLoop lt a (I + 1) (J - 1) (swp (swp d a pivot) I J)).2 (partLoop lt a (I + 1) (J - 1) (swp (swp d a pivot) I J)).1 a) := by
  unfold partition
  simp only [hI, hJ]

set_option maxHeartbeats 16000000 in
theorem partition_any (lt : Fin (m9 + 1) → Fin (m9 + 1) → Bool) (lb sb : Array Value) (r off a b pivot : Nat) (d : Array (Fin (m9 + 1))) (w : World) (hL : Less lt lb r off d.size w) (hS : Swp m9 sb r off d.size) (hH : Holds encF w r off d) (_hap : a ≤ pivot) (hpb : pivot < b) (hab : a + 1 < b) (hb : b ≤ d.size) (hsz : d.size < 1000) :
    Calls Try.prog 104 #[.agg #[.func (.func 54) #[] lb, .func (.func 90) #[] sb], .int .i64 a, .int .i64 b, .int .i64 pivot] w fun e w' =>
      e = .returned (.tuple #[.int .i64 (partition lt d a b pivot).1, .bool (partition lt d a b pivot).2.1]) ∧ Srt w r off (partition lt d a b pivot).2.2 w' := by
  have hr := hL.row
  obtain ⟨dk, hdk⟩ : ∃ dk, swp d a pivot = dk := ⟨_, rfl⟩
  have hsk : dk.size = d.size := by rw [← hdk]; exact size_swp _ _ _
  obtain ⟨I, hI⟩ : ∃ I, scanUp (fun x => lt x dk[a]!) dk (b - 1) (a + 1) = I := ⟨_, rfl⟩
  obtain ⟨J, hJ⟩ : ∃ J, scanDown (fun x => !lt x dk[a]!) dk I (b - 1) = J := ⟨_, rfl⟩
  have hp : partition lt d a b pivot = if I > J then (J, true, swp dk J a) else ((partLoop lt a (I + 1) (J - 1) (swp dk I J)).1, false, swp (partLoop lt a (I + 1) (J - 1) (swp dk I J)).2 (partLoop lt a (I + 1) (J - 1) (swp dk I J)).1 a) := by
    subst hdk; exact partition_eq hI hJ
  obtain ⟨R, hR⟩ : ∃ R, partition lt d a b pivot = R := ⟨_, rfl⟩
  rw [hR] at hp ⊢
  have HP := Lib.hid hp; have HD := Lib.hid hdk; have HI := Lib.hid hI; have HJ := Lib.hid hJ
  clear hp hR hdk hI hJ
  obtain ⟨b1, hb1⟩ : ∃ b1, b = b1 + 1 := ⟨b - 1, by omega⟩
  rw [show b - 1 = b1 by omega] at HI HJ
  have hbl : b ≤ b1 + 1 := by omega
  have hbg : b1 + 1 ≤ b := by omega
  clear hb1
  go_enter Try.func104, Try.ntmps104
  go_upto_region 1 with fail
  have F : Blk (w.alloc (.cells #[.func (.func 54) #[] lb, .func (.func 90) #[] sb] 103)) w.heap.size 103 #[.func (.func 54) #[] lb, .func (.func 90) #[] sb] := Blk.new _ rfl
  have S0 : Srt w r off d (w.alloc (.cells #[.func (.func 54) #[] lb, .func (.func 90) #[] sb] 103)) := (Srt.refl hH).below hr (by (with_reducible repeat' first | exact Below.refl _ _ | assumption | (refine Below.setCell ?_ (by first | omega | (simp; omega) | (simp; done) | (dsimp only; omega)) _) | (refine Below.alloc ?_ (by first | omega | (simp; omega) | (simp; done) | (dsimp only; omega)) _) | (refine below_drewN ?_ _) | (refine Below.drew ?_)))
  generalize (w.alloc (.cells #[.func (.func 54) #[] lb, .func (.func 90) #[] sb] 103)) = w0 at F S0
  have lF := F.lt
  have hz0 := S0.size
  have L0 := hL.of S0
  have e0 := F.cell (i := 0) rfl; have e1 := F.cell (i := 1) rfl
  go_wp2
  obtain ⟨w1, hs, S1⟩ := hS.at (Srt.refl S0.holds) rfl a pivot (by omega) (by omega)
  rw [hs, Oper.upon_value]
  rotate_left
  · omega
  · omega
  clear hs
  rw [HD.out] at S1
  clear e0 e1
  go_upto_block 0 with fail
  go_cut [10] (fun v wc => v = .int .i64 I ∧ (a + 1) ≤ I ∧ I ≤ b1 + 1 ∧ (I ≤ b1 → lt dk[I]! dk[a]! = false) ∧ Srt w0 r off dk wc)
  case first =>
    go_wp2_with fail
    go_loopw [10] (fun v wc => ∃ k : Nat, v = .int .i64 k ∧ (a + 1) ≤ k ∧ k ≤ b1 + 1 ∧ Srt w0 r off dk wc ∧ scanUp (fun x => lt x dk[a]!) dk b1 k = I) (fun v _ => b1 + 1 - (intOf v).toNat)
    case atStart => exact ⟨(a + 1), by go_num, Nat.le_refl _, by omega, S1, HI.out⟩
    case round =>
      clear S1
      obtain ⟨k, rfl, hk1, hk2, hwk, hK⟩ := hrel
      have HK := Lib.hid hK
      clear hK
      have Fr := hwk.blk F (by omega)
      have e0 := Fr.cell (i := 0) rfl
      have hzk := hwk.size
      by_cases h : k ≤ b1
      · have hz : (k : Int) ≤ (b1 : Int) := by omega
        have hl := L0.at hwk hsk k a (by omega) (by omega)
        cases hv : lt dk[k]! dk[a]! with
        | true =>
          rw [hv] at hl
          go_wp2_with (go_at_call 54; (with_reducible refine (hl _ _ (by omega) (by omega)).mono ?_); rintro e w9 ⟨rfl, hq⟩)
          exact ⟨⟨k + 1, by go_num, by omega, by omega, hwk.below (by omega) hq, by rw [← HK.out, scanUp_go h (by simp [hv])]⟩, by simp [intOf]; omega⟩
        | false =>
          rw [hv] at hl
          have hk : k = I := by rw [← HK.out, scanUp_stop (Or.inr (by simp [hv]))]
          go_wp2_with (go_at_call 54; (with_reducible refine (hl _ _ (by omega) (by omega)).mono ?_); rintro e w9 ⟨rfl, hq⟩)
          go_meet
          case rel => exact ⟨by rw [← hk], by omega, by omega, fun _ => by rw [← hk]; exact hv, hwk.below (by omega) hq⟩
      · have hz : ¬ (k : Int) ≤ (b1 : Int) := by omega
        have hk : k = I := by rw [← HK.out, scanUp_stop (Or.inl h)]
        go_wp2
        go_meet
        case rel => exact ⟨by rw [← hk], by omega, by omega, fun h' => absurd h' (by omega), hwk⟩
  case rest =>
    clear S1
    obtain ⟨rfl, hI1, hI2, hIv, hw2⟩ := hcut
    have HIV := Lib.hid hIv
    clear hIv
    go_upto_block 2 with fail
    go_cut [11] (fun v wc => v = .int .i64 J ∧ I ≤ J + 1 ∧ J ≤ b1 ∧ (I ≤ J → lt dk[J]! dk[a]! = true) ∧ Srt w0 r off dk wc)
    case first =>
      go_wp2_with fail
      go_loopw [11] (fun v wc => ∃ k : Nat, v = .int .i64 k ∧ I ≤ k + 1 ∧ k ≤ b1 ∧ Srt w0 r off dk wc ∧ scanDown (fun x => !lt x dk[a]!) dk I k = J) (fun v _ => (intOf v).toNat)
      case atStart => exact ⟨b1, by go_num, by omega, Nat.le_refl _, hw2, HJ.out⟩
      case round =>
        clear hw2
        obtain ⟨k, rfl, hk1, hk2, hwk, hK⟩ := hrel
        have HK := Lib.hid hK
        clear hK
        have Fr := hwk.blk F (by omega)
        have e0 := Fr.cell (i := 0) rfl
        have hzk := hwk.size
        by_cases h : I ≤ k
        · have hz : (I : Int) ≤ (k : Int) := by omega
          have hl := L0.at hwk hsk k a (by omega) (by omega)
          obtain ⟨m, rfl⟩ : ∃ m, k = m + 1 := ⟨k - 1, by omega⟩
          cases hv : lt dk[m + 1]! dk[a]! with
          | false =>
            rw [hv] at hl
            go_wp2_with (go_at_call 54; (with_reducible refine (hl _ _ (by omega) (by omega)).mono ?_); rintro e w9 ⟨rfl, hq⟩)
            exact ⟨⟨m, by go_num, by omega, by omega, hwk.below (by omega) hq, by rw [← HK.out, scanDown_go h (by simp [hv])]⟩, by simp [intOf]⟩
          | true =>
            rw [hv] at hl
            have hk : m + 1 = J := by rw [← HK.out, scanDown_stop (by omega) (Or.inr (by simp [hv]))]
            go_wp2_with (go_at_call 54; (with_reducible refine (hl _ _ (by omega) (by omega)).mono ?_); rintro e w9 ⟨rfl, hq⟩)
            go_meet
            case rel => exact ⟨by rw [← hk], by omega, by omega, fun _ => by rw [← hk]; exact hv, hwk.below (by omega) hq⟩
        · have hz : ¬ (I : Int) ≤ (k : Int) := by omega
          have hk : k = J := by rw [← HK.out, scanDown_stop (by omega) (Or.inl h)]
          go_wp2
          go_meet
          case rel => exact ⟨by rw [← hk], by omega, by omega, fun h' => absurd h' (by omega), hwk⟩
    case rest =>
      clear hw2
      obtain ⟨rfl, hJ1, hJ2, hJv, hw3⟩ := hcut
      have HJV := Lib.hid hJv
      clear hJv
      have Fr := hw3.blk F (by omega)
      have e0 := Fr.cell (i := 0) rfl; have e1 := Fr.cell (i := 1) rfl
      have hz3 := hw3.size
      by_cases h : I > J
      · have hz : (I : Int) > (J : Int) := by omega
        have HP2 := Lib.hid (HP.out.trans (if_pos h))
        go_wp2
        obtain ⟨w4, hs, S4⟩ := hS.at hw3 hsk J a (by omega) (by omega)
        rw [hs, Oper.upon_value]
        rotate_left
        · omega
        · omega
        clear hs
        go_wp2
        (try simp only [Exit.inBlock, Exit.then]); refine bodyPost_ret (v := .tuple #[.int .i64 J, .bool true]) (by simp [results, Try.results104, go_sem]) rfl ?_
        rw [HP2.out]
        exact ⟨rfl, S0.trans S4⟩
      · have hz : ¬ (I : Int) > (J : Int) := by omega
        have hIJ : I < J := by
          rcases Nat.lt_or_ge I J with h' | h'
          · exact h'
          · obtain rfl : I = J := by omega
            exact absurd ((HIV.out (by omega)).symm.trans (HJV.out (by omega))) (by simp)
        have HP2 := Lib.hid (HP.out.trans (if_neg h))
        go_wp2
        obtain ⟨w4, hs, S4⟩ := hS.at hw3 hsk I J (by omega) (by omega)
        rw [hs, Oper.upon_value]
        rotate_left
        · omega
        · omega
        clear hs
        obtain ⟨d0, hd0⟩ : ∃ d0, swp dk I J = d0 := ⟨_, rfl⟩
        rw [hd0] at HP2 S4
        have hs0 : d0.size = d.size := by rw [← hd0, size_swp]; exact hsk
        obtain ⟨I0, hI0⟩ : ∃ I0, I + 1 = I0 := ⟨_, rfl⟩
        obtain ⟨J0, hJ0⟩ : ∃ J0, J - 1 = J0 := ⟨_, rfl⟩
        rw [hI0, hJ0] at HP2
        obtain ⟨Q, hQ⟩ : ∃ Q, partLoop lt a I0 J0 d0 = Q := ⟨_, rfl⟩
        rw [hQ] at HP2
        have HQ := Lib.hid hQ
        clear hQ hd0
        go_wp2
        go_loopw [10, 11] (fun vi vj wr => ∃ (i j : Nat) (dk : Array (Fin (m9 + 1))), vi = .int .i64 i ∧ vj = .int .i64 j ∧ a < i ∧ i ≤ j + 1 ∧ j < b ∧ dk.size = d.size ∧ Srt w0 r off dk wr ∧ partLoop lt a i j dk = Q) (fun vi vj _ => (intOf vj + 1 - intOf vi).toNat)
        case atStart => exact ⟨I0, J0, d0, by go_num, by go_num, by omega, by omega, by omega, hs0, S4, HQ.out⟩
        case round =>
          clear hw3 S4 e0 e1 Fr hz3 hIJ h hz HIV HJV HI HJ hI1 hI2 hJ1 hJ2 hs0 HQ hsk hI0 hJ0
          obtain ⟨i, j, dk, rfl, rfl, hai, hij, hjb, hsk, hwr, hO⟩ := hrel
          rw [Sort.partLoop_eq] at hO
          obtain ⟨I, hI⟩ : ∃ I, scanUp (fun x => lt x dk[a]!) dk j i = I := ⟨_, rfl⟩
          rw [hI] at hO
          obtain ⟨J, hJ⟩ : ∃ J, scanDown (fun x => !lt x dk[a]!) dk I j = J := ⟨_, rfl⟩
          rw [hJ] at hO
          have HO := Lib.hid hO; have HI := Lib.hid hI; have HJ := Lib.hid hJ
          clear hO hI hJ
          go_upto_block 6 with fail
          go_cut [10] from 64 to 100 (fun v wc => v = .int .i64 I ∧ i ≤ I ∧ I ≤ j + 1 ∧ (I ≤ j → lt dk[I]! dk[a]! = false) ∧ Srt w0 r off dk wc)
          case first =>
            go_wp2_with fail
            go_loopw [10] (fun v wc => ∃ k : Nat, v = .int .i64 k ∧ i ≤ k ∧ k ≤ j + 1 ∧ Srt w0 r off dk wc ∧ scanUp (fun x => lt x dk[a]!) dk j k = I) (fun v _ => j + 1 - (intOf v).toNat)
            case atStart => exact ⟨i, by go_num, Nat.le_refl _, by omega, hwr, HI.out⟩
            case round =>
              clear hwr
              obtain ⟨k, rfl, hk1, hk2, hwk, hK⟩ := hrel
              have HK := Lib.hid hK
              clear hK
              have Fr := hwk.blk F (by omega)
              have e0 := Fr.cell (i := 0) rfl
              have hzk := hwk.size
              by_cases h : k ≤ j
              · have hz : (k : Int) ≤ (j : Int) := by omega
                have hl := L0.at hwk hsk k a (by omega) (by omega)
                cases hv : lt dk[k]! dk[a]! with
                | true =>
                  rw [hv] at hl
                  go_wp2_with (go_at_call 54; (with_reducible refine (hl _ _ (by omega) (by omega)).mono ?_); rintro e w9 ⟨rfl, hq⟩)
                  exact ⟨⟨k + 1, by go_num, by omega, by omega, hwk.below (by omega) hq, by rw [← HK.out, scanUp_go h (by simp [hv])]⟩, by simp [intOf]; omega⟩
                | false =>
                  rw [hv] at hl
                  have hk : k = I := by rw [← HK.out, scanUp_stop (Or.inr (by simp [hv]))]
                  go_wp2_with (go_at_call 54; (with_reducible refine (hl _ _ (by omega) (by omega)).mono ?_); rintro e w9 ⟨rfl, hq⟩)
                  go_meet
                  case rel => exact ⟨by rw [← hk], by omega, by omega, fun _ => by rw [← hk]; exact hv, hwk.below (by omega) hq⟩
              · have hz : ¬ (k : Int) ≤ (j : Int) := by omega
                have hk : k = I := by rw [← HK.out, scanUp_stop (Or.inl h)]
                go_wp2
                go_meet
                case rel => exact ⟨by rw [← hk], by omega, by omega, fun h' => absurd h' (by omega), hwk⟩
          case rest =>
            clear hwr
            obtain ⟨rfl, hI1, hI2, hIv, hw2⟩ := hcut
            have HIV := Lib.hid hIv
            clear hIv
            go_upto_block 8 with fail
            go_cut [11] from 64 to 100 (fun v wc => v = .int .i64 J ∧ I ≤ J + 1 ∧ J ≤ j ∧ (I ≤ J → lt dk[J]! dk[a]! = true) ∧ Srt w0 r off dk wc)
            case first =>
              go_wp2_with fail
              go_loopw [11] (fun v wc => ∃ k : Nat, v = .int .i64 k ∧ I ≤ k + 1 ∧ k ≤ j ∧ Srt w0 r off dk wc ∧ scanDown (fun x => !lt x dk[a]!) dk I k = J) (fun v _ => (intOf v).toNat)
              case atStart => exact ⟨j, by go_num, by omega, Nat.le_refl _, hw2, HJ.out⟩
              case round =>
                clear hw2
                obtain ⟨k, rfl, hk1, hk2, hwk, hK⟩ := hrel
                have HK := Lib.hid hK
                clear hK
                have Fr := hwk.blk F (by omega)
                have e0 := Fr.cell (i := 0) rfl
                have hzk := hwk.size
                by_cases h : I ≤ k
                · have hz : (I : Int) ≤ (k : Int) := by omega
                  have hl := L0.at hwk hsk k a (by omega) (by omega)
                  obtain ⟨m, rfl⟩ : ∃ m, k = m + 1 := ⟨k - 1, by omega⟩
                  cases hv : lt dk[m + 1]! dk[a]! with
                  | false =>
                    rw [hv] at hl
                    go_wp2_with (go_at_call 54; (with_reducible refine (hl _ _ (by omega) (by omega)).mono ?_); rintro e w9 ⟨rfl, hq⟩)
                    exact ⟨⟨m, by go_num, by omega, by omega, hwk.below (by omega) hq, by rw [← HK.out, scanDown_go h (by simp [hv])]⟩, by simp [intOf]⟩
                  | true =>
                    rw [hv] at hl
                    have hk : m + 1 = J := by rw [← HK.out, scanDown_stop (by omega) (Or.inr (by simp [hv]))]
                    go_wp2_with (go_at_call 54; (with_reducible refine (hl _ _ (by omega) (by omega)).mono ?_); rintro e w9 ⟨rfl, hq⟩)
                    go_meet
                    case rel => exact ⟨by rw [← hk], by omega, by omega, fun _ => by rw [← hk]; exact hv, hwk.below (by omega) hq⟩
                · have hz : ¬ (I : Int) ≤ (k : Int) := by omega
                  have hk : k = J := by rw [← HK.out, scanDown_stop (by omega) (Or.inl h)]
                  go_wp2
                  go_meet
                  case rel => exact ⟨by rw [← hk], by omega, by omega, fun h' => absurd h' (by omega), hwk⟩
            case rest =>
              clear hw2
              obtain ⟨rfl, hJ1, hJ2, hJv, hw3⟩ := hcut
              have HJV := Lib.hid hJv
              clear hJv
              have Fr := hw3.blk F (by omega)
              have e0 := Fr.cell (i := 0) rfl; have e1 := Fr.cell (i := 1) rfl
              have hz3 := hw3.size
              by_cases h : I > J
              · have hz : (I : Int) > (J : Int) := by omega
                have HQ := Lib.hid ((if_pos h).symm.trans HO.out)
                go_wp2
                obtain ⟨w4, hs, S4⟩ := hS.at hw3 hsk J a (by omega) (by omega)
                rw [hs, Oper.upon_value]
                rotate_left
                · omega
                · omega
                clear hs
                go_wp2
                (try simp only [Exit.inBlock, Exit.then]); refine bodyPost_ret (v := .tuple #[.int .i64 J, .bool false]) (by simp [results, Try.results104, go_sem]) rfl ?_
                rw [HP2.out, ← HQ.out]
                exact ⟨rfl, S0.trans S4⟩
              · have hz : ¬ (I : Int) > (J : Int) := by omega
                have hIJ : I < J := by
                  rcases Nat.lt_or_ge I J with h' | h'
                  · exact h'
                  · obtain rfl : I = J := by omega
                    exact absurd ((HIV.out (by omega)).symm.trans (HJV.out (by omega))) (by simp)
                have HQ := Lib.hid ((if_neg h).symm.trans HO.out)
                go_wp2
                obtain ⟨w4, hs, S4⟩ := hS.at hw3 hsk I J (by omega) (by omega)
                rw [hs, Oper.upon_value]
                rotate_left
                · omega
                · omega
                clear hs
                go_wp2
                go_roundw
                case rel => exact ⟨I + 1, J - 1, swp dk I J, by go_num, by go_num, by omega, by omega, by omega, by rw [size_swp]; exact hsk, S4, HQ.out⟩
                case measure => simp [intOf]; omega
end Go.Proofs.Ythpcippgifmabaa

/-! ## SortL -/
namespace Go.Proofs.Ythpcippgifmabaa
set_option maxRecDepth 100000
open Go.RowKit Go.Shelf
open Go.Sort (Holds swp reverseRange breakPatterns)
variable {m9 : Nat}

def laysGg6_ren : Go.Shelf.Ren := ⟨fun | 6 => 53 | 10 => 77 | 11 => 78 | 12 => 79 | 13 => 80 | 14 => 81 | 24 => 95 | 25 => 96 | 26 => 97 | 27 => 98 | 28 => 99 | 29 => 100 | 30 => 101 | 31 => 102 | 32 => 103 | 33 => 104 | 34 => 108 | 35 => 109 | 36 => 110 | 37 => 111 | 38 => 112 | 39 => 113 | n => n, fun | 20 => 20 | 26 => 68 | 35 => 94 | 0 => 0 | 37 => 96 | 3 => 3 | 41 => 100 | 44 => 103 | 49 => 110 | 51 => 112 | 4 => 4 | 54 => 115 | 53 => 114 | 58 => 119 | 5 => 5 | 9 => 9 | 60 => 123 | 64 => 127 | 66 => 129 | 67 => 130 | 17 => 17 | 32 => 91 | 33 => 92 | 82 => 145 | 12 => 12 | 75 => 138 | 76 => 139 | 77 => 140 | 78 => 141 | 79 => 142 | 80 => 143 | n => n, fun | n => n⟩
theorem laysGg6 : Go.Proofs.LaysGg.n6 Try.prog laysGg6_ren := {
  mixed := by kernel_rfl
  f6 := Try.func53.trans (congrArg some (by kernel_rfl))
  f10 := Try.func77.trans (congrArg some (by kernel_rfl))
  f11 := Try.func78.trans (congrArg some (by kernel_rfl))
  f12 := Try.func79.trans (congrArg some (by kernel_rfl))
  f13 := Try.func80.trans (congrArg some (by kernel_rfl))
  f14 := Try.func81.trans (congrArg some (by kernel_rfl))
  f24 := Try.func95.trans (congrArg some (by kernel_rfl))
  f25 := Try.func96.trans (congrArg some (by kernel_rfl))
  f26 := Try.func97.trans (congrArg some (by kernel_rfl))
  f27 := Try.func98.trans (congrArg some (by kernel_rfl))
  f28 := Try.func99.trans (congrArg some (by kernel_rfl))
  f29 := Try.func100.trans (congrArg some (by kernel_rfl))
  f30 := Try.func101.trans (congrArg some (by kernel_rfl))
  f31 := Try.func102.trans (congrArg some (by kernel_rfl))
  f32 := Try.func103.trans (congrArg some (by kernel_rfl))
  f33 := Try.func104.trans (congrArg some (by kernel_rfl))
  f34 := Try.func108.trans (congrArg some (by kernel_rfl))
  f35 := Try.func109.trans (congrArg some (by kernel_rfl))
  f36 := Try.func110.trans (congrArg some (by kernel_rfl))
  f37 := Try.func111.trans (congrArg some (by kernel_rfl))
  f38 := Try.func112.trans (congrArg some (by kernel_rfl))
  f39 := Try.func113.trans (congrArg some (by kernel_rfl))
  t0 := Try.underlying0
  a0 := Try.isAgg0
  z0 := Try.sizeOf0
  v0 := Try.zeroValue0
  i0 := by kernel_rfl
  t3 := Try.underlying3
  a3 := Try.isAgg3
  z3 := Try.sizeOf3
  v3 := Try.zeroValue3
  i3 := by kernel_rfl
  t4 := Try.underlying4
  a4 := Try.isAgg4
  z4 := Try.sizeOf4
  v4 := Try.zeroValue4
  i4 := by kernel_rfl
  t5 := Try.underlying5
  a5 := Try.isAgg5
  z5 := Try.sizeOf5
  v5 := Try.zeroValue5
  i5 := by kernel_rfl
  t9 := Try.underlying9
  a9 := Try.isAgg9
  z9 := Try.sizeOf9
  v9 := Try.zeroValue9
  i9 := by kernel_rfl
  t12 := Try.underlying12
  a12 := Try.isAgg12
  z12 := Try.sizeOf12
  v12 := Try.zeroValue12
  i12 := by kernel_rfl
  t17 := Try.underlying17
  a17 := Try.isAgg17
  z17 := Try.sizeOf17
  v17 := Try.zeroValue17
  i17 := by kernel_rfl
  t20 := Try.underlying20
  a20 := Try.isAgg20
  z20 := Try.sizeOf20
  v20 := Try.zeroValue20
  i20 := by kernel_rfl
  t26 := Try.underlying68
  a26 := Try.isAgg68
  z26 := Try.sizeOf68
  v26 := Try.zeroValue68
  i26 := by kernel_rfl
  t32 := Try.underlying91
  a32 := Try.isAgg91
  z32 := Try.sizeOf91
  v32 := Try.zeroValue91
  i32 := by kernel_rfl
  t33 := Try.underlying92
  a33 := Try.isAgg92
  z33 := Try.sizeOf92
  v33 := Try.zeroValue92
  i33 := by kernel_rfl
  t35 := Try.underlying94
  a35 := Try.isAgg94
  z35 := Try.sizeOf94
  v35 := Try.zeroValue94
  i35 := by kernel_rfl
  t37 := Try.underlying96
  a37 := Try.isAgg96
  z37 := Try.sizeOf96
  v37 := Try.zeroValue96
  i37 := by kernel_rfl
  t41 := Try.underlying100
  a41 := Try.isAgg100
  z41 := Try.sizeOf100
  v41 := Try.zeroValue100
  i41 := by kernel_rfl
  t44 := Try.underlying103
  a44 := Try.isAgg103
  z44 := Try.sizeOf103
  v44 := Try.zeroValue103
  i44 := by kernel_rfl
  t49 := Try.underlying110
  a49 := Try.isAgg110
  z49 := Try.sizeOf110
  v49 := Try.zeroValue110
  i49 := by kernel_rfl
  t51 := Try.underlying112
  a51 := Try.isAgg112
  z51 := Try.sizeOf112
  v51 := Try.zeroValue112
  i51 := by kernel_rfl
  t53 := Try.underlying114
  a53 := Try.isAgg114
  z53 := Try.sizeOf114
  v53 := Try.zeroValue114
  i53 := by kernel_rfl
  t54 := Try.underlying115
  a54 := Try.isAgg115
  z54 := Try.sizeOf115
  v54 := Try.zeroValue115
  i54 := by kernel_rfl
  t58 := Try.underlying119
  a58 := Try.isAgg119
  z58 := Try.sizeOf119
  v58 := Try.zeroValue119
  i58 := by kernel_rfl
  t60 := Try.underlying123
  a60 := Try.isAgg123
  z60 := Try.sizeOf123
  v60 := Try.zeroValue123
  i60 := by kernel_rfl
  t64 := Try.underlying127
  a64 := Try.isAgg127
  z64 := Try.sizeOf127
  v64 := Try.zeroValue127
  i64 := by kernel_rfl
  t66 := Try.underlying129
  a66 := Try.isAgg129
  z66 := Try.sizeOf129
  v66 := Try.zeroValue129
  i66 := by kernel_rfl
  t67 := Try.underlying130
  a67 := Try.isAgg130
  z67 := Try.sizeOf130
  v67 := Try.zeroValue130
  i67 := by kernel_rfl
  t75 := Try.underlying138
  a75 := Try.isAgg138
  z75 := Try.sizeOf138
  v75 := Try.zeroValue138
  i75 := by kernel_rfl
  t76 := Try.underlying139
  a76 := Try.isAgg139
  z76 := Try.sizeOf139
  v76 := Try.zeroValue139
  i76 := by kernel_rfl
  t77 := Try.underlying140
  a77 := Try.isAgg140
  z77 := Try.sizeOf140
  v77 := Try.zeroValue140
  i77 := by kernel_rfl
  t78 := Try.underlying141
  a78 := Try.isAgg141
  z78 := Try.sizeOf141
  v78 := Try.zeroValue141
  i78 := by kernel_rfl
  t79 := Try.underlying142
  a79 := Try.isAgg142
  z79 := Try.sizeOf142
  v79 := Try.zeroValue142
  i79 := by kernel_rfl
  t80 := Try.underlying143
  a80 := Try.isAgg143
  z80 := Try.sizeOf143
  v80 := Try.zeroValue143
  i80 := by kernel_rfl
  t82 := Try.underlying145
  a82 := Try.isAgg145
  z82 := Try.sizeOf145
  v82 := Try.zeroValue145
  i82 := by kernel_rfl }

theorem Srt.of_world {w : World} {r off n : Nat} {d d' : Array (Fin (m9 + 1))} {os : Array Obj} (hH : Holds encF w r off d) (hr : r < w.heap.size) (hs : d'.size = d.size) : Srt w r off d' (sortWorld encF w r off n d' os) := by
  refine ⟨⟨rfl, rfl, rfl, ?_, ?_⟩, holds_sortWorld _ w r off n d d' os hr hH hs, fun cs t z e => ?_⟩
  · unfold sortWorld; rw [Sort.size_grow]; simp
  · intro k hk hd
    have hne : r ≠ k := by omega
    unfold sortWorld Sort.grow Sort.putRow Sort.mapBlock Sort.ahead
    simp only
    rw [Array.getElem?_append_left (by simpa using hk), Array.getElem?_modify, if_neg hne]
  · refine ⟨Sort.putCells encF off d' cs, ?_, by simp [Sort.putCells]⟩
    unfold sortWorld Sort.grow Sort.putRow Sort.mapBlock Sort.ahead
    simp only
    rw [Array.getElem?_append_left (by simpa using hr), Array.getElem?_modify, if_pos rfl, e]
    rfl

theorem reverse_any (lb sb : Array Value) (r off a b : Nat) (d : Array (Fin (m9 + 1))) (w : World) (hr : r < w.heap.size) (hS : Swp m9 sb r off d.size) (hH : Holds encF w r off d) (hab : a ≤ b) (hb : b ≤ d.size) (hsz : d.size < 1000) (hs : (reverseRange d a b).size = d.size) :
    Calls Try.prog 101 #[.agg #[.func (.func 54) #[] lb, .func (.func 90) #[] sb], .int .i64 a, .int .i64 b] w fun e w' =>
      e = .returned (.tuple #[]) ∧ Srt w r off (reverseRange d a b) w' :=
  (Any.reverseRange_func_w (P := Try.prog) (ρ := laysGg6_ren) { laysGg6 with } encF (.func 54) #[] lb _ sb r off a b d w hS hH hr hab hb (by omega)).mono fun _ _ ⟨he, n, os, hw⟩ => ⟨he, by rw [hw]; exact Srt.of_world hH hr hs⟩

theorem break_any (lb sb : Array Value) (r off a b : Nat) (d : Array (Fin (m9 + 1))) (w : World) (hr : r < w.heap.size) (hS : Swp m9 sb r off d.size) (hH : Holds encF w r off d) (hab : a ≤ b) (hb : b ≤ d.size) (hsz : d.size < 1000) (hs : (breakPatterns d a b).size = d.size) :
    Calls Try.prog 99 #[.agg #[.func (.func 54) #[] lb, .func (.func 90) #[] sb], .int .i64 a, .int .i64 b] w fun e w' =>
      e = .returned (.tuple #[]) ∧ Srt w r off (breakPatterns d a b) w' :=
  (Any.breakPatterns_func_w (P := Try.prog) (ρ := laysGg6_ren) { laysGg6 with } encF (.func 54) #[] lb _ sb r off a b d w hS hH hr hab hb (by omega)).mono fun _ _ ⟨he, n, os, hw⟩ => ⟨he, by rw [hw]; exact Srt.of_world hH hr hs⟩
end Go.Proofs.Ythpcippgifmabaa

/-! ## SortO -/
namespace Go.Proofs.Ythpcippgifmabaa
set_option maxRecDepth 100000
open Go.RowKit
open Go.Sort (SWO PermIn SortedIn pdq)

def bornAt (xs : List Person) (i : Int) : Int := match xs[i.toNat]? with
  | some x => x.born
  | none => 0
/-- Who is elder, over all numbers (a total order). -/
def lessM (xs : List Person) (a b : Int) : Bool := decide (bornAt xs a < bornAt xs b) || (decide (bornAt xs a = bornAt xs b) && decide (a < b))
theorem lessM_swo (xs : List Person) : SWO (lessM xs) where
  irrefl x := by simp [lessM]
  trans x y z h1 h2 := by
    simp only [lessM, Bool.or_eq_true, Bool.and_eq_true, decide_eq_true_eq] at *
    omega
  ntrans x y z h1 h2 := by
    simp only [lessM, Bool.or_eq_false_iff, Bool.and_eq_false_iff, decide_eq_false_iff_not] at *
    omega
theorem lessM_total {xs : List Person} {x y : Int} (h1 : lessM xs x y = false) (h2 : lessM xs y x = false) : x = y := by
  simp only [lessM, Bool.or_eq_false_iff, Bool.and_eq_false_iff, decide_eq_false_iff_not] at *
  omega
theorem lessM_eq {xs : List Person} {a b : Nat} (ha : a < xs.length) (hb : b < xs.length) : lessM xs a b = elderAt xs a b := by
  rw [elderAt_of (List.getElem?_eq_getElem ha) (List.getElem?_eq_getElem hb)]
  simp only [lessM, bornAt, Int.toNat_natCast, List.getElem?_eq_getElem ha, List.getElem?_eq_getElem hb, Int.ofNat_lt]

/-- Whom the program lists before it sorts. -/
def listM (P : Nat → Bool) : Nat → List Int
  | 0 => []
  | k + 1 => if P k = true then listM P k ++ [(k : Int)] else listM P k
theorem listM_mem {P : Nat → Bool} {y : Int} : ∀ {k : Nat}, y ∈ listM P k ↔ ∃ i : Nat, i < k ∧ P i = true ∧ y = i := by
  intro k
  induction k with
  | zero => simp [listM]
  | succ k ih =>
    rw [listM]; split
    · rename_i hk
      rw [List.mem_append, ih]
      constructor
      · rintro (⟨i, h1, h2, h3⟩ | h)
        · exact ⟨i, by omega, h2, h3⟩
        · exact ⟨k, by omega, hk, by simpa using h⟩
      · rintro ⟨i, h1, h2, h3⟩
        by_cases e : i = k
        · subst e; exact .inr (by simpa using h3)
        · exact .inl ⟨i, by omega, h2, h3⟩
    · rename_i hk
      rw [ih]
      constructor
      · rintro ⟨i, h1, h2, h3⟩; exact ⟨i, by omega, h2, h3⟩
      · rintro ⟨i, h1, h2, h3⟩
        by_cases e : i = k
        · subst e; exact absurd h2 hk
        · exact ⟨i, by omega, h2, h3⟩
theorem listM_len {P : Nat → Bool} : ∀ k : Nat, (listM P k).length ≤ k := by
  intro k
  induction k with
  | zero => exact Nat.le_refl _
  | succ k ih =>
    rw [listM]; split
    · simp; omega
    · omega
theorem listM_get {P : Nat → Bool} {k i : Nat} (h : i < (listM P k).length) : ∃ m : Nat, m < k ∧ (listM P k)[i] = (m : Int) := by
  obtain ⟨m, h1, h2, h3⟩ := listM_mem.1 (List.getElem_mem h)
  exact ⟨m, h1, h3⟩
theorem insA_perm {xs : List Person} {p : Int} : ∀ {l : List Int}, (insA xs p l).Perm (p :: l) := by
  intro l
  induction l with
  | nil => exact List.Perm.refl _
  | cons q r ih =>
    rw [insA]; split
    · exact List.Perm.refl _
    · exact (List.Perm.cons q ih).trans (List.Perm.swap p q r)
theorem kidsM_perm {xs : List Person} {P : Nat → Bool} : ∀ k : Nat, (kidsM xs P k).Perm (listM P k) := by
  intro k
  induction k with
  | zero => exact List.Perm.refl _
  | succ k ih =>
    rw [kidsM, listM]; split
    · exact (insA_perm.trans (List.Perm.cons _ ih)).trans (List.perm_append_singleton _ _).symm
    · exact ih
theorem insA_sorted {xs : List Person} {p : Nat} (hp : p < xs.length) : ∀ {l : List Int}, (∀ y ∈ l, ∃ m : Nat, m < xs.length ∧ y = (m : Int)) → l.Pairwise (fun a b => (!lessM xs b a) = true) → (insA xs p l).Pairwise (fun a b => (!lessM xs b a) = true) := by
  intro l
  induction l with
  | nil => intro _ _; simp [insA]
  | cons q r ih =>
    intro hm hl
    obtain ⟨h1, h2⟩ := List.pairwise_cons.1 hl
    obtain ⟨m, hmx, rfl⟩ := hm q (by simp)
    rw [insA]; split
    · rename_i he
      rw [Int.toNat_natCast, Int.toNat_natCast, ← lessM_eq hp hmx] at he
      refine List.pairwise_cons.2 ⟨?_, hl⟩
      intro y hy
      rw [Bool.not_eq_true']
      rcases List.mem_cons.1 hy with rfl | hy
      · cases h : lessM xs (m : Int) (p : Int) with
        | false => rfl
        | true => have := (lessM_swo xs).trans _ _ _ h he; rw [(lessM_swo xs).irrefl] at this; exact this.symm
      · cases h : lessM xs y (p : Int) with
        | false => rfl
        | true =>
          have h3 := (lessM_swo xs).trans _ _ _ h he
          have := h1 y hy
          rw [h3] at this
          exact absurd this (by simp)
    · rename_i he
      rw [Int.toNat_natCast, Int.toNat_natCast, ← lessM_eq hp hmx] at he
      refine List.pairwise_cons.2 ⟨?_, ih (fun y hy => hm y (by simp [hy])) h2⟩
      intro y hy
      rcases mem_insA.1 hy with rfl | hy
      · simpa using he
      · exact h1 y hy
theorem kidsM_sorted {xs : List Person} {P : Nat → Bool} : ∀ k : Nat, k ≤ xs.length → (kidsM xs P k).Pairwise (fun a b => (!lessM xs b a) = true) := by
  intro k
  induction k with
  | zero => intro _; simp [kidsM]
  | succ k ih =>
    intro hk
    rw [kidsM]; split
    · refine insA_sorted (by omega) ?_ (ih (by omega))
      intro y hy
      obtain ⟨i, h1, -, h3⟩ := kidsM_mem.1 hy
      exact ⟨i, by omega, h3⟩
    · exact ih (by omega)
/-- The same persons as numbers below a bound. -/
def finL (m : Nat) (l : List Int) : Array (Fin (m + 1)) := (l.map fun y => Fin.ofNat (m + 1) y.toNat).toArray
def unF {m : Nat} (l : List (Fin (m + 1))) : List Int := l.map fun x => ((x.val : Nat) : Int)
theorem size_finL (m : Nat) (l : List Int) : (finL m l).size = l.length := by simp [finL]
theorem unF_finL {m : Nat} : ∀ {l : List Int}, (∀ y ∈ l, ∃ i : Nat, i < m + 1 ∧ y = (i : Int)) → unF (finL m l).toList = l := by
  intro l
  induction l with
  | nil => intro _; rfl
  | cons y r ih =>
    intro h
    obtain ⟨i, hi, rfl⟩ := h y (by simp)
    have hr := ih fun z hz => h z (by simp [hz])
    simp only [unF, finL, List.map_cons, List.map_map] at hr ⊢
    rw [hr]
    simp [Fin.ofNat, Nat.mod_eq_of_lt hi]
def lessF (xs : List Person) {m : Nat} (a b : Fin (m + 1)) : Bool := lessM xs ((a.val : Nat) : Int) ((b.val : Nat) : Int)
theorem lessF_swo (xs : List Person) (m : Nat) : SWO (lessF xs (m := m)) where
  irrefl _ := (lessM_swo xs).irrefl _
  trans _ _ _ h1 h2 := (lessM_swo xs).trans _ _ _ h1 h2
  ntrans _ _ _ h1 h2 := (lessM_swo xs).ntrans _ _ _ h1 h2
/-- The law: what the sort leaves of the persons sought. -/
theorem sorted_kids {m : Nat} {xs : List Person} {P : Nat → Bool} {D : Array (Fin (m + 1))} (hm : xs.length ≤ m + 1) (hP : PermIn 0 (finL m (listM P xs.length)).size (finL m (listM P xs.length)) D) (hS : SortedIn (lessF xs) 0 (finL m (listM P xs.length)).size D) : unF D.toList = kidsM xs P xs.length := by
  obtain ⟨hsz, -, hperm⟩ := hP
  rw [show D.extract 0 (finL m (listM P xs.length)).size = D by rw [← hsz]; exact Array.extract_size, Array.extract_size] at hperm
  have hp2 : (unF D.toList).Perm (listM P xs.length) := by
    have := hperm.map fun x => ((x.val : Nat) : Int)
    rwa [show (finL m (listM P xs.length)).toList.map (fun x => ((x.val : Nat) : Int)) = listM P xs.length from unF_finL fun y hy => by
      obtain ⟨i, h1, -, h3⟩ := listM_mem.1 hy
      exact ⟨i, by omega, h3⟩] at this
  refine List.Perm.eq_of_pairwise (le := fun x y => (!lessM xs y x) = true) ?_ ?_ (kidsM_sorted _ (Nat.le_refl _)) (hp2.trans (kidsM_perm _).symm)
  · intro a b _ _ h1 h2
    simp only [Bool.not_eq_true'] at h1 h2
    exact lessM_total h2 h1
  · rw [unF, List.pairwise_map, List.pairwise_iff_getElem]
    intro i j hi hj hij
    have hi' : i < D.size := by simpa using hi
    have hj' : j < D.size := by simpa using hj
    have := hS i j (Nat.zero_le _) hij (by omega)
    rw [getElem!_pos D j hj', getElem!_pos D i hi'] at this
    simpa [lessF] using this
theorem pdq_kids {m : Nat} {xs : List Person} {P : Nat → Bool} (hm : xs.length ≤ m + 1) (lim : Nat) : unF (pdq (lessF xs) (finL m (listM P xs.length)) 0 (finL m (listM P xs.length)).size lim true true).toList = kidsM xs P xs.length ∧ (pdq (lessF xs) (finL m (listM P xs.length)) 0 (finL m (listM P xs.length)).size lim true true).size = (listM P xs.length).length := by
  obtain ⟨h1, h2⟩ := Sort.pdq_sorts (lessF xs) (lessF_swo xs m) (finL m (listM P xs.length)) 0 (finL m (listM P xs.length)).size lim true true (Nat.zero_le _) (Nat.le_refl _) (Or.inl rfl)
  exact ⟨sorted_kids hm h1 h2, by rw [h1.1, size_finL]⟩
/-- One person or none: there is nothing to sort. -/
theorem small_kids {xs : List Person} {P : Nat → Bool} (h : (listM P xs.length).length ≤ 1) : listM P xs.length = kidsM xs P xs.length := by
  have hp := kidsM_perm (xs := xs) (P := P) xs.length
  have hl := hp.length_eq
  match h1 : listM P xs.length, h2 : kidsM xs P xs.length with
  | [], [] => rfl
  | [], _ :: _ => rw [h1, h2] at hl; simp at hl
  | _ :: _, [] => rw [h1, h2] at hl; simp at hl
  | [a], b :: r =>
    rw [h1, h2] at hp
    rw [List.perm_singleton.1 hp]
  | a :: b :: r, _ => rw [h1] at h; simp at h
end Go.Proofs.Ythpcippgifmabaa

/-! ## SortP -/
namespace Go.Proofs.Ythpcippgifmabaa
set_option maxRecDepth 100000
open Go.RowKit
open Go.Sort (Holds swp SWO pdq rd Hint hintCode size_swp partition partitionEqual)
variable {m9 : Nat}

theorem hint_two : ∀ {h : Hint}, hintCode h = 2 → h = .decreasing := by intro h; cases h <;> simp [hintCode]
set_option maxHeartbeats 16000000 in
theorem pdq_any (lt : Fin (m9 + 1) → Fin (m9 + 1) → Bool) (hO : SWO lt) (lb sb : Array Value) (r off : Nat) : ∀ (N a b limit : Nat) (d : Array (Fin (m9 + 1))) (w : World), b - a < N → Less lt lb r off d.size w → Swp m9 sb r off d.size → Holds encF w r off d → a ≤ b → b ≤ d.size → d.size < 50 → limit < 1000 → Sort.Below lt a b d →
    Calls Try.prog 81 #[.agg #[.func (.func 54) #[] lb, .func (.func 90) #[] sb], .int .i64 a, .int .i64 b, .int .i64 limit] w fun e w' =>
      e = .returned (.tuple #[]) ∧ Srt w r off (pdq lt d a b limit true true) w' := by
  intro N
  induction N with
  | zero => intro _ _ _ _ _ h; exact absurd h (Nat.not_lt_zero _)
  | succ N ih =>
    intro a b limit d w hN hL hS hH hab hb hsz hlimit hBel0
    have hr := hL.row
    go_enter Try.func81, Try.ntmps81
    go_upto_region 1 with fail
    have F : Blk (w.alloc (.cells #[.func (.func 54) #[] lb, .func (.func 90) #[] sb] 103)) w.heap.size 103 #[.func (.func 54) #[] lb, .func (.func 90) #[] sb] := Blk.new _ rfl
    have S0 : Srt w r off d (w.alloc (.cells #[.func (.func 54) #[] lb, .func (.func 90) #[] sb] 103)) := (Srt.refl hH).below hr (by (with_reducible repeat' first | exact Below.refl _ _ | assumption | (refine Below.setCell ?_ (by first | omega | (simp; omega) | (simp; done) | (dsimp only; omega)) _) | (refine Below.alloc ?_ (by first | omega | (simp; omega) | (simp; done) | (dsimp only; omega)) _) | (refine below_drewN ?_ _) | (refine Below.drew ?_)))
    generalize (w.alloc (.cells #[.func (.func 54) #[] lb, .func (.func 90) #[] sb] 103)) = w0 at F S0
    have lF := F.lt
    have hz0 := S0.size
    have L0 := hL.of S0
    clear hL hH
    go_wp2
    go_loopg [1, 2, 3, 8, 9] (b - a) (fun k s1 s2 s3 s8 s9 wr => ∃ (a' b' lim : Nat) (wb wp : Bool) (dk : Array (Fin (m9 + 1))), s1 = .int .i64 a' ∧ s2 = .int .i64 b' ∧ s3 = .int .i64 lim ∧ s8 = .bool wb ∧ s9 = .bool wp ∧
      a' ≤ b' ∧ b' ≤ d.size ∧ b' - a' ≤ k ∧ k ≤ b - a ∧ lim ≤ limit ∧ dk.size = d.size ∧ Sort.Below lt a' b' dk ∧ Srt w0 r off dk wr ∧ pdq lt dk a' b' lim wb wp = pdq lt d a b limit true true)
    case atStart => exact ⟨a, b, limit, true, true, d, rfl, rfl, rfl, rfl, rfl, hab, hb, Nat.le_refl _, Nat.le_refl _, Nat.le_refl _, rfl, hBel0, Srt.refl S0.holds, rfl⟩
    case round =>
      obtain ⟨a', b', lim, wb, wp, dk, rfl, rfl, rfl, rfl, rfl, hab', hb', hk, hkN, hlim, hds, hBel, hwr, heq⟩ := hrel
      have A := Lib.hid heq
      clear heq
      have Fr := hwr.blk F (by omega)
      have lr := Fr.lt
      have e0 := Fr.cell (i := 0) rfl; have e1 := Fr.cell (i := 1) rfl
      have hzr := hwr.size
      by_cases h12 : b' - a' ≤ 12
      · have h12z : (b' : Int) - (a' : Int) ≤ 12 := by omega
        have hc := insertion_any lt lb sb r off a' b' dk wr (by rw [hds]; exact L0.of hwr) (by rw [hds]; exact hS) hwr.holds hab' (by omega) (by omega)
        go_wp2_with (go_at_call 97; (with_reducible refine hc.mono ?_); rintro e w1 ⟨rfl, S1⟩)
        (try simp only [Exit.inBlock, Exit.then]); refine bodyPost_ret (results_none rfl _ _ _) rfl ?_
        exact ⟨rfl, S0.trans (hwr.trans (by rw [← A.out, Sort.pdq_small h12]; exact S1))⟩
      · have h12z : ¬ ((b' : Int) - (a' : Int) ≤ 12) := by omega
        by_cases hl0 : lim = 0
        · subst hl0
          have hc := heapSort_any lt lb sb r off a' b' dk wr (by rw [hds]; exact L0.of hwr) (by rw [hds]; exact hS) hwr.holds (by omega) (by omega) (by omega)
          go_wp2_with (go_at_call 98; (with_reducible refine hc.mono ?_); rintro e w1 ⟨rfl, S1⟩)
          (try simp only [Exit.inBlock, Exit.then]); refine bodyPost_ret (results_none rfl _ _ _) rfl ?_
          exact ⟨rfl, S0.trans (hwr.trans (by rw [← A.out, Sort.pdq_heap h12 rfl]; exact S1))⟩
        · have hl0z : ¬ ((lim : Int) = 0) := by omega
          obtain ⟨s1, B1, hc1, s2, B2, hpv, s3, B3⟩ := Sort.rd_facts (lt := lt) (limit := lim) (wb := wb) (wp := wp) hO Sort.partialInsertionSort_holds Sort.reverseRange_holds (show a' < b' by omega) (show b' ≤ dk.size by omega) hBel
          have Q1 := Lib.hid (fun (h : wb = false) => show (rd lt dk a' b' lim wb wp).d1 = Sort.breakPatterns dk a' b' ∧ (rd lt dk a' b' lim wb wp).lim = lim - 1 by subst h; exact Sort.rd_false)
          have Q2 := Lib.hid (fun (h : wb = true) => show (rd lt dk a' b' lim wb wp).d1 = dk ∧ (rd lt dk a' b' lim wb wp).lim = lim by subst h; exact Sort.rd_true)
          have Q3 := Lib.hid (Sort.rd_c (lt := lt) (d := dk) (a := a') (b := b') (limit := lim) (wb := wb) (wp := wp))
          have Q4 := Lib.hid (Sort.rd_dec (lt := lt) (d := dk) (a := a') (b := b') (limit := lim) (wb := wb) (wp := wp))
          have Q5 := Lib.hid (Sort.rd_not (lt := lt) (d := dk) (a := a') (b := b') (limit := lim) (wb := wb) (wp := wp))
          have Q6 := Lib.hid (Sort.rd_pi_yes (lt := lt) (d := dk) (a := a') (b := b') (limit := lim) (wb := wb) (wp := wp))
          have Q7 := Lib.hid (Sort.rd_pi_no (lt := lt) (d := dk) (a := a') (b := b') (limit := lim) (wb := wb) (wp := wp))
          have q8 := Sort.rd_lim_le (lt := lt) (d := dk) (a := a') (b := b') (limit := lim) (wb := wb) (wp := wp)
          have G1 := Lib.hid (Sort.pdq_done (lt := lt) (d := dk) (a := a') (b := b') (limit := lim) (wb := wb) (wp := wp) h12 hl0)
          have G2 := Lib.hid (Sort.pdq_eq (lt := lt) (d := dk) (a := a') (b := b') (limit := lim) (wb := wb) (wp := wp) h12 hl0)
          have G3 := Lib.hid (Sort.pdq_left (lt := lt) (d := dk) (a := a') (b := b') (limit := lim) (wb := wb) (wp := wp) h12 hl0)
          have G4 := Lib.hid (Sort.pdq_right (lt := lt) (d := dk) (a := a') (b := b') (limit := lim) (wb := wb) (wp := wp) h12 hl0)
          generalize rd lt dk a' b' lim wb wp = O at *
          obtain ⟨P, hP⟩ : ∃ P, pdq lt dk a' b' lim wb wp = P := ⟨_, rfl⟩
          rw [hP] at A G1 G2 G3 G4
          clear hP
          go_upto_if 35 with fail
          go_cut [3] from 19 (fun s3 wc => s3 = .int .i64 O.lim ∧ Srt w0 r off O.d1 wc)
          case first =>
            cases wb
            · have K := Lib.hid (Q1.out rfl)
              clear Q1 Q2
              have hc := break_any lb sb r off a' b' dk wr (by omega) (by rw [hds]; exact hS) hwr.holds hab' (by omega) (by omega) (by rw [← K.out.1]; exact s1)
              go_wp2_with (go_at_call 99; (with_reducible refine hc.mono ?_); rintro e w1 ⟨rfl, S1⟩)
              go_meet
              case rel => exact ⟨by rw [K.out.2]; congr 1; omega, by rw [K.out.1]; exact hwr.trans S1⟩
            · have K := Lib.hid (Q2.out rfl)
              clear Q1 Q2
              go_wp2_with fail
              go_meet
              case rel => exact ⟨by rw [K.out.2], by rw [K.out.1]; exact hwr⟩
          case rest =>
            obtain ⟨rfl, hw1⟩ := hcut
            clear hwr Fr lr e0 e1 hzr Q1 Q2
            have Fr := hw1.blk F (by omega)
            have lr := Fr.lt
            have e0 := Fr.cell (i := 0) rfl; have e1 := Fr.cell (i := 1) rfl
            have hzr := hw1.size
            have z1 : O.d1.size = d.size := s1.trans hds
            have hc := choosePivot_any lt lb sb r off a' b' O.d1 wc (by rw [z1]; exact L0.of hw1) hw1.holds (by omega) (by omega) (by omega)
            rw [← Q3.out] at hc
            go_upto_if 50 with (go_at_call 100; (with_reducible refine hc.mono ?_); rintro e w2 ⟨rfl, hq⟩)
            have hw2 := hw1.below (by omega) hq
            clear hc e0 e1
            have F2 := Fr.below hq lr
            have l2 := F2.lt
            have e0 := F2.cell (i := 0) rfl; have e1 := F2.cell (i := 1) rfl
            go_cut [11, 12] from 19 (fun s11 s12 wc => s11 = .int .i64 O.pivot ∧ s12 = .int .i64 (hintCode O.hint) ∧ Srt w0 r off O.d2 wc)
            case first =>
              by_cases hh : O.c.2 = .decreasing
              · have hcode : hintCode O.c.2 = 2 := by rw [hh]; rfl
                obtain ⟨g1, g2, g3⟩ := Q4.out hh
                have hc := reverse_any lb sb r off a' b' O.d1 w2 (by have := hw2.size; omega) (by rw [z1]; exact hS) hw2.holds hab' (by omega) (by omega) (by rw [← g1, s2, s1])
                have G5 := Lib.hid (And.intro g1 (And.intro g2 g3))
                clear g1 g2 g3 hh
                go_wp2_with (go_at_call 101; (with_reducible refine hc.mono ?_); rintro e w3 ⟨rfl, S3⟩)
                go_meet
                case rel =>
                  refine ⟨?_, by rw [G5.out.2.2]; rfl, by rw [G5.out.1]; exact hw2.trans S3⟩
                  have := G5.out.2.1
                  rw [this]
                  congr 1
                  omega
              · have hcode : ¬ (hintCode O.c.2 = 2) := fun h => hh (hint_two h)
                have G5 := Lib.hid (Q5.out hh)
                clear hh
                go_wp2_with fail
                go_meet
                case rel => exact ⟨by rw [G5.out.2.1], by rw [G5.out.2.2], by rw [G5.out.1]; exact hw2⟩
            case rest =>
              obtain ⟨rfl, rfl, hw3⟩ := hcut
              clear hw1 hw2 F2 l2 e0 e1 Fr lr hzr hq
              have Fr := hw3.blk F (by omega)
              have lr := Fr.lt
              have e0 := Fr.cell (i := 0) rfl; have e1 := Fr.cell (i := 1) rfl
              have hzr := hw3.size
              have z2 : O.d2.size = d.size := s2.trans hds
              have z3 : O.pi.1.size = d.size := s3.trans hds
              go_upto_region 16 with fail
              go_cut [12, 68] from 19 (fun s12 s68 wx => s12 = .int .i64 (hintCode O.hint) ∧ s68 = .bool (wb && wp && decide (O.hint = .increasing)) ∧ wx = wc)
              case first =>
                cases wb <;> cases wp <;> cases hh3 : O.hint <;>
                  (have hcode3 := congrArg hintCode hh3
                   simp only [hintCode] at hcode3
                   go_wp2_with fail
                   go_meet
                   exact ⟨by simp [hh3, hintCode], by simp [hh3, hintCode], rfl⟩)
              case rest =>
                obtain ⟨rfl, rfl, rfl⟩ := hcut
                go_upto_if 68 with fail
                go_cut [] from 19 (fun wx => O.pi.2 = false ∧ Srt w0 r off O.pi.1 wx)
                case first =>
                  cases h68 : (wb && wp && decide (O.hint = .increasing)) with
                  | false =>
                    have K := Lib.hid (Q7.out h68)
                    go_wp2_with fail
                    go_meet
                    case rel => exact ⟨by rw [K.out], by rw [K.out]; exact hw3⟩
                  | true =>
                    have k1 := Q6.out h68
                    have hc := partial_any lt lb sb r off a' b' O.d2 wc (by rw [z2]; exact L0.of hw3) hw3.holds (by omega) (by omega) (by omega)
                    rw [← k1] at hc
                    rw [partial_eq (by omega)] at k1
                    have k2 : O.pi.1 = O.d2 := by rw [k1]
                    have K := Lib.hid k2
                    clear k1 k2
                    cases hp : O.pi.2 with
                    | false =>
                      rw [hp] at hc
                      go_wp2_with (go_at_call 102; (with_reducible refine hc.mono ?_); rintro e w4 ⟨rfl, hq⟩)
                      go_meet
                      case rel => exact ⟨hp, by rw [K.out]; exact hw3.below (by omega) hq⟩
                    | true =>
                      rw [hp] at hc
                      go_wp2_with (go_at_call 102; (with_reducible refine hc.mono ?_); rintro e w4 ⟨rfl, hq⟩)
                      (try simp only [Exit.inBlock, Exit.then]); refine bodyPost_ret (results_none rfl _ _ _) rfl ?_
                      exact ⟨rfl, S0.trans (by rw [← A.out, G1.out hp, K.out]; exact hw3.below (by omega) hq)⟩
                case rest =>
                  obtain ⟨hp2, hw5⟩ := hcut
                  clear hw3 e0 e1 Fr lr hzr
                  have Fr := hw5.blk F (by omega)
                  have lr := Fr.lt
                  have e0 := Fr.cell (i := 0) rfl; have e1 := Fr.cell (i := 1) rfl
                  have hzr := hw5.size
                  obtain ⟨T, hT⟩ : ∃ T, (decide (a' > 0) && !lt O.pi.1[a' - 1]! O.pi.1[O.pivot]!) = T := ⟨_, rfl⟩
                  have HT := Lib.hid hT
                  clear hT
                  go_upto_region 18 with fail
                  go_cut [83] from 19 (fun s83 wx => s83 = .bool T ∧ Srt w0 r off O.pi.1 wx)
                  case first =>
                    rcases Nat.eq_zero_or_pos a' with ha0 | ha0
                    · have ha0z : decide ((a' : Int) > 0) = false := decide_eq_false (by omega)
                      have K := Lib.hid (show T = false by rw [← HT.out]; simp [ha0])
                      go_wp2_with fail
                      go_meet
                      case rel => exact ⟨by rw [K.out], hw5⟩
                    · have ha0z : (a' : Int) > 0 := by omega
                      have hl := L0.at hw5 z3 (a' - 1) O.pivot (by omega) (by omega)
                      cases hlv : lt O.pi.1[a' - 1]! O.pi.1[O.pivot]! with
                      | false =>
                        rw [hlv] at hl
                        have K := Lib.hid (show T = true by rw [← HT.out]; simp [ha0, hlv])
                        go_wp2_with (go_at_call 54; (with_reducible refine (hl _ _ (by omega) (by omega)).mono ?_); rintro e w6 ⟨rfl, hq⟩)
                        go_meet
                        case rel => exact ⟨by rw [K.out], hw5.below (by omega) hq⟩
                      | true =>
                        rw [hlv] at hl
                        have K := Lib.hid (show T = false by rw [← HT.out]; simp [hlv])
                        go_wp2_with (go_at_call 54; (with_reducible refine (hl _ _ (by omega) (by omega)).mono ?_); rintro e w6 ⟨rfl, hq⟩)
                        go_meet
                        case rel => exact ⟨by rw [K.out], hw5.below (by omega) hq⟩
                  case rest =>
                    obtain ⟨rfl, hw6⟩ := hcut
                    clear hw5 e0 e1 Fr lr hzr
                    have Fr := hw6.blk F (by omega)
                    have lr := Fr.lt
                    have e0 := Fr.cell (i := 0) rfl; have e1 := Fr.cell (i := 1) rfl
                    have hzr := hw6.size
                    cases T with
                    | true =>
                      have h87 := HT.out
                      have h87' := HT.out
                      simp only [Bool.and_eq_true, decide_eq_true_eq, Bool.not_eq_true'] at h87'
                      obtain ⟨mid, d4, hx⟩ : ∃ mid d4, partitionEqual lt O.pi.1 a' b' O.pivot = (mid, d4) := ⟨_, _, rfl⟩
                      obtain ⟨r1, r2, r3, r4, -⟩ := Sort.round_eq hO (Sort.partitionEqual_holds lt) h87'.1 hpv.1 hpv.2 (show b' ≤ O.pi.1.size by omega) B3 h87'.2 hx
                      have hc := partEq_any lt lb sb r off a' b' O.pivot O.pi.1 _ (by rw [z3]; exact L0.of hw6) (by rw [z3]; exact hS) hw6.holds hpv.1 hpv.2 (by omega) (by omega)
                      have g := G2.out hp2 h87 (by rw [hx]; exact ⟨r1, r2⟩)
                      rw [hx] at hc g
                      have G := Lib.hid g
                      clear hx g h87 h87' HT
                      go_wp2_with (go_at_call 103; (with_reducible refine hc.mono ?_); rintro e w7 ⟨rfl, S7⟩)
                      go_roundg (b' - mid)
                      case measure => omega
                      case rel => exact ⟨mid, b', O.lim, wb, wp, d4, rfl, rfl, rfl, rfl, rfl, r2, hb', Nat.le_refl _, by omega, Nat.le_trans q8 hlim, by rw [r3]; exact z3, r4, hw6.trans S7, G.out.symm.trans A.out⟩
                    | false =>
                      have h87 := HT.out
                      obtain ⟨mid, ap, d4, hx⟩ : ∃ mid ap d4, partition lt O.pi.1 a' b' O.pivot = (mid, ap, d4) := ⟨_, _, _, rfl⟩
                      obtain ⟨r1, r2, r3, r4, r5, r6, r7⟩ := Sort.round_part hO (Sort.partition_holds lt) hpv.1 hpv.2 (show b' ≤ O.pi.1.size by omega) B3 hx
                      have hc := partition_any lt lb sb r off a' b' O.pivot O.pi.1 _ (by rw [z3]; exact L0.of hw6) (by rw [z3]; exact hS) hw6.holds hpv.1 hpv.2 (by omega) (by omega) (by omega)
                      have g3 := G3.out hp2 h87 (by rw [hx]; exact ⟨r1, r2⟩)
                      have g4 := G4.out hp2 h87 (by rw [hx]; exact ⟨r1, r2⟩)
                      rw [hx] at hc g3 g4
                      (try dsimp only at hc g3 g4)
                      have G3' := Lib.hid g3
                      have G4' := Lib.hid g4
                      have R6 := Lib.hid r6
                      have R7 := Lib.hid r7
                      clear hx g3 g4 h87 HT r6 r7
                      go_upto_if 109 with (go_at_call 104; (with_reducible refine hc.mono ?_); rintro e w7 ⟨rfl, S7⟩)
                      have hw7 := hw6.trans S7
                      have z7 : d4.size = d.size := r3.trans z3
                      clear e0 e1 Fr lr hzr hw6 S7 hc
                      have Fr := hw7.blk F (by omega)
                      have lr := Fr.lt
                      have e0 := Fr.cell (i := 0) rfl; have e1 := Fr.cell (i := 1) rfl
                      have hzr := hw7.size
                      by_cases h4 : mid - a' < b' - mid
                      · have h4z : (mid : Int) - (a' : Int) < (b' : Int) - (mid : Int) := by omega
                        have hih := ih a' mid O.lim d4 _ (by omega) (by rw [z7]; exact L0.of hw7) (by rw [z7]; exact hS) hw7.holds (by omega) (by omega) (by omega) (by omega) r4
                        obtain ⟨pL, sL⟩ := Sort.pdq_sorts lt hO d4 a' mid O.lim true true (by omega) (by omega) r4
                        have R8 := Lib.hid (R6.out _ pL sL).1
                        have G := Lib.hid (G3'.out h4)
                        have s8 : (pdq lt d4 a' mid O.lim true true).size = d.size := by rw [pL.1]; exact z7
                        clear pL sL G3' G4' R6 R7
                        generalize pdq lt d4 a' mid O.lim true true = D at hih R8 G s8
                        go_wp2_with (go_at_call 81; (with_reducible refine hih.mono ?_); rintro e w8 ⟨rfl, S8⟩)
                        go_roundg (b' - (mid + 1))
                        case measure => omega
                        case rel =>
                          refine ⟨mid + 1, b', O.lim, decide (mid - a' ≥ (b' - a') / 8), ap, D, by simp, rfl, rfl, ?_, rfl, by omega, by omega, Nat.le_refl _, by omega, Nat.le_trans q8 hlim, s8, R8.out, hw7.trans S8, G.out.symm.trans A.out⟩
                          exact congrArg Value.bool (eighth (by omega) (by omega))
                      · have h4z : ¬ ((mid : Int) - (a' : Int) < (b' : Int) - (mid : Int)) := by omega
                        have hih := ih (mid + 1) b' O.lim d4 _ (by omega) (by rw [z7]; exact L0.of hw7) (by rw [z7]; exact hS) hw7.holds (by omega) (by omega) (by omega) (by omega) r5
                        obtain ⟨pL, sL⟩ := Sort.pdq_sorts lt hO d4 (mid + 1) b' O.lim true true (by omega) (by omega) r5
                        have R8 := Lib.hid (R7.out _ pL sL).1
                        have G := Lib.hid (G4'.out h4)
                        have s8 : (pdq lt d4 (mid + 1) b' O.lim true true).size = d.size := by rw [pL.1]; exact z7
                        clear pL sL G3' G4' R6 R7
                        generalize pdq lt d4 (mid + 1) b' O.lim true true = D at hih R8 G s8
                        rw [show ((mid + 1 : Nat) : Int) = (mid : Int) + 1 by omega] at hih
                        go_wp2_with (go_at_call 81; (with_reducible refine hih.mono ?_); rintro e w8 ⟨rfl, S8⟩)
                        go_roundg (mid - a')
                        case measure => omega
                        case rel =>
                          refine ⟨a', mid, O.lim, decide (b' - mid ≥ (b' - a') / 8), ap, D, rfl, rfl, rfl, ?_, rfl, by omega, by omega, Nat.le_refl _, by omega, Nat.le_trans q8 hlim, s8, R8.out, hw7.trans S8, G.out.symm.trans A.out⟩
                          exact congrArg Value.bool (eighth (by omega) (by omega))
end Go.Proofs.Ythpcippgifmabaa

/-! ## SortJ -/
namespace Go.Proofs.Ythpcippgifmabaa
set_option maxRecDepth 100000
open Go.RowKit Go.Shelf Go.Lib
open Go.Sort (Holds pdq)
variable {m9 : Nat}

noncomputable def siT : TypeInfo := (Try.prog.info? 29).get (by kernel_rfl)
noncomputable def siE : TypeInfo := (Try.prog.info? 3).get (by kernel_rfl)
theorem siK (n : Nat) (h2 : 2 ≤ n) : Lib.swapperK n siE 2 = 5 := by
  have a : siE.hasPointers = false := by kernel_rfl
  have b : siE.bytes = 8 := by kernel_rfl
  have c : (n == 0) = false := by simp; omega
  have d : (n == 1) = false := by simp; omega
  simp [Lib.swapperK, a, b, c, d]
theorem below_grow (w : World) (os : Array Obj) : Below w.heap.size w (Sort.grow w os) := by
  refine ⟨rfl, rfl, rfl, by rw [Sort.size_grow]; omega, fun k hk => ?_⟩
  unfold Sort.grow
  exact Array.getElem?_append_left hk

theorem sortSlice_any (lt : Fin (m9 + 1) → Fin (m9 + 1) → Bool) (hO : Sort.SWO lt) (lb : Array Value) (r c : Nat) (d : Array (Fin (m9 + 1))) (w : World) (h2 : 2 ≤ d.size) (hsz : d.size < 50) (hL : Less lt lb r 0 d.size w) (hH : Holds encF w r 0 d) :
    Calls Try.prog 53 #[.iface 29 (.slice (some ⟨r, 0, none⟩) d.size c), .func (.func 54) #[] lb] w fun e w' =>
      e = .returned (.tuple #[]) ∧ Srt w r 0 (pdq lt d 0 d.size (Lib.bitLen d.size) true true) w' := by
  have hr := hL.row
  refine Any.sort_Slice_of_pdq (P := Try.prog) (ρ := laysGg6_ren) laysGg6 29 3 siT siE (by kernel_rfl) (by kernel_rfl) (by kernel_rfl) (by kernel_rfl) 2 (fun _ => by kernel_rfl) (some ⟨r, 0, none⟩) d.size c (by omega) 90 (by rw [siK _ h2]; kernel_rfl) (.func 54) #[] lb w _ ?_
  have hB : sliceBound Try.prog 3 siE 2 (some ⟨r, 0, none⟩) d.size c = #[.slice (some ⟨r, 0, none⟩) d.size c, typeHandle Try.prog 3] := by
    unfold sliceBound; rw [if_neg (swapperK_gt _ _ _ h2)]
  rw [hB]
  have hw : Below w.heap.size w (sliceWorld Try.prog laysGg6_ren 29 (some ⟨r, 0, none⟩) d.size c w) := by unfold sliceWorld; (with_reducible repeat' first | exact Below.refl _ _ | assumption | (refine Below.setCell ?_ (by first | omega | (simp; omega) | (simp; done) | (dsimp only; omega)) _) | (refine Below.alloc ?_ (by first | omega | (simp; omega) | (simp; done) | (dsimp only; omega)) _) | (refine below_drewN ?_ _) | (refine Below.drew ?_))
  have S0 := (Srt.refl hH).below hr hw
  have hlim : Lib.bitLen d.size < 1000 := Nat.lt_of_le_of_lt (Lib.bitLen_le d.size 62 (by omega) (by omega)) (by omega)
  have hp := pdq_any lt hO lb #[.slice (some ⟨r, 0, none⟩) d.size c, typeHandle Try.prog 3] r 0 (d.size + 1) 0 d.size (Lib.bitLen d.size) d _ (by omega) (hL.of S0)
    (swapSwaps_of_literal true 90 (fun args W => run_callFunc_extern Try.func90 (by kernel_rfl) (by kernel_rfl) (by kernel_rfl) (e := Extern.ReflectliteSwapper.swap true) (by kernel_rfl) args W) 3 siE (by kernel_rfl) (by kernel_rfl) (fun _ => by kernel_rfl) encF (fun _ => rfl) r 0 d.size c)
    S0.holds (Nat.zero_le _) (Nat.le_refl _) hsz hlim (Or.inl rfl)
  rw [show ((0 : Nat) : Int) = 0 from rfl] at hp
  exact hp.mono fun e w' ⟨he, hs⟩ => ⟨he, S0.trans hs⟩

theorem sortTiny_any (lb : Array Value) (p : Option Addr) (n c : Nat) (h1 : n ≤ 1) (w : World) :
    Calls Try.prog 53 #[.iface 29 (.slice p n c), .func (.func 54) #[] lb] w fun e w' => e = .returned (.tuple #[]) ∧ Below w.heap.size w w' := by
  have hK : Lib.swapperK n siE 2 = n + 1 := by
    rcases Nat.eq_zero_or_pos n with h | h
    · subst h; simp [Lib.swapperK]
    · obtain rfl : n = 1 := by omega
      simp [Lib.swapperK]
  refine (Any.sort_Slice_tiny (P := Try.prog) (ρ := laysGg6_ren) laysGg6 29 3 siT siE (by kernel_rfl) (by kernel_rfl) (by kernel_rfl) (by kernel_rfl) 2 (fun _ => by kernel_rfl) p n c h1 (86 + n) (by
    rw [hK]
    rcases Nat.eq_zero_or_pos n with h | h
    · subst h; kernel_rfl
    · obtain rfl : n = 1 := by omega
      kernel_rfl) (.func 54) #[] lb w).mono ?_
  rintro e w' ⟨he, os, rfl⟩
  exact ⟨he, below_grow w os⟩
end Go.Proofs.Ythpcippgifmabaa
