/-
  sort.Slice's family with a comparison that lays blocks: the common words; insertion sort.
-/
import Derived.Test.YthpcippgifmabaaOrderS
import Derived.Shelf.GgSortFunc.Insertion
namespace Go.Proofs.Ythpcippgifmabaa
set_option maxRecDepth 100000
open Go.RowKit
open Go.Sort (Holds swp insInner insOuter insertionSort size_swp)
variable {m9 : Nat}

/-- Numbers below a bound, as the cells hold them. -/
def encF {m9 : Nat} (x : Fin (m9 + 1)) : Value := .int .i64 ((x.val : Nat) : Int)
/-- The row's block is of the kind and the size of before. -/
def Frm (r : Nat) (w W : World) : Prop := ∀ cs t z, w.heap[r]? = some (.cells cs t z) → ∃ cs', W.heap[r]? = some (.cells cs' t z) ∧ cs'.size = cs.size
theorem Frm.refl (r : Nat) (w : World) : Frm r w w := fun cs _ _ h => ⟨cs, h, rfl⟩
theorem Frm.trans {r : Nat} {w W W' : World} (h : Frm r w W) (k : Frm r W W') : Frm r w W' := fun cs t z e => by
  obtain ⟨c1, h1, h2⟩ := h cs t z e
  obtain ⟨c2, h3, h4⟩ := k c1 t z h1
  exact ⟨c2, h3, h4.trans h2⟩
theorem Frm.of_eq {r : Nat} {w W : World} (h : W.heap[r]? = w.heap[r]?) : Frm r w W := fun cs _ _ e => ⟨cs, h.trans e, rfl⟩
theorem Frm.setCell {r : Nat} {w W : World} (h : Frm r w W) (i : Nat) (u : Value) : Frm r w (W.setCell ⟨r, i, none⟩ u) := fun cs t z e => by
  obtain ⟨c1, h1, h2⟩ := h cs t z e
  exact ⟨c1.setIfInBounds i u, by simp [World.setCell, Array.getElem?_modify, h1], by simpa using h2⟩
/-- Nothing old is changed but row r; it holds d. -/
structure Srt (w : World) (r off : Nat) (d : Array (Fin (m9 + 1))) (W : World) : Prop where
  chg : Chg r (r + 1) w W
  holds : Holds encF W r off d
  frm : Frm r w W
section
variable {w W W' : World} {r off n : Nat} {d d' : Array (Fin (m9 + 1))} {lt : Fin (m9 + 1) → Fin (m9 + 1) → Bool} {lb sb : Array Value}

theorem holds_below (h : Holds encF W r off d) (hr : r < W.heap.size) (k : Below W.heap.size W W') : Holds encF W' r off d := fun j hj =>
  ⟨(k.cell (p := ⟨r, off + j, none⟩) hr).trans (h j hj).1, by
    have e := k.block r hr
    have := (h j hj).2
    simp only [World.frozen?, e] at this ⊢
    exact this⟩
theorem Srt.refl (h : Holds encF w r off d) : Srt w r off d w := ⟨Chg.refl _ _ _, h, Frm.refl _ _⟩
theorem Srt.trans (h : Srt w r off d W) (k : Srt W r off d' W') : Srt w r off d' W' := ⟨h.chg.trans k.chg, k.holds, h.frm.trans k.frm⟩
theorem Srt.size (h : Srt w r off d W) : w.heap.size ≤ W.heap.size := h.chg.size
theorem Srt.below (h : Srt w r off d W) (hr : r < w.heap.size) (k : Below W.heap.size W W') : Srt w r off d W' :=
  ⟨h.chg.trans (Chg.of_below k), holds_below h.holds (Nat.lt_of_lt_of_le hr h.size) k, h.frm.trans (Frm.of_eq (k.block r (Nat.lt_of_lt_of_le hr h.size)))⟩
theorem Srt.blk {g t : Nat} {cs : Array Value} (h : Srt w r off d W) (F : Blk w g t cs) (hg : g ≠ r) : Blk W g t cs := F.chg h.chg (by omega)
theorem Srt.swap (h : Srt w r off d W) (i j : Nat) (hi : i < d.size) (hj : j < d.size) :
    Srt w r off (swp d i j) ((W.setCell ⟨r, off + i, none⟩ (encF d[j]!)).setCell ⟨r, off + j, none⟩ (encF d[i]!)) := by
  refine ⟨(h.chg.setCell ⟨Nat.le_refl _, by simp⟩ _).setCell ⟨Nat.le_refl _, by simp⟩ _, ?_, (h.frm.setCell _ _).setCell _ _⟩
  have e := Sort.putRow_swp encF W r off d i j hi hj
  rw [Sort.putRow_self _ _ _ _ _ h.holds] at e
  rw [e]
  exact Sort.holds_putRow _ _ _ _ d _ h.holds (size_swp _ _ _)

/-- What is asked of the comparison. -/
structure Less (lt : Fin (m9 + 1) → Fin (m9 + 1) → Bool) (lb : Array Value) (r off n : Nat) (w : World) : Prop where
  row : r < w.heap.size
  call : ∀ W d, Srt w r off d W → d.size = n → ∀ i j : Nat, i < n → j < n →
    Calls Try.prog 54 (#[.int .i64 i, .int .i64 j] ++ lb) W fun e w' => e = .returned (.bool (lt d[i]! d[j]!)) ∧ Below W.heap.size W w'
theorem Less.of (h : Less lt lb r off n w) (k : Srt w r off d W) : Less lt lb r off n W := ⟨Nat.lt_of_lt_of_le h.row k.size, fun W' d' h' => h.call W' d' (k.trans h')⟩
theorem Less.below (h : Less lt lb r off n w) (k : Below w.heap.size w W) : Less lt lb r off n W := ⟨Nat.lt_of_lt_of_le h.row k.size, fun W' d' h' => h.call W' d' ⟨(Chg.of_below k).trans h'.chg, h'.holds, (Frm.of_eq (k.block r h.row)).trans h'.frm⟩⟩
theorem Less.at (h : Less lt lb r off n w) (k : Srt w r off d W) (hs : d.size = n) (i j : Nat) (hi : i < n) (hj : j < n) : ∀ x y : Int, x = (i : Int) → y = (j : Int) →
    Calls Try.prog 54 (#[.int .i64 x, .int .i64 y] ++ lb) W fun e w' => e = .returned (.bool (lt d[i]! d[j]!)) ∧ Below W.heap.size W w' := by
  rintro x y rfl rfl; exact h.call W d k hs i j hi hj
end
def Swp (m9 : Nat) (sb : Array Value) (r off n : Nat) : Prop := SwapSwaps Try.prog 90 sb (encF (m9 := m9)) r off n
theorem Swp.at {sb : Array Value} {r off n : Nat} {d : Array (Fin (m9 + 1))} {w W : World} (h : Swp m9 sb r off n) (k : Srt w r off d W) (hs : d.size = n) (i j : Nat) (hi : i < n) (hj : j < n) :
    ∃ W2, (∀ x y : Int, x = (i : Int) → y = (j : Int) → (callFunc 90 (#[.int .i64 x, .int .i64 y] ++ sb)).run Try.prog W = .ok (.value (.tuple #[])) W2) ∧ Srt w r off (swp d i j) W2 :=
  ⟨_, by rintro x y rfl rfl; exact h W d k.holds hs i j hi hj, k.swap i j (by omega) (by omega)⟩

set_option maxHeartbeats 4000000 in
theorem insertion_any (lt : Fin (m9 + 1) → Fin (m9 + 1) → Bool) (lb sb : Array Value) (r off a b : Nat) (d : Array (Fin (m9 + 1))) (w : World) (hL : Less lt lb r off d.size w) (hS : Swp m9 sb r off d.size) (hH : Holds encF w r off d) (hab : a ≤ b) (hb : b ≤ d.size) (hsz : d.size < 1000) :
    Calls Try.prog 97 #[.agg #[.func (.func 54) #[] lb, .func (.func 90) #[] sb], .int .i64 a, .int .i64 b] w fun e w' =>
      e = .returned (.tuple #[]) ∧ Srt w r off (insertionSort lt d a b) w' := by
  have hr := hL.row
  go_enter Try.func97, Try.ntmps97
  go_upto_region 1 with fail
  have F : Blk (w.alloc (.cells #[.func (.func 54) #[] lb, .func (.func 90) #[] sb] 103)) w.heap.size 103 #[.func (.func 54) #[] lb, .func (.func 90) #[] sb] := Blk.new _ rfl
  have S0 : Srt w r off d (w.alloc (.cells #[.func (.func 54) #[] lb, .func (.func 90) #[] sb] 103)) := (Srt.refl hH).below hr (by (with_reducible repeat' first | exact Below.refl _ _ | assumption | (refine Below.setCell ?_ (by first | omega | (simp; omega) | (simp; done) | (dsimp only; omega)) _) | (refine Below.alloc ?_ (by first | omega | (simp; omega) | (simp; done) | (dsimp only; omega)) _) | (refine below_drewN ?_ _) | (refine Below.drew ?_)))
  generalize (w.alloc (.cells #[.func (.func 54) #[] lb, .func (.func 90) #[] sb] 103)) = w0 at F S0
  have lF := F.lt
  go_wp2
  go_loopw [6] (fun vi wr => ∃ (i : Nat) (dk : Array (Fin (m9 + 1))), vi = .int .i64 i ∧ a < i ∧ i ≤ b + 1 ∧ dk.size = d.size ∧ Srt w0 r off dk wr ∧ insOuter lt a b i dk = insOuter lt a b (a + 1) d) (fun vi _ => b + 1 - (intOf vi).toNat)
  case atStart => exact ⟨a + 1, d, by go_num, by omega, by omega, rfl, Srt.refl S0.holds, rfl⟩
  case round =>
    obtain ⟨i, dk, rfl, hai, hib, hsk, hwr, hO⟩ := hrel
    have HO := Lib.hid hO
    clear hO
    by_cases hlt : i < b
    · have hltz : (i : Int) < (b : Int) := by omega
      go_wp2
      go_loopw [7] (fun vj wr2 => ∃ (j : Nat) (dj : Array (Fin (m9 + 1))), vj = .int .i64 j ∧ a ≤ j ∧ j ≤ i ∧ dj.size = d.size ∧ Srt w0 r off dj wr2 ∧ insInner lt a j dj = insInner lt a i dk) (fun vj _ => (intOf vj).toNat)
      case atStart => exact ⟨i, dk, rfl, by omega, Nat.le_refl _, hsk, hwr, rfl⟩
      case round =>
        obtain ⟨j, dj, rfl, haj, hji, hsj, hw2, hI⟩ := hrel
        have HI := Lib.hid hI
        clear hI
        have Fr := hw2.blk F (by omega)
        have lr := Fr.lt
        have e0 := Fr.cell (i := 0) rfl
        have OUT := Lib.hid (fun (hs : j ≤ a ∨ lt dj[j]! dj[j - 1]! = false) => show insOuter lt a b (i + 1) dj = insOuter lt a b (a + 1) d by rw [← HO.out, insOuter_go _ _ _ _ _ hlt, ← HI.out, insInner_stop _ _ _ _ hs])
        by_cases hja : a < j
        · have hjaz : (a : Int) < (j : Int) := by omega
          have hl := (hL.of (S0.trans hw2)).call _ dj (Srt.refl hw2.holds) hsj j (j - 1) (by omega) (by omega)
          rw [show (((j - 1 : Nat) : Int)) = (j : Int) - 1 by omega] at hl
          cases hlv : lt dj[j]! dj[j - 1]! with
          | true =>
            rw [hlv] at hl
            go_wp2_with (go_at_call 54; (with_reducible refine hl.mono ?_); rintro e w' ⟨rfl, hq⟩; (have e1 := (Fr.below hq lr).cell (i := 1) rfl))
            have hs := hS w' dj (holds_below hw2.holds (by have := hw2.size; have := S0.size; omega) hq) hsj j (j - 1) (by omega) (by omega)
            rw [show (((j - 1 : Nat) : Int)) = (j : Int) - 1 by omega] at hs
            have S1 := (hw2.below (by have := S0.size; omega) hq).swap j (j - 1) (by omega) (by omega)
            rw [hs, Oper.upon_value]
            generalize ((w'.setCell ⟨r, off + j, none⟩ (encF dj[j - 1]!)).setCell ⟨r, off + (j - 1), none⟩ (encF dj[j]!)) = w2 at S1 ⊢
            go_wp2
            exact ⟨⟨j - 1, swp dj j (j - 1), by go_num, by omega, by omega, by rw [size_swp]; exact hsj, S1, by rw [← HI.out, insInner_go lt a j dj hja hlv]⟩, by simp [intOf]; omega⟩
          | false =>
            rw [hlv] at hl
            go_wp2_with (go_at_call 54; (with_reducible refine hl.mono ?_); rintro e w' ⟨rfl, hq⟩)
            exact ⟨⟨i + 1, dj, by go_num, by omega, by omega, hsj, hw2.below (by have := S0.size; omega) hq, OUT.out (Or.inr hlv)⟩, by simp [intOf]; omega⟩
        · have hjaz : ¬ (a : Int) < (j : Int) := by omega
          go_wp2
          exact ⟨⟨i + 1, dj, by go_num, by omega, by omega, hsj, hw2, OUT.out (Or.inl (by omega))⟩, by simp [intOf]; omega⟩
    · have hltz : ¬ (i : Int) < (b : Int) := by omega
      go_wp2
      go_end0
      exact ⟨rfl, S0.trans (by rw [insertionSort, ← HO.out, insOuter_stop _ _ _ _ _ hlt]; exact hwr)⟩
end Go.Proofs.Ythpcippgifmabaa
