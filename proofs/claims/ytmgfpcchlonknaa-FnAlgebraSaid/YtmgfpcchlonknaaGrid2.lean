/-
  From a table of truth values to a relation; the program's own way of building a relation.
-/
import Derived.Test.YtmgfpcchlonknaaRel
namespace Go.Proofs.Ytmgfpcchlonknaa
set_option maxRecDepth 100000
open Go.RowKit

/-- The marked numbers below k. -/
def idxTo (q : Nat → Bool) (k : Nat) : List Int := ((List.range k).filter q).map fun (b : Nat) => (b : Int)
theorem idxTo_succ (q : Nat → Bool) (k : Nat) : idxTo q (k + 1) = if q k = true then idxTo q k ++ [(k : Int)] else idxTo q k := by
  unfold idxTo
  rw [List.range_succ, List.filter_append, List.map_append]
  by_cases h : q k = true <;> simp [h]
theorem idxTo_len (q : Nat → Bool) (k : Nat) : (idxTo q k).length ≤ k := by
  unfold idxTo
  rw [List.length_map]
  have := List.length_filter_le q (List.range k)
  simpa using this
/-- The relation of a table, and of a rule. -/
def ofM (g : List (List Bool)) : List (List Int) := g.map fun l => idxTo (fun b => l.getD b false) l.length
def relTo (n : Nat) (p : Nat → Nat → Bool) (k : Nat) : List (List Int) := (List.range k).map fun a => idxTo (p a) n
def relM (n : Nat) (p : Nat → Nat → Bool) : List (List Int) := relTo n p n
theorem relTo_succ (n : Nat) (p : Nat → Nat → Bool) (k : Nat) : relTo n p (k + 1) = relTo n p k ++ [idxTo (p k) n] := by
  simp [relTo, List.range_succ]
theorem relTo_len (n : Nat) (p : Nat → Nat → Bool) (k : Nat) : (relTo n p k).length = k := by simp [relTo]

def IdxRel (q : Nat → Bool) (n : Nat) (wo : World) (v i : Value) (wr : World) : Prop :=
  ∃ (k : Nat) (A : Option Addr) (c : Nat), k ≤ n ∧ i = .int .i64 k ∧ v = .slice A (idxTo q k).length c ∧ EInt.OS wr wo.heap.size wr.heap.size (.slice A (idxTo q k).length c) (idxTo q k) ∧ Below wo.heap.size wo wr

def OfRel (w : World) (rows : List (List Int)) (n : Nat) (i : Value) (wr : World) : Prop :=
  ∃ (k : Nat) (A : Option Addr) (c : Nat), k ≤ n ∧ i = .int .i64 k ∧ Blk wr w.heap.size 27 #[.int .i64 0, .slice none 0 0] ∧ Blk wr (w.heap.size + 1) 27 #[.int .i64 n, .slice A k c] ∧
    EIntS.OS wr (w.heap.size + 2) wr.heap.size (.slice A k c) (rows.take k) ∧ Below w.heap.size w wr ∧ w.heap.size + 2 ≤ wr.heap.size

/-- A row is finished: it is appended to the rows of the relation that is being built. -/
theorem OfRel.step {w wo wr w1 : World} {rows : List (List Int)} {n k c c' : Nat} {A A' : Option Addr} {o : Obj} {x : List Int} (hk : k < n) (r : Blk wo w.heap.size 27 #[.int .i64 0, .slice none 0 0]) (b : Blk wo (w.heap.size + 1) 27 #[.int .i64 n, .slice A k c])
    (hb : Below w.heap.size w wo) (hz : w.heap.size + 2 ≤ wo.heap.size) (ho : EIntS.OS wo (w.heap.size + 2) wo.heap.size (.slice A k c) (rows.take k)) (hb2 : Below wo.heap.size wo wr) (hx : rows[k]? = some x)
    (ho1 : EIntS.OS w1 (w.heap.size + 2) w1.heap.size (.slice A' (k + 1) c') (rows.take k ++ [x])) (hg : (wr.alloc o).grownBy w1 (Value.slice A k c).ownBlock) :
    OfRel w rows n (.int .i64 ((k : Int) + 1)) (w1.setCell ⟨w.heap.size + 1, 1, none⟩ (.slice A' (k + 1) c')) := by
  have hne : ∀ b, b < w.heap.size + 2 → some b ≠ (Value.slice A k c).ownBlock := fun b hb e => by have := (ho.blkv b e.symm).1; omega
  have r1 := ((r.below hb2 (by omega)).alloc o).grown hg (hne _ (by omega))
  have b1 := ((b.below hb2 (by omega)).alloc o).grown hg (hne _ (by omega))
  have hz2 := hb2.size
  have hz1 := hg.size
  simp only [World.size_alloc] at hz1
  refine ⟨k + 1, A', c', by omega, by simp, r1.far (by simp) _, by simpa using b1.set 1 (.slice A' (k + 1) c'), ?_, ?_, by simp [World.setCell]; omega⟩
  · rw [List.take_add_one, hx]
    have := ho1.same (w' := w1.setCell ⟨w.heap.size + 1, 1, none⟩ (.slice A' (k + 1) c')) ((Same.refl _ _ _).setCell (.inl (by simp)) _)
    simpa [World.setCell] using this
  · exact (Below.grown (w := wr.alloc o) ((hb.trans (hb2.mono (by omega))).alloc (by omega) _) hg (by simp; omega) (fun k hk => by have := (ho.blkv k hk).1; omega)).setCell (by simp) _
/-- The cells of the relation that is being built, behind the append. -/
theorem OfRel.cells {w wo wr w1 : World} {n k c hi : Nat} {A : Option Addr} {o : Obj} {rows : List (List Int)} (b : Blk wo (w.heap.size + 1) 27 #[.int .i64 n, .slice A k c]) (hz : w.heap.size + 2 ≤ wo.heap.size) (hb2 : Below wo.heap.size wo wr)
    (ho : EIntS.OS wo (w.heap.size + 2) hi (.slice A k c) rows) (hg : (wr.alloc o).grownBy w1 (Value.slice A k c).ownBlock) : w1.cell? ⟨w.heap.size + 1, 1, none⟩ = some (.slice A k c) ∧ w1.frozen? ⟨w.heap.size + 1, 1, none⟩ = false := by
  have hne : some (w.heap.size + 1) ≠ (Value.slice A k c).ownBlock := fun e => by have := (ho.blkv _ e.symm).1; omega
  have b1 := ((b.below hb2 (by omega)).alloc o).grown hg hne
  exact ⟨b1.cell rfl, b1.free 1⟩

set_option maxHeartbeats 1000000 in
theorem l2Of_any (A : Option Addr) (c lo hi : Nat) (g : List (List Bool)) (w : World) (h : EBoolS.AS w lo hi A g) (hh : hi ≤ w.heap.size) (hn : g.length ≤ 40) (hr : ∀ r ∈ g, r.length ≤ 40) :
    Calls Try.prog 76 #[.slice A g.length c] w fun e w' => ∃ A' c', e = .returned (.agg #[.int .i64 g.length, .slice A' g.length c']) ∧
      EIntS.OS w' w.heap.size w'.heap.size (.slice A' g.length c') (ofM g) ∧ Below w.heap.size w w' := by
  go_enter Try.func76, Try.ntmps76
  go_wp2
  go_loopw [14] (fun i wr => OfRel w (ofM g) g.length i wr) (fun i _ => g.length - (intOf i).toNat)
  case atStart =>
    refine ⟨0, none, 0, Nat.zero_le _, rfl, (Blk.new w rfl).alloc _, Blk.new _ (by simp), by simpa using Elem.OS.nil, by (with_reducible repeat' first | exact Below.refl _ _ | assumption | (refine Below.setCell ?_ (by first | omega | (simp; omega) | (simp; done) | (dsimp only; omega)) _) | (refine Below.alloc ?_ (by first | omega | (simp; omega) | (simp; done) | (dsimp only; omega)) _) | (refine below_drewN ?_ _) | (refine Below.drew ?_)), by simp⟩
  case round =>
    obtain ⟨k, A1, c1, hk, rfl, hR, hB, ho, hb, hz⟩ := hrel
    by_cases hlt : k < g.length
    · obtain ⟨b, off, l, cs, rfl, _, _, hd, hlk, ⟨v, rfl, B, cl, rfl, q1, q2, hl⟩, hc⟩ := (h.same (Same.of_below hb hh)).at_ hlt
      have hc0 := hc 0 _ rfl
      simp only [EBoolS, Elem.slice, Nat.mul_one, Nat.add_zero] at hc0
      have hll := hr l (List.mem_of_getElem? hlk)
      obtain ⟨q, hq⟩ : ∃ q : Nat → Bool, q = fun b => l.getD b false := ⟨_, rfl⟩
      have HX := Lib.hid (show (ofM g)[k]? = some (idxTo q l.length) by rw [hq]; simp [ofM, hlk])
      have HQ := Lib.hid hq; clear hq
      clear hc hd hlk
      go_wp2
      obtain ⟨wo, rfl⟩ : ∃ wo : World, wo = wr := ⟨_, rfl⟩
      go_loopw [6, 21] (fun v i w2 => IdxRel q l.length wo v i w2) (fun _ i _ => l.length - (intOf i).toNat)
      case atStart => exact ⟨0, _, _, Nat.zero_le _, rfl, rfl, Elem.OS.made0 wo, by (with_reducible repeat' first | exact Below.refl _ _ | assumption | (refine Below.setCell ?_ (by first | omega | (simp; omega) | (simp; done) | (dsimp only; omega)) _) | (refine Below.alloc ?_ (by first | omega | (simp; omega) | (simp; done) | (dsimp only; omega)) _) | (refine below_drewN ?_ _) | (refine Below.drew ?_))⟩
      case round =>
        obtain ⟨j, A2, c2, hj, rfl, rfl, ho2, hb2⟩ := hrel
        have hz2 := hb2.size
        have hs := idxTo_succ q j
        have hlen := idxTo_len q j
        by_cases hlt2 : j < l.length
        · obtain ⟨b2, off2, y, cs, rfl, _, _, _, hy, rfl, hc2⟩ := (hl.same (Same.of_below hb2 (by omega))).at_ hlt2
          have hc3 := hc2 0 _ rfl
          simp only [EBool, Elem.flat, Nat.mul_one, Nat.add_zero] at hc3
          have hyy : q j = y := by rw [HQ.out]; simp [List.getD, hy]
          simp only [hyy] at hs
          clear hc2 hy hyy
          cases y with
          | false =>
            have HS := Lib.hid hs; clear hs
            go_wp2
            exact ⟨⟨j + 1, A2, c2, by omega, by go_num, by rw [HS.out]; rfl, by rw [HS.out]; exact ho2, hb2⟩, by simp [intOf]; omega⟩
          | true =>
            have HS := Lib.hid hs; clear hs
            go_wp2_with (at_builtin; refine wpList_app1 tyIntS A2 (idxTo q j) (j : Int) [.int .i64 j] ⟨wr.heap.size, 0, none⟩ 1 (lo := wo.heap.size) (hi := wr.heap.size) (ho2.same ?q1) rfl ?q2 hz2 rfl _ _ rfl rfl rfl rfl ?q4 ?q5 ?q6 (by decide) (fun A' c' w1 ho1 hg1 hc1 hm1 => ?_))
            try (case q1 => (with_reducible repeat' first | exact Same.refl _ _ _ | assumption | (refine Same.setCell ?_ (by first | omega | (simp; omega) | (simp; done) | (dsimp only; omega)) _) | (refine Same.alloc ?_ (by first | omega | (simp; omega) | (simp; done) | (dsimp only; omega)) _) | (refine Same.drewN ?_ _) | (refine Same.drew ?_)))
            try (case q2 => (first | omega | (simp; omega) | (simp; done) | (dsimp only; omega)))
            try (case q4 => exact cell_one_at _ _ _ _ rfl)
            try (case q5 => first | rfl | (simp; done) | (simp; rfl))
            try (case q6 => omega)
            refine ⟨⟨j + 1, A', c', by omega, by go_num, by rw [HS.out]; simp, by rw [HS.out]; simpa using ho1, ?_⟩, by simp [intOf]; omega⟩
            exact Below.grown (w := wr.alloc _) (by (with_reducible repeat' first | exact Below.refl _ _ | assumption | (refine Below.setCell ?_ (by first | omega | (simp; omega) | (simp; done) | (dsimp only; omega)) _) | (refine Below.alloc ?_ (by first | omega | (simp; omega) | (simp; done) | (dsimp only; omega)) _) | (refine below_drewN ?_ _) | (refine Below.drew ?_))) hg1 (by simp; omega) (fun k hk => (ho2.blkv k hk).1)
        · obtain rfl : j = l.length := by omega
          have b0 := (hB.below hb2 (by omega)).cell (i := 0) rfl
          have b1 := (hB.below hb2 (by omega)).cell (i := 1) rfl
          have f1 := (hB.below hb2 (by omega)).free 1
          have hkl : ((ofM g).take k).length = k := by simp [ofM]; omega
          have HKL := Lib.hid hkl; clear hkl hs
          have l0 : w.heap.size + 1 < wr.heap.size := by omega
          go_wp2_with (at_builtin; refine wpList_app1 tyIntSS A1 ((ofM g).take k) (idxTo q l.length) [.slice A2 (idxTo q l.length).length c2] ⟨wr.heap.size, 0, none⟩ 1 (lo := w.heap.size + 2) (hi := wo.heap.size) (ho.same ?p1) HKL.out ?p2 hz ⟨_, rfl, (ho2.same ?p3).mono ?p4 ?p5⟩ _ _ rfl rfl rfl rfl ?p6 ?p7 ?p8 (by decide) (fun A' c' w1 ho1 hg1 hc1 hm1 => have e0 := (OfRel.cells hB hz hb2 ho hg1).1; have e1 := (OfRel.cells hB hz hb2 ho hg1).2; ?_))
          try (case p1 => (with_reducible repeat' first | exact Same.refl _ _ _ | assumption | (refine Same.setCell ?_ (by first | omega | (simp; omega) | (simp; done) | (dsimp only; omega)) _) | (refine Same.alloc ?_ (by first | omega | (simp; omega) | (simp; done) | (dsimp only; omega)) _) | (refine Same.drewN ?_ _) | (refine Same.drew ?_) | (refine Same.trans ?_ (Same.of_below hb2 (by first | omega | (simp; omega) | (simp; done) | (dsimp only; omega))))))
          try (case p2 => (first | omega | (simp; omega) | (simp; done) | (dsimp only; omega)))
          try (case p3 => (with_reducible repeat' first | exact Same.refl _ _ _ | assumption | (refine Same.setCell ?_ (by first | omega | (simp; omega) | (simp; done) | (dsimp only; omega)) _) | (refine Same.alloc ?_ (by first | omega | (simp; omega) | (simp; done) | (dsimp only; omega)) _) | (refine Same.drewN ?_ _) | (refine Same.drew ?_)))
          try (case p4 => (first | omega | (simp; omega) | (simp; done) | (dsimp only; omega)))
          try (case p5 => (first | omega | (simp; omega) | (simp; done) | (dsimp only; omega)))
          try (case p6 => exact cell_one_at _ _ _ _ rfl)
          try (case p7 => first | rfl | (simp; done) | (simp; rfl))
          try (case p8 => omega)
          exact ⟨OfRel.step hlt hR hB hb hz ho hb2 HX.out ho1 hg1, by simp [intOf]; omega⟩
    · obtain rfl : k = g.length := by omega
      have b0 := hB.cell (i := 0) rfl
      have b1 := hB.cell (i := 1) rfl
      have r0 := hR.cell (i := 0) rfl
      have r1 := hR.cell (i := 1) rfl
      have f0 := hR.free 0
      have f1 := hR.free 1
      go_wp2
      exact bodyPost_ret (v := .agg #[.int .i64 g.length, .slice A1 g.length c1]) (by simp [results, Try.results76, go_sem, r0, r1]) rfl ⟨_, _, rfl, ((show EIntS.OS wr (w.heap.size + 2) wr.heap.size (.slice A1 g.length c1) (ofM g) by rw [List.take_of_length_le (by simp [ofM])] at ho; exact ho).same (by (with_reducible repeat' first | exact Same.refl _ _ _ | assumption | (refine Same.setCell ?_ (by first | omega | (simp; omega) | (simp; done) | (dsimp only; omega)) _) | (refine Same.alloc ?_ (by first | omega | (simp; omega) | (simp; done) | (dsimp only; omega)) _) | (refine Same.drewN ?_ _) | (refine Same.drew ?_)))).mono (by first | omega | (simp; omega) | (simp; done) | (dsimp only; omega)) (by first | omega | (simp; omega) | (simp; done) | (dsimp only; omega)), by (with_reducible repeat' first | exact Below.refl _ _ | assumption | (refine Below.setCell ?_ (by first | omega | (simp; omega) | (simp; done) | (dsimp only; omega)) _) | (refine Below.alloc ?_ (by first | omega | (simp; omega) | (simp; done) | (dsimp only; omega)) _) | (refine below_drewN ?_ _) | (refine Below.drew ?_))⟩
end Go.Proofs.Ytmgfpcchlonknaa
