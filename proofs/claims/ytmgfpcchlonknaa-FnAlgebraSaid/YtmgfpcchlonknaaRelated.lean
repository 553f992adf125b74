/-
  The program's way of building a relation from a rule; the relations of nothing and of each number with itself.
-/
import Derived.Test.YtmgfpcchlonknaaGrid2
namespace Go.Proofs.Ytmgfpcchlonknaa
set_option maxRecDepth 100000
open Go.RowKit

/-- A rule between two numbers, as a function value of the program: in every world in which the blocks from lo to hi are as in w it answers p and makes memory at most. -/
structure Rule2 (w : World) (n lo hi F : Nat) (first cap : Array Value) (p : Nat → Nat → Bool) : Prop where
  enter : ∀ (args : Array Value) (w' : World), (callFunc F args).run Try.prog w' = .ok (.enter F args) w'
  ans : ∀ (a b : Nat) (w' : World), a < n → b < n → Same lo hi w w' → Calls Try.prog F (first ++ (#[.int .i64 a, .int .i64 b] ++ cap)) w' fun e w'' => e = .returned (.bool (p a b)) ∧ Below w'.heap.size w' w''

set_option maxHeartbeats 1000000 in
theorem related_any (F : Nat) (first cap : Array Value) (n lo hi : Nat) (p : Nat → Nat → Bool) (w : World) (hn : n ≤ 40) (h : Rule2 w n lo hi F first cap p) (hh : hi ≤ w.heap.size) :
    Calls Try.prog 78 #[.int .i64 n, .func (.func F) first cap] w fun e w' => ∃ A' c', e = .returned (.agg #[.int .i64 n, .slice A' n c']) ∧
      EIntS.OS w' w.heap.size w'.heap.size (.slice A' n c') (relM n p) ∧ Below w.heap.size w w' := by
  have hcf := h.enter
  go_enter Try.func78, Try.ntmps78
  go_wp2
  go_loopw [12] (fun i wr => OfRel w (relM n p) n i wr) (fun i _ => n - (intOf i).toNat)
  case atStart =>
    refine ⟨0, none, 0, Nat.zero_le _, rfl, (Blk.new w rfl).alloc _, Blk.new _ (by simp), by simpa using Elem.OS.nil, by (with_reducible repeat' first | exact Below.refl _ _ | assumption | (refine Below.setCell ?_ (by first | omega | (simp; omega) | (simp; done) | (dsimp only; omega)) _) | (refine Below.alloc ?_ (by first | omega | (simp; omega) | (simp; done) | (dsimp only; omega)) _) | (refine below_drewN ?_ _) | (refine Below.drew ?_)), by simp⟩
  case round =>
    obtain ⟨k, A1, c1, hk, rfl, hR, hB, ho, hb, hz⟩ := hrel
    by_cases hlt : k < n
    · have HX := Lib.hid (show (relM n p)[k]? = some (idxTo (p k) n) by simp [relM, relTo, hlt])
      go_wp2
      obtain ⟨wo, rfl⟩ : ∃ wo : World, wo = wr := ⟨_, rfl⟩
      go_loopw [7, 16] (fun v i w2 => IdxRel (p k) n wo v i w2) (fun _ i _ => n - (intOf i).toNat)
      case atStart => exact ⟨0, _, _, Nat.zero_le _, rfl, rfl, by simpa [idxTo] using Elem.OS.nil, by (with_reducible repeat' first | exact Below.refl _ _ | assumption | (refine Below.setCell ?_ (by first | omega | (simp; omega) | (simp; done) | (dsimp only; omega)) _) | (refine Below.alloc ?_ (by first | omega | (simp; omega) | (simp; done) | (dsimp only; omega)) _) | (refine below_drewN ?_ _) | (refine Below.drew ?_))⟩
      case round =>
        obtain ⟨j, A2, c2, hj, rfl, rfl, ho2, hb2⟩ := hrel
        have hz2 := hb2.size
        have hs := idxTo_succ (p k) j
        have hlen := idxTo_len (p k) j
        by_cases hlt2 : j < n
        · have hans := h.ans k j wr hlt hlt2 ((Same.of_below hb hh).trans (Same.of_below hb2 (by omega)))
          have HA := Lib.hid hans
          clear hans
          generalize hy : p k j = y at hs
          cases y with
          | false =>
            have HS := Lib.hid hs; have HY := Lib.hid hy; clear hs hy
            go_wp2_with (refine HA.out.mono ?_; rintro e w3 ⟨rfl, hb3⟩; simp only [HY.out]; have hz3 := hb3.size)
            exact ⟨⟨j + 1, A2, c2, by omega, by go_num, by rw [HS.out]; rfl, by rw [HS.out]; exact (ho2.same (by (with_reducible repeat' first | exact Same.refl _ _ _ | assumption | (refine Same.setCell ?_ (by first | omega | (simp; omega) | (simp; done) | (dsimp only; omega)) _) | (refine Same.alloc ?_ (by first | omega | (simp; omega) | (simp; done) | (dsimp only; omega)) _) | (refine Same.drewN ?_ _) | (refine Same.drew ?_) | (refine Same.trans ?_ (Same.of_below hb3 (by first | omega | (simp; omega) | (simp; done) | (dsimp only; omega))))))).mono (Nat.le_refl _) hz3, by (with_reducible repeat' first | exact Below.refl _ _ | assumption | (refine Below.setCell ?_ (by first | omega | (simp; omega) | (simp; done) | (dsimp only; omega)) _) | (refine Below.alloc ?_ (by first | omega | (simp; omega) | (simp; done) | (dsimp only; omega)) _) | (refine below_drewN ?_ _) | (refine Below.drew ?_) | (refine Below.trans ?_ (hb3.mono (by first | omega | (simp; omega) | (simp; done) | (dsimp only; omega)))))⟩, by simp [intOf]; omega⟩
          | true =>
            have HS := Lib.hid hs; have HY := Lib.hid hy; clear hs hy
            go_wp2_with (first | (refine HA.out.mono ?_; rintro e w3 ⟨rfl, hb3⟩; simp only [HY.out]; have hz3 := hb3.size) | (at_builtin; refine wpList_app1 tyIntS A2 (idxTo (p k) j) (j : Int) [.int .i64 j] ⟨w3.heap.size, 0, none⟩ 1 (lo := wo.heap.size) (hi := wr.heap.size) (ho2.same ?q1) rfl ?q2 hz2 rfl _ _ rfl rfl rfl rfl ?q4 ?q5 ?q6 (by decide) (fun A' c' w1 ho1 hg1 hc1 hm1 => ?_)))
            try (case q1 => (with_reducible repeat' first | exact Same.refl _ _ _ | assumption | (refine Same.setCell ?_ (by first | omega | (simp; omega) | (simp; done) | (dsimp only; omega)) _) | (refine Same.alloc ?_ (by first | omega | (simp; omega) | (simp; done) | (dsimp only; omega)) _) | (refine Same.drewN ?_ _) | (refine Same.drew ?_) | (refine Same.trans ?_ (Same.of_below hb3 (by first | omega | (simp; omega) | (simp; done) | (dsimp only; omega))))))
            try (case q2 => (first | omega | (simp; omega) | (simp; done) | (dsimp only; omega)))
            try (case q4 => exact cell_one_at _ _ _ _ rfl)
            try (case q5 => first | rfl | (simp; done) | (simp; rfl))
            try (case q6 => omega)
            refine ⟨⟨j + 1, A', c', by omega, by go_num, by rw [HS.out]; simp, by rw [HS.out]; simpa using ho1, ?_⟩, by simp [intOf]; omega⟩
            exact Below.grown (w := w3.alloc _) (by (with_reducible repeat' first | exact Below.refl _ _ | assumption | (refine Below.setCell ?_ (by first | omega | (simp; omega) | (simp; done) | (dsimp only; omega)) _) | (refine Below.alloc ?_ (by first | omega | (simp; omega) | (simp; done) | (dsimp only; omega)) _) | (refine below_drewN ?_ _) | (refine Below.drew ?_) | (refine Below.trans ?_ (hb3.mono (by first | omega | (simp; omega) | (simp; done) | (dsimp only; omega)))))) hg1 (by simp; omega) (fun k hk => (ho2.blkv k hk).1)
        · obtain rfl : j = n := by omega
          have b0 := (hB.below hb2 (by omega)).cell (i := 0) rfl
          have b1 := (hB.below hb2 (by omega)).cell (i := 1) rfl
          have f1 := (hB.below hb2 (by omega)).free 1
          have hkl : ((relM j p).take k).length = k := by simp [relM, relTo]; omega
          have HKL := Lib.hid hkl; clear hkl hs
          have l0 : w.heap.size + 1 < wr.heap.size := by omega
          go_wp2_with (at_builtin; refine wpList_app1 tyIntSS A1 ((relM j p).take k) (idxTo (p k) j) [.slice A2 (idxTo (p k) j).length c2] ⟨wr.heap.size, 0, none⟩ 1 (lo := w.heap.size + 2) (hi := wo.heap.size) (ho.same ?p1) HKL.out ?p2 hz ⟨_, rfl, (ho2.same ?p3).mono ?p4 ?p5⟩ _ _ rfl rfl rfl rfl ?p6 ?p7 ?p8 (by decide) (fun A' c' w1 ho1 hg1 hc1 hm1 => have e0 := (OfRel.cells hB hz hb2 ho hg1).1; have e1 := (OfRel.cells hB hz hb2 ho hg1).2; ?_))
          try (case p1 => (with_reducible repeat' first | exact Same.refl _ _ _ | assumption | (refine Same.setCell ?_ (by first | omega | (simp; omega) | (simp; done) | (dsimp only; omega)) _) | (refine Same.alloc ?_ (by first | omega | (simp; omega) | (simp; done) | (dsimp only; omega)) _) | (refine Same.drewN ?_ _) | (refine Same.drew ?_) | (refine Same.trans ?_ (Same.of_below hb2 (by first | omega | (simp; omega) | (simp; done) | (dsimp only; omega))))))
          try (case p2 => (first | omega | (simp; omega) | (simp; done) | (dsimp only; omega)))
          try (case p3 => (with_reducible repeat' first | exact Same.refl _ _ _ | assumption | (refine Same.setCell ?_ (by first | omega | (simp; omega) | (simp; done) | (dsimp only; omega)) _) | (refine Same.alloc ?_ (by first | omega | (simp; omega) | (simp; done) | (dsimp only; omega)) _) | (refine Same.drewN ?_ _) | (refine Same.drew ?_)))
          try (case p4 => (first | omega | (simp; omega) | (simp; done) | (dsimp only; omega)))
          try (case p5 => (first | omega | (simp; omega) | (simp; done) | (dsimp only; omega)))
          try (case p6 => exact cell_one_at _ _ _ _ rfl)
          try (case p7 => first | rfl | (simp; done) | (simp; rfl))
          try (case p8 => omega)
          exact ⟨OfRel.step hlt hR hB hb hz ho hb2 HX.out ho1 hg1, by simp [intOf]; omega⟩
    · obtain rfl : k = n := by omega
      have b0 := hB.cell (i := 0) rfl
      have b1 := hB.cell (i := 1) rfl
      have r0 := hR.cell (i := 0) rfl
      have r1 := hR.cell (i := 1) rfl
      have f0 := hR.free 0
      have f1 := hR.free 1
      go_wp2
      exact bodyPost_ret (v := .agg #[.int .i64 k, .slice A1 k c1]) (by simp [results, Try.results78, go_sem, r0, r1]) rfl ⟨_, _, rfl, ((show EIntS.OS wr (w.heap.size + 2) wr.heap.size (.slice A1 k c1) (relM k p) by rw [List.take_of_length_le (by simp [relM, relTo])] at ho; exact ho).same (by (with_reducible repeat' first | exact Same.refl _ _ _ | assumption | (refine Same.setCell ?_ (by first | omega | (simp; omega) | (simp; done) | (dsimp only; omega)) _) | (refine Same.alloc ?_ (by first | omega | (simp; omega) | (simp; done) | (dsimp only; omega)) _) | (refine Same.drewN ?_ _) | (refine Same.drew ?_)))).mono (by first | omega | (simp; omega) | (simp; done) | (dsimp only; omega)) (by first | omega | (simp; omega) | (simp; done) | (dsimp only; omega)), by (with_reducible repeat' first | exact Below.refl _ _ | assumption | (refine Below.setCell ?_ (by first | omega | (simp; omega) | (simp; done) | (dsimp only; omega)) _) | (refine Below.alloc ?_ (by first | omega | (simp; omega) | (simp; done) | (dsimp only; omega)) _) | (refine below_drewN ?_ _) | (refine Below.drew ?_))⟩
end Go.Proofs.Ytmgfpcchlonknaa
