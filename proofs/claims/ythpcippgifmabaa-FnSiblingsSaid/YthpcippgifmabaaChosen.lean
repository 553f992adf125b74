/-
  Whom the program chooses, sorted.
-/
import Derived.Test.YthpcippgifmabaaGSort
import Derived.Test.YthpcippgifmabaaChosenL
namespace Go.Proofs.Ythpcippgifmabaa
set_option maxRecDepth 100000
open Go.RowKit
open Go.Sort (Holds pdq)

theorem flat_ints (xs : List Int) : (xs.flatMap fun n => [Value.int .i64 n]) = xs.map (Value.int .i64) := by
  induction xs with
  | nil => rfl
  | cons x r ih => simp [ih]
/-- A row of numbers before and behind the sort. -/
theorem ints_row {m lo hi n c : Nat} {w : World} {A : Option Addr} {xs : List Int} {d : Array (Fin (m + 1))} (h : EInt.OS w lo hi (.slice A n c) xs) (hn : n = xs.length) (h0 : 0 < n) (hd : unF d.toList = xs) :
    ∃ g, A = some ⟨g, 0, none⟩ ∧ lo ≤ g ∧ g < hi ∧ g < w.heap.size ∧ Holds encF w g 0 d ∧
      ∀ (W : World) (D : Array (Fin (m + 1))), Srt w g 0 D W → D.size = n → EInt.OS W lo hi (.slice A n c) (unF D.toList) := by
  have ho := flat_os.1 h
  subst hn
  obtain ⟨g, c', e1, e2, e3, e4⟩ := ho.form h0
  injection e1 with e1 _ e5
  subst e1; subst e5
  refine ⟨g, rfl, e2, e3, e4, fun j hj => ?_, fun W D hs hD => ?_⟩
  · have hv : (xs.flatMap fun n => [Value.int .i64 n])[j]? = some (encF d[j]) := by
      rw [flat_ints, ← hd, unF]; simp [encF, hj]
    have := ho.cell hv
    rw [Nat.zero_add, getElem!_pos d j hj]
    exact this
  · obtain ⟨⟨hl, hq⟩, hh, hb⟩ := ho
    rcases hq with ⟨_, h1⟩ | ⟨g', cap, cur, hv, hg, hc, hn, hcap, hsz, ht⟩
    · omega
    · injection hv with hv _ hv2
      injection hv with hv
      injection hv with hv _ _
      subst hv; subst hv2
      obtain ⟨cs', k1, k2⟩ := hs.frm _ _ _ hc
      have hdl : (unF D.toList).length = xs.length := by simpa [unF] using hD
      refine flat_os.2 ?_
      rw [flat_ints, hdl]
      refine ⟨⟨by simp [hdl], .inr ⟨g, c, cs', rfl, hg, k1, hn, hcap, k2.trans hsz, ?_⟩⟩, hh, hb⟩
      apply List.ext_getElem?
      intro j
      by_cases hj : j < xs.length
      · have hjD : j < D.size := by omega
        have h2 := (hs.holds j hjD).1
        rw [cell_of_row W g (0 + j) cs' _ _ k1, Nat.zero_add, getElem!_pos D j hjD] at h2
        rw [List.getElem?_take_of_lt (by omega)]
        simp only [unF, List.map_map, List.getElem?_map, Array.getElem?_toList]
        rw [h2, Array.getElem?_eq_getElem hjD]
        rfl
      · rw [List.getElem?_eq_none (by simp; omega), List.getElem?_eq_none (by simp; omega)]

/-- What the program has listed so far. -/
def ChosenRel (K : Nat → Bool) (n : Nat) (w W : World) (i : Value) (wr : World) : Prop :=
  ∃ (k : Nat) (D : Option Addr) (e : Nat), k ≤ n ∧ i = .int .i64 k ∧ Blk wr (w.heap.size + 1) 29 #[.slice D (listM K k).length e] ∧ EInt.OS wr (w.heap.size + 2) wr.heap.size (.slice D (listM K k).length e) (listM K k) ∧ Below (w.heap.size + 1) W wr

set_option maxHeartbeats 8000000 in
theorem chosen_any (A B : Option Addr) (c d lo hi kf : Nat) (kb : Array Value) (K : Nat → Bool) (xs : List Person) (ys : List Union) (w : World) (h : EPerson.AS w lo hi A xs) (h' : EUnion.AS w lo hi B ys) (hh : hi ≤ w.heap.size) (hn : xs.length ≤ 40)
    (ek : ∀ args W, (callFunc kf args).run Try.prog W = .ok (.enter kf args) W)
    (hk : ∀ (W : World) (p : Nat), Below w.heap.size w W → p < xs.length → Calls Try.prog kf (#[.int .i64 p] ++ kb) W fun e w' => e = .returned (.bool (K p)) ∧ Below W.heap.size W w') :
    Calls Try.prog 29 #[.agg #[.slice A xs.length c, .slice B ys.length d], .func (.func kf) #[] kb] w (RetIntS w (kidsM xs K xs.length)) := by
  have hHX := Lib.hid h
  have hHY := Lib.hid h'
  go_enter Try.func29, Try.ntmps29
  go_wp2
  generalize hW : (w.alloc (.cells #[.slice A xs.length c, .slice B ys.length d] 26)).alloc (.cells #[.slice none 0 0] 29) = W
  have F : Blk W w.heap.size 26 #[.slice A xs.length c, .slice B ys.length d] := by subst hW; exact (Blk.new w rfl).alloc _
  have O : Blk W (w.heap.size + 1) 29 #[.slice none 0 0] := by subst hW; exact Blk.new _ (by simp)
  have hbw : Below w.heap.size w W := by subst hW; (with_reducible repeat' first | exact Below.refl _ _ | assumption | (refine Below.setCell ?_ (by first | omega | (simp; omega) | (simp; done) | (dsimp only; omega)) _) | (refine Below.alloc ?_ (by first | omega | (simp; omega) | (simp; done) | (dsimp only; omega)) _) | (refine below_drewN ?_ _) | (refine Below.drew ?_))
  have zW : W.heap.size = w.heap.size + 2 := by subst hW; simp
  have HZ := Lib.hid zW
  have zW1 : w.heap.size + 2 ≤ W.heap.size := by omega
  clear hW zW
  have hX := hHX.out.same (Same.of_below hbw hh)
  have hY := hHY.out.same (Same.of_below hbw hh)
  clear h h'
  go_loopw [10] (fun i wr => ChosenRel K xs.length w W i wr) (fun i _ => xs.length - (intOf i).toNat)
  case atStart => exact ⟨0, none, 0, Nat.zero_le _, rfl, O, Elem.OS.nil, by (with_reducible repeat' first | exact Below.refl _ _ | assumption | (refine Below.setCell ?_ (by first | omega | (simp; omega) | (simp; done) | (dsimp only; omega)) _) | (refine Below.alloc ?_ (by first | omega | (simp; omega) | (simp; done) | (dsimp only; omega)) _) | (refine below_drewN ?_ _) | (refine Below.drew ?_))⟩
  case round =>
    obtain ⟨k, D, c1, hk0, rfl, O1, ho, hbk⟩ := hrel
    have hz := hbk.size
    have hpl := listM_len (P := K) k
    have F1 := F.below hbk (by omega)
    have e0 := F1.cell (i := 0) rfl; have e1 := F1.cell (i := 1) rfl; have e2 := O1.cell (i := 0) rfl
    have l0 := F1.lt; have l1 := O1.lt
    have hXr := hX.same (Same.of_below hbk (by omega))
    have hYr := hY.same (Same.of_below hbk (by omega))
    have hbr : Below w.heap.size w wr := hbw.trans (hbk.mono (by omega))
    by_cases hlt : k < xs.length
    · have hkk := hk wr k hbr hlt
      cases hK : K k with
      | true =>
        have HPP := Lib.hid (show listM K (k + 1) = listM K k ++ [(k : Int)] by rw [listM, if_pos hK])
        rw [hK] at hkk
        clear hK
        go_wp2_with (first
          | (go_at_fn kf; (with_reducible refine hkk.mono ?_); rintro e w3 ⟨rfl, hb3⟩; have O3 := O1.below hb3 l1; have o3 := O3.cell (i := 0) rfl; have z3 := hb3.size)
          | (at_builtin; refine wpList_app1 tyIntS _ (listM K k) _ [.int .i64 _] ⟨w3.heap.size, 0, none⟩ 1 (lo := w.heap.size + 2) (hi := wr.heap.size) (ho.same (by (with_reducible repeat' first | exact Same.refl _ _ _ | assumption | (refine Same.setCell ?_ (by first | omega | (simp; omega) | (simp; done) | (dsimp only; omega)) _) | (refine Same.alloc ?_ (by first | omega | (simp; omega) | (simp; done) | (dsimp only; omega)) _) | (refine Same.drewN ?_ _) | (refine Same.drew ?_) | (refine Same.trans ?_ (Same.of_below hb3 (by first | omega | (simp; omega) | (simp; done) | (dsimp only; omega))))))) rfl (by (first | omega | (simp; omega) | (simp; done) | (dsimp only; omega))) (by omega) rfl _ _ rfl rfl rfl rfl (cell_one_at _ _ _ _ (by simp)) (by first | rfl | (simp; done) | (simp; rfl)) (by omega) (by decide) (fun A' c' w5 ho5 hg5 hc5 hm5 => ?_); have O5 := (O3.alloc _).grown hg5 (fun hE => by have := (ho.blkv _ hE.symm).1; omega); have o5 := O5.cell (i := 0) rfl; have f5 := O5.free 0; have l5 := O5.lt))
        refine ⟨⟨k + 1, A', c', by omega, by go_num, ?_, ?_, ?_⟩, by simp [intOf]; omega⟩
        · have := O5.set 0 (.slice A' ((listM K k).length + 1) c')
          rw [HPP.out, List.length_append, List.length_singleton]
          exact this
        · rw [HPP.out, List.length_append, List.length_singleton, World.size_setCell]
          exact ho5.same (Same.setCell (Same.refl _ _ _) (.inl (by simp)) _)
        · exact (Below.grown (w := World.alloc _ _) (by (with_reducible repeat' first | exact Below.refl _ _ | assumption | (refine Below.setCell ?_ (by first | omega | (simp; omega) | (simp; done) | (dsimp only; omega)) _) | (refine Below.alloc ?_ (by first | omega | (simp; omega) | (simp; done) | (dsimp only; omega)) _) | (refine below_drewN ?_ _) | (refine Below.drew ?_) | (refine Below.trans ?_ (hb3.mono (by first | omega | (simp; omega) | (simp; done) | (dsimp only; omega)))) | (refine Below.trans ?_ (hbk.mono (by first | omega | (simp; omega) | (simp; done) | (dsimp only; omega)))))) hg5 (by simp; omega) (fun k hk => by have := (ho.blkv k hk).1; omega)).setCell (by simp) _
      | false =>
        have HPP := Lib.hid (show listM K (k + 1) = listM K k by rw [listM, if_neg (by rw [hK]; simp)])
        rw [hK] at hkk
        clear hK
        go_wp2_with (go_at_fn kf; (with_reducible refine hkk.mono ?_); rintro e w3 ⟨rfl, hb3⟩; have O3 := O1.below hb3 l1; have z3 := hb3.size)
        refine ⟨⟨k + 1, D, c1, by omega, by go_num, ?_, ?_, by (with_reducible repeat' first | exact Below.refl _ _ | assumption | (refine Below.setCell ?_ (by first | omega | (simp; omega) | (simp; done) | (dsimp only; omega)) _) | (refine Below.alloc ?_ (by first | omega | (simp; omega) | (simp; done) | (dsimp only; omega)) _) | (refine below_drewN ?_ _) | (refine Below.drew ?_) | (refine Below.trans ?_ (hb3.mono (by first | omega | (simp; omega) | (simp; done) | (dsimp only; omega)))) | (refine Below.trans ?_ (hbk.mono (by first | omega | (simp; omega) | (simp; done) | (dsimp only; omega)))))⟩, by simp [intOf]; omega⟩
        · rw [HPP.out]; exact O3
        · rw [HPP.out]; exact (ho.same (by (with_reducible repeat' first | exact Same.refl _ _ _ | assumption | (refine Same.setCell ?_ (by first | omega | (simp; omega) | (simp; done) | (dsimp only; omega)) _) | (refine Same.alloc ?_ (by first | omega | (simp; omega) | (simp; done) | (dsimp only; omega)) _) | (refine Same.drewN ?_ _) | (refine Same.drew ?_) | (refine Same.trans ?_ (Same.of_below hb3 (by first | omega | (simp; omega) | (simp; done) | (dsimp only; omega))))))).mono (Nat.le_refl _) z3
    · obtain rfl : k = xs.length := by omega
      have hlen := (kidsM_perm (xs := xs) (P := K) xs.length).length_eq
      by_cases h2 : 2 ≤ (listM K xs.length).length
      · obtain ⟨m, hm⟩ : ∃ m, xs.length = m + 1 := ⟨xs.length - 1, by omega⟩
        have hun : unF (finL m (listM K xs.length)).toList = listM K xs.length := unF_finL fun y hy => by
          obtain ⟨i, h1, -, h3⟩ := listM_mem.1 hy
          exact ⟨i, by omega, h3⟩
        obtain ⟨g, rfl, g1, g2, g3, hH, hback⟩ := ints_row ho rfl (by omega) hun
        have hds := size_finL m (listM K xs.length)
        have hL : Less (lessF (m := m) xs) #[.pointer (some ⟨w.heap.size, 0, none⟩), .pointer (some ⟨w.heap.size + 1, 0, none⟩)] g 0 (finL m (listM K xs.length)).size wr := by
          refine ⟨g3, fun W E hs hE i j hi1 hj1 => ?_⟩
          have ha : (E[i]!).val < xs.length := by have := (E[i]!).isLt; omega
          have hb : (E[j]!).val < xs.length := by have := (E[j]!).isLt; omega
          have hci := (hs.holds i (by omega)).1
          have hcj := (hs.holds j (by omega)).1
          rw [Nat.zero_add] at hci hcj
          have hle : lessF xs E[i]! E[j]! = elderAt xs (E[i]!).val (E[j]!).val := lessM_eq ha hb
          rw [hle]
          have hsz := hs.size
          exact chosenLess_any A B (some ⟨g, 0, none⟩) c d lo hi w.heap.size (w.heap.size + 1) (listM K xs.length).length c1 xs ys i j _ _ W (hXr.same (Same.of_chg hs.chg (by omega) (.inl (by omega)))) (hYr.same (Same.of_chg hs.chg (by omega) (.inl (by omega)))) (by omega) ha hb (hs.blk F1 (by omega)) (hs.blk O1 (by omega)) (by omega) (by omega) rfl hci hcj (by omega)
        have hp := sortSlice_any (lessF xs) (lessF_swo xs m) _ g c1 (finL m (listM K xs.length)) wr (by omega) (by omega) hL hH
        obtain ⟨q1, q2⟩ := pdq_kids (P := K) (m := m) (xs := xs) (by omega) (Lib.bitLen (finL m (listM K xs.length)).size)
        rw [hds] at hp q1 q2
        generalize pdq (lessF xs) (finL m (listM K xs.length)) 0 (listM K xs.length).length (Lib.bitLen (listM K xs.length).length) true true = E at hp q1 q2
        have HQ := Lib.hid q1
        have HB := Lib.hid hback
        clear hL hH hun hback q1 hds hm
        go_wp2_with (go_at_call 53; (with_reducible refine hp.mono ?_); rintro e w5 ⟨rfl, S5⟩; have O5 := S5.blk O1 (by omega); have o5 := O5.cell (i := 0) rfl; have l5 := O5.lt)
        go_ret
        have hk2 := HB.out _ _ S5 q2
        rw [HQ.out] at hk2
        have hz5 := S5.size
        have hz9 := HZ.out
        exact ⟨some ⟨g, 0, none⟩, c1, by first | (rw [hlen]; done) | (rw [hlen]; rfl), by rw [hlen]; exact hk2.mono (by omega) (by omega), hbr.trans (S5.chg.below (by omega) (by omega))⟩
      · have hsm := small_kids (xs := xs) (P := K) (by omega)
        have HS := Lib.hid hsm
        have hp := sortTiny_any #[.pointer (some ⟨w.heap.size, 0, none⟩), .pointer (some ⟨w.heap.size + 1, 0, none⟩)] D (listM K xs.length).length c1 (by omega) wr
        clear hsm
        go_wp2_with (go_at_call 53; (with_reducible refine hp.mono ?_); rintro e w5 ⟨rfl, hb5⟩; have O5 := O1.below hb5 l1; have o5 := O5.cell (i := 0) rfl; have l5 := O5.lt)
        go_ret
        rw [← HS.out]
        have := HZ.out
        exact ⟨_, _, rfl, (ho.same (by (with_reducible repeat' first | exact Same.refl _ _ _ | assumption | (refine Same.setCell ?_ (by first | omega | (simp; omega) | (simp; done) | (dsimp only; omega)) _) | (refine Same.alloc ?_ (by first | omega | (simp; omega) | (simp; done) | (dsimp only; omega)) _) | (refine Same.drewN ?_ _) | (refine Same.drew ?_) | (refine Same.trans ?_ (Same.of_below hb5 (by first | omega | (simp; omega) | (simp; done) | (dsimp only; omega))))))).mono (by omega) hb5.size, by (with_reducible repeat' first | exact Below.refl _ _ | assumption | (refine Below.setCell ?_ (by first | omega | (simp; omega) | (simp; done) | (dsimp only; omega)) _) | (refine Below.alloc ?_ (by first | omega | (simp; omega) | (simp; done) | (dsimp only; omega)) _) | (refine below_drewN ?_ _) | (refine Below.drew ?_) | (refine Below.trans ?_ (hb5.mono (by first | omega | (simp; omega) | (simp; done) | (dsimp only; omega)))) | (refine Below.trans ?_ (hbr.mono (by first | omega | (simp; omega) | (simp; done) | (dsimp only; omega)))))⟩
end Go.Proofs.Ythpcippgifmabaa
