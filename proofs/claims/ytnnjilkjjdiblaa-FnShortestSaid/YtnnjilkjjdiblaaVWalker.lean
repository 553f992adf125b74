/-
  The program's walker: the relations of the eight steps, kept in one place.
-/
import Derived.Test.YtnnjilkjjdiblaaVStepI
import Derived.Test.YtnnjilkjjdiblaaVGShort
import Derived.Deep.Cut
import Derived.Deep.DeepCutAuto
namespace Go.Proofs.Ytnnjilkjjdiblaa
set_option maxRecDepth 100000
open Go.RowKit

/-- Block g holds the relations of the steps; their rows lie from lo to hi. -/
def Walk (w : World) (g lo hi n : Nat) (L : Nat → Nat → Nat → Bool) (k : Nat) : Prop :=
  ∃ cur : Array Value, Blk w g 119 cur ∧ cur.size = 18 ∧ ∀ i, i < k → ∃ A c, cur[(i + 1) * 2]? = some (.int .i64 n) ∧ cur[(i + 1) * 2 + 1]? = some (.slice A n c) ∧ EIntS.AS w lo hi A (relM n (L i))
theorem Walk.same {w w' : World} {g lo hi n k : Nat} {L : Nat → Nat → Nat → Bool} (h : Walk w g lo hi n L k) (hg : Same g (g + 1) w w') (hs : Same lo hi w w') : Walk w' g lo hi n L k := by
  obtain ⟨cur, h1, h2, h3⟩ := h
  exact ⟨cur, h1.same hg (Nat.le_refl _) (Nat.lt_succ_self _), h2, fun i hi => by
    obtain ⟨A, c, a, b, d⟩ := h3 i hi
    exact ⟨A, c, a, b, d.same hs⟩⟩
theorem Walk.below {w w' : World} {g lo hi n k B : Nat} {L : Nat → Nat → Nat → Bool} (h : Walk w g lo hi n L k) (hb : Below B w w') (hg : g < B) (hh : hi ≤ B) : Walk w' g lo hi n L k :=
  h.same (Same.of_below hb (by omega)) (Same.of_below hb hh)
theorem Walk.at_ {w : World} {g lo hi n k i : Nat} {L : Nat → Nat → Nat → Bool} (h : Walk w g lo hi n L k) (hi' : i < k) : ∃ A c, w.cell? ⟨g, (i + 1) * 2, none⟩ = some (.int .i64 n) ∧ w.cell? ⟨g, (i + 1) * 2 + 1, none⟩ = some (.slice A n c) ∧ EIntS.AS w lo hi A (relM n (L i)) := by
  obtain ⟨cur, h1, h2, h3⟩ := h
  obtain ⟨A, c, a, b, d⟩ := h3 i hi'
  exact ⟨A, c, h1.cell a, h1.cell b, d⟩
theorem Walk.mono {w : World} {g lo hi lo' hi' n k : Nat} {L : Nat → Nat → Nat → Bool} (h : Walk w g lo hi n L k) (h1 : lo' ≤ lo) (h2 : hi ≤ hi') : Walk w g lo' hi' n L k := by
  obtain ⟨cur, a1, a2, a3⟩ := h
  exact ⟨cur, a1, a2, fun i hi => by
    obtain ⟨A, c, a, b, d⟩ := a3 i hi
    exact ⟨A, c, a, b, d.mono h1 h2⟩⟩
theorem Walk.lt {w : World} {g lo hi n k : Nat} {L : Nat → Nat → Nat → Bool} (h : Walk w g lo hi n L k) : g < w.heap.size := by
  obtain ⟨cur, h1, _⟩ := h
  exact h1.lt

def WalkRel (n : Nat) (L : Nat → Nat → Nat → Bool) (g : Nat) (W : World) (i : Value) (wr : World) : Prop :=
  ∃ k : Nat, k ≤ 8 ∧ i = .int .i64 ((k : Int) + 1) ∧ Walk wr g (g + 1) wr.heap.size n L k ∧ Below g W wr ∧ g < wr.heap.size

set_option maxHeartbeats 4000000 in
theorem newWalker_any (A B : Option Addr) (c d lo hi : Nat) (xs : List Person) (ys : List Union) (w : World) (h : EPerson.AS w lo hi A xs) (h' : EUnion.AS w lo hi B ys) (hh : hi ≤ w.heap.size) (hfam : famOk xs ys = true) :
    Calls Try.prog 102 #[.agg #[.slice A xs.length c, .slice B ys.length d]] w fun e w' => ∃ g, e = .returned (.pointer (some ⟨g, 0, none⟩)) ∧ w.heap.size ≤ g ∧ Walk w' g w.heap.size w'.heap.size xs.length (leadK xs ys) 8 ∧ Below w.heap.size w w' := by
  have HO := Lib.hid hfam; clear hfam
  have HHX := Lib.hid h; have HHY := Lib.hid h'; clear h h'
  go_enter Try.func102, Try.ntmps102
  go_wp2_with fail
  generalize hW : (w.alloc (.cells #[.slice A xs.length c, .slice B ys.length d] 26)).alloc (.cells #[.int .i64 0, .slice none 0 0, .int .i64 0, .slice none 0 0, .int .i64 0, .slice none 0 0, .int .i64 0, .slice none 0 0, .int .i64 0, .slice none 0 0, .int .i64 0, .slice none 0 0, .int .i64 0, .slice none 0 0, .int .i64 0, .slice none 0 0, .int .i64 0, .slice none 0 0] 119) = W
  have hf : Blk W w.heap.size 26 #[.slice A xs.length c, .slice B ys.length d] := by subst hW; exact (Blk.new w rfl).alloc _
  have hb0 : Below w.heap.size w W := by subst hW; (with_reducible repeat' first | exact Below.refl _ _ | assumption | (refine Below.setCell ?_ (by first | omega | (simp; omega) | (simp; done) | (dsimp only; omega)) _) | (refine Below.alloc ?_ (by first | omega | (simp; omega) | (simp; done) | (dsimp only; omega)) _) | (refine below_drewN ?_ _) | (refine Below.drew ?_))
  have z0 : w.heap.size + 1 + 1 = W.heap.size := by subst hW; simp
  have hwk : Walk W (w.heap.size + 1) (w.heap.size + 1 + 1) W.heap.size xs.length (leadK xs ys) 0 := by subst hW; exact ⟨_, Blk.new _ (by simp), by decide, fun i hi => absurd hi (Nat.not_lt_zero _)⟩
  clear hW
  go_loopw [4] (fun i wr => WalkRel xs.length (leadK xs ys) (w.heap.size + 1) W i wr) (fun i _ => 9 - (intOf i).toNat)
  case atStart => exact ⟨0, Nat.zero_le _, rfl, hwk, Below.refl _ _, by omega⟩
  case round =>
    obtain ⟨k, hk, rfl, hwk, hbr, hsz⟩ := hrel
    by_cases hlt : k < 8
    · obtain ⟨cur, hB, hcs, hrow⟩ := hwk
      have RB := Lib.hid hB
      have HR := Lib.hid hrow
      clear hB hrow hwk
      have hfr := hf.below hbr (by omega)
      have u0 := hfr.cell (i := 0) rfl; have u1 := hfr.cell (i := 1) rfl
      have hX := HHX.out.same ((Same.of_below hb0 hh).trans (Same.of_below hbr (by omega)))
      have hY := HHY.out.same ((Same.of_below hb0 hh).trans (Same.of_below hbr (by omega)))
      have hkd : 1 ≤ ((k : Int) + 1) ∧ ((k : Int) + 1) ≤ 8 := by omega
      have zrd : hi ≤ wr.drew.heap.size := by show hi ≤ wr.heap.size; omega
      have i1 : (0 : Int) ≤ (k : Int) + 1 ∧ (k : Int) + 1 < 9 := by omega
      go_upto_region 5 with fail
      refine wp_region_held_drew (S := fun w' => w'.cell? ⟨w.heap.size, 0, none⟩ = some (.slice A xs.length c) ∧ w'.cell? ⟨w.heap.size, 1, none⟩ = some (.slice B ys.length d)) (by kernel_rfl) ⟨u0, u1⟩ (fun hHeld => ?_)
      refine wpAnyH_take (i := 0) (oi := { dst := some 11, op := _, type := _, pos := _, after := _, guard := _ }) (v := ?_) rfl (by kernel_rfl) (by kernel_rfl) (by kernel_rfl) (fun _ _ _ h => h) (Or.inl ⟨by rfl, ?_⟩) (by assumption) ?_; rotate_left; (intro w hSw; (try dsimp only at hSw); go_simp); (try with_reducible rfl); (try simp only [Act.put, List.setIfInBounds_toArray, List.set_cons_zero, List.set_cons_succ])
      refine wpAnyH_take (i := 1) (oi := { dst := some 12, op := _, type := _, pos := _, after := _, guard := _ }) (v := ?_) rfl (by kernel_rfl) (by kernel_rfl) (by kernel_rfl) (fun _ _ _ h => h) (Or.inl ⟨by rfl, ?_⟩) (by assumption) ?_; rotate_left; (intro w hSw; (try dsimp only at hSw); go_simp); (try with_reducible rfl); (try simp only [Act.put, List.setIfInBounds_toArray, List.set_cons_zero, List.set_cons_succ])
      refine wpAnyH_take (i := 2) (oi := { dst := some 13, op := _, type := _, pos := _, after := _, guard := _ }) (v := ?_) rfl (by kernel_rfl) (by kernel_rfl) (by kernel_rfl) (fun _ _ _ h => h) (Or.inl ⟨by rfl, ?_⟩) (by assumption) ?_; rotate_left; (intro w hSw; (try dsimp only at hSw); go_simp); (try with_reducible rfl); (try simp only [Act.put, List.setIfInBounds_toArray, List.set_cons_zero, List.set_cons_succ])
      refine wpAnyH_take (i := 3) (oi := { dst := some 14, op := _, type := _, pos := _, after := _, guard := _ }) (v := ?_) rfl (by kernel_rfl) (by kernel_rfl) (by kernel_rfl) (fun _ _ _ h => h) (Or.inl ⟨by rfl, ?_⟩) (by assumption) ?_; rotate_left; (intro w hSw; (try dsimp only at hSw); go_simp); (try with_reducible rfl); (try simp only [Act.put, List.setIfInBounds_toArray, List.set_cons_zero, List.set_cons_succ])
      refine wpAnyH_take (i := 4) (oi := { dst := some 15, op := _, type := _, pos := _, after := _, guard := _ }) (v := ?_) rfl (by kernel_rfl) (by kernel_rfl) (by kernel_rfl) (fun _ _ _ h => h) (Or.inl ⟨by rfl, ?_⟩) (by assumption) ?_; rotate_left; (intro w hSw; (try dsimp only at hSw); go_simp); (try with_reducible rfl); (try simp only [Act.put, List.setIfInBounds_toArray, List.set_cons_zero, List.set_cons_succ])
      refine wpAnyH_take (i := 6) (oi := { dst := some 17, op := _, type := _, pos := _, after := _, guard := _ }) (v := ?_) rfl (by kernel_rfl) (by kernel_rfl) (by kernel_rfl) (fun _ _ _ h => h) (Or.inl ⟨by rfl, ?_⟩) (by assumption) ?_; rotate_left; (intro w hSw; (try dsimp only at hSw); go_simp); (try with_reducible rfl); (try simp only [Act.put, List.setIfInBounds_toArray, List.set_cons_zero, List.set_cons_succ])
      refine wpAnyH_take (i := 7) (oi := { dst := some 18, op := _, type := _, pos := _, after := _, guard := _ }) (v := ?_) rfl (by kernel_rfl) (by kernel_rfl) (by kernel_rfl) (fun _ _ _ h => h) (Or.inl ⟨by rfl, ?_⟩) (by assumption) ?_; rotate_left; (intro w hSw; (try dsimp only at hSw); go_simp); (try with_reducible rfl); (try simp only [Act.put, List.setIfInBounds_toArray, List.set_cons_zero, List.set_cons_succ])
      refine wpAnyH_ready (rs := [5]) (by kernel_rfl) (by simp) ?_
      refine AllReadyH.cons (o := { dst := some 16, op := _, type := _, pos := _, after := _, guard := _ }) rfl (fun K hK => ?_) AllReadyH.nil
      go_simp
      (go_at_call 97; (with_reducible refine (stepRelation_any _ _ _ _ lo hi xs ys _ 0 _ hX.drew hY.drew zrd hkd HO.out).mono ?_); rintro e w6 ⟨A6, c6, rfl, ho6, hb6⟩; replace hb6 := undrew hb6; replace ho6 : EIntS.OS w6 wr.heap.size w6.heap.size (.slice A6 xs.length c6) (relM xs.length (leadK xs ys k)) := ho6; (replace u0 := (hb6.cell (p := ⟨w.heap.size, 0, none⟩) (by simp; omega)).trans u0); (replace u1 := (hb6.cell (p := ⟨w.heap.size, 1, none⟩) (by simp; omega)).trans u1); (have RB6 := Lib.hid (RB.out.below hb6 (by omega))); (obtain ⟨s0, hs0⟩ : ∃ s0, w6.cell? ⟨w.heap.size + 1, (k + 1) * 2, none⟩ = some s0 := ⟨_, (RB6.out.cell (i := (k + 1) * 2) (Array.getElem?_eq_getElem (by omega)))⟩); (obtain ⟨s1, hs1⟩ : ∃ s1, w6.cell? ⟨w.heap.size + 1, (k + 1) * 2 + 1, none⟩ = some s1 := ⟨_, (RB6.out.cell (i := (k + 1) * 2 + 1) (Array.getElem?_eq_getElem (by omega)))⟩); (have f0 := RB6.out.free ((k + 1) * 2)); (have f1 := RB6.out.free ((k + 1) * 2 + 1)); (have HB6 := Lib.hid hb6); (have z6 := hb6.size); (have lb6 : w.heap.size + 1 < w6.heap.size := by omega); clear hb6)
      try go_wp2_with fail
      refine hK.out _ _ ⟨u0, u1⟩ (fun hHeld => ?_)
      clear hK K; (try simp only [Act.put, List.setIfInBounds_toArray, List.set_cons_zero, List.set_cons_succ])
      refine wpAnyH_take (i := 8) (oi := { dst := some 19, op := _, type := _, pos := _, after := _, guard := _ }) (v := ?_) rfl (by kernel_rfl) (by kernel_rfl) (by kernel_rfl) (fun _ _ _ h => h) (Or.inl ⟨by rfl, ?_⟩) (by assumption) ?_; rotate_left; (intro w hSw; (try dsimp only at hSw); go_simp); (try with_reducible rfl); (try simp only [Act.put, List.setIfInBounds_toArray, List.set_cons_zero, List.set_cons_succ])
      refine wpAnyH_ready (rs := [9]) (by kernel_rfl) (by simp) ?_
      refine AllReadyH.cons (o := { dst := none, op := _, type := _, pos := _, after := _, guard := _ }) rfl (fun K hK => ?_) AllReadyH.nil
      go_simp
      refine hK.out _ _ ⟨((World.cell?_of_block (Below.heap_setCell _ _ _ _ (by first | omega | (simp; omega) | (simp; done) | (dsimp only; omega)))).trans ((World.cell?_of_block (Below.heap_setCell _ _ _ _ (by first | omega | (simp; omega) | (simp; done) | (dsimp only; omega)))).trans u0)), ((World.cell?_of_block (Below.heap_setCell _ _ _ _ (by first | omega | (simp; omega) | (simp; done) | (dsimp only; omega)))).trans ((World.cell?_of_block (Below.heap_setCell _ _ _ _ (by first | omega | (simp; omega) | (simp; done) | (dsimp only; omega)))).trans u1))⟩ (fun hHeld => ?_)
      clear hK K; (try simp only [Act.put, List.setIfInBounds_toArray, List.set_cons_zero, List.set_cons_succ])
      refine wpAnyH_done (by kernel_rfl) ?_ _
      go_wp2_with fail
      refine ⟨⟨k + 1, by omega, by go_num, ⟨_, (RB6.out.set ((k + 1) * 2) _).set ((k + 1) * 2 + 1) _, by simpa using hcs, fun i hi => ?_⟩, ?_, ?_⟩, by simp [intOf]; omega⟩
      · by_cases hik : i = k
        · subst hik
          refine ⟨A6, c6, ?_, ?_, ((ho6.same (by (with_reducible repeat' first | exact Same.refl _ _ _ | assumption | (refine Same.setCell ?_ (by first | omega | (simp; omega) | (simp; done) | (dsimp only; omega)) _) | (refine Same.alloc ?_ (by first | omega | (simp; omega) | (simp; done) | (dsimp only; omega)) _) | (refine Same.drewN ?_ _) | (refine Same.drew ?_)))).read.as).mono (by omega) (by simp [World.setCell])⟩
          · rw [Array.getElem?_setIfInBounds_ne (by omega), Array.getElem?_setIfInBounds_self_of_lt (by omega)]
          · rw [Array.getElem?_setIfInBounds_self_of_lt (by simp; omega)]
        · obtain ⟨A', c', e1, e2, e3⟩ := HR.out i (by omega)
          refine ⟨A', c', ?_, ?_, ((e3.same (Same.of_below HB6.out (Nat.le_refl _))).same (by (with_reducible repeat' first | exact Same.refl _ _ _ | assumption | (refine Same.setCell ?_ (by first | omega | (simp; omega) | (simp; done) | (dsimp only; omega)) _) | (refine Same.alloc ?_ (by first | omega | (simp; omega) | (simp; done) | (dsimp only; omega)) _) | (refine Same.drewN ?_ _) | (refine Same.drew ?_)))).mono (Nat.le_refl _) (by simp [World.setCell]; omega)⟩
          · rw [Array.getElem?_setIfInBounds_ne (by omega), Array.getElem?_setIfInBounds_ne (by omega)]; exact e1
          · rw [Array.getElem?_setIfInBounds_ne (by omega), Array.getElem?_setIfInBounds_ne (by omega)]; exact e2
      · have hq := HB6.out; (with_reducible repeat' first | exact Below.refl _ _ | assumption | (refine Below.setCell ?_ (by first | omega | (simp; omega) | (simp; done) | (dsimp only; omega)) _) | (refine Below.alloc ?_ (by first | omega | (simp; omega) | (simp; done) | (dsimp only; omega)) _) | (refine below_drewN ?_ _) | (refine Below.drew ?_) | (refine Below.trans ?_ (hq.mono (by first | omega | (simp; omega) | (simp; done) | (dsimp only; omega)))) | (refine Below.trans ?_ (hbr.mono (by first | omega | (simp; omega) | (simp; done) | (dsimp only; omega)))))
      · simp [World.setCell]; omega
    · obtain rfl : k = 8 := by omega
      go_wp2
      go_ret
      exact ⟨w.heap.size + 1, rfl, by omega, hwk.mono (by omega) (Nat.le_refl _), hb0.trans (hbr.mono (by omega))⟩

def rowSt (q : Nat → Bool) (row : List Int) (j : Nat) : Nat → Bool := fun b => q b || hasB (row.take j) b
def outSt (_n : Nat) (q : Nat → Bool) (M : Nat → Nat → Bool) (a : Nat) : Nat → Bool := fun b => (List.range a).any fun x => q x && M x b
theorem outSt_succ (n : Nat) (q : Nat → Bool) (M : Nat → Nat → Bool) (a : Nat) : outSt n q M (a + 1) = fun b => outSt n q M a b || (q a && M a b) := by
  funext b; simp only [outSt, List.range_succ, List.any_append, List.any_cons, List.any_nil, Bool.or_false]
theorem outSt_no {n : Nat} {q : Nat → Bool} {M : Nat → Nat → Bool} {a : Nat} (h : q a = false) : outSt n q M (a + 1) = outSt n q M a := by
  rw [outSt_succ, h]; funext b; simp
theorem rowSt_end {n : Nat} {q : Nat → Bool} {M : Nat → Nat → Bool} {a : Nat} (h : q a = true) : row1 n (rowSt (outSt n q M a) (idxTo (M a) n) (idxTo (M a) n).length) = row1 n (outSt n q M (a + 1)) :=
  row1_congr fun b hb => by rw [outSt_succ, h, rowSt, List.take_length, hasB_idx, decide_eq_true hb]
theorem rowSt_zero (q : Nat → Bool) (row : List Int) : rowSt q row 0 = q := by funext b; simp [rowSt, hasB]
theorem rowSt_succ {q : Nat → Bool} {row : List Int} {j b : Nat} (h : row[j]? = some (b : Int)) : upd1 (rowSt q row j) b true = rowSt q row (j + 1) := by
  funext x
  unfold upd1 rowSt
  rw [List.take_add_one, h]
  by_cases hx : x = b
  · subst hx; simp [hasB]
  · rw [if_neg hx]
    congr 1
    simp only [hasB]
    rw [decide_eq_decide]; simp; omega

def MarkRow (P : Nat → Nat → Bool) (m n lo hi : Nat) (A : Option Addr) (c : Nat) (W : World) (i : Value) (wr : World) : Prop :=
  ∃ k : Nat, k ≤ m ∧ i = .int .i64 k ∧ EBool.OS wr lo hi (.slice A n c) (row1 n (P k)) ∧ Chg lo hi W wr ∧ hi ≤ wr.heap.size

set_option maxHeartbeats 4000000 in
theorem walkerNext_any (g lo hi n : Nat) (L : Nat → Nat → Nat → Bool) (F : Option Addr) (e lo2 hi2 i : Nat) (q : Nat → Bool) (w : World) (h : Walk w g lo hi n L 8) (hg : g < w.heap.size) (hh : hi ≤ w.heap.size) (h' : EBool.AS w lo2 hi2 F (row1 n q)) (hh' : hi2 ≤ w.heap.size) (hi8 : i < 8) (hn : n ≤ 40) :
    Calls Try.prog 103 #[.pointer (some ⟨g, 0, none⟩), .slice F n e, .int .i64 ((i : Int) + 1)] w fun e' w' => ∃ A' c', e' = .returned (.slice A' n c') ∧ EBool.OS w' w.heap.size w'.heap.size (.slice A' n c') (row1 n (reachP n q (L i))) ∧ Below w.heap.size w w' := by
  obtain ⟨AL, cL, hL0, hL1, hLS⟩ := h.at_ hi8
  have HL0 := Lib.hid hL1; have HLS := Lib.hid hLS; have HF := Lib.hid h'
  clear h hL0 hL1 hLS h'
  obtain ⟨i0, hi0, hz0, hz1, hz2⟩ := info_parts bool_info
  have hmk := run_mk (P := Try.prog) 112 4 i0 _ 1 1 Try.underlying112 hi0 hz0 hz1 hz2 n (by omega) (by unfold BIG; omega)
  clear hi0 hz0 hz1 hz2
  go_enter Try.func103, Try.ntmps103
  go_wp2
  have ho0 := made_one n w hn
  generalize hW : (w.alloc (.cells (madeCells #[Value.bool false] n) 4)) = w1 at ho0 ⊢
  have hbw : Below w.heap.size w w1 := by subst hW; (with_reducible repeat' first | exact Below.refl _ _ | assumption | (refine Below.setCell ?_ (by first | omega | (simp; omega) | (simp; done) | (dsimp only; omega)) _) | (refine Below.alloc ?_ (by first | omega | (simp; omega) | (simp; done) | (dsimp only; omega)) _) | (refine below_drewN ?_ _) | (refine Below.drew ?_))
  have z1 : w.heap.size + 1 = w1.heap.size := by subst hW; simp
  clear hW hmk
  have L1 := (hbw.cell (p := ⟨g, (i + 1) * 2 + 1, none⟩) hg).trans HL0.out
  have hLS1 := HLS.out.same (Same.of_below hbw hh)
  have hF1 := HF.out.same (Same.of_below hbw hh')
  rw [row1_blank] at ho0
  go_loopw [17] (fun v wr => MarkTab (outSt n q (L i)) n w.heap.size (w.heap.size + 1) (some ⟨w.heap.size, 0, none⟩) n w1 v wr) (fun v _ => n - (intOf v).toNat)
  case atStart => exact ⟨0, Nat.zero_le _, rfl, ho0, Chg.refl _ _ _, by omega⟩
  case round =>
    obtain ⟨a, ha, rfl, ho, hch, hsz⟩ := hrel
    by_cases hla : a < n
    · obtain ⟨m1, mo, rfl, j1, j2, hqa⟩ := row1_read (hF1.same (Same.of_chg hch (by omega) (.inl (by omega)))) hla
      have lm : m1 < wr.heap.size := by have := hch.size; omega
      have i1 : (0 : Int) ≤ (a : Int) ∧ (a : Int) < (n : Int) := by omega
      cases hqv : q a with
      | false =>
        rw [hqv] at hqa
        have HO := Lib.hid (outSt_no (n := n) (M := L i) hqv)
        clear hqv
        go_wp2_with fail
        exact ⟨⟨a + 1, by omega, by go_num, by rw [HO.out]; exact ho, hch, hsz⟩, by simp [intOf]; omega⟩
      | true =>
        rw [hqv] at hqa
        have HE := Lib.hid (rowSt_end (n := n) (M := L i) hqv)
        clear hqv
        obtain ⟨gl, ol, x, B, cx, rfl, r1, r2, _, hxk, hcell, _, _, hrow⟩ := AIntS.at_ hLS1 (k := a) (by rw [relM_len]; exact hla)
        rw [relM_at _ hla] at hxk
        injection hxk with hxk
        subst hxk
        have L2 := (hch.cell (p := ⟨g, (i + 1) * 2 + 1, none⟩) (by simp; omega) (.inl hg)).trans L1
        have lg : g < wr.heap.size := by omega
        have zc := hch.size
        have lgl : gl < wr.heap.size := by omega
        replace hcell := (hch.cell (p := ⟨gl, ol + a, none⟩) (by simp; omega) (.inl (by simp; omega))).trans hcell
        have HM := Lib.hid (fun (x : Int) (h : x ∈ idxTo (L i a) n) => mem_idxTo.1 h)
        have hrl := idxTo_len (L i a) n
        obtain ⟨row, hrw⟩ : ∃ row, idxTo (L i a) n = row := ⟨_, rfl⟩
        rw [hrw] at HE HM hrow hcell hrl
        clear hrw
        go_upto_region 7 with fail
        obtain ⟨wo, rfl⟩ : ∃ wo : World, wo = wr := ⟨_, rfl⟩
        go_loopw [34] (fun v w2 => MarkRow (rowSt (outSt n q (L i) a) row) row.length n w.heap.size (w.heap.size + 1) (some ⟨w.heap.size, 0, none⟩) n w1 v w2) (fun v _ => row.length - (intOf v).toNat)
        case atStart => exact ⟨0, Nat.zero_le _, rfl, by rw [rowSt_zero]; exact ho, hch, hsz⟩
        case round =>
          obtain ⟨j, hj, rfl, ho2, hch2, hsz2⟩ := hrel
          by_cases hlj : j < row.length
          · obtain ⟨m2, o2, y, rfl, e1, e2, _, hyk, hyc⟩ := AInt.at_ (hrow.same (Same.of_chg hch2 (by omega) (.inl (by omega)))) hlj
            obtain ⟨b, hbn, _, rfl⟩ := HM.out y (List.mem_of_getElem? hyk)
            have HS := Lib.hid (rowSt_succ (q := outSt n q (L i) a) hyk)
            clear hyk
            obtain ⟨g', cc, hv, _, _, k1, k2, hset⟩ := row1_own ho2 hbn
            injection hv with hv _ hcc
            injection hv with hv
            injection hv with hv _ _
            subst hv
            subst hcc
            have HS' := Lib.hid @hset; clear hset
            have zc2 := hch2.size
            have lm2 : m2 < wr.heap.size := by omega
            have lw2 : w.heap.size < wr.heap.size := by omega
            have i2 : (0 : Int) ≤ (j : Int) ∧ (j : Int) < (row.length : Int) := by omega
            have i3 : (0 : Int) ≤ (b : Int) ∧ (b : Int) < (n : Int) := by omega
            obtain ⟨ov, k1⟩ : ∃ ov, wr.cell? ⟨w.heap.size, b, none⟩ = some (.bool ov) := ⟨_, k1⟩
            go_wp2_with fail
            exact ⟨⟨j + 1, by omega, by go_num, by rw [← HS.out]; exact HS'.out true, hch2.setCell ⟨Nat.le_refl _, Nat.lt_succ_self _⟩ _, by simpa [World.setCell] using hsz2⟩, by simp [intOf]; omega⟩
          · obtain rfl : j = row.length := by omega
            go_wp2
            exact ⟨⟨a + 1, by omega, by go_num, by rw [← HE.out]; exact ho2, hch2, hsz2⟩, by simp [intOf]; omega⟩
    · obtain rfl : a = n := by omega
      go_wp2
      go_ret
      exact ⟨_, _, rfl, ho.mono (Nat.le_refl _) hsz, hbw.trans (hch.below (by omega) (by omega))⟩

theorem walk_row {xs : List Person} {ys : List Union} {zs : List Step} {k a i : Nat} (h : zs[k]? = some (kindS i)) : walkP xs.length (leadM xs ys) sameP (zs.take (k + 1)) a = reachP xs.length (walkP xs.length (leadM xs ys) sameP (zs.take k) a) (leadK xs ys i) := by
  rw [List.take_add_one, h]
  show walkP _ _ _ (zs.take k ++ [kindS i]) a = _
  rw [walkP_snoc]; rfl

set_option maxHeartbeats 4000000 in
theorem walkerLeads_any (g lo hi : Nat) (xs : List Person) (ys : List Union) (D : Option Addr) (e lo2 hi2 : Nat) (ego : Int) (zs : List Step) (a b : Nat) (w : World) (h : Walk w g lo hi xs.length (leadK xs ys) 8) (hg : g < w.heap.size) (hh : hi ≤ w.heap.size) (h' : EStep.AS w lo2 hi2 D zs) (hh' : hi2 ≤ w.heap.size)
    (hz : ∀ s ∈ zs, ∃ i, i < 8 ∧ s = kindS i) (ha : a < xs.length) (hb : b < xs.length) (hn : xs.length ≤ 40) :
    Calls Try.prog 109 #[.pointer (some ⟨g, 0, none⟩), .agg #[.int .i64 ego, .slice D zs.length e], .int .i64 a, .int .i64 b] w fun e' w' => e' = .returned (.bool (walkP xs.length (leadM xs ys) sameP zs a b)) ∧ Below w.heap.size w w' := by
  have hzl := h'.le
  unfold BIG at hzl
  obtain ⟨A0, c0, hs0, _, _⟩ := h.at_ (i := 0) (by omega)
  have hs2 : w.cell? ⟨g, 2, none⟩ = some (.int .i64 xs.length) := hs0
  have HW := Lib.hid h; have HZ := Lib.hid h'; have HK := Lib.hid hz
  clear h h' hz hs0
  obtain ⟨i0, hi0, hz0, hz1, hz2⟩ := info_parts bool_info
  have hmk := run_mk (P := Try.prog) 112 4 i0 _ 1 1 Try.underlying112 hi0 hz0 hz1 hz2 xs.length (by omega) (by unfold BIG; omega)
  clear hi0 hz0 hz1 hz2
  go_enter Try.func109, Try.ntmps109
  go_upto_region 2 with fail
  have ho0 := made_one xs.length (w.alloc (.cells #[.int .i64 ego, .slice D zs.length e] 30)) hn
  simp only [szs] at ho0
  generalize hW : (w.alloc (.cells #[.int .i64 ego, .slice D zs.length e] 30)).alloc (.cells (madeCells #[Value.bool false] xs.length) 4) = w1 at ho0 ⊢
  have t1 : w1.cell? ⟨w.heap.size, 1, none⟩ = some (.slice D zs.length e) := by subst hW; simp [go_sem]
  have hbw : Below w.heap.size w w1 := by subst hW; (with_reducible repeat' first | exact Below.refl _ _ | assumption | (refine Below.setCell ?_ (by first | omega | (simp; omega) | (simp; done) | (dsimp only; omega)) _) | (refine Below.alloc ?_ (by first | omega | (simp; omega) | (simp; done) | (dsimp only; omega)) _) | (refine below_drewN ?_ _) | (refine Below.drew ?_))
  have z1 : w.heap.size + 1 + 1 = w1.heap.size := by subst hW; simp
  clear hW hmk
  rw [row1_blank] at ho0
  obtain ⟨g', cc, hv, _, _, k1, k2, hset⟩ := row1_own ho0 ha
  injection hv with hv _ hcc
  injection hv with hv
  injection hv with hv _ _
  subst hv
  subst hcc
  have ho1 := hset true
  rw [show row1 xs.length (upd1 (fun _ => false) a true) = row1 xs.length (walkP xs.length (leadM xs ys) sameP (zs.take 0) a) from row1_congr fun x _ => by
    unfold upd1
    by_cases hx : x = a
    · subst hx; rw [if_pos rfl]; simp [walkP, sameP]
    · rw [if_neg hx]; simp [walkP, sameP, Ne.symm hx]] at ho1
  have i1 : (0 : Int) ≤ (a : Int) ∧ (a : Int) < (xs.length : Int) := by omega
  have i2 : (0 : Int) ≤ (b : Int) ∧ (b : Int) < (xs.length : Int) := by omega
  have lw1 : w.heap.size + 1 < w1.heap.size := by omega
  clear hset
  go_upto_region 4 with fail
  generalize hW : w1.setCell ⟨w.heap.size + 1, a, none⟩ (.bool true) = w2 at ho1 ⊢
  have hb2 : Below (w.heap.size + 1) w1 w2 := by subst hW; exact Below.setCell (Below.refl _ _) (by simp) _
  have z2 : w1.heap.size = w2.heap.size := by subst hW; simp [World.setCell]
  clear hW k1 k2
  have hbw2 := hbw.trans (hb2.mono (by omega))
  have hZ2 := HZ.out.same (Same.of_below hbw2 hh')
  have hW2 := HW.out.below hbw2 hg hh
  go_loopw [9, 25] (fun v i w5 => RelvRel (fun k => walkP xs.length (leadM xs ys) sameP (zs.take k) a) zs.length xs.length (w.heap.size + 1) w2 v i w5) (fun _ i _ => zs.length - (intOf i).toNat)
  case atStart => exact ⟨0, _, _, Nat.zero_le _, rfl, rfl, ho1.mono (Nat.le_refl _) (by omega), Below.refl _ _⟩
  case round =>
    obtain ⟨k, A5, c5, hk5, rfl, rfl, ho5, hb5⟩ := hrel
    simp only at ho5
    have zb5 := hb5.size
    by_cases hlt : k < zs.length
    · obtain ⟨bz, oz, ⟨kd, ag⟩, rfl, f1, f2, _, hzk, hc0, hc1⟩ := AStep.at_ (hZ2.same (Same.of_below hb5 (by omega))) hlt
      simp only at hc0 hc1
      obtain ⟨i, hi8, hs⟩ := HK.out _ (List.mem_of_getElem? hzk)
      rw [hs] at hzk
      have HR := Lib.hid (walk_row (xs := xs) (ys := ys) (a := a) hzk)
      have hkd : kd = (i : Int) + 1 := congrArg Step.kind hs
      have hag : ag = 0 := congrArg Step.age hs
      subst hkd; subst hag
      clear hs hzk
      have lb : bz < wr.heap.size := by omega
      have i3 : (0 : Int) ≤ (k : Int) ∧ (k : Int) < (zs.length : Int) := by omega
      have hW5 := hW2.below hb5 (by omega) (by omega)
      go_wp2_with (go_at_call 103; (with_reducible refine (walkerNext_any g lo hi xs.length (leadK xs ys) A5 c5 (w.heap.size + 1) wr.heap.size i _ _ (hW5.same (by (with_reducible repeat' first | exact Same.refl _ _ _ | assumption | (refine Same.setCell ?_ (by first | omega | (simp; omega) | (simp; done) | (dsimp only; omega)) _) | (refine Same.alloc ?_ (by first | omega | (simp; omega) | (simp; done) | (dsimp only; omega)) _) | (refine Same.drewN ?_ _) | (refine Same.drew ?_))) (by (with_reducible repeat' first | exact Same.refl _ _ _ | assumption | (refine Same.setCell ?_ (by first | omega | (simp; omega) | (simp; done) | (dsimp only; omega)) _) | (refine Same.alloc ?_ (by first | omega | (simp; omega) | (simp; done) | (dsimp only; omega)) _) | (refine Same.drewN ?_ _) | (refine Same.drew ?_)))) (by first | omega | (simp; omega) | (simp; done) | (dsimp only; omega)) (by first | omega | (simp; omega) | (simp; done) | (dsimp only; omega)) (ho5.read.as.same (by (with_reducible repeat' first | exact Same.refl _ _ _ | assumption | (refine Same.setCell ?_ (by first | omega | (simp; omega) | (simp; done) | (dsimp only; omega)) _) | (refine Same.alloc ?_ (by first | omega | (simp; omega) | (simp; done) | (dsimp only; omega)) _) | (refine Same.drewN ?_ _) | (refine Same.drew ?_)))) (by first | omega | (simp; omega) | (simp; done) | (dsimp only; omega)) hi8 hn).mono ?_); rintro e w6 ⟨A6, c6, rfl, ho6, hb6⟩; (obtain ⟨hb6c, hb6f⟩ := bcell hb6); (have hb6z := hb6.size); (try simp only [szs] at hb6c hb6f hb6z))
      refine ⟨⟨k + 1, A6, c6, by omega, by go_num, rfl, ?_, by (with_reducible repeat' first | exact Below.refl _ _ | assumption | (refine Below.setCell ?_ (by first | omega | (simp; omega) | (simp; done) | (dsimp only; omega)) _) | (refine Below.alloc ?_ (by first | omega | (simp; omega) | (simp; done) | (dsimp only; omega)) _) | (refine below_drewN ?_ _) | (refine Below.drew ?_) | (refine Below.trans ?_ (hb6.mono (by first | omega | (simp; omega) | (simp; done) | (dsimp only; omega)))) | (refine Below.trans ?_ (hb5.mono (by first | omega | (simp; omega) | (simp; done) | (dsimp only; omega)))))⟩, by simp [intOf]; omega⟩
      show EBool.OS _ _ _ _ (row1 xs.length (walkP xs.length (leadM xs ys) sameP (zs.take (k + 1)) a))
      rw [HR.out]
      exact (ho6.same (by (with_reducible repeat' first | exact Same.refl _ _ _ | assumption | (refine Same.setCell ?_ (by first | omega | (simp; omega) | (simp; done) | (dsimp only; omega)) _) | (refine Same.alloc ?_ (by first | omega | (simp; omega) | (simp; done) | (dsimp only; omega)) _) | (refine Same.drewN ?_ _) | (refine Same.drew ?_)))).mono (by first | omega | (simp; omega) | (simp; done) | (dsimp only; omega)) (by first | omega | (simp; omega) | (simp; done) | (dsimp only; omega))
    · obtain rfl : k = zs.length := by omega
      rw [List.take_length] at ho5
      obtain ⟨gr, o, rfl, g1, g2, hcb⟩ := row1_read ho5.read.as hb
      have lg : gr < wr.heap.size := by omega
      obtain ⟨res, hres⟩ : ∃ res, walkP xs.length (leadM xs ys) sameP zs a b = res := ⟨_, rfl⟩
      rw [hres] at hcb
      have HRS := Lib.hid hres; clear hres
      go_wp2
      go_ret
      exact ⟨by rw [HRS.out]; rfl, by (with_reducible repeat' first | exact Below.refl _ _ | assumption | (refine Below.setCell ?_ (by first | omega | (simp; omega) | (simp; done) | (dsimp only; omega)) _) | (refine Below.alloc ?_ (by first | omega | (simp; omega) | (simp; done) | (dsimp only; omega)) _) | (refine below_drewN ?_ _) | (refine Below.drew ?_) | (refine Below.trans ?_ (hb5.mono (by first | omega | (simp; omega) | (simp; done) | (dsimp only; omega)))) | (refine Below.trans ?_ (hbw2.mono (by first | omega | (simp; omega) | (simp; done) | (dsimp only; omega)))))⟩
end Go.Proofs.Ytnnjilkjjdiblaa
