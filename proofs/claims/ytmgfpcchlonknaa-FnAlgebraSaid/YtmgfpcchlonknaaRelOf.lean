/-
  The relation of pairs, in the program and in the reference.
-/
import Derived.Test.YtmgfpcchlonknaaPairs
import Derived.Test.YtmgfpcchlonknaaMixS2
import Derived.Test.YtmgfpcchlonknaaBMap
import Derived.Test.YtmgfpcchlonknaaOpen
import Derived.DeepKeys4
namespace Go.Proofs.Ytmgfpcchlonknaa
set_option maxRecDepth 100000
open Go.RowKit Go.Maps

theorem pair_row : (76 : TypeId) < Try.prog.types.size := of_decide_eq_true (by kernel_rfl)
theorem pair_wide : (match Try.prog.underlying 76 with | some (.array _ _) | some (.struct _) => true | _ => false) = true := by kernel_rfl
theorem pair_keyed : Keyed Try.prog 76 := Keyed.of_law (deep_law_laid laidOut (m := 3) (by omega) pair_row (by kernel_rfl) pair_wide)
theorem pair_map : Try.prog.underlying 87 = some (.map 76 4) := by kernel_rfl
theorem pair_keyType : Try.prog.keyType 76 = true := by kernel_rfl
theorem pair_fields : Try.prog.underlying 76 = some (.struct (Try.prog.fieldsOf 76)) := by kernel_rfl
theorem pair_size : ∃ m, Try.prog.types.size = m + 1 := ⟨Try.prog.types.size - 1, (Nat.sub_add_cancel (Nat.lt_of_le_of_lt (Nat.zero_le _) pair_row)).symm⟩
theorem pair_cells : Try.prog.cellsOf 76 = 2 := by kernel_rfl
theorem int_cells : Try.prog.cellsOf 3 = 1 := by kernel_rfl
theorem pair_key {a b : Int} (ha : -9223372036854775808 ≤ a ∧ a ≤ 9223372036854775807) (hb : -9223372036854775808 ≤ b ∧ b ≤ 9223372036854775807) :
    ∃ kl, keyOf Try.prog 76 (.agg #[.int .i64 a, .int .i64 b]) = some kl := by
  obtain ⟨m, hm⟩ := pair_size
  unfold keyOf
  rw [Try.underlying76]
  simp only [pair_keyType, Bool.true_and]
  have wa : (Lit.int .i64 a).wf = true := WalkArith.wf_i64 (by omega)
  have wb : (Lit.int .i64 b).wf = true := WalkArith.wf_i64 (by omega)
  have hf : (Value.agg #[.int .i64 a, .int .i64 b]).formed Try.prog 76 = true := by simp [Value.formed, Try.underlying76, pair_cells]
  rw [if_pos hf, hm]
  simp [Program.keyLits, Try.underlying76, Try.underlying3, pair_cells, int_cells, Value.cells, wa, wb]

def pairOk (n : Int) (p : Pair) : Bool := inB p.a 0 (n - 1) && inB p.b 0 (n - 1)
def hasP (ps : List Pair) : Nat → Nat → Bool := fun a b => decide ((⟨a, b⟩ : Pair) ∈ ps)
def relOfM (n : Int) (ps : List Pair) : Relation × Bool := if 0 ≤ n ∧ n ≤ 40 ∧ ps.all (pairOk n) = true then (⟨n, relM n.toNat (hasP ps)⟩, true) else (zeroRel, false)
theorem relOfM_big {n : Int} {ps : List Pair} (h : ¬ (0 ≤ n ∧ n ≤ 40)) : relOfM n ps = (zeroRel, false) := if_neg fun k => h ⟨k.1, k.2.1⟩
theorem relOfM_bad {n : Int} {ps : List Pair} {p : Pair} (hp : p ∈ ps) (h : pairOk n p = false) : relOfM n ps = (zeroRel, false) := if_neg fun k => by
  have := List.all_eq_true.1 k.2.2 p hp
  rw [h] at this; cases this
theorem relOfM_in {n : Nat} {ps : List Pair} (h : n ≤ 40) (h1 : ps.all (pairOk n) = true) : relOfM n ps = (⟨n, relM n (hasP ps)⟩, true) := by
  rw [relOfM, if_pos ⟨by omega, by omega, h1⟩]; simp
theorem relOfM_tot (n : Int) (ps : List Pair) : tot (relOfM n ps).1.rows ≤ 1600 := by
  unfold relOfM; split
  · exact relM_tot' _ (by omega)
  · simp [zeroRel, tot]
theorem hasP_step {n k : Nat} {ps : List Pair} {a b : Nat} (h : ps[k]? = some ⟨a, b⟩) : mat n (upd (hasP (ps.take k)) a b true) = mat n (hasP (ps.take (k + 1))) :=
  mat_congr fun i j _ _ => by
    unfold upd hasP
    rw [List.take_add_one, h]
    by_cases hij : i = a ∧ j = b
    · obtain ⟨rfl, rfl⟩ := hij; simp
    · rw [if_neg hij]
      simp only [List.mem_append, Option.toList_some, List.mem_singleton, decide_eq_decide]
      constructor
      · exact .inl
      · rintro (h1 | h1)
        · exact h1
        · injection h1 with h1 h2; exact absurd ⟨by omega, by omega⟩ hij
def RetRelB (w : World) (m : Relation × Bool) (e : Ending) (w' : World) : Prop :=
  ∃ (A : Option Addr) (c : Nat), e = .returned (.tuple #[.agg #[.int .i64 m.1.size, .slice A m.1.rows.length c], .bool m.2]) ∧ EIntS.OS w' w.heap.size w'.heap.size (.slice A m.1.rows.length c) m.1.rows ∧ Below w.heap.size w w'
theorem RetRelB.zero {w w' : World} (h : Below w.heap.size w w') : RetRelB w (zeroRel, false) (.returned (.tuple #[.agg #[.int .i64 0, .slice none 0 0], .bool false])) w' := ⟨none, 0, rfl, Elem.OS.nil, h⟩

def PairTab (n : Nat) (ps : List Pair) (lo hi : Nat) (A : Option Addr) (c : Nat) (W : World) (i : Value) (wr : World) : Prop :=
  ∃ k : Nat, k ≤ ps.length ∧ i = .int .i64 k ∧ (ps.take k).all (pairOk n) = true ∧ EBoolS.OS wr lo hi (.slice A n c) (mat n (hasP (ps.take k))) ∧ Chg lo hi W wr ∧ hi ≤ wr.heap.size

set_option maxHeartbeats 2000000 in
theorem specRelationOf_any (n : Int) (A : Option Addr) (c lo hi : Nat) (ps : List Pair) (w : World) (hi0 : -9223372036854775808 ≤ n ∧ n ≤ 9223372036854775807) (h : EPair.AS w lo hi A ps) (hh : hi ≤ w.heap.size) :
    Calls Try.prog 24 #[.int .i64 n, .slice A ps.length c] w (RetRelB w (relOfM n ps)) := by
  by_cases hn : 0 ≤ n ∧ n ≤ 40
  · have I0 := Lib.hid (inB_true hn)
    obtain ⟨hn0, hn1⟩ := hn
    obtain ⟨n, rfl⟩ := Int.eq_ofNat_of_zero_le hn0
    clear hi0 hn0
    have hx := h.le
    unfold BIG at hx
    go_enter Try.func24, Try.ntmps24
    go_wp2_with (first
      | (go_at_call 74; (with_reducible refine (l1In_any _ _ _ _).mono ?_); rintro e w' ⟨rfl, rfl⟩; simp only [I0.out])
      | (go_at_call 75; (with_reducible refine (l2Blank_any n _ (by omega)).mono ?_); rintro e w1 ⟨A1, c1, rfl, ho1, hb1⟩; rw [mat_blank] at ho1; (obtain ⟨hb1c, hb1f⟩ := bcell hb1); (have hb1z := hb1.size); (try simp only [szs] at hb1c hb1f hb1z)))
    replace h : EPair.AS w1 lo hi A ps := h.same (by (with_reducible repeat' first | exact Same.refl _ _ _ | assumption | (refine Same.setCell ?_ (by first | omega | (simp; omega) | (simp; done) | (dsimp only; omega)) _) | (refine Same.alloc ?_ (by first | omega | (simp; omega) | (simp; done) | (dsimp only; omega)) _) | (refine Same.drewN ?_ _) | (refine Same.drew ?_) | (refine Same.trans ?_ (Same.of_below hb1 (by first | omega | (simp; omega) | (simp; done) | (dsimp only; omega))))))
    have r0 : Blk w1 w.heap.size 27 #[.int .i64 0, .slice none 0 0] := (Blk.new _ rfl).below hb1 (by simp)
    have hbw : Below w.heap.size w w1 := by (with_reducible repeat' first | exact Below.refl _ _ | assumption | (refine Below.setCell ?_ (by first | omega | (simp; omega) | (simp; done) | (dsimp only; omega)) _) | (refine Below.alloc ?_ (by first | omega | (simp; omega) | (simp; done) | (dsimp only; omega)) _) | (refine below_drewN ?_ _) | (refine Below.drew ?_) | (refine Below.trans ?_ (hb1.mono (by first | omega | (simp; omega) | (simp; done) | (dsimp only; omega)))))
    have z1 := hb1z
    clear hb1 hb1c hb1f
    simp only [szs] at ho1
    go_loopw [17] (fun i wr => PairTab n ps (w.heap.size + 1) w1.heap.size A1 c1 w1 i wr) (fun i _ => ps.length - (intOf i).toNat)
    case atStart => exact ⟨0, Nat.zero_le _, rfl, rfl, by rw [show mat n (hasP (ps.take 0)) = mat n fun _ _ => false from mat_congr (by simp [hasP])]; exact ho1, Chg.refl _ _ _, Nat.le_refl _⟩
    case round =>
      obtain ⟨k, hk, rfl, hall, ho, hch, hsz⟩ := hrel
      have HA := Lib.hid hall; clear hall
      have hlw := r0.lt
      have r1 := r0.chg hch (.inl (by omega))
      have hbr := hbw.trans (hch.below (by omega) (by omega))
      have lr1 := r1.lt
      have q0 := r1.cell (i := 0) rfl; have q1 := r1.cell (i := 1) rfl; have f0 := r1.free 0; have f1 := r1.free 1
      by_cases hlt : k < ps.length
      · obtain ⟨b, off, p, rfl, hp1, hp2, _, hpk, hc1, hc2⟩ := APair.at_ (h.same (Same.of_chg hch (by omega) (.inl (by omega)))) hlt
        obtain ⟨x, y⟩ := p
        simp only at hc1 hc2
        have hmem := List.mem_of_getElem? hpk
        have HK := Lib.hid hpk; clear hpk
        by_cases hxa : 0 ≤ x ∧ x ≤ (n : Int) - 1
        · have IX := Lib.hid (inB_true hxa)
          by_cases hya : 0 ≤ y ∧ y ≤ (n : Int) - 1
          · have IY := Lib.hid (inB_true hya)
            obtain ⟨x, rfl⟩ := Int.eq_ofNat_of_zero_le hxa.1
            obtain ⟨y, rfl⟩ := Int.eq_ofNat_of_zero_le hya.1
            have hxn : x < n := by omega
            have hyn : y < n := by omega
            clear hxa hya
            have HT := Lib.hid (show (ps.take (k + 1)).all (pairOk n) = true by rw [List.take_add_one, HK.out, List.all_append, HA.out]; simp [pairOk, IX.out, IY.out])
            obtain ⟨g, r, cc, cc', hv, g1, g2, r1', r2', k1, k2, k3, k4, hset⟩ := mat_own ho hsz hxn hyn
            injection hv with hv _ hcc
            subst hv
            clear hcc
            have lg : g < wr.heap.size := by omega
            have lrr : r < wr.heap.size := by omega
            have i1 : (0 : Int) ≤ (x : Int) ∧ (x : Int) < (n : Int) := by omega
            have i2 : (0 : Int) ≤ (y : Int) ∧ (y : Int) < (n : Int) := by omega
            go_wp2_with (go_at_call 74; (with_reducible refine (l1In_any _ _ _ _).mono ?_); rintro e w' ⟨rfl, rfl⟩; simp only [IX.out, IY.out])
            go_region
            go_wp2
            exact ⟨⟨k + 1, by omega, by go_num, HT.out, by rw [← hasP_step HK.out]; exact (hset true).same (by (with_reducible repeat' first | exact Same.refl _ _ _ | assumption | (refine Same.setCell ?_ (by first | omega | (simp; omega) | (simp; done) | (dsimp only; omega)) _) | (refine Same.alloc ?_ (by first | omega | (simp; omega) | (simp; done) | (dsimp only; omega)) _) | (refine Same.drewN ?_ _) | (refine Same.drew ?_))), ((hch.setCell ⟨r1', r2'⟩ _).alloc _).drew, by simpa [World.setCell] using Nat.le_succ_of_le hsz⟩, by simp [intOf]; omega⟩
          · have IY := Lib.hid (inB_false hya)
            go_wp2_with (go_at_call 74; (with_reducible refine (l1In_any _ _ _ _).mono ?_); rintro e w' ⟨rfl, rfl⟩; simp only [IX.out, IY.out])
            have HB := Lib.hid (show pairOk n ⟨x, y⟩ = false by simp [pairOk, IY.out])
            have R := ((r1.set 0 (.int .i64 0)).set 1 (.slice none 0 0)).alloc (.cells #[.int .i64 x, .int .i64 y] 76)
            exact bodyPost_ret (v := .tuple #[.agg #[.int .i64 0, .slice none 0 0], .bool false]) (by simp [results, Try.results24, go_sem, R.cell (i := 0) rfl, R.cell (i := 1) rfl]) rfl (relOfM_bad (n := n) hmem HB.out ▸ RetRelB.zero (by (with_reducible repeat' first | exact Below.refl _ _ | assumption | (refine Below.setCell ?_ (by first | omega | (simp; omega) | (simp; done) | (dsimp only; omega)) _) | (refine Below.alloc ?_ (by first | omega | (simp; omega) | (simp; done) | (dsimp only; omega)) _) | (refine below_drewN ?_ _) | (refine Below.drew ?_) | (refine Below.trans ?_ (hbr.mono (by first | omega | (simp; omega) | (simp; done) | (dsimp only; omega)))))))
        · have IX := Lib.hid (inB_false hxa)
          go_wp2_with (go_at_call 74; (with_reducible refine (l1In_any _ _ _ _).mono ?_); rintro e w' ⟨rfl, rfl⟩; simp only [IX.out])
          have HB := Lib.hid (show pairOk n ⟨x, y⟩ = false by simp [pairOk, IX.out])
          have R := ((r1.set 0 (.int .i64 0)).set 1 (.slice none 0 0)).alloc (.cells #[.int .i64 x, .int .i64 y] 76)
          exact bodyPost_ret (v := .tuple #[.agg #[.int .i64 0, .slice none 0 0], .bool false]) (by simp [results, Try.results24, go_sem, R.cell (i := 0) rfl, R.cell (i := 1) rfl]) rfl (relOfM_bad (n := n) hmem HB.out ▸ RetRelB.zero (by (with_reducible repeat' first | exact Below.refl _ _ | assumption | (refine Below.setCell ?_ (by first | omega | (simp; omega) | (simp; done) | (dsimp only; omega)) _) | (refine Below.alloc ?_ (by first | omega | (simp; omega) | (simp; done) | (dsimp only; omega)) _) | (refine below_drewN ?_ _) | (refine Below.drew ?_) | (refine Below.trans ?_ (hbr.mono (by first | omega | (simp; omega) | (simp; done) | (dsimp only; omega)))))))
      · obtain rfl : k = ps.length := by omega
        rw [List.take_length] at HA ho
        clear h
        go_wp2_with fail
        have hl := Lib.hid (mat_len n (hasP ps))
        rw [← hl.out]
        refine (l2Of_any A1 c1 _ _ (mat n (hasP ps)) wr ho.read.as hsz (by rw [hl.out]; omega) (fun r hr => Nat.le_trans (mat_row r hr) (by omega))).mono ?_
        rw [hl.out]
        rintro e w6 ⟨A6, c6, rfl, ho6, hb6⟩
        rw [ofM_mat] at ho6
        have hz6 := hb6.size
        have r6 := r1.below hb6 lr1
        have lr6 := r6.lt
        have q0 := r6.cell (i := 0) rfl
        have q1 := r6.cell (i := 1) rfl
        have f0 := r6.free 0
        have f1 := r6.free 1
        have R := (r6.set 0 (.int .i64 n)).set 1 (.slice A6 n c6)
        go_wp2_with fail
        refine bodyPost_ret (v := .tuple #[.agg #[.int .i64 n, .slice A6 n c6], .bool true]) (by simp [results, Try.results24, go_sem, R.cell (i := 0) rfl, R.cell (i := 1) rfl]) rfl ?_
        rw [relOfM_in (by omega) HA.out]
        exact ⟨A6, c6, by simp only [relM_len], by simpa only [relM_len] using (ho6.same (by (with_reducible repeat' first | exact Same.refl _ _ _ | assumption | (refine Same.setCell ?_ (by first | omega | (simp; omega) | (simp; done) | (dsimp only; omega)) _) | (refine Same.alloc ?_ (by first | omega | (simp; omega) | (simp; done) | (dsimp only; omega)) _) | (refine Same.drewN ?_ _) | (refine Same.drew ?_)))).mono (by first | omega | (simp; omega) | (simp; done) | (dsimp only; omega)) (by first | omega | (simp; omega) | (simp; done) | (dsimp only; omega)), by (with_reducible repeat' first | exact Below.refl _ _ | assumption | (refine Below.setCell ?_ (by first | omega | (simp; omega) | (simp; done) | (dsimp only; omega)) _) | (refine Below.alloc ?_ (by first | omega | (simp; omega) | (simp; done) | (dsimp only; omega)) _) | (refine below_drewN ?_ _) | (refine Below.drew ?_) | (refine Below.trans ?_ (hb6.mono (by first | omega | (simp; omega) | (simp; done) | (dsimp only; omega)))) | (refine Below.trans ?_ (hbr.mono (by first | omega | (simp; omega) | (simp; done) | (dsimp only; omega)))))⟩
  · have I0 := Lib.hid (inB_false hn)
    rw [relOfM_big hn]
    go_enter Try.func24, Try.ntmps24
    go_wp2_with (go_at_call 74; (with_reducible refine (l1In_any _ _ _ _).mono ?_); rintro e w' ⟨rfl, rfl⟩; simp only [I0.out])
    exact bodyPost_ret (v := .tuple #[.agg #[.int .i64 0, .slice none 0 0], .bool false]) (by simp [results, Try.results24, go_sem]) rfl (RetRelB.zero (by (with_reducible repeat' first | exact Below.refl _ _ | assumption | (refine Below.setCell ?_ (by first | omega | (simp; omega) | (simp; done) | (dsimp only; omega)) _) | (refine Below.alloc ?_ (by first | omega | (simp; omega) | (simp; done) | (dsimp only; omega)) _) | (refine below_drewN ?_ _) | (refine Below.drew ?_))))

theorem ruleRelOf (W : World) (n b1 bm m : Nat) (ps : List Pair) (S : Lit → Bool) (hn : n ≤ 40)
    (c1 : W.cell? ⟨b1, 0, none⟩ = some (.map (some bm))) (hs : BSet W 76 bm m S) (hS : ∀ (a b : Nat) kl, a < n → b < n → keyOf Try.prog 76 (.agg #[.int .i64 a, .int .i64 b]) = some kl → S kl = hasP ps a b) (l1 : b1 < W.heap.size) :
    Rule2 W n 0 W.heap.size 79 #[] #[.pointer (some ⟨b1, 0, none⟩)] (hasP ps) where
  enter := fun args w' => by kernel_rfl
  ans := fun a b w' ha hb hw => by
    have d1 := (hw.cell (p := ⟨b1, 0, none⟩) (Nat.zero_le _) l1).trans c1
    obtain ⟨kl, hk⟩ := pair_key (a := a) (b := b) (by omega) (by omega)
    have hlook := (hs.same hw (Nat.zero_le _) hs.lt).look pair_keyed pair_map hk
    rw [hS a b kl ha hb hk] at hlook
    go_enter Try.func79, Try.ntmps79
    go_wp2
    go_ret
    exact ⟨rfl, Below.refl _ _⟩

theorem hasP_succ {k : Nat} {ps : List Pair} {x y : Nat} (h : ps[k]? = some ⟨x, y⟩) (a b : Nat) : hasP (ps.take (k + 1)) a b = (decide (a = x ∧ b = y) || hasP (ps.take k) a b) := by
  unfold hasP
  rw [List.take_add_one, h, Bool.eq_iff_iff]
  simp only [List.mem_append, Option.toList_some, List.mem_singleton, decide_eq_true_eq, Bool.or_eq_true, Pair.mk.injEq]
  constructor
  · rintro (h | ⟨h1, h2⟩)
    · exact .inr h
    · exact .inl ⟨by omega, by omega⟩
  · rintro (⟨rfl, rfl⟩ | h)
    · exact .inr ⟨rfl, rfl⟩
    · exact .inl h
theorem pair_lit {a b x y : Int} {k l : Lit} (h1 : keyOf Try.prog 76 (.agg #[.int .i64 a, .int .i64 b]) = some k) (h2 : keyOf Try.prog 76 (.agg #[.int .i64 x, .int .i64 y]) = some l) : k.sameKey l = decide (a = x ∧ b = y) := by
  rw [Bool.eq_iff_iff, sameKey_iff (pair_keyed.key h2), decide_eq_true_eq]
  constructor
  · rintro rfl
    have := pair_keyed.inj h1 h2
    simp at this
    exact this
  · rintro ⟨rfl, rfl⟩
    rw [h1] at h2
    injection h2

def SetRel (n : Int) (ps : List Pair) (bm : Nat) (w : World) (i : Value) (wr : World) : Prop :=
  ∃ (k : Nat) (S : Lit → Bool), k ≤ ps.length ∧ i = .int .i64 k ∧ (ps.take k).all (pairOk n) = true ∧ BSet wr 76 bm k S ∧
    (∀ (a b : Nat) kl, a < n → b < n → keyOf Try.prog 76 (.agg #[.int .i64 a, .int .i64 b]) = some kl → S kl = hasP (ps.take k) a b) ∧ Chg bm (bm + 1) w wr

set_option maxHeartbeats 2000000 in
theorem implRelationOf_any (n : Int) (A : Option Addr) (c lo hi : Nat) (ps : List Pair) (w : World) (hi0 : -9223372036854775808 ≤ n ∧ n ≤ 9223372036854775807) (h : EPair.AS w lo hi A ps) (hh : hi ≤ w.heap.size) :
    Calls Try.prog 26 #[.int .i64 n, .slice A ps.length c] w (RetRelB w (relOfM n ps)) := by
  by_cases hn : 0 ≤ n ∧ n ≤ 40
  · obtain ⟨hn0, hn1⟩ := hn
    obtain ⟨n, rfl⟩ := Int.eq_ofNat_of_zero_le hn0
    clear hi0 hn0
    have hx := h.le
    unfold BIG at hx
    have hmm := @run_makeMap Try.prog
    go_enter Try.func26, Try.ntmps26
    go_wp2
    generalize hW : ((w.alloc (.cells #[.int .i64 0, .slice none 0 0] 27)).alloc (.map #[] 0)).alloc (.cells #[.map (some (w.heap.size + 1))] 87) = W0
    have r0 : Blk W0 w.heap.size 27 #[.int .i64 0, .slice none 0 0] := by subst hW; exact (((Blk.new w rfl).alloc _).alloc _)
    have hbx : Blk W0 (w.heap.size + 1 + 1) 87 #[.map (some (w.heap.size + 1))] := by subst hW; exact Blk.new _ (by simp)
    have hs0 : BSet W0 76 (w.heap.size + 1) 0 fun _ => false := by subst hW; simpa using (BSet.made (w.alloc (.cells #[.int .i64 0, .slice none 0 0] 27)) 76).alloc (.cells #[.map (some (w.heap.size + 1))] 87)
    have hbw : Below w.heap.size w W0 := by subst hW; (with_reducible repeat' first | exact Below.refl _ _ | assumption | (refine Below.setCell ?_ (by first | omega | (simp; omega) | (simp; done) | (dsimp only; omega)) _) | (refine Below.alloc ?_ (by first | omega | (simp; omega) | (simp; done) | (dsimp only; omega)) _) | (refine below_drewN ?_ _) | (refine Below.drew ?_))
    have z0 : w.heap.size + 1 + 1 + 1 ≤ W0.heap.size := by subst hW; simp
    clear hW hmm
    replace h := h.same (Same.of_below hbw hh)
    go_loopw [19] (fun i wr => SetRel n ps (w.heap.size + 1) W0 i wr) (fun i _ => ps.length - (intOf i).toNat)
    case atStart => exact ⟨0, _, Nat.zero_le _, rfl, rfl, hs0, fun a b kl _ _ _ => by simp [hasP], Chg.refl _ _ _⟩
    case round =>
      obtain ⟨k, S, hk, rfl, hall, hs, hS, hch⟩ := hrel
      have HA := Lib.hid hall; clear hall
      have zc := hch.size
      have r1 := r0.chg hch (.inl (by omega))
      have b1 := hbx.chg hch (.inr (by omega))
      have hbr := hbw.trans (hch.below (B := w.heap.size) (by omega) (by omega))
      have lr1 := r1.lt
      have lb1 := b1.lt
      have ls1 := hs.lt
      have q0 := r1.cell (i := 0) rfl; have q1 := r1.cell (i := 1) rfl; have f0 := r1.free 0; have f1 := r1.free 1
      have qb := b1.cell (i := 0) rfl
      by_cases hlt : k < ps.length
      · obtain ⟨b, off, p, rfl, hp1, hp2, _, hpk, hc1, hc2⟩ := APair.at_ (h.same (Same.of_chg hch (by omega) (.inl (by omega)))) hlt
        obtain ⟨x, y⟩ := p
        simp only at hc1 hc2
        have hmem := List.mem_of_getElem? hpk
        have HK := Lib.hid hpk; clear hpk
        have hB0 : (0 ≤ x ∧ x < (n : Int) ∧ 0 ≤ y ∧ y < (n : Int)) ∨ pairOk n ⟨x, y⟩ = false := by
          by_cases hok : 0 ≤ x ∧ x < (n : Int) ∧ 0 ≤ y ∧ y < (n : Int)
          · exact .inl hok
          · refine .inr ?_
            simp only [pairOk, inB]
            rw [Bool.eq_false_iff]
            simp only [ne_eq, Bool.and_eq_true, decide_eq_true_eq]
            all_goals omega
        have HB := Lib.hid hB0; clear hB0
        rcases (by omega : x < 0 ∨ (0 ≤ x ∧ (n : Int) ≤ x) ∨ (0 ≤ x ∧ x < (n : Int) ∧ y < 0) ∨ (0 ≤ x ∧ x < (n : Int) ∧ 0 ≤ y ∧ (n : Int) ≤ y) ∨ (0 ≤ x ∧ x < (n : Int) ∧ 0 ≤ y ∧ y < (n : Int))) with c0 | ⟨c0, c1⟩ | ⟨c0, c1, c2⟩ | ⟨c0, c1, c2, c3⟩ | ⟨c0, c1, c2, c3⟩
        iterate 4
          · have HN := Lib.hid (show pairOk n ⟨x, y⟩ = false by rcases HB.out with ⟨_, _, _, _⟩ | h2 <;> first | exact h2 | omega)
            go_wp2
            have R := ((r1.set 0 (.int .i64 0)).set 1 (.slice none 0 0)).alloc (.cells #[.int .i64 x, .int .i64 y] 76)
            exact bodyPost_ret (v := .tuple #[.agg #[.int .i64 0, .slice none 0 0], .bool false]) (by simp [results, Try.results26, go_sem, R.cell (i := 0) rfl, R.cell (i := 1) rfl]) rfl (relOfM_bad (n := n) hmem HN.out ▸ RetRelB.zero (by (with_reducible repeat' first | exact Below.refl _ _ | assumption | (refine Below.setCell ?_ (by first | omega | (simp; omega) | (simp; done) | (dsimp only; omega)) _) | (refine Below.alloc ?_ (by first | omega | (simp; omega) | (simp; done) | (dsimp only; omega)) _) | (refine below_drewN ?_ _) | (refine Below.drew ?_) | (refine Below.trans ?_ (hbr.mono (by first | omega | (simp; omega) | (simp; done) | (dsimp only; omega)))))))
        · obtain ⟨x, rfl⟩ := Int.eq_ofNat_of_zero_le c0
          obtain ⟨y, rfl⟩ := Int.eq_ofNat_of_zero_le c2
          obtain ⟨kl, hkl⟩ := pair_key (a := x) (b := y) (by omega) (by omega)
          have HT := Lib.hid (show (ps.take (k + 1)).all (pairOk n) = true by rw [List.take_add_one, HK.out, List.all_append, HA.out]; simp [pairOk, inB]; omega)
          go_wp2_with (at_mapUpdate; refine wpList_put_set rfl _ _ _ _ rfl 76 pair_keyed pair_map (w.heap.size + 1) k S rfl (hs.alloc _) (by unfold maxLen; omega) _ kl rfl rfl hkl ?_; intro w1 hs1 hg1)
          refine ⟨⟨k + 1, _, by omega, by go_num, HT.out, hs1, fun a b kl' ha hb hkl' => ?_, (hch.alloc _).trans (Chg.of_grown hg1 fun j hj => by cases hj; omega)⟩, by simp [intOf]; omega⟩
          rw [hasP_succ HK.out, hS a b kl' ha hb hkl', pair_lit hkl' hkl]
          congr 1
          rw [decide_eq_decide]; omega
      · obtain rfl : k = ps.length := by omega
        rw [List.take_length] at HA hS
        clear h
        go_wp2_with (go_at_call 78; refine (related_any _ #[] _ n 0 wr.heap.size _ wr (by omega) (ruleRelOf wr n (w.heap.size + 1 + 1) (w.heap.size + 1) _ ps S (by omega) qb hs (fun a b kl ha hb hk => hS a b kl (by omega) (by omega) hk) lb1) (Nat.le_refl _)).mono ?_; rintro e w6 ⟨A6, c6, rfl, ho6, hb6⟩; (have hz6 := hb6.size); (have r6 := r1.below hb6 lr1); (have lr6 := r6.lt); (have g0 := r6.cell (i := 0) rfl); (have g1 := r6.cell (i := 1) rfl); (have e0 := r6.free 0); (have e1 := r6.free 1))
        have R := (r6.set 0 (.int .i64 n)).set 1 (.slice A6 n c6)
        refine bodyPost_ret (v := .tuple #[.agg #[.int .i64 n, .slice A6 n c6], .bool true]) (by simp [results, Try.results26, go_sem, R.cell (i := 0) rfl, R.cell (i := 1) rfl]) rfl ?_
        rw [relOfM_in (by omega) HA.out]
        exact ⟨A6, c6, by simp only [relM_len], by simpa only [relM_len] using (ho6.same (by (with_reducible repeat' first | exact Same.refl _ _ _ | assumption | (refine Same.setCell ?_ (by first | omega | (simp; omega) | (simp; done) | (dsimp only; omega)) _) | (refine Same.alloc ?_ (by first | omega | (simp; omega) | (simp; done) | (dsimp only; omega)) _) | (refine Same.drewN ?_ _) | (refine Same.drew ?_)))).mono (by first | omega | (simp; omega) | (simp; done) | (dsimp only; omega)) (by first | omega | (simp; omega) | (simp; done) | (dsimp only; omega)), by (with_reducible repeat' first | exact Below.refl _ _ | assumption | (refine Below.setCell ?_ (by first | omega | (simp; omega) | (simp; done) | (dsimp only; omega)) _) | (refine Below.alloc ?_ (by first | omega | (simp; omega) | (simp; done) | (dsimp only; omega)) _) | (refine below_drewN ?_ _) | (refine Below.drew ?_) | (refine Below.trans ?_ (hb6.mono (by first | omega | (simp; omega) | (simp; done) | (dsimp only; omega)))) | (refine Below.trans ?_ (hbr.mono (by first | omega | (simp; omega) | (simp; done) | (dsimp only; omega)))))⟩
  · rw [relOfM_big hn]
    go_enter Try.func26, Try.ntmps26
    go_wp2
    all_goals exact bodyPost_ret (v := .tuple #[.agg #[.int .i64 0, .slice none 0 0], .bool false]) (by simp [results, Try.results26, go_sem]) rfl (RetRelB.zero (by (with_reducible repeat' first | exact Below.refl _ _ | assumption | (refine Below.setCell ?_ (by first | omega | (simp; omega) | (simp; done) | (dsimp only; omega)) _) | (refine Below.alloc ?_ (by first | omega | (simp; omega) | (simp; done) | (dsimp only; omega)) _) | (refine below_drewN ?_ _) | (refine Below.drew ?_))))
end Go.Proofs.Ytmgfpcchlonknaa
