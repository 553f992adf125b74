/-
  Where a kin type leads from one person, in the reference.
-/
import Derived.Test.YtnnjilkjjdiblaaVLeadS
import Derived.Test.YtnnjilkjjdiblaaVGLead
import Derived.Test.YtnnjilkjjdiblaaVGRel
import Derived.Deep.Cut
import Derived.Deep.DeepCutAuto
namespace Go.Proofs.Ytnnjilkjjdiblaa
set_option maxRecDepth 100000
open Go.RowKit

def row1 (n : Nat) (q : Nat → Bool) : List Bool := (List.range n).map q
def upd1 (q : Nat → Bool) (b : Nat) (x : Bool) : Nat → Bool := fun j => if j = b then x else q j
theorem row1_len (n : Nat) (q : Nat → Bool) : (row1 n q).length = n := by simp [row1]
theorem row1_congr {n : Nat} {q q' : Nat → Bool} (h : ∀ b, b < n → q b = q' b) : row1 n q = row1 n q' := List.map_congr_left fun b hb => h b (List.mem_range.1 hb)
theorem row1_blank (n : Nat) : List.replicate n false = row1 n fun _ => false := by
  apply List.ext_getElem <;> simp [row1]
theorem row1_upd {n b : Nat} {q : Nat → Bool} {x : Bool} : (row1 n q).set b x = row1 n (upd1 q b x) := by
  apply List.ext_getElem
  · simp [row1]
  · intro i h1 h2
    simp only [row1, List.getElem_set, List.getElem_map, List.getElem_range, upd1]
    by_cases hb : b = i
    · rw [if_pos hb, if_pos hb.symm]
    · rw [if_neg hb, if_neg (fun e => hb e.symm)]
theorem row1_at {n b : Nat} {q : Nat → Bool} (hb : b < n) : (row1 n q)[b]? = some (q b) := by simp [row1, hb]
theorem row1_own {w : World} {lo hi n b : Nat} {v : Value} {q : Nat → Bool} (h : EBool.OS w lo hi v (row1 n q)) (hb : b < n) : ∃ g c, v = .slice (some ⟨g, 0, none⟩) n c ∧ lo ≤ g ∧ g < hi ∧
    w.cell? ⟨g, b, none⟩ = some (.bool (q b)) ∧ w.frozen? ⟨g, b, none⟩ = false ∧ ∀ x : Bool, EBool.OS (w.setCell ⟨g, b, none⟩ (.bool x)) lo hi v (row1 n (upd1 q b x)) := by
  have ho := EBool_os.1 h
  rw [row1_len] at ho
  obtain ⟨g, c, rfl, g1, g2, g3⟩ := ho.form (by omega)
  have hrow : ((row1 n q).flatMap fun b => [Value.bool b])[b]? = some (.bool (q b)) := by rw [bools_map]; simp [row1, hb]
  obtain ⟨k1, k2⟩ := ho.cell hrow
  refine ⟨g, c, rfl, g1, g2, k1, k2, fun x => ?_⟩
  refine EBool_os.2 ?_
  have h3 := ho.set (j := b) (u := .bool x) (by rw [bools_len, row1_len]; exact hb)
  rw [bools_map, ← List.map_set, row1_upd, ← bools_map] at h3
  rw [row1_len]
  exact h3
theorem row1_read {w : World} {lo hi n b : Nat} {A : Option Addr} {q : Nat → Bool} (h : EBool.AS w lo hi A (row1 n q)) (hb : b < n) : ∃ g o, A = some ⟨g, o, none⟩ ∧ lo ≤ g ∧ g < hi ∧ w.cell? ⟨g, o + b, none⟩ = some (.bool (q b)) := by
  obtain ⟨g, o, y, cs, rfl, h1, h2, _, hy, rfl, hc⟩ := h.at_ (k := b) (by rw [row1_len]; exact hb)
  rw [row1_at hb] at hy
  injection hy with hy
  subst hy
  have hc3 := hc 0 _ rfl
  simp only [EBool, Elem.flat, Nat.mul_one, Nat.add_zero] at hc3
  exact ⟨g, o, rfl, h1, h2, hc3⟩

def reachP (n : Nat) (q : Nat → Bool) (L : Nat → Nat → Bool) : Nat → Bool := fun c => (List.range n).any fun b => q b && L b c
def reachB (q : Nat → Bool) (L : Nat → Nat → Bool) (t : Nat → Bool) (a : Nat) : Nat → (Nat → Bool)
  | 0 => t
  | b + 1 => if (q a && L a b) = true then upd1 (reachB q L t a b) b true else reachB q L t a b
def reachA (q : Nat → Bool) (L : Nat → Nat → Bool) (n : Nat) : Nat → (Nat → Bool)
  | 0 => fun _ => false
  | a + 1 => reachB q L (reachA q L n a) a n
theorem reachB_at (q : Nat → Bool) (L : Nat → Nat → Bool) (t : Nat → Bool) (a j : Nat) : ∀ b, reachB q L t a b j = (t j || (decide (j < b) && (q a && L a j))) := by
  intro b
  induction b with
  | zero => simp [reachB]
  | succ b ih =>
    unfold reachB
    by_cases h : (q a && L a b) = true
    · rw [if_pos h]
      unfold upd1
      by_cases hj : j = b
      · subst hj; rw [if_pos rfl, h]; simp
      · rw [if_neg hj, ih]
        congr 2
        rw [decide_eq_decide]; omega
    · rw [if_neg h, ih]
      by_cases hj : j = b
      · subst hj
        have h' : (q a && L a j) = false := by simpa using h
        rw [h']; simp
      · congr 2
        rw [decide_eq_decide]; omega
theorem reachA_at (q : Nat → Bool) (L : Nat → Nat → Bool) (n j : Nat) (hj : j < n) : ∀ a, reachA q L n a j = (List.range a).any fun b => q b && L b j := by
  intro a
  induction a with
  | zero => rfl
  | succ a ih =>
    show reachB q L _ a n j = _
    rw [reachB_at, ih, List.range_succ, List.any_append]
    simp [hj]
theorem reach_end (q : Nat → Bool) (L : Nat → Nat → Bool) (n : Nat) : row1 n (reachA q L n n) = row1 n (reachP n q L) := row1_congr fun j hj => reachA_at q L n j hj n

def MarkTab (P : Nat → Nat → Bool) (n lo hi : Nat) (A : Option Addr) (c : Nat) (W : World) (i : Value) (wr : World) : Prop :=
  ∃ k : Nat, k ≤ n ∧ i = .int .i64 k ∧ EBool.OS wr lo hi (.slice A n c) (row1 n (P k)) ∧ Chg lo hi W wr ∧ hi ≤ wr.heap.size

set_option maxHeartbeats 2000000 in
theorem l3Listed_any (A : Option Addr) (c lo hi n : Nat) (q : Nat → Bool) (w : World) (h : EBool.AS w lo hi A (row1 n q)) (hh : hi ≤ w.heap.size) (hn : n ≤ 40) :
    Calls Try.prog 108 #[.slice A n c] w (RetIntS w (idxTo q n)) := by
  go_enter Try.func108, Try.ntmps108
  go_wp2
  go_loopw [3, 9] (fun v i w2 => IdxRel q n w v i w2) (fun _ i _ => n - (intOf i).toNat)
  case atStart => exact ⟨0, _, _, Nat.zero_le _, rfl, rfl, Elem.OS.made0 w, by (with_reducible repeat' first | exact Below.refl _ _ | assumption | (refine Below.setCell ?_ (by first | omega | (simp; omega) | (simp; done) | (dsimp only; omega)) _) | (refine Below.alloc ?_ (by first | omega | (simp; omega) | (simp; done) | (dsimp only; omega)) _) | (refine below_drewN ?_ _) | (refine Below.drew ?_))⟩
  case round =>
    obtain ⟨j, A2, c2, hj, rfl, rfl, ho2, hb2⟩ := hrel
    have hz2 := hb2.size
    have hs := idxTo_succ q j
    have hlen := idxTo_len q j
    by_cases hlt2 : j < n
    · obtain ⟨b2, off2, rfl, f1, f2, hc3⟩ := row1_read (h.same (Same.of_below hb2 (by omega))) hlt2
      have lb2 : b2 < wr.heap.size := by omega
      cases hy : q j with
      | false =>
        rw [hy] at hs hc3
        have HS := Lib.hid hs; clear hs hy
        go_wp2
        exact ⟨⟨j + 1, A2, c2, by omega, by go_num, by rw [HS.out]; rfl, by rw [HS.out]; exact ho2, hb2⟩, by simp [intOf]; omega⟩
      | true =>
        rw [hy] at hs hc3
        have HS := Lib.hid hs; clear hs hy
        go_wp2_with (at_builtin; refine wpList_app1 tyIntS A2 (idxTo q j) (j : Int) [.int .i64 j] ⟨wr.heap.size, 0, none⟩ 1 (lo := w.heap.size) (hi := wr.heap.size) (ho2.same ?q1) rfl ?q2 hz2 rfl _ _ rfl rfl rfl rfl ?q4 ?q5 ?q6 (by decide) (fun A' c' w1 ho1 hg1 hc1 hm1 => ?_))
        try (case q1 => (with_reducible repeat' first | exact Same.refl _ _ _ | assumption | (refine Same.setCell ?_ (by first | omega | (simp; omega) | (simp; done) | (dsimp only; omega)) _) | (refine Same.alloc ?_ (by first | omega | (simp; omega) | (simp; done) | (dsimp only; omega)) _) | (refine Same.drewN ?_ _) | (refine Same.drew ?_)))
        try (case q2 => (first | omega | (simp; omega) | (simp; done) | (dsimp only; omega)))
        try (case q4 => exact cell_one_at _ _ _ _ rfl)
        try (case q5 => first | rfl | (simp; done) | (simp; rfl))
        try (case q6 => omega)
        refine ⟨⟨j + 1, A', c', by omega, by go_num, by rw [HS.out]; simp, by rw [HS.out]; simpa using ho1, ?_⟩, by simp [intOf]; omega⟩
        exact Below.grown (w := wr.alloc _) (by (with_reducible repeat' first | exact Below.refl _ _ | assumption | (refine Below.setCell ?_ (by first | omega | (simp; omega) | (simp; done) | (dsimp only; omega)) _) | (refine Below.alloc ?_ (by first | omega | (simp; omega) | (simp; done) | (dsimp only; omega)) _) | (refine below_drewN ?_ _) | (refine Below.drew ?_) | (refine Below.trans ?_ (hb2.mono (by first | omega | (simp; omega) | (simp; done) | (dsimp only; omega)))))) hg1 (by simp; omega) (fun k hk => (ho2.blkv k hk).1)
    · obtain rfl : j = n := by omega
      go_wp2
      go_ret
      exact ⟨A2, c2, rfl, ho2, hb2⟩

set_option maxHeartbeats 4000000 in
theorem l3Reach_any (A B : Option Addr) (c d lo hi : Nat) (xs : List Person) (ys : List Union) (kd ag : Int) (C : Option Addr) (e lo' hi' : Nat) (q : Nat → Bool) (w : World) (h : EPerson.AS w lo hi A xs) (h' : EUnion.AS w lo hi B ys) (hh : hi ≤ w.heap.size) (h'' : EBool.AS w lo' hi' C (row1 xs.length q)) (hh' : hi' ≤ w.heap.size) (hk : 1 ≤ kd ∧ kd ≤ 8) (hn : xs.length ≤ 40) :
    Calls Try.prog 107 #[.agg #[.slice A xs.length c, .slice B ys.length d], .slice C xs.length e, .agg #[.int .i64 kd, .int .i64 ag]] w fun e' w' => ∃ A' c', e' = .returned (.slice A' xs.length c') ∧ EBool.OS w' w.heap.size w'.heap.size (.slice A' xs.length c') (row1 xs.length (reachP xs.length q (leadM xs ys ⟨kd, ag⟩))) ∧ Below w.heap.size w w' := by
  rw [← reach_end]
  have hHX := Lib.hid h; have hHY := Lib.hid h'; have hHZ := Lib.hid h''
  obtain ⟨i0, hi0, hz0, hz1, hz2⟩ := info_parts bool_info
  have hmk := run_mk (P := Try.prog) 112 4 i0 _ 1 1 Try.underlying112 hi0 hz0 hz1 hz2 xs.length (by omega) (by unfold BIG; omega)
  clear hi0 hz0 hz1 hz2 h h' h''
  go_enter Try.func107, Try.ntmps107
  go_wp2
  have ho0 := made_one xs.length ((w.alloc (.cells #[.slice A xs.length c, .slice B ys.length d] 26)).alloc (.cells #[.int .i64 kd, .int .i64 ag] 72)) hn
  simp only [szs] at ho0
  generalize hW : (((w.alloc (.cells #[.slice A xs.length c, .slice B ys.length d] 26)).alloc (.cells #[.int .i64 kd, .int .i64 ag] 72)).alloc (.cells (madeCells #[Value.bool false] xs.length) 4)) = w1 at ho0 ⊢
  have E0 : w1.cell? ⟨w.heap.size, 0, none⟩ = some (.slice A xs.length c) := by subst hW; simp [go_sem]
  have E1 : w1.cell? ⟨w.heap.size, 1, none⟩ = some (.slice B ys.length d) := by subst hW; simp [go_sem]
  have S0 : w1.cell? ⟨w.heap.size + 1, 0, none⟩ = some (.int .i64 kd) := by subst hW; simp [go_sem]
  have S1 : w1.cell? ⟨w.heap.size + 1, 1, none⟩ = some (.int .i64 ag) := by subst hW; simp [go_sem]
  have hbw : Below w.heap.size w w1 := by subst hW; (with_reducible repeat' first | exact Below.refl _ _ | assumption | (refine Below.setCell ?_ (by first | omega | (simp; omega) | (simp; done) | (dsimp only; omega)) _) | (refine Below.alloc ?_ (by first | omega | (simp; omega) | (simp; done) | (dsimp only; omega)) _) | (refine below_drewN ?_ _) | (refine Below.drew ?_))
  have z1 : w.heap.size + 1 + 1 + 1 ≤ w1.heap.size := by subst hW; simp
  clear hW hmk
  have hX1 := hHX.out.same (Same.of_below hbw hh)
  have hY1 := hHY.out.same (Same.of_below hbw hh)
  have hZ1 := hHZ.out.same (Same.of_below hbw hh')
  rw [row1_blank] at ho0
  go_loopw [16] (fun i wr => MarkTab (reachA q (leadM xs ys ⟨kd, ag⟩) xs.length) xs.length (w.heap.size + 1 + 1) (w.heap.size + 1 + 1 + 1) (some ⟨w.heap.size + 1 + 1, 0, none⟩) xs.length w1 i wr) (fun i _ => xs.length - (intOf i).toNat)
  case atStart => exact ⟨0, Nat.zero_le _, rfl, ho0, Chg.refl _ _ _, z1⟩
  case round =>
    obtain ⟨a, ha, rfl, ho, hch, hsz⟩ := hrel
    by_cases hla : a < xs.length
    · obtain ⟨m1, mo, rfl, j1, j2, hqa⟩ := row1_read (hZ1.same (Same.of_chg hch (by omega) (.inl (by omega)))) hla
      have lm : m1 < wr.heap.size := by have := hch.size; omega
      go_wp2
      obtain ⟨wo, rfl⟩ : ∃ wo : World, wo = wr := ⟨_, rfl⟩
      go_loopw [23] (fun i w2 => MarkTab (reachB q (leadM xs ys ⟨kd, ag⟩) (reachA q (leadM xs ys ⟨kd, ag⟩) xs.length a) a) xs.length (w.heap.size + 1 + 1) (w.heap.size + 1 + 1 + 1) (some ⟨w.heap.size + 1 + 1, 0, none⟩) xs.length w1 i w2) (fun i _ => xs.length - (intOf i).toNat)
      case atStart => exact ⟨0, Nat.zero_le _, rfl, ho, hch, hsz⟩
      case round =>
        obtain ⟨b, hb, rfl, ho2, hch2, hsz2⟩ := hrel
        have zc2 := hch2.size
        by_cases hlb : b < xs.length
        · obtain ⟨g, cc, hv, g1, g2, k1, k2, hset⟩ := row1_own ho2 hlb
          injection hv with hv _ hcc
          injection hv with hv
          injection hv with hv _ _
          subst hv
          subst hcc
          have hX := hX1.same (Same.of_chg hch2 (by omega) (.inl (by omega)))
          have hY := hY1.same (Same.of_chg hch2 (by omega) (.inl (by omega)))
          have e0 := (hch2.cell (p := ⟨w.heap.size, 0, none⟩) (by simp; omega) (.inl (by simp; omega))).trans E0
          have e1 := (hch2.cell (p := ⟨w.heap.size, 1, none⟩) (by simp; omega) (.inl (by simp; omega))).trans E1
          have s0 := (hch2.cell (p := ⟨w.heap.size + 1, 0, none⟩) (by simp; omega) (.inl (by simp))).trans S0
          have s1 := (hch2.cell (p := ⟨w.heap.size + 1, 1, none⟩) (by simp; omega) (.inl (by simp))).trans S1
          have lw0 : w.heap.size < wr.heap.size := by omega
          have lw1 : w.heap.size + 1 < wr.heap.size := by omega
          have lw2 : w.heap.size + 1 + 1 < wr.heap.size := by omega
          have i2 : (0 : Int) ≤ (b : Int) ∧ (b : Int) < (xs.length : Int) := by omega
          obtain ⟨yv, k1⟩ : ∃ yv, wr.cell? ⟨w.heap.size + 1 + 1, b, none⟩ = some (.bool yv) := ⟨_, k1⟩
          clear hset
          have HS0 := Lib.hid (show reachB q (leadM xs ys ⟨kd, ag⟩) (reachA q (leadM xs ys ⟨kd, ag⟩) xs.length a) a (b + 1) = if (q a && leadM xs ys ⟨kd, ag⟩ a b) = true then upd1 (reachB q (leadM xs ys ⟨kd, ag⟩) (reachA q (leadM xs ys ⟨kd, ag⟩) xs.length a) a b) b true else reachB q (leadM xs ys ⟨kd, ag⟩) (reachA q (leadM xs ys ⟨kd, ag⟩) xs.length a) a b from rfl)
          cases hqv : q a with
          | false =>
            have HQ := Lib.hid hqv
            rw [hqv] at hqa
            clear hqv
            go_wp2_with fail
            exact ⟨⟨b + 1, by omega, by go_num, by rw [HS0.out, HQ.out]; exact ho2, hch2, hsz2⟩, by simp [intOf]; omega⟩
          | true =>
            have HQ := Lib.hid hqv
            rw [hqv] at hqa
            clear hqv
            cases hlv : leadM xs ys ⟨kd, ag⟩ a b with
            | false =>
              have HL := Lib.hid hlv; clear hlv
              go_wp2_with (go_at_call 182; (with_reducible refine (l3Leads_any _ _ _ _ lo hi xs ys kd ag a b _ (hX.same (by (with_reducible repeat' first | exact Same.refl _ _ _ | assumption | (refine Same.setCell ?_ (by first | omega | (simp; omega) | (simp; done) | (dsimp only; omega)) _) | (refine Same.alloc ?_ (by first | omega | (simp; omega) | (simp; done) | (dsimp only; omega)) _) | (refine Same.drewN ?_ _) | (refine Same.drew ?_)))) (hY.same (by (with_reducible repeat' first | exact Same.refl _ _ _ | assumption | (refine Same.setCell ?_ (by first | omega | (simp; omega) | (simp; done) | (dsimp only; omega)) _) | (refine Same.alloc ?_ (by first | omega | (simp; omega) | (simp; done) | (dsimp only; omega)) _) | (refine Same.drewN ?_ _) | (refine Same.drew ?_)))) (by first | omega | (simp; omega) | (simp; done) | (dsimp only; omega)) hla hlb hk).mono ?_); rintro e w3 ⟨rfl, hb3⟩; simp only [HL.out]; (obtain ⟨hb3c, hb3f⟩ := bcell hb3); (have hb3z := hb3.size); (try simp only [szs] at hb3c hb3f hb3z); (have lg3 : w.heap.size + 1 + 1 < w3.heap.size := by omega))
              exact ⟨⟨b + 1, by omega, by go_num, by rw [HS0.out, HQ.out, HL.out]; exact ho2.same (Same.of_below hb3 hsz2), hch2.trans (Chg.of_below hb3), Nat.le_trans hsz2 hb3.size⟩, by simp [intOf]; omega⟩
            | true =>
              have HL := Lib.hid hlv; clear hlv
              go_wp2_with (go_at_call 182; (with_reducible refine (l3Leads_any _ _ _ _ lo hi xs ys kd ag a b _ (hX.same (by (with_reducible repeat' first | exact Same.refl _ _ _ | assumption | (refine Same.setCell ?_ (by first | omega | (simp; omega) | (simp; done) | (dsimp only; omega)) _) | (refine Same.alloc ?_ (by first | omega | (simp; omega) | (simp; done) | (dsimp only; omega)) _) | (refine Same.drewN ?_ _) | (refine Same.drew ?_)))) (hY.same (by (with_reducible repeat' first | exact Same.refl _ _ _ | assumption | (refine Same.setCell ?_ (by first | omega | (simp; omega) | (simp; done) | (dsimp only; omega)) _) | (refine Same.alloc ?_ (by first | omega | (simp; omega) | (simp; done) | (dsimp only; omega)) _) | (refine Same.drewN ?_ _) | (refine Same.drew ?_)))) (by first | omega | (simp; omega) | (simp; done) | (dsimp only; omega)) hla hlb hk).mono ?_); rintro e w3 ⟨rfl, hb3⟩; simp only [HL.out]; (obtain ⟨hb3c, hb3f⟩ := bcell hb3); (have hb3z := hb3.size); (try simp only [szs] at hb3c hb3f hb3z); (have lg3 : w.heap.size + 1 + 1 < w3.heap.size := by omega))
              have ho3 := ho2.same (Same.of_below hb3 hsz2)
              obtain ⟨g', cc', hv', _, _, _, _, hset⟩ := row1_own ho3 hlb
              injection hv' with hv' _ hcc'
              injection hv' with hv'
              injection hv' with hv' _ _
              subst hv'
              subst hcc'
              exact ⟨⟨b + 1, by omega, by go_num, by rw [HS0.out, HQ.out, HL.out]; exact hset true, (hch2.trans (Chg.of_below hb3)).setCell ⟨Nat.le_refl _, Nat.lt_succ_self _⟩ _, by simpa [World.setCell] using Nat.le_trans hsz2 hb3.size⟩, by simp [intOf]; omega⟩
        · obtain rfl : b = xs.length := by omega
          go_wp2
          exact ⟨⟨a + 1, by omega, by go_num, ho2, hch2, hsz2⟩, by simp [intOf]; omega⟩
    · obtain rfl : a = xs.length := by omega
      go_wp2
      go_ret
      exact ⟨_, _, rfl, ho.mono (by omega) hsz, hbw.trans (hch.below (by omega) (by omega))⟩
end Go.Proofs.Ytnnjilkjjdiblaa
