/-
  The pairs of a relation, in the program and in the reference.
-/
import Derived.Test.YtmgfpcchlonknaaConvPair
import Derived.Test.YtmgfpcchlonknaaRel5
namespace Go.Proofs.Ytmgfpcchlonknaa
set_option maxRecDepth 100000
open Go.RowKit

/-- A list that grows in a loop. -/
def AccRel {α : Type} (E : Elem α) (P : Nat → List α) (n : Nat) (W : World) (v i : Value) (wr : World) : Prop :=
  ∃ (k : Nat) (A : Option Addr) (c : Nat), k ≤ n ∧ i = .int .i64 k ∧ v = .slice A (P k).length c ∧ E.OS wr W.heap.size wr.heap.size (.slice A (P k).length c) (P k) ∧ Below W.heap.size W wr

theorem tyPairS : SlTy EPair 34 16 := SlTy.mk' Try.underlying34 pair_info rfl (by decide)
theorem rowOk_len {n : Int} {xs : List Int} : ∀ {last : Int}, last < n → rowOk n last xs = true → (xs.length : Int) ≤ n - last - 1 := by
  induction xs with
  | nil => intro last h _; simp; omega
  | cons b r ih =>
    intro last h h1
    rw [rowOk] at h1
    split at h1
    · cases h1
    · have := ih (last := b) (by omega) h1
      simp only [List.length_cons]; omega
theorem rowOk_len' {n : Nat} {xs : List Int} (h : rowOk n (-1) xs = true) : xs.length ≤ n := by
  have := rowOk_len (by omega) h
  omega
def pairsUp (xs : List (List Int)) (k : Nat) : List Pair := (List.range k).flatMap fun (a : Nat) => (xs.getD a []).map (Pair.mk a)
def pairsIn (xs : List (List Int)) (k : Nat) (row : List Int) (j : Nat) : List Pair := pairsUp xs k ++ (row.take j).map (Pair.mk k)
theorem pairsIn_start (xs : List (List Int)) (k : Nat) (row : List Int) : pairsUp xs k = pairsIn xs k row 0 := by simp [pairsIn]
theorem pairsIn_end {xs : List (List Int)} {k : Nat} {row : List Int} (h : xs[k]? = some row) : pairsIn xs k row row.length = pairsUp xs (k + 1) := by
  simp [pairsIn, pairsUp, List.range_succ, List.getD, h]
theorem pairsIn_step {xs : List (List Int)} {k j : Nat} {row : List Int} {x : Int} (h : row[j]? = some x) : pairsIn xs k row (j + 1) = pairsIn xs k row j ++ [⟨k, x⟩] := by
  simp [pairsIn, List.take_add_one, h]
theorem pairsUp_len {xs : List (List Int)} {n : Nat} (h : ∀ x ∈ xs, x.length ≤ n) : ∀ k, (pairsUp xs k).length ≤ k * n := by
  intro k
  induction k with
  | zero => simp [pairsUp]
  | succ k ih =>
    have h1 : (xs.getD k []).length ≤ n := by
      by_cases hk : k < xs.length
      · rw [List.getD_eq_getElem?_getD, List.getElem?_eq_getElem hk]; exact h _ (List.getElem_mem hk)
      · rw [List.getD_eq_getElem?_getD, List.getElem?_eq_none (by omega)]; simp
    simp only [pairsUp, List.range_succ, List.flatMap_append, List.length_append, List.flatMap_cons, List.flatMap_nil, List.append_nil, List.length_map] at ih ⊢
    rw [Nat.succ_mul]; omega
def pairsM (r : Relation) : List Pair := if relOk r = true then pairsUp r.rows r.size.toNat else []
theorem pairsM_in {n : Nat} {xs : List (List Int)} (h : relOk ⟨n, xs⟩ = true) : pairsM ⟨n, xs⟩ = pairsUp xs n := by rw [pairsM, if_pos h]; simp
theorem pairsM_out {r : Relation} (h : relOk r = false) : pairsM r = [] := by rw [pairsM, if_neg (by rw [h]; simp)]
theorem pairsM_len (r : Relation) : (pairsM r).length ≤ 1600 := by
  unfold pairsM; split
  · rename_i h
    obtain ⟨n, hn, hn', hl, hr⟩ := relOk_parts (s := r.size) (xs := r.rows) h
    have := pairsUp_len (fun x hx => rowOk_len' (hr x hx)) r.size.toNat
    have h2 : r.size.toNat * n ≤ 40 * 40 := Nat.mul_le_mul (by omega) hn'
    omega
  · simp
def RetPairS (w : World) (m : List Pair) (e : Ending) (w' : World) : Prop :=
  ∃ (A : Option Addr) (c : Nat), e = .returned (.slice A m.length c) ∧ EPair.OS w' w.heap.size w'.heap.size (.slice A m.length c) m ∧ Below w.heap.size w w'

set_option maxHeartbeats 1000000 in
theorem implPairsOf_any (s : Int) (A : Option Addr) (c lo hi : Nat) (xs : List (List Int)) (w : World) (h : EIntS.AS w lo hi A xs) (hh : hi ≤ w.heap.size) :
    Calls Try.prog 37 #[.agg #[.int .i64 s, .slice A xs.length c]] w (RetPairS w (pairsM ⟨s, xs⟩)) := by
  cases hok : relOk ⟨s, xs⟩ with
  | false =>
    rw [pairsM_out hok]
    have HO := Lib.hid hok; clear hok
    go_enter Try.func37, Try.ntmps37
    go_wp2_with (go_at_call 90; (with_reducible refine (implIsRelation_any s A c lo hi xs _ (h.same (by (with_reducible repeat' first | exact Same.refl _ _ _ | assumption | (refine Same.setCell ?_ (by first | omega | (simp; omega) | (simp; done) | (dsimp only; omega)) _) | (refine Same.alloc ?_ (by first | omega | (simp; omega) | (simp; done) | (dsimp only; omega)) _) | (refine Same.drewN ?_ _) | (refine Same.drew ?_)))) (by first | omega | (simp; omega) | (simp; done) | (dsimp only; omega))).mono ?_); rintro e w1 ⟨rfl, hb1⟩; simp only [HO.out]; (obtain ⟨hb1c, hb1f⟩ := bcell hb1); (have hb1z := hb1.size); (try simp only [szs] at hb1c hb1f hb1z))
    go_ret
    exact ⟨none, 0, rfl, Elem.OS.nil, by (with_reducible repeat' first | exact Below.refl _ _ | assumption | (refine Below.setCell ?_ (by first | omega | (simp; omega) | (simp; done) | (dsimp only; omega)) _) | (refine Below.alloc ?_ (by first | omega | (simp; omega) | (simp; done) | (dsimp only; omega)) _) | (refine below_drewN ?_ _) | (refine Below.drew ?_) | (refine Below.trans ?_ (hb1.mono (by first | omega | (simp; omega) | (simp; done) | (dsimp only; omega)))))⟩
  | true =>
    obtain ⟨n, rfl, hn, hl, hrows⟩ := relOk_parts hok
    rw [pairsM_in hok, show pairsUp xs n = pairsUp xs xs.length from by rw [hl]]
    have HO := Lib.hid hok; clear hok
    have HL := Lib.hid hl; clear hl
    have hup := pairsUp_len (fun x hx => rowOk_len' (hrows x hx))
    go_enter Try.func37, Try.ntmps37
    go_wp2_with (go_at_call 90; (with_reducible refine (implIsRelation_any n A c lo hi xs _ (h.same (by (with_reducible repeat' first | exact Same.refl _ _ _ | assumption | (refine Same.setCell ?_ (by first | omega | (simp; omega) | (simp; done) | (dsimp only; omega)) _) | (refine Same.alloc ?_ (by first | omega | (simp; omega) | (simp; done) | (dsimp only; omega)) _) | (refine Same.drewN ?_ _) | (refine Same.drew ?_)))) (by first | omega | (simp; omega) | (simp; done) | (dsimp only; omega))).mono ?_); rintro e w1 ⟨rfl, hb1⟩; simp only [HO.out]; (obtain ⟨hb1c, hb1f⟩ := bcell hb1); (have hb1z := hb1.size); (try simp only [szs] at hb1c hb1f hb1z); (have lt1 : w.heap.size < w1.heap.size := by omega))
    replace h : EIntS.AS w1 lo hi A xs := h.same (by (with_reducible repeat' first | exact Same.refl _ _ _ | assumption | (refine Same.setCell ?_ (by first | omega | (simp; omega) | (simp; done) | (dsimp only; omega)) _) | (refine Same.alloc ?_ (by first | omega | (simp; omega) | (simp; done) | (dsimp only; omega)) _) | (refine Same.drewN ?_ _) | (refine Same.drew ?_) | (refine Same.trans ?_ (Same.of_below hb1 (by first | omega | (simp; omega) | (simp; done) | (dsimp only; omega))))))
    have hbw : Below w.heap.size w w1 := by (with_reducible repeat' first | exact Below.refl _ _ | assumption | (refine Below.setCell ?_ (by first | omega | (simp; omega) | (simp; done) | (dsimp only; omega)) _) | (refine Below.alloc ?_ (by first | omega | (simp; omega) | (simp; done) | (dsimp only; omega)) _) | (refine below_drewN ?_ _) | (refine Below.drew ?_) | (refine Below.trans ?_ (hb1.mono (by first | omega | (simp; omega) | (simp; done) | (dsimp only; omega)))))
    have hx := h.le
    unfold BIG at hx
    have hxl : xs.length ≤ 40 := by rw [HL.out]; exact hn
    clear hb1 hb1c hb1f
    go_loopw [3, 14] (fun v i wr => AccRel EPair (pairsUp xs) xs.length w1 v i wr) (fun _ i _ => xs.length - (intOf i).toNat)
    case atStart => exact ⟨0, _, _, Nat.zero_le _, rfl, rfl, Elem.OS.nil, by (with_reducible repeat' first | exact Below.refl _ _ | assumption | (refine Below.setCell ?_ (by first | omega | (simp; omega) | (simp; done) | (dsimp only; omega)) _) | (refine Below.alloc ?_ (by first | omega | (simp; omega) | (simp; done) | (dsimp only; omega)) _) | (refine below_drewN ?_ _) | (refine Below.drew ?_))⟩
    case round =>
      obtain ⟨k, A1, c1, hk, rfl, rfl, ho, hb⟩ := hrel
      have hz := hb.size
      by_cases hlt : k < xs.length
      · obtain ⟨b, off, row, B, cx, rfl, _, _, _, hxk, hc0, _, _, hr⟩ := AIntS.at_ h hlt
        have hc := (hb.cell (p := ⟨b, off + k, none⟩) (by simp; omega)).trans hc0
        clear hc0
        have hrl := rowOk_len' (hrows row (List.mem_of_getElem? hxk))
        have hupk := hup k
        have hkn : k * n ≤ 40 * 40 := Nat.mul_le_mul (by omega) hn
        have HXK := Lib.hid hxk; clear hxk
        rw [pairsIn_start xs k row] at ho ⊢
        go_wp2
        obtain ⟨wo, rfl⟩ : ∃ wo : World, wo = wr := ⟨_, rfl⟩
        go_loopw [3, 21] (fun v i w2 => AccRel EPair (pairsIn xs k row) row.length w1 v i w2) (fun _ i _ => row.length - (intOf i).toNat)
        case atStart => exact ⟨0, _, _, Nat.zero_le _, rfl, rfl, ho, hb⟩
        case round =>
          obtain ⟨j, A2, c2, hj, rfl, rfl, ho2, hb2⟩ := hrel
          have hz2 := hb2.size
          by_cases hlt2 : j < row.length
          · obtain ⟨b2, off2, x, rfl, _, _, _, hxj, hc2⟩ := AInt.at_ (hr.same (Same.of_below hb2 (by omega))) hlt2
            have hps := pairsIn_step (xs := xs) (k := k) hxj
            have hpl : (pairsIn xs k row j).length ≤ 1640 := by simp only [pairsIn, List.length_append, List.length_map, List.length_take]; omega
            have HP := Lib.hid hps; clear hps hxj
            go_wp2_with (at_builtin; refine wpList_app1 tyPairS A2 (pairsIn xs k row j) ⟨k, x⟩ [.int .i64 k, .int .i64 x] ⟨wr.heap.size, 0, none⟩ 1 (lo := w1.heap.size) (hi := wr.heap.size) (ho2.same ?q1) rfl ?q2 hz2 rfl _ _ rfl rfl rfl rfl ?q4 ?q5 ?q6 (by decide) (fun A' c' w3 ho1 hg1 hc1 hm1 => ?_))
            try (case q1 => (with_reducible repeat' first | exact Same.refl _ _ _ | assumption | (refine Same.setCell ?_ (by first | omega | (simp; omega) | (simp; done) | (dsimp only; omega)) _) | (refine Same.alloc ?_ (by first | omega | (simp; omega) | (simp; done) | (dsimp only; omega)) _) | (refine Same.drewN ?_ _) | (refine Same.drew ?_)))
            try (case q2 => (first | omega | (simp; omega) | (simp; done) | (dsimp only; omega)))
            try (case q4 => exact cell_row_at _ _ _ _ rfl)
            try (case q5 => first | rfl | (simp; done) | (simp; rfl) | (intro u hu; simp at hu; rcases hu with rfl | rfl <;> rfl))
            try (case q6 => omega)
            refine ⟨⟨j + 1, A', c', by omega, by go_num, by rw [HP.out]; simp, by rw [HP.out]; simpa using ho1, ?_⟩, by simp [intOf]; omega⟩
            exact Below.grown (w := wr.alloc _) (by (with_reducible repeat' first | exact Below.refl _ _ | assumption | (refine Below.setCell ?_ (by first | omega | (simp; omega) | (simp; done) | (dsimp only; omega)) _) | (refine Below.alloc ?_ (by first | omega | (simp; omega) | (simp; done) | (dsimp only; omega)) _) | (refine below_drewN ?_ _) | (refine Below.drew ?_))) hg1 (by simp; omega) (fun k hk => (ho2.blkv k hk).1)
          · obtain rfl : j = row.length := by omega
            rw [pairsIn_end HXK.out] at ho2 ⊢
            go_wp2
            exact ⟨⟨k + 1, A2, c2, by omega, by go_num, rfl, ho2, hb2⟩, by simp [intOf]; omega⟩
      · obtain rfl : k = xs.length := by omega
        go_wp2
        go_ret
        exact ⟨_, _, rfl, ho.mono (by omega) (Nat.le_refl _), by (with_reducible repeat' first | exact Below.refl _ _ | assumption | (refine Below.setCell ?_ (by first | omega | (simp; omega) | (simp; done) | (dsimp only; omega)) _) | (refine Below.alloc ?_ (by first | omega | (simp; omega) | (simp; done) | (dsimp only; omega)) _) | (refine below_drewN ?_ _) | (refine Below.drew ?_) | (refine Below.trans ?_ (hb.mono (by first | omega | (simp; omega) | (simp; done) | (dsimp only; omega)))))⟩

set_option maxHeartbeats 1000000 in
theorem specPairsOf_any (s : Int) (A : Option Addr) (c lo hi : Nat) (xs : List (List Int)) (w : World) (h : EIntS.AS w lo hi A xs) (hh : hi ≤ w.heap.size) :
    Calls Try.prog 36 #[.agg #[.int .i64 s, .slice A xs.length c]] w (RetPairS w (pairsM ⟨s, xs⟩)) := by
  cases hok : relOk ⟨s, xs⟩ with
  | false =>
    rw [pairsM_out hok]
    have HO := Lib.hid hok; clear hok
    go_enter Try.func36, Try.ntmps36
    go_wp2_with (go_at_call 89; (with_reducible refine (specIsRelation_any s A c lo hi xs _ (h.same (by (with_reducible repeat' first | exact Same.refl _ _ _ | assumption | (refine Same.setCell ?_ (by first | omega | (simp; omega) | (simp; done) | (dsimp only; omega)) _) | (refine Same.alloc ?_ (by first | omega | (simp; omega) | (simp; done) | (dsimp only; omega)) _) | (refine Same.drewN ?_ _) | (refine Same.drew ?_)))) (by first | omega | (simp; omega) | (simp; done) | (dsimp only; omega))).mono ?_); rintro e w1 ⟨rfl, hb1⟩; simp only [HO.out]; (obtain ⟨hb1c, hb1f⟩ := bcell hb1); (have hb1z := hb1.size); (try simp only [szs] at hb1c hb1f hb1z))
    go_ret
    exact ⟨none, 0, rfl, Elem.OS.nil, by (with_reducible repeat' first | exact Below.refl _ _ | assumption | (refine Below.setCell ?_ (by first | omega | (simp; omega) | (simp; done) | (dsimp only; omega)) _) | (refine Below.alloc ?_ (by first | omega | (simp; omega) | (simp; done) | (dsimp only; omega)) _) | (refine below_drewN ?_ _) | (refine Below.drew ?_) | (refine Below.trans ?_ (hb1.mono (by first | omega | (simp; omega) | (simp; done) | (dsimp only; omega)))))⟩
  | true =>
    obtain ⟨n, rfl, hn, hl, hrows⟩ := relOk_parts hok
    rw [pairsM_in hok, show pairsUp xs n = pairsUp xs xs.length from by rw [hl]]
    have HO := Lib.hid hok; clear hok
    have HL := Lib.hid hl; clear hl
    have hup := pairsUp_len (fun x hx => rowOk_len' (hrows x hx))
    go_enter Try.func36, Try.ntmps36
    go_wp2_with (go_at_call 89; (with_reducible refine (specIsRelation_any n A c lo hi xs _ (h.same (by (with_reducible repeat' first | exact Same.refl _ _ _ | assumption | (refine Same.setCell ?_ (by first | omega | (simp; omega) | (simp; done) | (dsimp only; omega)) _) | (refine Same.alloc ?_ (by first | omega | (simp; omega) | (simp; done) | (dsimp only; omega)) _) | (refine Same.drewN ?_ _) | (refine Same.drew ?_)))) (by first | omega | (simp; omega) | (simp; done) | (dsimp only; omega))).mono ?_); rintro e w1 ⟨rfl, hb1⟩; simp only [HO.out]; (obtain ⟨hb1c, hb1f⟩ := bcell hb1); (have hb1z := hb1.size); (try simp only [szs] at hb1c hb1f hb1z); (have lt1 : w.heap.size < w1.heap.size := by omega))
    replace h : EIntS.AS w1 lo hi A xs := h.same (by (with_reducible repeat' first | exact Same.refl _ _ _ | assumption | (refine Same.setCell ?_ (by first | omega | (simp; omega) | (simp; done) | (dsimp only; omega)) _) | (refine Same.alloc ?_ (by first | omega | (simp; omega) | (simp; done) | (dsimp only; omega)) _) | (refine Same.drewN ?_ _) | (refine Same.drew ?_) | (refine Same.trans ?_ (Same.of_below hb1 (by first | omega | (simp; omega) | (simp; done) | (dsimp only; omega))))))
    have hbw : Below w.heap.size w w1 := by (with_reducible repeat' first | exact Below.refl _ _ | assumption | (refine Below.setCell ?_ (by first | omega | (simp; omega) | (simp; done) | (dsimp only; omega)) _) | (refine Below.alloc ?_ (by first | omega | (simp; omega) | (simp; done) | (dsimp only; omega)) _) | (refine below_drewN ?_ _) | (refine Below.drew ?_) | (refine Below.trans ?_ (hb1.mono (by first | omega | (simp; omega) | (simp; done) | (dsimp only; omega)))))
    have hx := h.le
    unfold BIG at hx
    have hxl : xs.length ≤ 40 := by rw [HL.out]; exact hn
    clear hb1 hb1c hb1f
    go_loopw [3, 15] (fun v i wr => AccRel EPair (pairsUp xs) xs.length w1 v i wr) (fun _ i _ => xs.length - (intOf i).toNat)
    case atStart => exact ⟨0, _, _, Nat.zero_le _, rfl, rfl, Elem.OS.made0 _, by (with_reducible repeat' first | exact Below.refl _ _ | assumption | (refine Below.setCell ?_ (by first | omega | (simp; omega) | (simp; done) | (dsimp only; omega)) _) | (refine Below.alloc ?_ (by first | omega | (simp; omega) | (simp; done) | (dsimp only; omega)) _) | (refine below_drewN ?_ _) | (refine Below.drew ?_))⟩
    case round =>
      obtain ⟨k, A1, c1, hk, rfl, rfl, ho, hb⟩ := hrel
      have hz := hb.size
      by_cases hlt : k < xs.length
      · obtain ⟨b, off, row, B, cx, rfl, _, _, _, hxk, hc0, _, _, hr⟩ := AIntS.at_ h hlt
        have hc := (hb.cell (p := ⟨b, off + k, none⟩) (by simp; omega)).trans hc0
        clear hc0
        have hrl := rowOk_len' (hrows row (List.mem_of_getElem? hxk))
        have hupk := hup k
        have hkn : k * n ≤ 40 * 40 := Nat.mul_le_mul (by omega) hn
        have HXK := Lib.hid hxk; clear hxk
        rw [pairsIn_start xs k row] at ho ⊢
        go_wp2
        obtain ⟨wo, rfl⟩ : ∃ wo : World, wo = wr := ⟨_, rfl⟩
        go_loopw [3, 22] (fun v i w2 => AccRel EPair (pairsIn xs k row) row.length w1 v i w2) (fun _ i _ => row.length - (intOf i).toNat)
        case atStart => exact ⟨0, _, _, Nat.zero_le _, rfl, rfl, ho, hb⟩
        case round =>
          obtain ⟨j, A2, c2, hj, rfl, rfl, ho2, hb2⟩ := hrel
          have hz2 := hb2.size
          by_cases hlt2 : j < row.length
          · obtain ⟨b2, off2, x, rfl, _, _, _, hxj, hc2⟩ := AInt.at_ (hr.same (Same.of_below hb2 (by omega))) hlt2
            have hps := pairsIn_step (xs := xs) (k := k) hxj
            have hpl : (pairsIn xs k row j).length ≤ 1640 := by simp only [pairsIn, List.length_append, List.length_map, List.length_take]; omega
            have HP := Lib.hid hps; clear hps hxj
            go_wp2_with (at_builtin; refine wpList_app1 tyPairS A2 (pairsIn xs k row j) ⟨k, x⟩ [.int .i64 k, .int .i64 x] ⟨wr.heap.size, 0, none⟩ 1 (lo := w1.heap.size) (hi := wr.heap.size) (ho2.same ?q1) rfl ?q2 hz2 rfl _ _ rfl rfl rfl rfl ?q4 ?q5 ?q6 (by decide) (fun A' c' w3 ho1 hg1 hc1 hm1 => ?_))
            try (case q1 => (with_reducible repeat' first | exact Same.refl _ _ _ | assumption | (refine Same.setCell ?_ (by first | omega | (simp; omega) | (simp; done) | (dsimp only; omega)) _) | (refine Same.alloc ?_ (by first | omega | (simp; omega) | (simp; done) | (dsimp only; omega)) _) | (refine Same.drewN ?_ _) | (refine Same.drew ?_)))
            try (case q2 => (first | omega | (simp; omega) | (simp; done) | (dsimp only; omega)))
            try (case q4 => exact cell_row_at _ _ _ _ rfl)
            try (case q5 => first | rfl | (simp; done) | (simp; rfl) | (intro u hu; simp at hu; rcases hu with rfl | rfl <;> rfl))
            try (case q6 => omega)
            refine ⟨⟨j + 1, A', c', by omega, by go_num, by rw [HP.out]; simp, by rw [HP.out]; simpa using ho1, ?_⟩, by simp [intOf]; omega⟩
            exact Below.grown (w := wr.alloc _) (by (with_reducible repeat' first | exact Below.refl _ _ | assumption | (refine Below.setCell ?_ (by first | omega | (simp; omega) | (simp; done) | (dsimp only; omega)) _) | (refine Below.alloc ?_ (by first | omega | (simp; omega) | (simp; done) | (dsimp only; omega)) _) | (refine below_drewN ?_ _) | (refine Below.drew ?_))) hg1 (by simp; omega) (fun k hk => (ho2.blkv k hk).1)
          · obtain rfl : j = row.length := by omega
            rw [pairsIn_end HXK.out] at ho2 ⊢
            go_wp2
            exact ⟨⟨k + 1, A2, c2, by omega, by go_num, rfl, ho2, hb2⟩, by simp [intOf]; omega⟩
      · obtain rfl : k = xs.length := by omega
        go_wp2
        go_ret
        exact ⟨_, _, rfl, ho.mono (by omega) (Nat.le_refl _), by (with_reducible repeat' first | exact Below.refl _ _ | assumption | (refine Below.setCell ?_ (by first | omega | (simp; omega) | (simp; done) | (dsimp only; omega)) _) | (refine Below.alloc ?_ (by first | omega | (simp; omega) | (simp; done) | (dsimp only; omega)) _) | (refine below_drewN ?_ _) | (refine Below.drew ?_) | (refine Below.trans ?_ (hb.mono (by first | omega | (simp; omega) | (simp; done) | (dsimp only; omega)))))⟩

end Go.Proofs.Ytmgfpcchlonknaa
