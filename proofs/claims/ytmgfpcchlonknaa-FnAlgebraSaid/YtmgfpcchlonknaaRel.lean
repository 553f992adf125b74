/-
  Relations: validity, in the reference and in the program; membership in a row.
-/
import Derived.Test.YtmgfpcchlonknaaGrid
import Derived.Test.YtmgfpcchlonknaaSmall
namespace Go.Proofs.Ytmgfpcchlonknaa
set_option maxRecDepth 100000
open Go.RowKit

def rowOk (n : Int) : Int → List Int → Bool
  | _, [] => true
  | last, b :: r => if b ≤ last ∨ n ≤ b then false else rowOk n b r
theorem rowOk_no {n last last0 b : Int} {xs r : List Int} {k : Nat} (he : rowOk n last (xs.drop k) = rowOk n last0 xs) (h1 : xs.drop k = b :: r) (h : b ≤ last ∨ n ≤ b) : rowOk n last0 xs = false := by
  rw [← he, h1, rowOk, if_pos h]
theorem rowOk_yes {n last last0 b : Int} {xs r : List Int} {k : Nat} (he : rowOk n last (xs.drop k) = rowOk n last0 xs) (h1 : xs.drop k = b :: r) (h : last < b) (h' : b < n) : rowOk n b r = rowOk n last0 xs := by
  rw [← he, h1, rowOk, if_neg (by omega)]
theorem rowOk_end {n last last0 : Int} {xs : List Int} {k : Nat} (he : rowOk n last (xs.drop k) = rowOk n last0 xs) (h1 : xs.length ≤ k) : rowOk n last0 xs = true := by
  rw [← he, List.drop_eq_nil_of_le h1]; rfl
def rowsOk (n : Int) : List (List Int) → Bool
  | [] => true
  | x :: r => rowOk n (-1) x && rowsOk n r
theorem rowsOk_no {n : Int} {xs r : List (List Int)} {x : List Int} {k : Nat} (he : rowsOk n (xs.drop k) = rowsOk n xs) (h1 : xs.drop k = x :: r) (h : rowOk n (-1) x = false) : rowsOk n xs = false := by
  rw [← he, h1, rowsOk, h]; rfl
theorem rowsOk_yes {n : Int} {xs r : List (List Int)} {x : List Int} {k : Nat} (he : rowsOk n (xs.drop k) = rowsOk n xs) (h1 : xs.drop k = x :: r) (h : rowOk n (-1) x = true) : rowsOk n r = rowsOk n xs := by
  rw [← he, h1, rowsOk, h]; rfl
theorem rowsOk_end {n : Int} {xs : List (List Int)} {k : Nat} (he : rowsOk n (xs.drop k) = rowsOk n xs) (h1 : xs.length ≤ k) : rowsOk n xs = true := by
  rw [← he, List.drop_eq_nil_of_le h1]; rfl
def relOk (r : Relation) : Bool := decide (0 ≤ r.size ∧ r.size ≤ 40 ∧ (r.rows.length : Int) = r.size) && rowsOk r.size r.rows

theorem relOk_no {s : Int} {xs : List (List Int)} (h : ¬ (0 ≤ s ∧ s ≤ 40 ∧ (xs.length : Int) = s)) : false = relOk ⟨s, xs⟩ := by
  simp only [relOk, h, decide_false, Bool.false_and]
def RowRel (m : Int) (xs : List Int) (l i : Value) : Prop :=
  ∃ (k : Nat) (last : Int), k ≤ xs.length ∧ i = .int .i64 k ∧ l = .int .i64 last ∧ rowOk m last (xs.drop k) = rowOk m (-1) xs
theorem l2Row_any (A : Option Addr) (c lo hi : Nat) (xs : List Int) (m : Int) (w : World) (h : EInt.AS w lo hi A xs) :
    Calls Try.prog 126 #[.slice A xs.length c, .int .i64 m] w fun e w' => e = .returned (.bool (rowOk m (-1) xs)) ∧ w = w' := by
  have hx := h.le
  unfold BIG at hx
  go_enter Try.func126, Try.ntmps126
  go_wp2
  go_loop [5, 10] (fun l i => RowRel m xs l i) (fun _ i => xs.length - (intOf i).toNat)
  case atStart => exact ⟨0, -1, Nat.zero_le _, rfl, rfl, rfl⟩
  case round =>
    obtain ⟨k, last, hk, rfl, rfl, he⟩ := hrel
    have HE := Lib.hid he; clear he
    by_cases hlt : k < xs.length
    · obtain ⟨b, off, x, rfl, _, _, hd, hxk, hck⟩ := AInt.at_ h hlt
      have HD := Lib.hid hd; clear hd hxk
      by_cases hc : x ≤ last ∨ m ≤ x
      · have HC := Lib.hid hc
        go_wp2
        all_goals (go_ret; exact ⟨ret_bool (rowOk_no HE.out HD.out HC.out).symm, rfl⟩)
      · have h1 : last < x := by omega
        have h2 : x < m := by omega
        clear hc
        go_wp2
        exact ⟨⟨k + 1, x, by omega, by go_num, rfl, rowOk_yes HE.out HD.out h1 h2⟩, by simp [intOf]; omega⟩
    · go_wp2
      go_ret
      exact ⟨ret_bool (rowOk_end HE.out (by omega)).symm, rfl⟩

def RowsRel (n : Int) (xs : List (List Int)) (i : Value) (w wr : World) : Prop := ∃ k : Nat, k ≤ xs.length ∧ i = .int .i64 k ∧ w = wr ∧ rowsOk n (xs.drop k) = rowsOk n xs
theorem specIsRelation_any (s : Int) (A : Option Addr) (c lo hi : Nat) (xs : List (List Int)) (w : World) (h : EIntS.AS w lo hi A xs) (hh : hi ≤ w.heap.size) :
    Calls Try.prog 89 #[.agg #[.int .i64 s, .slice A xs.length c]] w fun e w' => e = .returned (.bool (relOk ⟨s, xs⟩)) ∧ Below w.heap.size w w' := by
  have hx := h.le
  unfold BIG at hx
  by_cases h0 : 0 ≤ s ∧ s ≤ 40
  · by_cases h1 : (xs.length : Int) = s
    · have HI := Lib.hid (inB_true h0)
      have hb : ((xs.length : Int) != s) = false := by simp [h1]
      have H1 := Lib.hid h1; clear h1
      go_enter Try.func89, Try.ntmps89
      go_wp2_with (go_at_call 74; refine (l1In_any _ _ _ _).mono ?_; rintro e w' ⟨rfl, rfl⟩; simp only [HI.out])
      generalize hW : w.alloc (.cells #[.int .i64 s, .slice A xs.length c] 27) = W
      have a0 : W.cell? ⟨w.heap.size, 0, none⟩ = some (.int .i64 s) := by subst hW; simp [go_sem]
      have hbw : Below w.heap.size w W := by subst hW; (with_reducible repeat' first | exact Below.refl _ _ | assumption | (refine Below.setCell ?_ (by first | omega | (simp; omega) | (simp; done) | (dsimp only; omega)) _) | (refine Below.alloc ?_ (by first | omega | (simp; omega) | (simp; done) | (dsimp only; omega)) _) | (refine below_drewN ?_ _) | (refine Below.drew ?_))
      clear hW
      go_loopw [20] (fun i wr => RowsRel s xs i W wr) (fun i _ => xs.length - (intOf i).toNat)
      case atStart => exact ⟨0, Nat.zero_le _, rfl, rfl, rfl⟩
      case round =>
        obtain ⟨k, hk, rfl, rfl, he⟩ := hrel
        have HE := Lib.hid he; clear he
        by_cases hlt : k < xs.length
        · obtain ⟨b, off, x, B, cx, rfl, _, _, hd, hxk, hc, _, _, hr⟩ := AIntS.at_ (h.same (Same.of_below hbw hh)) hlt
          have HD := Lib.hid hd; clear hd hxk
          cases hok : rowOk s (-1) x with
          | false =>
            have HO := Lib.hid hok; clear hok
            go_wp2_with (go_at_call 126; refine (l2Row_any _ _ _ _ _ _ _ hr).mono ?_; rintro e w1 ⟨rfl, rfl⟩; simp only [HO.out])
            go_ret
            exact ⟨ret_bool (by have := rowsOk_no HE.out HD.out HO.out; simp [relOk, this]), hbw⟩
          | true =>
            have HO := Lib.hid hok; clear hok
            go_wp2_with (go_at_call 126; refine (l2Row_any _ _ _ _ _ _ _ hr).mono ?_; rintro e w1 ⟨rfl, rfl⟩; simp only [HO.out])
            exact ⟨⟨k + 1, by omega, by go_num, rfl, rowsOk_yes HE.out HD.out HO.out⟩, by simp [intOf]; omega⟩
        · go_wp2
          go_ret
          exact ⟨ret_bool (by have e1 := rowsOk_end HE.out (by omega); have e2 := H1.out; rw [relOk, e1, Bool.and_true]; simp only; symm; rw [decide_eq_true_eq]; omega), hbw⟩
    · have HI := Lib.hid (inB_true h0)
      have hb : ((xs.length : Int) != s) = true := by simpa using h1
      go_enter Try.func89, Try.ntmps89
      go_wp2_with (go_at_call 74; refine (l1In_any _ _ _ _).mono ?_; rintro e w' ⟨rfl, rfl⟩; simp only [HI.out])
      all_goals (go_ret; exact ⟨ret_bool (relOk_no (by omega)), by (with_reducible repeat' first | exact Below.refl _ _ | assumption | (refine Below.setCell ?_ (by first | omega | (simp; omega) | (simp; done) | (dsimp only; omega)) _) | (refine Below.alloc ?_ (by first | omega | (simp; omega) | (simp; done) | (dsimp only; omega)) _) | (refine below_drewN ?_ _) | (refine Below.drew ?_))⟩)
  · have HI := Lib.hid (inB_false h0)
    go_enter Try.func89, Try.ntmps89
    go_wp2_with (go_at_call 74; refine (l1In_any _ _ _ _).mono ?_; rintro e w' ⟨rfl, rfl⟩; simp only [HI.out])
    all_goals (go_ret; exact ⟨ret_bool (relOk_no (by omega)), by (with_reducible repeat' first | exact Below.refl _ _ | assumption | (refine Below.setCell ?_ (by first | omega | (simp; omega) | (simp; done) | (dsimp only; omega)) _) | (refine Below.alloc ?_ (by first | omega | (simp; omega) | (simp; done) | (dsimp only; omega)) _) | (refine below_drewN ?_ _) | (refine Below.drew ?_))⟩)

/-- Before the k-th of a row stands -1 or the number before. -/
def lastOf (xs : List Int) (k : Nat) : Int := if k = 0 then -1 else xs.getD (k - 1) 0
def RowRel2 (m : Int) (xs : List Int) (i : Value) (w wr : World) : Prop :=
  ∃ (k : Nat), k ≤ xs.length ∧ i = .int .i64 k ∧ w = wr ∧ -1 ≤ lastOf xs k ∧ rowOk m (lastOf xs k) (xs.drop k) = rowOk m (-1) xs
set_option maxHeartbeats 1000000 in
theorem implIsRelation_any (s : Int) (A : Option Addr) (c lo hi : Nat) (xs : List (List Int)) (w : World) (h : EIntS.AS w lo hi A xs) (hh : hi ≤ w.heap.size) :
    Calls Try.prog 90 #[.agg #[.int .i64 s, .slice A xs.length c]] w fun e w' => e = .returned (.bool (relOk ⟨s, xs⟩)) ∧ Below w.heap.size w w' := by
  have hx := h.le
  unfold BIG at hx
  by_cases h0 : 0 ≤ s ∧ s ≤ 40 ∧ (xs.length : Int) = s
  · obtain ⟨g1, g2, h1⟩ := h0
    have hb : ((xs.length : Int) != s) = false := by simp [h1]
    have H1 := Lib.hid h1; clear h1
    go_enter Try.func90, Try.ntmps90
    go_wp2
    generalize hW : w.alloc (.cells #[.int .i64 s, .slice A xs.length c] 27) = W
    have a0 : W.cell? ⟨w.heap.size, 0, none⟩ = some (.int .i64 s) := by subst hW; simp [go_sem]
    have hbw : Below w.heap.size w W := by subst hW; (with_reducible repeat' first | exact Below.refl _ _ | assumption | (refine Below.setCell ?_ (by first | omega | (simp; omega) | (simp; done) | (dsimp only; omega)) _) | (refine Below.alloc ?_ (by first | omega | (simp; omega) | (simp; done) | (dsimp only; omega)) _) | (refine below_drewN ?_ _) | (refine Below.drew ?_))
    clear hW
    go_loopw [26] (fun i wr => RowsRel s xs i W wr) (fun i _ => xs.length - (intOf i).toNat)
    case atStart => exact ⟨0, Nat.zero_le _, rfl, rfl, rfl⟩
    case round =>
      obtain ⟨k, hk, rfl, rfl, he⟩ := hrel
      have HE := Lib.hid he; clear he
      by_cases hlt : k < xs.length
      · obtain ⟨b, off, x, B, cx, rfl, _, _, hd, hxk, hc, _, _, hr⟩ := AIntS.at_ (h.same (Same.of_below hbw hh)) hlt
        have HD := Lib.hid hd; clear hd hxk
        have hxx := hr.le
        unfold BIG at hxx
        go_wp2
        go_loopw [32] (fun i wr => RowRel2 s x i W wr) (fun i _ => x.length - (intOf i).toNat)
        case atStart => exact ⟨0, Nat.zero_le _, rfl, rfl, by simp [lastOf], by simp [lastOf]⟩
        case round =>
          obtain ⟨j, hj, rfl, rfl, hlast, he2⟩ := hrel
          have HE2 := Lib.hid he2; clear he2
          by_cases hlt2 : j < x.length
          · obtain ⟨b2, off2, y, rfl, _, _, hd2, hyk, hc2⟩ := AInt.at_ hr hlt2
            have HD2 := Lib.hid hd2; clear hd2
            have hl2 : lastOf x (j + 1) = y := by simp [lastOf, List.getD, hyk]
            have HL2 := Lib.hid hl2
            clear hyk hl2
            have fin : ∀ (v : Bool), rowOk s (-1) x = false → relOk ⟨s, xs⟩ = false := fun _ hf => by have := rowsOk_no HE.out HD.out hf; simp [relOk, this]
            cases j with
            | zero =>
              simp only [lastOf, if_true] at HE2 hlast
              simp only [Nat.add_zero] at hc2
              by_cases hbad : y ≤ -1 ∨ s ≤ y
              · have HB := Lib.hid hbad
                go_wp2
                all_goals (go_ret; exact ⟨ret_bool (fin true (rowOk_no HE2.out HD2.out HB.out)).symm, hbw⟩)
              · have q1 : 0 ≤ y := by omega
                have q2 : y < s := by omega
                clear hbad
                go_wp2
                refine ⟨⟨1, by omega, rfl, rfl, ?_, ?_⟩, by simp [intOf]; omega⟩
                · rw [HL2.out]; omega
                · rw [HL2.out]; exact rowOk_yes HE2.out HD2.out (by omega) q2
            | succ i =>
              obtain ⟨b3, off3, z, e3, _, _, _, hzk, hc3⟩ := AInt.at_ hr (by omega : i < x.length)
              injection e3 with e3
              injection e3 with e3 e4
              subst e3; subst e4
              have hl1 : lastOf x (i + 1) = z := by simp [lastOf, List.getD, hzk]
              rw [hl1] at HE2 hlast
              clear hzk hl1
              by_cases hbad : y ≤ z ∨ s ≤ y
              · have HB := Lib.hid hbad
                go_wp2
                all_goals (go_ret; exact ⟨ret_bool (fin true (rowOk_no HE2.out HD2.out HB.out)).symm, hbw⟩)
              · have q1 : z < y := by omega
                have q2 : y < s := by omega
                have q3 : 0 ≤ y := by omega
                clear hbad
                go_wp2
                refine ⟨⟨i + 1 + 1, by omega, by go_num, rfl, ?_, ?_⟩, by simp [intOf]; omega⟩
                · rw [HL2.out]; omega
                · rw [HL2.out]; exact rowOk_yes HE2.out HD2.out q1 q2
          · have hok := rowOk_end HE2.out (by omega)
            have HO := Lib.hid hok; clear hok
            go_wp2
            exact ⟨⟨k + 1, by omega, by go_num, rfl, rowsOk_yes HE.out HD.out HO.out⟩, by simp [intOf]; omega⟩
      · go_wp2
        go_ret
        exact ⟨ret_bool (by have e1 := rowsOk_end HE.out (by omega); have e2 := H1.out; rw [relOk, e1, Bool.and_true]; simp only; symm; rw [decide_eq_true_eq]; omega), hbw⟩
  · by_cases h1 : 0 ≤ s ∧ s ≤ 40
    · obtain ⟨g1, g2⟩ := h1
      have hb : ((xs.length : Int) != s) = true := bne_iff_ne.2 (by omega)
      go_enter Try.func90, Try.ntmps90
      go_wp2
      go_ret; exact ⟨ret_bool (relOk_no (by omega)), by (with_reducible repeat' first | exact Below.refl _ _ | assumption | (refine Below.setCell ?_ (by first | omega | (simp; omega) | (simp; done) | (dsimp only; omega)) _) | (refine Below.alloc ?_ (by first | omega | (simp; omega) | (simp; done) | (dsimp only; omega)) _) | (refine below_drewN ?_ _) | (refine Below.drew ?_))⟩
    · go_enter Try.func90, Try.ntmps90
      go_wp2
      all_goals (go_ret; exact ⟨ret_bool (relOk_no (by omega)), by (with_reducible repeat' first | exact Below.refl _ _ | assumption | (refine Below.setCell ?_ (by first | omega | (simp; omega) | (simp; done) | (dsimp only; omega)) _) | (refine Below.alloc ?_ (by first | omega | (simp; omega) | (simp; done) | (dsimp only; omega)) _) | (refine below_drewN ?_ _) | (refine Below.drew ?_))⟩)

/-! ### Membership, equality of rows -/
def hasB (xs : List Int) (n : Int) : Bool := decide (n ∈ xs)
theorem hasB_cons (x n : Int) (r : List Int) : hasB (x :: r) n = (x == n || hasB r n) := by
  rw [Bool.eq_iff_iff]; simp only [hasB, List.mem_cons, decide_eq_true_eq, Bool.or_eq_true, beq_iff_eq]
  exact ⟨fun h => h.imp_left Eq.symm, fun h => h.imp_left Eq.symm⟩
def HasRel (xs : List Int) (n : Int) (i : Value) (w wr : World) : Prop := ∃ k : Nat, k ≤ xs.length ∧ i = .int .i64 k ∧ w = wr ∧ hasB (xs.drop k) n = hasB xs n
theorem hasInt_any (A : Option Addr) (c lo hi : Nat) (xs : List Int) (n : Int) (w : World) (h : EInt.AS w lo hi A xs) :
    Calls Try.prog 72 #[.slice A xs.length c, .int .i64 n] w fun e w' => e = .returned (.bool (hasB xs n)) ∧ w = w' := by
  have hx := h.le
  unfold BIG at hx
  go_enter Try.func72, Try.ntmps72
  go_wp2
  go_loopw [9] (fun i wr => HasRel xs n i w wr) (fun i _ => xs.length - (intOf i).toNat)
  case atStart => exact ⟨0, Nat.zero_le _, rfl, rfl, rfl⟩
  case round =>
    obtain ⟨k, hk, rfl, rfl, he⟩ := hrel
    have HE := Lib.hid he; clear he
    by_cases hlt : k < xs.length
    · obtain ⟨b, off, x, rfl, _, _, hd, hxk, hc⟩ := AInt.at_ h hlt
      have HD := Lib.hid hd; clear hd hxk
      go_wp2
      · have hxn : (x == n) = true := by assumption
        go_ret
        exact ⟨ret_bool (by rw [← HE.out, HD.out, hasB_cons, hxn]; rfl), rfl⟩
      · have hxn : (x == n) = false := by assumption
        exact ⟨⟨k + 1, by omega, by go_num, rfl, by rw [← HE.out, HD.out, hasB_cons, hxn]; rfl⟩, by simp [intOf]; omega⟩
    · go_wp2
      go_ret
      exact ⟨ret_bool (by rw [← HE.out, List.drop_eq_nil_of_le (by omega)]; rfl), rfl⟩

def bothOk (r s : Relation) : Bool := relOk r && relOk s && decide (r.size = s.size)
theorem two_any (s t : Int) (A B : Option Addr) (c d lo hi lo' hi' : Nat) (xs ys : List (List Int)) (w : World) (h : EIntS.AS w lo hi A xs) (h' : EIntS.AS w lo' hi' B ys) (hh : hi ≤ w.heap.size) (hh' : hi' ≤ w.heap.size) :
    Calls Try.prog 71 #[.agg #[.int .i64 s, .slice A xs.length c], .agg #[.int .i64 t, .slice B ys.length d]] w fun e w' => e = .returned (.bool (bothOk ⟨s, xs⟩ ⟨t, ys⟩)) ∧ Below w.heap.size w w' := by
  cases h1 : relOk ⟨s, xs⟩ with
  | false =>
    have H1 := Lib.hid h1; clear h1
    go_enter Try.func71, Try.ntmps71
    go_wp2_with (go_at_call 90; refine (implIsRelation_any s A c lo hi xs _ (h.same ?_) ?_).mono ?_; (with_reducible repeat' first | exact Same.refl _ _ _ | assumption | (refine Same.setCell ?_ (by first | omega | (simp; omega) | (simp; done) | (dsimp only; omega)) _) | (refine Same.alloc ?_ (by first | omega | (simp; omega) | (simp; done) | (dsimp only; omega)) _) | (refine Same.drewN ?_ _) | (refine Same.drew ?_)); (first | omega | (simp; omega) | (simp; done) | (dsimp only; omega)); rintro e w1 ⟨rfl, hb1⟩; simp only [H1.out]; (obtain ⟨hb1c, hb1f⟩ := bcell hb1); (have hb1z := hb1.size); (try simp only [szs] at hb1c hb1f hb1z))
    go_ret
    exact ⟨ret_bool (by simp [bothOk, H1.out]), by (with_reducible repeat' first | exact Below.refl _ _ | assumption | (refine Below.setCell ?_ (by first | omega | (simp; omega) | (simp; done) | (dsimp only; omega)) _) | (refine Below.alloc ?_ (by first | omega | (simp; omega) | (simp; done) | (dsimp only; omega)) _) | (refine below_drewN ?_ _) | (refine Below.drew ?_) | (refine Below.trans ?_ (hb1.mono (by first | omega | (simp; omega) | (simp; done) | (dsimp only; omega)))))⟩
  | true =>
    have H1 := Lib.hid h1; clear h1
    cases h2 : relOk ⟨t, ys⟩ with
    | false =>
      have H2 := Lib.hid h2; clear h2
      go_enter Try.func71, Try.ntmps71
      go_wp2_with (go_at_call 90; first | ((with_reducible refine (implIsRelation_any s A c lo hi xs ((w.alloc _).alloc _) (h.same ?_) ?_).mono ?_); (with_reducible repeat' first | exact Same.refl _ _ _ | assumption | (refine Same.setCell ?_ (by first | omega | (simp; omega) | (simp; done) | (dsimp only; omega)) _) | (refine Same.alloc ?_ (by first | omega | (simp; omega) | (simp; done) | (dsimp only; omega)) _) | (refine Same.drewN ?_ _) | (refine Same.drew ?_)); (first | omega | (simp; omega) | (simp; done) | (dsimp only; omega)); rintro e w1 ⟨rfl, hb1⟩; simp only [H1.out]; (obtain ⟨hb1c, hb1f⟩ := bcell hb1); (have hb1z := hb1.size); (try simp only [szs] at hb1c hb1f hb1z)) | ((with_reducible refine (implIsRelation_any t B d lo' hi' ys _ (h'.same ?_) ?_).mono ?_); (with_reducible repeat' first | exact Same.refl _ _ _ | assumption | (refine Same.setCell ?_ (by first | omega | (simp; omega) | (simp; done) | (dsimp only; omega)) _) | (refine Same.alloc ?_ (by first | omega | (simp; omega) | (simp; done) | (dsimp only; omega)) _) | (refine Same.drewN ?_ _) | (refine Same.drew ?_) | (refine Same.trans ?_ (Same.of_below hb1 (by first | omega | (simp; omega) | (simp; done) | (dsimp only; omega))))); (first | omega | (simp; omega) | (simp; done) | (dsimp only; omega)); rintro e w2 ⟨rfl, hb2⟩; simp only [H2.out]; (obtain ⟨hb2c, hb2f⟩ := bcell hb2); (have hb2z := hb2.size); (try simp only [szs] at hb2c hb2f hb2z)))
      go_ret
      exact ⟨ret_bool (by simp [bothOk, H2.out]), by (with_reducible repeat' first | exact Below.refl _ _ | assumption | (refine Below.setCell ?_ (by first | omega | (simp; omega) | (simp; done) | (dsimp only; omega)) _) | (refine Below.alloc ?_ (by first | omega | (simp; omega) | (simp; done) | (dsimp only; omega)) _) | (refine below_drewN ?_ _) | (refine Below.drew ?_) | (refine Below.trans ?_ (hb2.mono (by first | omega | (simp; omega) | (simp; done) | (dsimp only; omega)))) | (refine Below.trans ?_ (hb1.mono (by first | omega | (simp; omega) | (simp; done) | (dsimp only; omega)))))⟩
    | true =>
      have H2 := Lib.hid h2; clear h2
      by_cases hst : s = t
      · have hb : (s == t) = true := by simpa using hst
        have HST := Lib.hid hst; clear hst
        go_enter Try.func71, Try.ntmps71
        go_wp2_with (go_at_call 90; first | ((with_reducible refine (implIsRelation_any s A c lo hi xs ((w.alloc _).alloc _) (h.same ?_) ?_).mono ?_); (with_reducible repeat' first | exact Same.refl _ _ _ | assumption | (refine Same.setCell ?_ (by first | omega | (simp; omega) | (simp; done) | (dsimp only; omega)) _) | (refine Same.alloc ?_ (by first | omega | (simp; omega) | (simp; done) | (dsimp only; omega)) _) | (refine Same.drewN ?_ _) | (refine Same.drew ?_)); (first | omega | (simp; omega) | (simp; done) | (dsimp only; omega)); rintro e w1 ⟨rfl, hb1⟩; simp only [H1.out]; (obtain ⟨hb1c, hb1f⟩ := bcell hb1); (have hb1z := hb1.size); (try simp only [szs] at hb1c hb1f hb1z)) | ((with_reducible refine (implIsRelation_any t B d lo' hi' ys _ (h'.same ?_) ?_).mono ?_); (with_reducible repeat' first | exact Same.refl _ _ _ | assumption | (refine Same.setCell ?_ (by first | omega | (simp; omega) | (simp; done) | (dsimp only; omega)) _) | (refine Same.alloc ?_ (by first | omega | (simp; omega) | (simp; done) | (dsimp only; omega)) _) | (refine Same.drewN ?_ _) | (refine Same.drew ?_) | (refine Same.trans ?_ (Same.of_below hb1 (by first | omega | (simp; omega) | (simp; done) | (dsimp only; omega))))); (first | omega | (simp; omega) | (simp; done) | (dsimp only; omega)); rintro e w2 ⟨rfl, hb2⟩; simp only [H2.out]; (obtain ⟨hb2c, hb2f⟩ := bcell hb2); (have hb2z := hb2.size); (try simp only [szs] at hb2c hb2f hb2z); have hlt1 : w.heap.size < w1.heap.size := (by omega); have hlt2 : w.heap.size + 1 < w1.heap.size := (by omega)))
        go_ret
        exact ⟨ret_bool (by rw [bothOk, H1.out, H2.out]; simp [HST.out]), by (with_reducible repeat' first | exact Below.refl _ _ | assumption | (refine Below.setCell ?_ (by first | omega | (simp; omega) | (simp; done) | (dsimp only; omega)) _) | (refine Below.alloc ?_ (by first | omega | (simp; omega) | (simp; done) | (dsimp only; omega)) _) | (refine below_drewN ?_ _) | (refine Below.drew ?_) | (refine Below.trans ?_ (hb2.mono (by first | omega | (simp; omega) | (simp; done) | (dsimp only; omega)))) | (refine Below.trans ?_ (hb1.mono (by first | omega | (simp; omega) | (simp; done) | (dsimp only; omega)))))⟩
      · have hb : (s == t) = false := by simpa using hst
        go_enter Try.func71, Try.ntmps71
        go_wp2_with (go_at_call 90; first | ((with_reducible refine (implIsRelation_any s A c lo hi xs ((w.alloc _).alloc _) (h.same ?_) ?_).mono ?_); (with_reducible repeat' first | exact Same.refl _ _ _ | assumption | (refine Same.setCell ?_ (by first | omega | (simp; omega) | (simp; done) | (dsimp only; omega)) _) | (refine Same.alloc ?_ (by first | omega | (simp; omega) | (simp; done) | (dsimp only; omega)) _) | (refine Same.drewN ?_ _) | (refine Same.drew ?_)); (first | omega | (simp; omega) | (simp; done) | (dsimp only; omega)); rintro e w1 ⟨rfl, hb1⟩; simp only [H1.out]; (obtain ⟨hb1c, hb1f⟩ := bcell hb1); (have hb1z := hb1.size); (try simp only [szs] at hb1c hb1f hb1z)) | ((with_reducible refine (implIsRelation_any t B d lo' hi' ys _ (h'.same ?_) ?_).mono ?_); (with_reducible repeat' first | exact Same.refl _ _ _ | assumption | (refine Same.setCell ?_ (by first | omega | (simp; omega) | (simp; done) | (dsimp only; omega)) _) | (refine Same.alloc ?_ (by first | omega | (simp; omega) | (simp; done) | (dsimp only; omega)) _) | (refine Same.drewN ?_ _) | (refine Same.drew ?_) | (refine Same.trans ?_ (Same.of_below hb1 (by first | omega | (simp; omega) | (simp; done) | (dsimp only; omega))))); (first | omega | (simp; omega) | (simp; done) | (dsimp only; omega)); rintro e w2 ⟨rfl, hb2⟩; simp only [H2.out]; (obtain ⟨hb2c, hb2f⟩ := bcell hb2); (have hb2z := hb2.size); (try simp only [szs] at hb2c hb2f hb2z); have hlt1 : w.heap.size < w1.heap.size := (by omega); have hlt2 : w.heap.size + 1 < w1.heap.size := (by omega)))
        go_ret
        exact ⟨ret_bool (by simp [bothOk, hst]), by (with_reducible repeat' first | exact Below.refl _ _ | assumption | (refine Below.setCell ?_ (by first | omega | (simp; omega) | (simp; done) | (dsimp only; omega)) _) | (refine Below.alloc ?_ (by first | omega | (simp; omega) | (simp; done) | (dsimp only; omega)) _) | (refine below_drewN ?_ _) | (refine Below.drew ?_) | (refine Below.trans ?_ (hb2.mono (by first | omega | (simp; omega) | (simp; done) | (dsimp only; omega)))) | (refine Below.trans ?_ (hb1.mono (by first | omega | (simp; omega) | (simp; done) | (dsimp only; omega)))))⟩
theorem l2Both_any (s t : Int) (A B : Option Addr) (c d lo hi lo' hi' : Nat) (xs ys : List (List Int)) (w : World) (h : EIntS.AS w lo hi A xs) (h' : EIntS.AS w lo' hi' B ys) (hh : hi ≤ w.heap.size) (hh' : hi' ≤ w.heap.size) :
    Calls Try.prog 68 #[.agg #[.int .i64 s, .slice A xs.length c], .agg #[.int .i64 t, .slice B ys.length d]] w fun e w' => e = .returned (.bool (bothOk ⟨s, xs⟩ ⟨t, ys⟩)) ∧ Below w.heap.size w w' := by
  by_cases hst : s = t
  · have hb : (s == t) = true := by simpa using hst
    have HST := Lib.hid hst; clear hst
    cases h1 : relOk ⟨s, xs⟩ with
    | false =>
      have H1 := Lib.hid h1; clear h1
      go_enter Try.func68, Try.ntmps68
      go_wp2_with (go_at_call 89; ((with_reducible refine (specIsRelation_any s A c lo hi xs ((w.alloc _).alloc _) (h.same ?_) ?_).mono ?_); (with_reducible repeat' first | exact Same.refl _ _ _ | assumption | (refine Same.setCell ?_ (by first | omega | (simp; omega) | (simp; done) | (dsimp only; omega)) _) | (refine Same.alloc ?_ (by first | omega | (simp; omega) | (simp; done) | (dsimp only; omega)) _) | (refine Same.drewN ?_ _) | (refine Same.drew ?_)); (first | omega | (simp; omega) | (simp; done) | (dsimp only; omega)); rintro e w1 ⟨rfl, hb1⟩; simp only [H1.out]; (obtain ⟨hb1c, hb1f⟩ := bcell hb1); (have hb1z := hb1.size); (try simp only [szs] at hb1c hb1f hb1z); have hlt1 : w.heap.size < w1.heap.size := (by omega); have hlt2 : w.heap.size + 1 < w1.heap.size := (by omega)))
      go_ret
      exact ⟨ret_bool (by simp [bothOk, H1.out]), by (with_reducible repeat' first | exact Below.refl _ _ | assumption | (refine Below.setCell ?_ (by first | omega | (simp; omega) | (simp; done) | (dsimp only; omega)) _) | (refine Below.alloc ?_ (by first | omega | (simp; omega) | (simp; done) | (dsimp only; omega)) _) | (refine below_drewN ?_ _) | (refine Below.drew ?_) | (refine Below.trans ?_ (hb1.mono (by first | omega | (simp; omega) | (simp; done) | (dsimp only; omega)))))⟩
    | true =>
      have H1 := Lib.hid h1; clear h1
      cases h2 : relOk ⟨t, ys⟩ with
      | false =>
        have H2 := Lib.hid h2; clear h2
        go_enter Try.func68, Try.ntmps68
        go_wp2_with (go_at_call 89; first | ((with_reducible refine (specIsRelation_any s A c lo hi xs ((w.alloc _).alloc _) (h.same ?_) ?_).mono ?_); (with_reducible repeat' first | exact Same.refl _ _ _ | assumption | (refine Same.setCell ?_ (by first | omega | (simp; omega) | (simp; done) | (dsimp only; omega)) _) | (refine Same.alloc ?_ (by first | omega | (simp; omega) | (simp; done) | (dsimp only; omega)) _) | (refine Same.drewN ?_ _) | (refine Same.drew ?_)); (first | omega | (simp; omega) | (simp; done) | (dsimp only; omega)); rintro e w1 ⟨rfl, hb1⟩; simp only [H1.out]; (obtain ⟨hb1c, hb1f⟩ := bcell hb1); (have hb1z := hb1.size); (try simp only [szs] at hb1c hb1f hb1z); have hlt1 : w.heap.size < w1.heap.size := (by omega); have hlt2 : w.heap.size + 1 < w1.heap.size := (by omega)) | ((with_reducible refine (specIsRelation_any t B d lo' hi' ys _ (h'.same ?_) ?_).mono ?_); (with_reducible repeat' first | exact Same.refl _ _ _ | assumption | (refine Same.setCell ?_ (by first | omega | (simp; omega) | (simp; done) | (dsimp only; omega)) _) | (refine Same.alloc ?_ (by first | omega | (simp; omega) | (simp; done) | (dsimp only; omega)) _) | (refine Same.drewN ?_ _) | (refine Same.drew ?_) | (refine Same.trans ?_ (Same.of_below hb1 (by first | omega | (simp; omega) | (simp; done) | (dsimp only; omega))))); (first | omega | (simp; omega) | (simp; done) | (dsimp only; omega)); rintro e w2 ⟨rfl, hb2⟩; simp only [H2.out]; (obtain ⟨hb2c, hb2f⟩ := bcell hb2); (have hb2z := hb2.size); (try simp only [szs] at hb2c hb2f hb2z)))
        go_ret
        exact ⟨ret_bool (by simp [bothOk, H2.out]), by (with_reducible repeat' first | exact Below.refl _ _ | assumption | (refine Below.setCell ?_ (by first | omega | (simp; omega) | (simp; done) | (dsimp only; omega)) _) | (refine Below.alloc ?_ (by first | omega | (simp; omega) | (simp; done) | (dsimp only; omega)) _) | (refine below_drewN ?_ _) | (refine Below.drew ?_) | (refine Below.trans ?_ (hb2.mono (by first | omega | (simp; omega) | (simp; done) | (dsimp only; omega)))) | (refine Below.trans ?_ (hb1.mono (by first | omega | (simp; omega) | (simp; done) | (dsimp only; omega)))))⟩
      | true =>
        have H2 := Lib.hid h2; clear h2
        go_enter Try.func68, Try.ntmps68
        go_wp2_with (go_at_call 89; first | ((with_reducible refine (specIsRelation_any s A c lo hi xs ((w.alloc _).alloc _) (h.same ?_) ?_).mono ?_); (with_reducible repeat' first | exact Same.refl _ _ _ | assumption | (refine Same.setCell ?_ (by first | omega | (simp; omega) | (simp; done) | (dsimp only; omega)) _) | (refine Same.alloc ?_ (by first | omega | (simp; omega) | (simp; done) | (dsimp only; omega)) _) | (refine Same.drewN ?_ _) | (refine Same.drew ?_)); (first | omega | (simp; omega) | (simp; done) | (dsimp only; omega)); rintro e w1 ⟨rfl, hb1⟩; simp only [H1.out]; (obtain ⟨hb1c, hb1f⟩ := bcell hb1); (have hb1z := hb1.size); (try simp only [szs] at hb1c hb1f hb1z); have hlt1 : w.heap.size < w1.heap.size := (by omega); have hlt2 : w.heap.size + 1 < w1.heap.size := (by omega)) | ((with_reducible refine (specIsRelation_any t B d lo' hi' ys _ (h'.same ?_) ?_).mono ?_); (with_reducible repeat' first | exact Same.refl _ _ _ | assumption | (refine Same.setCell ?_ (by first | omega | (simp; omega) | (simp; done) | (dsimp only; omega)) _) | (refine Same.alloc ?_ (by first | omega | (simp; omega) | (simp; done) | (dsimp only; omega)) _) | (refine Same.drewN ?_ _) | (refine Same.drew ?_) | (refine Same.trans ?_ (Same.of_below hb1 (by first | omega | (simp; omega) | (simp; done) | (dsimp only; omega))))); (first | omega | (simp; omega) | (simp; done) | (dsimp only; omega)); rintro e w2 ⟨rfl, hb2⟩; simp only [H2.out]; (obtain ⟨hb2c, hb2f⟩ := bcell hb2); (have hb2z := hb2.size); (try simp only [szs] at hb2c hb2f hb2z)))
        go_ret
        exact ⟨ret_bool (by rw [bothOk, H1.out, H2.out]; simp [HST.out]), by (with_reducible repeat' first | exact Below.refl _ _ | assumption | (refine Below.setCell ?_ (by first | omega | (simp; omega) | (simp; done) | (dsimp only; omega)) _) | (refine Below.alloc ?_ (by first | omega | (simp; omega) | (simp; done) | (dsimp only; omega)) _) | (refine below_drewN ?_ _) | (refine Below.drew ?_) | (refine Below.trans ?_ (hb2.mono (by first | omega | (simp; omega) | (simp; done) | (dsimp only; omega)))) | (refine Below.trans ?_ (hb1.mono (by first | omega | (simp; omega) | (simp; done) | (dsimp only; omega)))))⟩
  · have hb : (s == t) = false := by simpa using hst
    go_enter Try.func68, Try.ntmps68
    go_wp2
    go_ret
    exact ⟨ret_bool (by simp [bothOk, hst]), by (with_reducible repeat' first | exact Below.refl _ _ | assumption | (refine Below.setCell ?_ (by first | omega | (simp; omega) | (simp; done) | (dsimp only; omega)) _) | (refine Below.alloc ?_ (by first | omega | (simp; omega) | (simp; done) | (dsimp only; omega)) _) | (refine below_drewN ?_ _) | (refine Below.drew ?_))⟩
end Go.Proofs.Ytmgfpcchlonknaa
