/-
  Joining, meeting and subtracting relations in the reference.
-/
import Derived.Test.YtmgfpcchlonknaaRelMix
namespace Go.Proofs.Ytmgfpcchlonknaa
set_option maxRecDepth 100000
open Go.RowKit

def mixF (h : Int) : Bool → Bool → Bool := fun x y => if h = 0 then x || y else if h = 1 then x && y else x && !y
def mixIn (f : Bool → Bool → Bool) (p q : Nat → Nat → Bool) (k j : Nat) : Nat → Nat → Bool := fun a b => if a < k ∨ (a = k ∧ b < j) then f (p a b) (q a b) else p a b
theorem mixIn_at (f : Bool → Bool → Bool) (p q : Nat → Nat → Bool) (k j : Nat) : mixIn f p q k j k j = p k j := by simp [mixIn]
theorem mixIn_step (f : Bool → Bool → Bool) (p q : Nat → Nat → Bool) (n k j : Nat) : mat n (upd (mixIn f p q k j) k j (f (p k j) (q k j))) = mat n (mixIn f p q k (j + 1)) :=
  mat_congr fun a b _ _ => by
    unfold upd mixIn
    by_cases h : a = k ∧ b = j
    · obtain ⟨rfl, rfl⟩ := h; simp
    · rw [if_neg h]
      by_cases h1 : a < k ∨ (a = k ∧ b < j)
      · rw [if_pos h1, if_pos (by omega)]
      · rw [if_neg h1, if_neg (by omega)]
theorem mixIn_next (f : Bool → Bool → Bool) (p q : Nat → Nat → Bool) (n k : Nat) : mat n (mixIn f p q k n) = mat n (mixIn f p q (k + 1) 0) :=
  mat_congr fun a b _ hb => by
    unfold mixIn
    by_cases h1 : a < k ∨ (a = k ∧ b < n)
    · rw [if_pos h1, if_pos (by omega)]
    · rw [if_neg h1, if_neg (by omega)]
theorem mixIn_start (f : Bool → Bool → Bool) (p q : Nat → Nat → Bool) (n : Nat) : mat n p = mat n (mixIn f p q 0 0) := mat_congr fun a b _ _ => by simp [mixIn]
theorem mixIn_end (f : Bool → Bool → Bool) (p q : Nat → Nat → Bool) (n : Nat) : mat n (mixIn f p q n 0) = mat n fun a b => f (p a b) (q a b) := mat_congr fun a b ha _ => by simp [mixIn, ha]

/-- A table under work, in a world that has changed nowhere else; what is read beside it stands as it stood. -/
def TabRel (P : Nat → Nat → Nat → Bool) (n lo hi : Nat) (A : Option Addr) (c : Nat) (W : World) (i : Value) (wr : World) : Prop :=
  ∃ k : Nat, k ≤ n ∧ i = .int .i64 k ∧ EBoolS.OS wr lo hi (.slice A n c) (mat n (P k)) ∧ Chg lo hi W wr ∧ hi ≤ wr.heap.size

/-- The same over the places of one row. -/
def GridRelT (P : Nat → Nat → Nat → Bool) (n m lo hi : Nat) (A : Option Addr) (c : Nat) (W : World) (i : Value) (wr : World) : Prop :=
  ∃ k : Nat, k ≤ m ∧ i = .int .i64 k ∧ EBoolS.OS wr lo hi (.slice A n c) (mat n (P k)) ∧ Chg lo hi W wr ∧ hi ≤ wr.heap.size

theorem OS_drew {α : Type} {E : Elem α} {w : World} {lo hi : Nat} {v : Value} {xs : List α} (h : E.OS w lo hi v xs) : E.OS w.drew lo hi v xs := h.same ⟨Nat.le_refl _, fun _ _ _ => rfl⟩

set_option maxHeartbeats 2000000 in
theorem l2Mix_any (s t how : Int) (A B : Option Addr) (c d lo hi lo' hi' : Nat) (xs ys : List (List Int)) (w : World) (h : EIntS.AS w lo hi A xs) (h' : EIntS.AS w lo' hi' B ys) (hh : hi ≤ w.heap.size) (hh' : hi' ≤ w.heap.size) (hw : how = 0 ∨ how = 1 ∨ how = 2) :
    Calls Try.prog 99 #[.agg #[.int .i64 s, .slice A xs.length c], .agg #[.int .i64 t, .slice B ys.length d], .int .i64 how] w (RetRel w (mixM (mixF how) ⟨s, xs⟩ ⟨t, ys⟩)) := by
  cases hok : bothOk ⟨s, xs⟩ ⟨t, ys⟩ with
  | false =>
    rw [mixM_out hok]
    have HO := Lib.hid hok; clear hok
    go_enter Try.func99, Try.ntmps99
    go_wp2_with (go_at_call 68; refine (l2Both_any s t A B c d lo hi lo' hi' xs ys _ (h.same (by (with_reducible repeat' first | exact Same.refl _ _ _ | assumption | (refine Same.setCell ?_ (by first | omega | (simp; omega) | (simp; done) | (dsimp only; omega)) _) | (refine Same.alloc ?_ (by first | omega | (simp; omega) | (simp; done) | (dsimp only; omega)) _) | (refine Same.drewN ?_ _) | (refine Same.drew ?_)))) (h'.same (by (with_reducible repeat' first | exact Same.refl _ _ _ | assumption | (refine Same.setCell ?_ (by first | omega | (simp; omega) | (simp; done) | (dsimp only; omega)) _) | (refine Same.alloc ?_ (by first | omega | (simp; omega) | (simp; done) | (dsimp only; omega)) _) | (refine Same.drewN ?_ _) | (refine Same.drew ?_)))) (by first | omega | (simp; omega) | (simp; done) | (dsimp only; omega)) (by first | omega | (simp; omega) | (simp; done) | (dsimp only; omega))).mono ?_; rintro e w1 ⟨rfl, hb1⟩; simp only [HO.out]; (obtain ⟨hb1c, hb1f⟩ := bcell hb1); (have hb1z := hb1.size); (try simp only [szs] at hb1c hb1f hb1z))
    exact bodyPost_ret (v := .agg #[.int .i64 0, .slice none 0 0]) (by simp [results, Try.results99, go_sem, hb1c]) rfl (RetRel.zero (by (with_reducible repeat' first | exact Below.refl _ _ | assumption | (refine Below.setCell ?_ (by first | omega | (simp; omega) | (simp; done) | (dsimp only; omega)) _) | (refine Below.alloc ?_ (by first | omega | (simp; omega) | (simp; done) | (dsimp only; omega)) _) | (refine below_drewN ?_ _) | (refine Below.drew ?_) | (refine Below.trans ?_ (hb1.mono (by first | omega | (simp; omega) | (simp; done) | (dsimp only; omega)))))))
  | true =>
    obtain ⟨o1, o2, hst⟩ := bothOk_parts hok
    obtain ⟨n, rfl, hn, hl, _⟩ := relOk_parts o1
    obtain ⟨n', hnn, _, hl', _⟩ := relOk_parts o2
    obtain rfl : t = (n : Int) := hst.symm
    obtain rfl : n' = n := by omega
    clear hst hnn
    rw [mixM_in hok]
    have HO := Lib.hid hok; clear hok
    have HL := Lib.hid hl; have HL' := Lib.hid hl'; clear hl hl'
    have R1 := Lib.hid o1; have R2 := Lib.hid o2; clear o1 o2
    go_enter Try.func99, Try.ntmps99
    go_wp2_with (go_at_call 68; refine (l2Both_any n' n' A B c d lo hi lo' hi' xs ys _ (h.same (by (with_reducible repeat' first | exact Same.refl _ _ _ | assumption | (refine Same.setCell ?_ (by first | omega | (simp; omega) | (simp; done) | (dsimp only; omega)) _) | (refine Same.alloc ?_ (by first | omega | (simp; omega) | (simp; done) | (dsimp only; omega)) _) | (refine Same.drewN ?_ _) | (refine Same.drew ?_)))) (h'.same (by (with_reducible repeat' first | exact Same.refl _ _ _ | assumption | (refine Same.setCell ?_ (by first | omega | (simp; omega) | (simp; done) | (dsimp only; omega)) _) | (refine Same.alloc ?_ (by first | omega | (simp; omega) | (simp; done) | (dsimp only; omega)) _) | (refine Same.drewN ?_ _) | (refine Same.drew ?_)))) (by first | omega | (simp; omega) | (simp; done) | (dsimp only; omega)) (by first | omega | (simp; omega) | (simp; done) | (dsimp only; omega))).mono ?_; rintro e w1 ⟨rfl, hb1⟩; simp only [HO.out]; (obtain ⟨hb1c, hb1f⟩ := bcell hb1); (have hb1z := hb1.size); (try simp only [szs] at hb1c hb1f hb1z))
    have g1 : EIntS.AS w1 lo hi A xs := h.same (by (with_reducible repeat' first | exact Same.refl _ _ _ | assumption | (refine Same.setCell ?_ (by first | omega | (simp; omega) | (simp; done) | (dsimp only; omega)) _) | (refine Same.alloc ?_ (by first | omega | (simp; omega) | (simp; done) | (dsimp only; omega)) _) | (refine Same.drewN ?_ _) | (refine Same.drew ?_) | (refine Same.trans ?_ (Same.of_below hb1 (by first | omega | (simp; omega) | (simp; done) | (dsimp only; omega))))))
    have g2 : EIntS.AS w1 lo' hi' B ys := h'.same (by (with_reducible repeat' first | exact Same.refl _ _ _ | assumption | (refine Same.setCell ?_ (by first | omega | (simp; omega) | (simp; done) | (dsimp only; omega)) _) | (refine Same.alloc ?_ (by first | omega | (simp; omega) | (simp; done) | (dsimp only; omega)) _) | (refine Same.drewN ?_ _) | (refine Same.drew ?_) | (refine Same.trans ?_ (Same.of_below hb1 (by first | omega | (simp; omega) | (simp; done) | (dsimp only; omega))))))
    have d0 : w1.cell? ⟨w.heap.size + 1, 0, none⟩ = some (.int .i64 n') := by rw [hb1c _ _ (by omega)]; simp [go_sem]
    have d1 : w1.cell? ⟨w.heap.size + 1, 1, none⟩ = some (.slice B ys.length d) := by rw [hb1c _ _ (by omega)]; simp [go_sem]
    have r0 : Blk w1 (w.heap.size + 1 + 1) 27 #[.int .i64 0, .slice none 0 0] := (Blk.new _ (by simp)).below hb1 (by simp)
    have hbw : Below w.heap.size w w1 := by (with_reducible repeat' first | exact Below.refl _ _ | assumption | (refine Below.setCell ?_ (by first | omega | (simp; omega) | (simp; done) | (dsimp only; omega)) _) | (refine Below.alloc ?_ (by first | omega | (simp; omega) | (simp; done) | (dsimp only; omega)) _) | (refine below_drewN ?_ _) | (refine Below.drew ?_) | (refine Below.trans ?_ (hb1.mono (by first | omega | (simp; omega) | (simp; done) | (dsimp only; omega)))))
    clear hb1 hb1c hb1f
    refine (l2Grid_any n' A c lo hi xs _ g1 (by omega) R1.out).mono ?_
    rintro e w2 ⟨A2, c2, rfl, ho2, hb2⟩
    rw [HL.out] at ho2 ⊢
    replace d0 := (hb2.cell (by first | omega | (simp; omega) | (simp; done) | (dsimp only; omega))).trans d0
    replace d1 := (hb2.cell (by first | omega | (simp; omega) | (simp; done) | (dsimp only; omega))).trans d1
    replace g2 := g2.same (Same.of_below hb2 (by omega))
    replace r0 := r0.below hb2 (by omega)
    replace hbw := hbw.trans (hb2.mono (by omega))
    have z2 := hb2.size
    clear hb2
    go_wp2_with fail
    refine (l2Grid_any n' B d lo' hi' ys _ g2 (by omega) R2.out).mono ?_
    rintro e w3 ⟨A3, c3, rfl, ho3, hb3⟩
    rw [HL'.out] at ho3 ⊢
    replace ho2 := ho2.same (Same.of_below hb3 (Nat.le_refl _))
    replace r0 := r0.below hb3 (by omega)
    replace hbw := hbw.trans (hb3.mono (by omega))
    have z3 := hb3.size
    clear hb3 d0 d1 g1 g2
    have HY := ho3.read.as
    clear ho3
    go_wp2
    go_loopw [22] (fun i wr => TabRel (fun k => mixIn (mixF how) (gridP xs) (gridP ys) k 0) n' w1.heap.size w2.heap.size A2 c2 w3 i wr) (fun i _ => n' - (intOf i).toNat)
    case atStart => exact ⟨0, Nat.zero_le _, rfl, by rw [← mixIn_start]; exact ho2, Chg.refl _ _ _, z3⟩
    case round =>
      obtain ⟨k, hk, rfl, ho, hch, hsz⟩ := hrel
      by_cases hlt : k < n'
      · go_wp2
        obtain ⟨wo, rfl⟩ : ∃ wo : World, wo = wr := ⟨_, rfl⟩
        go_loopw [27] (fun i w5 => TabRel (mixIn (mixF how) (gridP xs) (gridP ys) k) n' w1.heap.size w2.heap.size A2 c2 wo i w5) (fun i _ => n' - (intOf i).toNat)
        case atStart => exact ⟨0, Nat.zero_le _, rfl, ho, Chg.refl _ _ _, hsz⟩
        case round =>
          obtain ⟨j, hj, rfl, ho5, hch5, hsz5⟩ := hrel
          by_cases hlt2 : j < n'
          · obtain ⟨g, r, cc, cc', hv, _, _, r1, r2, k1, k2, k3, k4, hset⟩ := mat_own ho5 hsz5 hlt hlt2
            injection hv with hv _ hcc
            subst hv; subst hcc
            have hy5 := HY.same (Same.of_chg (hch.trans hch5) (Nat.le_refl _) (.inr (by omega)))
            obtain ⟨y1, yo, yr, yq, yc, rfl, _, _, _, _, _, _, m1, m2⟩ := mat_read hy5 hlt hlt2
            rw [mixIn_at] at k2
            have HS := Lib.hid (mixIn_step (mixF how) (gridP xs) (gridP ys) n' k j)
            clear hy5 HY ho ho5 h h' ho2
            cases hp : gridP xs k j <;> cases hq : gridP ys k j
            all_goals
              rw [hp] at k2; rw [hq] at m2
              have HP := Lib.hid hp; have HQ := Lib.hid hq; clear hp hq
              rcases hw with rfl | rfl | rfl
              all_goals
                go_wp2
                go_region
                go_wp2
                exact ⟨⟨j + 1, by omega, by go_num, by rw [← HS.out, HP.out, HQ.out]; exact OS_drew (hset _), (hch5.setCell ⟨r1, r2⟩ _).drew, by simpa [World.setCell] using hsz5⟩, by simp [intOf]; omega⟩
          · obtain rfl : j = n' := by omega
            rw [mixIn_next] at ho5
            go_wp2
            exact ⟨⟨k + 1, by omega, by go_num, ho5, hch.trans hch5, hsz5⟩, by simp [intOf]; omega⟩
      · obtain rfl : k = n' := by omega
        rw [mixIn_end] at ho
        replace r0 := r0.chg hch (.inl (by omega))
        replace hbw := hbw.trans (hch.below (by omega) (by omega))
        have hlw : w.heap.size + 1 + 1 < wr.heap.size := r0.lt
        clear HY h h'
        go_wp2_with fail
        have hl := Lib.hid (mat_len k fun a b => mixF how (gridP xs a b) (gridP ys a b))
        rw [← hl.out]
        refine (l2Of_any A2 c2 _ _ (mat k fun a b => mixF how (gridP xs a b) (gridP ys a b)) wr ho.read.as hsz (by rw [hl.out]; exact hn) (fun r hr => Nat.le_trans (mat_row r hr) hn)).mono ?_
        rw [hl.out]
        rintro e w6 ⟨A6, c6, rfl, ho6, hb6⟩
        rw [ofM_mat] at ho6
        have hz6 := hb6.size
        have q0 := (r0.below hb6 hlw).cell (i := 0) rfl
        have q1 := (r0.below hb6 hlw).cell (i := 1) rfl
        have f0 := (r0.below hb6 hlw).free 0
        have f1 := (r0.below hb6 hlw).free 1
        go_wp2_with fail
        exact bodyPost_ret (v := .agg #[.int .i64 k, .slice A6 k c6]) (by simp [results, Try.results99, go_sem, q0, q1]) rfl ⟨A6, c6, by simp only [relM_len], by simpa only [relM_len] using (ho6.same (by (with_reducible repeat' first | exact Same.refl _ _ _ | assumption | (refine Same.setCell ?_ (by first | omega | (simp; omega) | (simp; done) | (dsimp only; omega)) _) | (refine Same.alloc ?_ (by first | omega | (simp; omega) | (simp; done) | (dsimp only; omega)) _) | (refine Same.drewN ?_ _) | (refine Same.drew ?_)))).mono (by first | omega | (simp; omega) | (simp; done) | (dsimp only; omega)) (by first | omega | (simp; omega) | (simp; done) | (dsimp only; omega)), by (with_reducible repeat' first | exact Below.refl _ _ | assumption | (refine Below.setCell ?_ (by first | omega | (simp; omega) | (simp; done) | (dsimp only; omega)) _) | (refine Below.alloc ?_ (by first | omega | (simp; omega) | (simp; done) | (dsimp only; omega)) _) | (refine below_drewN ?_ _) | (refine Below.drew ?_) | (refine Below.trans ?_ (hb6.mono (by first | omega | (simp; omega) | (simp; done) | (dsimp only; omega)))))⟩
end Go.Proofs.Ytmgfpcchlonknaa
