/-
  The closure of a relation, in the reference and in the program.
-/
import Derived.Test.YtmgfpcchlonknaaMixS2
namespace Go.Proofs.Ytmgfpcchlonknaa
set_option maxRecDepth 100000
open Go.RowKit

/-- One place of a table is joined to what leads there by way of k. -/
def stepC (p : Nat → Nat → Bool) (k a b : Nat) : Nat → Nat → Bool := upd p a b (p a b || (p a k && p k b))
def closB (p : Nat → Nat → Bool) (k a : Nat) : Nat → (Nat → Nat → Bool)
  | 0 => p
  | b + 1 => stepC (closB p k a b) k a b
def closA (n : Nat) (p : Nat → Nat → Bool) (k : Nat) : Nat → (Nat → Nat → Bool)
  | 0 => p
  | a + 1 => closB (closA n p k a) k a n
def closK (n : Nat) (p : Nat → Nat → Bool) : Nat → (Nat → Nat → Bool)
  | 0 => p
  | k + 1 => closA n (closK n p k) k n
def closP (n : Nat) (p : Nat → Nat → Bool) : Nat → Nat → Bool := closK n p n
def closM (r : Relation) : Relation := if relOk r = true then ⟨r.size, relM r.size.toNat (closP r.size.toNat (gridP r.rows))⟩ else zeroRel
theorem closM_in {n : Nat} {xs : List (List Int)} (h : relOk ⟨n, xs⟩ = true) : closM ⟨n, xs⟩ = ⟨n, relM n (closP n (gridP xs))⟩ := by rw [closM, if_pos h]; simp
theorem closM_out {r : Relation} (h : relOk r = false) : closM r = zeroRel := by rw [closM, if_neg (by rw [h]; simp)]
theorem closM_tot (r : Relation) : tot (closM r).rows ≤ 1600 := by
  unfold closM; split
  · rename_i h
    obtain ⟨n, hn, hn', _⟩ := relOk_parts (s := r.size) (xs := r.rows) h
    exact relM_tot' _ (by omega)
  · simp [zeroRel, tot]
theorem upd_same {p : Nat → Nat → Bool} {a b : Nat} {x : Bool} (h : p a b = x) : upd p a b x = p := by
  funext i j
  unfold upd
  split
  · rename_i hij; obtain ⟨rfl, rfl⟩ := hij; exact h.symm
  · rfl

/-- A row of a table that the call owns. -/
theorem mat_line {w : World} {lo hi n a : Nat} {v : Value} {p : Nat → Nat → Bool} (h : EBoolS.OS w lo hi v (mat n p)) (hhs : hi ≤ w.heap.size) (ha : a < n) : ∃ g r c c', v = .slice (some ⟨g, 0, none⟩) n c ∧ lo ≤ g ∧ g < hi ∧ lo ≤ r ∧ r < hi ∧
    w.cell? ⟨g, a, none⟩ = some (.slice (some ⟨r, 0, none⟩) n c') ∧ n ≤ c' ∧
    ∀ b, b < n → w.cell? ⟨r, b, none⟩ = some (.bool (p a b)) ∧ w.frozen? ⟨r, b, none⟩ = false ∧ ∀ x : Bool, EBoolS.OS (w.setCell ⟨r, b, none⟩ (.bool x)) lo hi v (mat n (upd p a b x)) := by
  obtain ⟨g, r, c, c', hv, g1, g2, r1, r2, k1, _, _, k4, _⟩ := mat_own h hhs ha (by omega : 0 < n)
  refine ⟨g, r, c, c', hv, g1, g2, r1, r2, k1, k4, fun b hb => ?_⟩
  obtain ⟨g', r', d, d', hv', _, _, _, _, l1, l2, l3, _, l5⟩ := mat_own h hhs ha hb
  rw [hv] at hv'
  injection hv' with hv' _ _
  injection hv' with hv'
  injection hv' with hv' _ _
  subst hv'
  rw [k1] at l1
  injection l1 with l1
  injection l1 with l1 _ _
  injection l1 with l1
  injection l1 with l1 _ _
  subst l1
  exact ⟨l2, l3, l5⟩

set_option maxHeartbeats 2000000 in
theorem specClosureRelation_any (s : Int) (A : Option Addr) (c lo hi : Nat) (xs : List (List Int)) (w : World) (h : EIntS.AS w lo hi A xs) (hh : hi ≤ w.heap.size) :
    Calls Try.prog 48 #[.agg #[.int .i64 s, .slice A xs.length c]] w (RetRel w (closM ⟨s, xs⟩)) := by
  cases hok : relOk ⟨s, xs⟩ with
  | false =>
    rw [closM_out hok]
    have HO := Lib.hid hok; clear hok
    go_enter Try.func48, Try.ntmps48
    go_wp2_with (go_at_call 89; (with_reducible refine (specIsRelation_any s A c lo hi xs _ (h.same (by (with_reducible repeat' first | exact Same.refl _ _ _ | assumption | (refine Same.setCell ?_ (by first | omega | (simp; omega) | (simp; done) | (dsimp only; omega)) _) | (refine Same.alloc ?_ (by first | omega | (simp; omega) | (simp; done) | (dsimp only; omega)) _) | (refine Same.drewN ?_ _) | (refine Same.drew ?_)))) (by first | omega | (simp; omega) | (simp; done) | (dsimp only; omega))).mono ?_); rintro e w1 ⟨rfl, hb1⟩; simp only [HO.out]; (obtain ⟨hb1c, hb1f⟩ := bcell hb1); (have hb1z := hb1.size); (try simp only [szs] at hb1c hb1f hb1z))
    exact bodyPost_ret (v := .agg #[.int .i64 0, .slice none 0 0]) (by simp [results, Try.results48, go_sem, hb1c]) rfl (RetRel.zero (by (with_reducible repeat' first | exact Below.refl _ _ | assumption | (refine Below.setCell ?_ (by first | omega | (simp; omega) | (simp; done) | (dsimp only; omega)) _) | (refine Below.alloc ?_ (by first | omega | (simp; omega) | (simp; done) | (dsimp only; omega)) _) | (refine below_drewN ?_ _) | (refine Below.drew ?_) | (refine Below.trans ?_ (hb1.mono (by first | omega | (simp; omega) | (simp; done) | (dsimp only; omega)))))))
  | true =>
    obtain ⟨n, rfl, hn, hl, hrows⟩ := relOk_parts hok
    rw [closM_in hok]
    have R1 := Lib.hid hok; clear hok
    have HL := Lib.hid hl; clear hl hrows
    go_enter Try.func48, Try.ntmps48
    go_wp2_with (go_at_call 89; (with_reducible refine (specIsRelation_any n A c lo hi xs _ (h.same (by (with_reducible repeat' first | exact Same.refl _ _ _ | assumption | (refine Same.setCell ?_ (by first | omega | (simp; omega) | (simp; done) | (dsimp only; omega)) _) | (refine Same.alloc ?_ (by first | omega | (simp; omega) | (simp; done) | (dsimp only; omega)) _) | (refine Same.drewN ?_ _) | (refine Same.drew ?_)))) (by first | omega | (simp; omega) | (simp; done) | (dsimp only; omega))).mono ?_); rintro e w1 ⟨rfl, hb1⟩; simp only [R1.out]; (obtain ⟨hb1c, hb1f⟩ := bcell hb1); (have hb1z := hb1.size); (try simp only [szs] at hb1c hb1f hb1z))
    replace h : EIntS.AS w1 lo hi A xs := h.same (by (with_reducible repeat' first | exact Same.refl _ _ _ | assumption | (refine Same.setCell ?_ (by first | omega | (simp; omega) | (simp; done) | (dsimp only; omega)) _) | (refine Same.alloc ?_ (by first | omega | (simp; omega) | (simp; done) | (dsimp only; omega)) _) | (refine Same.drewN ?_ _) | (refine Same.drew ?_) | (refine Same.trans ?_ (Same.of_below hb1 (by first | omega | (simp; omega) | (simp; done) | (dsimp only; omega))))))
    have r0 : Blk w1 (w.heap.size + 1) 27 #[.int .i64 0, .slice none 0 0] := (Blk.new _ (by simp)).below hb1 (by simp)
    have hbw : Below w.heap.size w w1 := by (with_reducible repeat' first | exact Below.refl _ _ | assumption | (refine Below.setCell ?_ (by first | omega | (simp; omega) | (simp; done) | (dsimp only; omega)) _) | (refine Below.alloc ?_ (by first | omega | (simp; omega) | (simp; done) | (dsimp only; omega)) _) | (refine below_drewN ?_ _) | (refine Below.drew ?_) | (refine Below.trans ?_ (hb1.mono (by first | omega | (simp; omega) | (simp; done) | (dsimp only; omega)))))
    clear hb1 hb1c hb1f
    refine (l2Grid_any n A c lo hi xs _ h (by omega) R1.out).mono ?_
    rintro e w2 ⟨A2, c2, rfl, ho2, hb2⟩
    rw [HL.out] at ho2 ⊢
    replace r0 := r0.below hb2 (by omega)
    replace hbw := hbw.trans (hb2.mono (by omega))
    have z2 := hb2.size
    clear hb2 h
    go_wp2
    go_loopw [15] (fun i wr => TabRel (closK n (gridP xs)) n w1.heap.size w2.heap.size A2 c2 w2 i wr) (fun i _ => n - (intOf i).toNat)
    case atStart => exact ⟨0, Nat.zero_le _, rfl, ho2, Chg.refl _ _ _, Nat.le_refl _⟩
    case round =>
      obtain ⟨k, hk, rfl, ho, hch, hsz⟩ := hrel
      by_cases hlk : k < n
      · go_wp2
        obtain ⟨wo, rfl⟩ : ∃ wo : World, wo = wr := ⟨_, rfl⟩
        go_loopw [20] (fun i w3 => TabRel (closA n (closK n (gridP xs) k) k) n w1.heap.size w2.heap.size A2 c2 w2 i w3) (fun i _ => n - (intOf i).toNat)
        case atStart => exact ⟨0, Nat.zero_le _, rfl, ho, hch, hsz⟩
        case round =>
          obtain ⟨a, ha, rfl, ho3, hch3, hsz3⟩ := hrel
          by_cases hla : a < n
          · go_wp2
            obtain ⟨wo2, rfl⟩ : ∃ wo2 : World, wo2 = wr := ⟨_, rfl⟩
            go_loopw [25] (fun i w4 => TabRel (closB (closA n (closK n (gridP xs) k) k a) k a) n w1.heap.size w2.heap.size A2 c2 w2 i w4) (fun i _ => n - (intOf i).toNat)
            case atStart => exact ⟨0, Nat.zero_le _, rfl, ho3, hch3, hsz3⟩
            case round =>
              obtain ⟨b, hb, rfl, ho4, hch4, hsz4⟩ := hrel
              by_cases hlb : b < n
              · generalize hT : closB (closA n (closK n (gridP xs) k) k a) k a b = T at ho4
                have HS := Lib.hid (show closB (closA n (closK n (gridP xs) k) k a) k a (b + 1) = upd T a b (T a b || (T a k && T k b)) by rw [closB, hT]; rfl)
                clear hT
                obtain ⟨g, r, cc, cc', hv, _, _, r1, r2, k1, k4, La⟩ := mat_line ho4 hsz4 hla
                obtain ⟨g', r', dd, dd', hv', _, _, _, _, l1, _, Lk⟩ := mat_line ho4 hsz4 hlk
                injection hv with hv _ hcc
                injection hv' with hv' _ _
                subst hv; subst hcc
                injection hv' with hv'
                injection hv' with hv' _ _
                subst hv'
                obtain ⟨m1, _, _⟩ := La k hlk
                obtain ⟨m2, m3, hset⟩ := La b hlb
                obtain ⟨m4, _, _⟩ := Lk b hlb
                clear La Lk
                cases hp : T a k <;> cases hq : T k b
                all_goals
                  rw [hp] at m1; rw [hq] at m4
                  have HP := Lib.hid hp; have HQ := Lib.hid hq; clear hp hq
                  go_wp2
                iterate 3 exact ⟨⟨b + 1, by omega, by go_num, by rw [HS.out, HP.out, HQ.out, upd_same (by simp)]; exact ho4, hch4, hsz4⟩, by simp [intOf]; omega⟩
                exact ⟨⟨b + 1, by omega, by go_num, by rw [HS.out, HP.out, HQ.out]; simpa using hset true, hch4.setCell ⟨r1, r2⟩ _, by simpa [World.setCell] using hsz4⟩, by simp [intOf]; omega⟩
              · obtain rfl : b = n := by omega
                go_wp2
                exact ⟨⟨a + 1, by omega, by go_num, ho4, hch4, hsz4⟩, by simp [intOf]; omega⟩
          · obtain rfl : a = n := by omega
            go_wp2
            exact ⟨⟨k + 1, by omega, by go_num, ho3, hch3, hsz3⟩, by simp [intOf]; omega⟩
      · obtain rfl : k = n := by omega
        replace r0 := r0.chg hch (.inl (by omega))
        replace hbw := hbw.trans (hch.below (by omega) (by omega))
        have hlw : w.heap.size + 1 < wr.heap.size := r0.lt
        rw [show closK k (gridP xs) k = closP k (gridP xs) from rfl] at ho
        go_wp2_with fail
        have hl := Lib.hid (mat_len k (closP k (gridP xs)))
        rw [← hl.out]
        refine (l2Of_any A2 c2 _ _ (mat k (closP k (gridP xs))) wr ho.read.as hsz (by rw [hl.out]; exact hn) (fun r hr => Nat.le_trans (mat_row r hr) hn)).mono ?_
        rw [hl.out]
        rintro e w6 ⟨A6, c6, rfl, ho6, hb6⟩
        rw [ofM_mat] at ho6
        have hz6 := hb6.size
        have q0 := (r0.below hb6 hlw).cell (i := 0) rfl
        have q1 := (r0.below hb6 hlw).cell (i := 1) rfl
        have f0 := (r0.below hb6 hlw).free 0
        have f1 := (r0.below hb6 hlw).free 1
        go_wp2_with fail
        exact bodyPost_ret (v := .agg #[.int .i64 k, .slice A6 k c6]) (by simp [results, Try.results48, go_sem, q0, q1]) rfl ⟨A6, c6, by simp only [relM_len], by simpa only [relM_len] using (ho6.same (by (with_reducible repeat' first | exact Same.refl _ _ _ | assumption | (refine Same.setCell ?_ (by first | omega | (simp; omega) | (simp; done) | (dsimp only; omega)) _) | (refine Same.alloc ?_ (by first | omega | (simp; omega) | (simp; done) | (dsimp only; omega)) _) | (refine Same.drewN ?_ _) | (refine Same.drew ?_)))).mono (by first | omega | (simp; omega) | (simp; done) | (dsimp only; omega)) (by first | omega | (simp; omega) | (simp; done) | (dsimp only; omega)), by (with_reducible repeat' first | exact Below.refl _ _ | assumption | (refine Below.setCell ?_ (by first | omega | (simp; omega) | (simp; done) | (dsimp only; omega)) _) | (refine Below.alloc ?_ (by first | omega | (simp; omega) | (simp; done) | (dsimp only; omega)) _) | (refine below_drewN ?_ _) | (refine Below.drew ?_) | (refine Below.trans ?_ (hb6.mono (by first | omega | (simp; omega) | (simp; done) | (dsimp only; omega)))))⟩
end Go.Proofs.Ytmgfpcchlonknaa
