/-
  Joining, meeting and subtracting relations in the reference: the three functions.
-/
import Derived.Test.YtmgfpcchlonknaaMixS
import Derived.Test.YtmgfpcchlonknaaBound
namespace Go.Proofs.Ytmgfpcchlonknaa
set_option maxRecDepth 100000
open Go.RowKit

theorem mixM_tot (f : Bool → Bool → Bool) (r s : Relation) : tot (mixM f r s).rows ≤ 1600 := by
  unfold mixM; split
  · rename_i h
    simp only [bothOk, Bool.and_eq_true, decide_eq_true_eq] at h
    obtain ⟨n, hn, hn', _⟩ := relOk_parts (s := r.size) (xs := r.rows) h.1.1
    exact relM_tot' _ (by omega)
  · simp [zeroRel, tot]
theorem convM_tot (r : Relation) : tot (convM r).rows ≤ 1600 := by
  unfold convM; split
  · rename_i h
    obtain ⟨n, hn, hn', _⟩ := relOk_parts (s := r.size) (xs := r.rows) h
    exact relM_tot' _ (by omega)
  · simp [zeroRel, tot]
theorem compM_tot (r s : Relation) : tot (compM r s).rows ≤ 1600 := by
  unfold compM; split
  · rename_i h
    simp only [bothOk, Bool.and_eq_true, decide_eq_true_eq] at h
    obtain ⟨n, hn, hn', _⟩ := relOk_parts (s := r.size) (xs := r.rows) h.1.1
    exact relM_tot' _ (by omega)
  · simp [zeroRel, tot]

theorem specJoinRelations_any (s t : Int) (A B : Option Addr) (c d lo hi lo' hi' : Nat) (xs ys : List (List Int)) (w : World) (h : EIntS.AS w lo hi A xs) (h' : EIntS.AS w lo' hi' B ys) (hh : hi ≤ w.heap.size) (hh' : hi' ≤ w.heap.size) :
    Calls Try.prog 50 #[.agg #[.int .i64 s, .slice A xs.length c], .agg #[.int .i64 t, .slice B ys.length d]] w (RetRel w ((mixM fun x y => x || y) ⟨s, xs⟩ ⟨t, ys⟩)) := by
  rw [show (fun x y => x || y) = mixF 0 from funext fun x => funext fun y => by simp [mixF]]
  go_enter Try.func50, Try.ntmps50
  go_wp2_with fail
  refine (l2Mix_any s t 0 A B c d lo hi lo' hi' xs ys _ (h.same (by (with_reducible repeat' first | exact Same.refl _ _ _ | assumption | (refine Same.setCell ?_ (by first | omega | (simp; omega) | (simp; done) | (dsimp only; omega)) _) | (refine Same.alloc ?_ (by first | omega | (simp; omega) | (simp; done) | (dsimp only; omega)) _) | (refine Same.drewN ?_ _) | (refine Same.drew ?_)))) (h'.same (by (with_reducible repeat' first | exact Same.refl _ _ _ | assumption | (refine Same.setCell ?_ (by first | omega | (simp; omega) | (simp; done) | (dsimp only; omega)) _) | (refine Same.alloc ?_ (by first | omega | (simp; omega) | (simp; done) | (dsimp only; omega)) _) | (refine Same.drewN ?_ _) | (refine Same.drew ?_)))) (by first | omega | (simp; omega) | (simp; done) | (dsimp only; omega)) (by first | omega | (simp; omega) | (simp; done) | (dsimp only; omega)) (by decide)).mono ?_
  rintro e w2 ⟨A2, c2, rfl, ho2, hb2⟩
  (obtain ⟨hb2c, hb2f⟩ := bcell hb2); (have hb2z := hb2.size); (try simp only [szs] at hb2c hb2f hb2z)
  go_wp2_with fail
  exact bodyPost_ret (v := .agg #[.int .i64 (mixM (mixF 0) ⟨s, xs⟩ ⟨t, ys⟩).size, .slice A2 (mixM (mixF 0) ⟨s, xs⟩ ⟨t, ys⟩).rows.length c2]) (by simp [results, Try.results50, go_sem, hb2c]) rfl ⟨A2, c2, rfl, (ho2.same (by (with_reducible repeat' first | exact Same.refl _ _ _ | assumption | (refine Same.setCell ?_ (by first | omega | (simp; omega) | (simp; done) | (dsimp only; omega)) _) | (refine Same.alloc ?_ (by first | omega | (simp; omega) | (simp; done) | (dsimp only; omega)) _) | (refine Same.drewN ?_ _) | (refine Same.drew ?_)))).mono (by first | omega | (simp; omega) | (simp; done) | (dsimp only; omega)) (by first | omega | (simp; omega) | (simp; done) | (dsimp only; omega)), by (with_reducible repeat' first | exact Below.refl _ _ | assumption | (refine Below.setCell ?_ (by first | omega | (simp; omega) | (simp; done) | (dsimp only; omega)) _) | (refine Below.alloc ?_ (by first | omega | (simp; omega) | (simp; done) | (dsimp only; omega)) _) | (refine below_drewN ?_ _) | (refine Below.drew ?_) | (refine Below.trans ?_ (hb2.mono (by first | omega | (simp; omega) | (simp; done) | (dsimp only; omega)))))⟩

theorem specMeetRelations_any (s t : Int) (A B : Option Addr) (c d lo hi lo' hi' : Nat) (xs ys : List (List Int)) (w : World) (h : EIntS.AS w lo hi A xs) (h' : EIntS.AS w lo' hi' B ys) (hh : hi ≤ w.heap.size) (hh' : hi' ≤ w.heap.size) :
    Calls Try.prog 54 #[.agg #[.int .i64 s, .slice A xs.length c], .agg #[.int .i64 t, .slice B ys.length d]] w (RetRel w ((mixM fun x y => x && y) ⟨s, xs⟩ ⟨t, ys⟩)) := by
  rw [show (fun x y => x && y) = mixF 1 from funext fun x => funext fun y => by simp [mixF]]
  go_enter Try.func54, Try.ntmps54
  go_wp2_with fail
  refine (l2Mix_any s t 1 A B c d lo hi lo' hi' xs ys _ (h.same (by (with_reducible repeat' first | exact Same.refl _ _ _ | assumption | (refine Same.setCell ?_ (by first | omega | (simp; omega) | (simp; done) | (dsimp only; omega)) _) | (refine Same.alloc ?_ (by first | omega | (simp; omega) | (simp; done) | (dsimp only; omega)) _) | (refine Same.drewN ?_ _) | (refine Same.drew ?_)))) (h'.same (by (with_reducible repeat' first | exact Same.refl _ _ _ | assumption | (refine Same.setCell ?_ (by first | omega | (simp; omega) | (simp; done) | (dsimp only; omega)) _) | (refine Same.alloc ?_ (by first | omega | (simp; omega) | (simp; done) | (dsimp only; omega)) _) | (refine Same.drewN ?_ _) | (refine Same.drew ?_)))) (by first | omega | (simp; omega) | (simp; done) | (dsimp only; omega)) (by first | omega | (simp; omega) | (simp; done) | (dsimp only; omega)) (by decide)).mono ?_
  rintro e w2 ⟨A2, c2, rfl, ho2, hb2⟩
  (obtain ⟨hb2c, hb2f⟩ := bcell hb2); (have hb2z := hb2.size); (try simp only [szs] at hb2c hb2f hb2z)
  go_wp2_with fail
  exact bodyPost_ret (v := .agg #[.int .i64 (mixM (mixF 1) ⟨s, xs⟩ ⟨t, ys⟩).size, .slice A2 (mixM (mixF 1) ⟨s, xs⟩ ⟨t, ys⟩).rows.length c2]) (by simp [results, Try.results54, go_sem, hb2c]) rfl ⟨A2, c2, rfl, (ho2.same (by (with_reducible repeat' first | exact Same.refl _ _ _ | assumption | (refine Same.setCell ?_ (by first | omega | (simp; omega) | (simp; done) | (dsimp only; omega)) _) | (refine Same.alloc ?_ (by first | omega | (simp; omega) | (simp; done) | (dsimp only; omega)) _) | (refine Same.drewN ?_ _) | (refine Same.drew ?_)))).mono (by first | omega | (simp; omega) | (simp; done) | (dsimp only; omega)) (by first | omega | (simp; omega) | (simp; done) | (dsimp only; omega)), by (with_reducible repeat' first | exact Below.refl _ _ | assumption | (refine Below.setCell ?_ (by first | omega | (simp; omega) | (simp; done) | (dsimp only; omega)) _) | (refine Below.alloc ?_ (by first | omega | (simp; omega) | (simp; done) | (dsimp only; omega)) _) | (refine below_drewN ?_ _) | (refine Below.drew ?_) | (refine Below.trans ?_ (hb2.mono (by first | omega | (simp; omega) | (simp; done) | (dsimp only; omega)))))⟩

theorem specLessRelation_any (s t : Int) (A B : Option Addr) (c d lo hi lo' hi' : Nat) (xs ys : List (List Int)) (w : World) (h : EIntS.AS w lo hi A xs) (h' : EIntS.AS w lo' hi' B ys) (hh : hi ≤ w.heap.size) (hh' : hi' ≤ w.heap.size) :
    Calls Try.prog 52 #[.agg #[.int .i64 s, .slice A xs.length c], .agg #[.int .i64 t, .slice B ys.length d]] w (RetRel w ((mixM fun x y => x && !y) ⟨s, xs⟩ ⟨t, ys⟩)) := by
  rw [show (fun x y => x && !y) = mixF 2 from funext fun x => funext fun y => by simp [mixF]]
  go_enter Try.func52, Try.ntmps52
  go_wp2_with fail
  refine (l2Mix_any s t 2 A B c d lo hi lo' hi' xs ys _ (h.same (by (with_reducible repeat' first | exact Same.refl _ _ _ | assumption | (refine Same.setCell ?_ (by first | omega | (simp; omega) | (simp; done) | (dsimp only; omega)) _) | (refine Same.alloc ?_ (by first | omega | (simp; omega) | (simp; done) | (dsimp only; omega)) _) | (refine Same.drewN ?_ _) | (refine Same.drew ?_)))) (h'.same (by (with_reducible repeat' first | exact Same.refl _ _ _ | assumption | (refine Same.setCell ?_ (by first | omega | (simp; omega) | (simp; done) | (dsimp only; omega)) _) | (refine Same.alloc ?_ (by first | omega | (simp; omega) | (simp; done) | (dsimp only; omega)) _) | (refine Same.drewN ?_ _) | (refine Same.drew ?_)))) (by first | omega | (simp; omega) | (simp; done) | (dsimp only; omega)) (by first | omega | (simp; omega) | (simp; done) | (dsimp only; omega)) (by decide)).mono ?_
  rintro e w2 ⟨A2, c2, rfl, ho2, hb2⟩
  (obtain ⟨hb2c, hb2f⟩ := bcell hb2); (have hb2z := hb2.size); (try simp only [szs] at hb2c hb2f hb2z)
  go_wp2_with fail
  exact bodyPost_ret (v := .agg #[.int .i64 (mixM (mixF 2) ⟨s, xs⟩ ⟨t, ys⟩).size, .slice A2 (mixM (mixF 2) ⟨s, xs⟩ ⟨t, ys⟩).rows.length c2]) (by simp [results, Try.results52, go_sem, hb2c]) rfl ⟨A2, c2, rfl, (ho2.same (by (with_reducible repeat' first | exact Same.refl _ _ _ | assumption | (refine Same.setCell ?_ (by first | omega | (simp; omega) | (simp; done) | (dsimp only; omega)) _) | (refine Same.alloc ?_ (by first | omega | (simp; omega) | (simp; done) | (dsimp only; omega)) _) | (refine Same.drewN ?_ _) | (refine Same.drew ?_)))).mono (by first | omega | (simp; omega) | (simp; done) | (dsimp only; omega)) (by first | omega | (simp; omega) | (simp; done) | (dsimp only; omega)), by (with_reducible repeat' first | exact Below.refl _ _ | assumption | (refine Below.setCell ?_ (by first | omega | (simp; omega) | (simp; done) | (dsimp only; omega)) _) | (refine Below.alloc ?_ (by first | omega | (simp; omega) | (simp; done) | (dsimp only; omega)) _) | (refine below_drewN ?_ _) | (refine Below.drew ?_) | (refine Below.trans ?_ (hb2.mono (by first | omega | (simp; omega) | (simp; done) | (dsimp only; omega)))))⟩

end Go.Proofs.Ytmgfpcchlonknaa
