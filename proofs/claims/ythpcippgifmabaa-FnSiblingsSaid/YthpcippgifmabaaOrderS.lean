/-
  The reference's order of persons by age, and the children of a person.
-/
import Derived.Test.YthpcippgifmabaaOrder
import Derived.Test.YthpcippgifmabaaGFamS
import Derived.Deep.Cut
import Derived.Deep.DeepCutAuto
namespace Go.Proofs.Ythpcippgifmabaa
set_option maxRecDepth 100000
open Go.RowKit

def AgeRel (xs : List Person) (p : Int) (l : List Int) (W : World) (v dn i : Value) (wr : World) : Prop :=
  ∃ (k : Nat) (out : List Int) (done : Bool) (A : Option Addr) (c : Nat), i = .int .i64 k ∧ v = .slice A out.length c ∧ dn = .bool done ∧ EInt.OS wr W.heap.size wr.heap.size (.slice A out.length c) out ∧ Sought xs p l k out done ∧ Below W.heap.size W wr
set_option maxHeartbeats 4000000 in
theorem l1ByAge_any (A B D : Option Addr) (c d e lo hi lo2 hi2 : Nat) (xs : List Person) (ys : List Union) (l : List Int) (p : Nat) (w : World) (h : EPerson.AS w lo hi A xs) (h' : EUnion.AS w lo hi B ys) (hh : hi ≤ w.heap.size) (h2 : EInt.AS w lo2 hi2 D l) (hh2 : hi2 ≤ w.heap.size)
    (hp : p < xs.length) (hl : ∀ q ∈ l, (0 : Int) ≤ q ∧ q < xs.length) (hln : l.length ≤ 1000) :
    Calls Try.prog 48 #[.agg #[.slice A xs.length c, .slice B ys.length d], .slice D l.length e, .int .i64 p] w (RetIntS w (insA xs p l)) := by
  have hx := h.le
  unfold BIG at hx
  generalize hR : insA xs p l = R
  have HR := Lib.hid hR; clear hR
  go_enter Try.func48, Try.ntmps48
  go_wp2
  generalize hW : (w.alloc (.cells #[.slice A xs.length c, .slice B ys.length d] 26)) = W
  have hb : Below w.heap.size w W := by subst hW; (with_reducible repeat' first | exact Below.refl _ _ | assumption | (refine Below.setCell ?_ (by first | omega | (simp; omega) | (simp; done) | (dsimp only; omega)) _) | (refine Below.alloc ?_ (by first | omega | (simp; omega) | (simp; done) | (dsimp only; omega)) _) | (refine below_drewN ?_ _) | (refine Below.drew ?_))
  have F : Blk W w.heap.size 26 #[.slice A xs.length c, .slice B ys.length d] := by subst hW; exact Blk.new _ rfl
  have hW1 : W.heap.size = w.heap.size + 1 := by rw [← hW]; simp
  clear hW
  replace h := h.same (Same.of_below hb hh)
  replace h' := h'.same (Same.of_below hb hh)
  replace h2 := h2.same (Same.of_below hb hh2)
  go_loopw [7, 8, 14] (fun v dn i wr => AgeRel xs p l W v dn i wr) (fun _ _ i _ => l.length - (intOf i).toNat)
  case atStart =>
    rw [← hW1]
    exact ⟨0, [], false, _, _, rfl, rfl, rfl, Elem.OS.made0 _, Sought.start .., by (with_reducible repeat' first | exact Below.refl _ _ | assumption | (refine Below.setCell ?_ (by first | omega | (simp; omega) | (simp; done) | (dsimp only; omega)) _) | (refine Below.alloc ?_ (by first | omega | (simp; omega) | (simp; done) | (dsimp only; omega)) _) | (refine below_drewN ?_ _) | (refine Below.drew ?_))⟩
  case round =>
    obtain ⟨k, out, done, A1, c1, rfl, rfl, rfl, ho, hs, hbk⟩ := hrel
    have hz := hbk.size
    have hks := hs.1
    have hol : out.length ≤ 1001 := by have := hs.2.1; split at this <;> omega
    have Fr := F.below hbk (by omega)
    have e0 := Fr.cell (i := 0) rfl; have e1 := Fr.cell (i := 1) rfl
    have HS := Lib.hid hs; clear hs
    by_cases hlt : k < l.length
    · obtain ⟨b, off, q, rfl, g1, g2, _, hq, hc0⟩ := AInt.at_ (h2.same (Same.of_below hbk (by omega))) hlt
      obtain ⟨hq0, hq1⟩ := hl q (List.mem_of_getElem? hq)
      obtain ⟨q, rfl⟩ := Int.eq_ofNat_of_zero_le hq0
      have HQ := Lib.hid hq; clear hq
      have i1 : (k : Int) < (l.length : Int) := by omega
      cases done with
      | true =>
        have HA := Lib.hid (HS.out.after HQ.out)
        go_wp2_with (at_builtin; refine wpList_app1 tyIntS _ out _ [.int .i64 _] ⟨wr.heap.size, 0, none⟩ 1 (lo := W.heap.size) (hi := wr.heap.size) (ho.same (by (with_reducible repeat' first | exact Same.refl _ _ _ | assumption | (refine Same.setCell ?_ (by first | omega | (simp; omega) | (simp; done) | (dsimp only; omega)) _) | (refine Same.alloc ?_ (by first | omega | (simp; omega) | (simp; done) | (dsimp only; omega)) _) | (refine Same.drewN ?_ _) | (refine Same.drew ?_)))) rfl (by (first | omega | (simp; omega) | (simp; done) | (dsimp only; omega))) hz rfl _ _ rfl rfl rfl rfl (cell_one_at _ _ _ _ (by simp)) (by first | rfl | (simp; done) | (simp; rfl)) (by omega) (by decide) (fun A' c' w5 ho5 hg5 hc5 hm5 => ?_))
        refine ⟨⟨k + 1, out ++ [(q : Int)], true, A', c', by go_num, by simp, rfl, by simpa using ho5, HA.out, ?_⟩, by simp [intOf]; omega⟩
        exact Below.grown (w := World.alloc _ _) (by (with_reducible repeat' first | exact Below.refl _ _ | assumption | (refine Below.setCell ?_ (by first | omega | (simp; omega) | (simp; done) | (dsimp only; omega)) _) | (refine Below.alloc ?_ (by first | omega | (simp; omega) | (simp; done) | (dsimp only; omega)) _) | (refine below_drewN ?_ _) | (refine Below.drew ?_) | (refine Below.trans ?_ (hbk.mono (by first | omega | (simp; omega) | (simp; done) | (dsimp only; omega)))))) hg5 (by simp; omega) (fun k hk => (ho.blkv k hk).1)
      | false =>
        cases he : elderAt xs p q with
        | true =>
          have HA := Lib.hid (HS.out.here HQ.out (by simpa using he))
          have HE := Lib.hid he; clear he
          have b1 := hbk.trans (Below.refl W.heap.size wr)
          go_wp2_with (first
            | (go_at_call 64; (with_reducible refine (l1Elder_any A B c d lo hi xs ys p q _ (h.same (Same.of_below b1 (by omega))) (h'.same (Same.of_below b1 (by omega))) (by omega) hp (by omega)).mono ?_); rintro e w3 ⟨rfl, hb3⟩; simp only [HE.out]; have z3 := hb3.size; clear b1; have b2 := hbk.trans (hb3.mono hz))
            | (clear b2; at_builtin; refine wpList_app1 tyIntS _ out _ [.int .i64 _] ⟨w3.heap.size, 0, none⟩ 1 (lo := W.heap.size) (hi := wr.heap.size) (ho.same (by (with_reducible repeat' first | exact Same.refl _ _ _ | assumption | (refine Same.setCell ?_ (by first | omega | (simp; omega) | (simp; done) | (dsimp only; omega)) _) | (refine Same.alloc ?_ (by first | omega | (simp; omega) | (simp; done) | (dsimp only; omega)) _) | (refine Same.drewN ?_ _) | (refine Same.drew ?_) | (refine Same.trans ?_ (Same.of_below hb3 (by first | omega | (simp; omega) | (simp; done) | (dsimp only; omega))))))) rfl (by (first | omega | (simp; omega) | (simp; done) | (dsimp only; omega))) hz rfl _ _ rfl rfl rfl rfl (cell_one_at _ _ _ _ (by simp)) (by first | rfl | (simp; done) | (simp; rfl)) (by omega) (by decide) (fun A' c' w5 ho5 hg5 hc5 hm5 => ?_); have hb5 : Below W.heap.size W w5 := Below.grown (w := World.alloc _ _) (by (with_reducible repeat' first | exact Below.refl _ _ | assumption | (refine Below.setCell ?_ (by first | omega | (simp; omega) | (simp; done) | (dsimp only; omega)) _) | (refine Below.alloc ?_ (by first | omega | (simp; omega) | (simp; done) | (dsimp only; omega)) _) | (refine below_drewN ?_ _) | (refine Below.drew ?_) | (refine Below.trans ?_ (hb3.mono (by first | omega | (simp; omega) | (simp; done) | (dsimp only; omega)))) | (refine Below.trans ?_ (hbk.mono (by first | omega | (simp; omega) | (simp; done) | (dsimp only; omega)))))) hg5 (by simp; omega) (fun k hk => (ho.blkv k hk).1); have z5 := hb5.size)
            | (at_builtin; refine wpList_app1 tyIntS _ (out ++ [(p : Int)]) _ [.int .i64 _] ⟨w5.heap.size, 0, none⟩ 1 (lo := W.heap.size) (hi := w5.heap.size) (ho5.same (by (with_reducible repeat' first | exact Same.refl _ _ _ | assumption | (refine Same.setCell ?_ (by first | omega | (simp; omega) | (simp; done) | (dsimp only; omega)) _) | (refine Same.alloc ?_ (by first | omega | (simp; omega) | (simp; done) | (dsimp only; omega)) _) | (refine Same.drewN ?_ _) | (refine Same.drew ?_)))) (by simp) (by (first | omega | (simp; omega) | (simp; done) | (dsimp only; omega))) z5 rfl _ _ rfl rfl rfl rfl (cell_one_at _ _ _ _ (by simp)) (by first | rfl | (simp; done) | (simp; rfl)) (by omega) (by decide) (fun A'' c'' w6 ho6 hg6 hc6 hm6 => ?_)))
          refine ⟨⟨k + 1, out ++ [(p : Int)] ++ [(q : Int)], true, A'', c'', by go_num, by simp, rfl, by simpa using ho6, HA.out, ?_⟩, by simp [intOf]; omega⟩
          exact Below.grown (w := World.alloc _ _) (by (with_reducible repeat' first | exact Below.refl _ _ | assumption | (refine Below.setCell ?_ (by first | omega | (simp; omega) | (simp; done) | (dsimp only; omega)) _) | (refine Below.alloc ?_ (by first | omega | (simp; omega) | (simp; done) | (dsimp only; omega)) _) | (refine below_drewN ?_ _) | (refine Below.drew ?_) | (refine Below.trans ?_ (hb5.mono (by first | omega | (simp; omega) | (simp; done) | (dsimp only; omega)))))) hg6 (by simp; omega) (fun k hk => (ho5.blkv k hk).1)
        | false =>
          have HA := Lib.hid (HS.out.past HQ.out (by simpa using he))
          have HE := Lib.hid he; clear he
          go_wp2_with (first
            | (go_at_call 64; (with_reducible refine (l1Elder_any A B c d lo hi xs ys p q _ (h.same (Same.of_below hbk (by omega))) (h'.same (Same.of_below hbk (by omega))) (by omega) hp (by omega)).mono ?_); rintro e w3 ⟨rfl, hb3⟩; simp only [HE.out]; have z3 := hb3.size)
            | (at_builtin; refine wpList_app1 tyIntS _ out _ [.int .i64 _] ⟨w3.heap.size, 0, none⟩ 1 (lo := W.heap.size) (hi := wr.heap.size) (ho.same (by (with_reducible repeat' first | exact Same.refl _ _ _ | assumption | (refine Same.setCell ?_ (by first | omega | (simp; omega) | (simp; done) | (dsimp only; omega)) _) | (refine Same.alloc ?_ (by first | omega | (simp; omega) | (simp; done) | (dsimp only; omega)) _) | (refine Same.drewN ?_ _) | (refine Same.drew ?_) | (refine Same.trans ?_ (Same.of_below hb3 (by first | omega | (simp; omega) | (simp; done) | (dsimp only; omega))))))) rfl (by (first | omega | (simp; omega) | (simp; done) | (dsimp only; omega))) hz rfl _ _ rfl rfl rfl rfl (cell_one_at _ _ _ _ (by simp)) (by first | rfl | (simp; done) | (simp; rfl)) (by omega) (by decide) (fun A' c' w5 ho5 hg5 hc5 hm5 => ?_)))
          refine ⟨⟨k + 1, out ++ [(q : Int)], false, A', c', by go_num, by simp, rfl, by simpa using ho5, HA.out, ?_⟩, by simp [intOf]; omega⟩
          exact Below.grown (w := World.alloc _ _) (by (with_reducible repeat' first | exact Below.refl _ _ | assumption | (refine Below.setCell ?_ (by first | omega | (simp; omega) | (simp; done) | (dsimp only; omega)) _) | (refine Below.alloc ?_ (by first | omega | (simp; omega) | (simp; done) | (dsimp only; omega)) _) | (refine below_drewN ?_ _) | (refine Below.drew ?_) | (refine Below.trans ?_ (hb3.mono (by first | omega | (simp; omega) | (simp; done) | (dsimp only; omega)))) | (refine Below.trans ?_ (hbk.mono (by first | omega | (simp; omega) | (simp; done) | (dsimp only; omega)))))) hg5 (by simp; omega) (fun k hk => (ho.blkv k hk).1)
    · have i1 : ¬ (k : Int) < (l.length : Int) := by omega
      cases done with
      | true =>
        have HE := Lib.hid (HS.out.end_done hlt)
        go_wp2
        go_ret
        rw [← HR.out, ← HE.out]
        exact ⟨_, _, rfl, ho.mono (by omega) (Nat.le_refl _), hb.trans (hbk.mono (by omega))⟩
      | false =>
        have HE := Lib.hid (HS.out.end_not hlt)
        go_wp2_with (at_builtin; refine wpList_app1 tyIntS _ out _ [.int .i64 _] ⟨wr.heap.size, 0, none⟩ 1 (lo := W.heap.size) (hi := wr.heap.size) (ho.same (by (with_reducible repeat' first | exact Same.refl _ _ _ | assumption | (refine Same.setCell ?_ (by first | omega | (simp; omega) | (simp; done) | (dsimp only; omega)) _) | (refine Same.alloc ?_ (by first | omega | (simp; omega) | (simp; done) | (dsimp only; omega)) _) | (refine Same.drewN ?_ _) | (refine Same.drew ?_)))) rfl (by (first | omega | (simp; omega) | (simp; done) | (dsimp only; omega))) hz rfl _ _ rfl rfl rfl rfl (cell_one_at _ _ _ _ (by simp)) (by first | rfl | (simp; done) | (simp; rfl)) (by omega) (by decide) (fun A' c' w5 ho5 hg5 hc5 hm5 => ?_))
        have hb5 : Below W.heap.size W w5 := Below.grown (w := World.alloc _ _) (by (with_reducible repeat' first | exact Below.refl _ _ | assumption | (refine Below.setCell ?_ (by first | omega | (simp; omega) | (simp; done) | (dsimp only; omega)) _) | (refine Below.alloc ?_ (by first | omega | (simp; omega) | (simp; done) | (dsimp only; omega)) _) | (refine below_drewN ?_ _) | (refine Below.drew ?_) | (refine Below.trans ?_ (hbk.mono (by first | omega | (simp; omega) | (simp; done) | (dsimp only; omega)))))) hg5 (by simp; omega) (fun k hk => (ho.blkv k hk).1)
        go_ret
        rw [← HR.out, ← HE.out]
        exact ⟨A', c', by simp, by simpa using ho5.mono (show w.heap.size ≤ W.heap.size by omega) (Nat.le_refl _), hb.trans (hb5.mono (by omega))⟩

def kidP (xs : List Person) (p : Int) (i : Nat) : Bool := match xs[i]? with
  | some x => decide (x.father = p ∨ x.mother = p)
  | none => false
theorem kidP_of {xs : List Person} {p : Int} {i : Nat} {x : Person} (h : xs[i]? = some x) : kidP xs p i = decide (x.father = p ∨ x.mother = p) := by rw [kidP, h]
set_option maxHeartbeats 4000000 in
theorem l1Children_any (A B : Option Addr) (c d lo hi : Nat) (xs : List Person) (ys : List Union) (p : Int) (w : World) (h : EPerson.AS w lo hi A xs) (h' : EUnion.AS w lo hi B ys) (hh : hi ≤ w.heap.size) (hn : xs.length ≤ 40) :
    Calls Try.prog 38 #[.agg #[.slice A xs.length c, .slice B ys.length d], .int .i64 p] w (RetIntS w (kidsM xs (kidP xs p) xs.length)) := by
  go_enter Try.func38, Try.ntmps38
  go_wp2
  generalize hW : (w.alloc (.cells #[.slice A xs.length c, .slice B ys.length d] 26)) = W
  have hb : Below w.heap.size w W := by subst hW; (with_reducible repeat' first | exact Below.refl _ _ | assumption | (refine Below.setCell ?_ (by first | omega | (simp; omega) | (simp; done) | (dsimp only; omega)) _) | (refine Below.alloc ?_ (by first | omega | (simp; omega) | (simp; done) | (dsimp only; omega)) _) | (refine below_drewN ?_ _) | (refine Below.drew ?_))
  have F : Blk W w.heap.size 26 #[.slice A xs.length c, .slice B ys.length d] := by subst hW; exact Blk.new _ rfl
  have hW1 : W.heap.size = w.heap.size + 1 := by rw [← hW]; simp
  clear hW
  replace h := h.same (Same.of_below hb hh)
  replace h' := h'.same (Same.of_below hb hh)
  go_loopw [5, 12] (fun v i wr => AccRel EInt (kidsM xs (kidP xs p)) xs.length W v i wr) (fun _ i _ => xs.length - (intOf i).toNat)
  case atStart =>
    rw [← hW1]
    exact ⟨0, _, _, Nat.zero_le _, rfl, rfl, Elem.OS.made0 _, by (with_reducible repeat' first | exact Below.refl _ _ | assumption | (refine Below.setCell ?_ (by first | omega | (simp; omega) | (simp; done) | (dsimp only; omega)) _) | (refine Below.alloc ?_ (by first | omega | (simp; omega) | (simp; done) | (dsimp only; omega)) _) | (refine below_drewN ?_ _) | (refine Below.drew ?_))⟩
  case round =>
    obtain ⟨k, A1, c1, hk, rfl, rfl, ho, hbk⟩ := hrel
    have hz := hbk.size
    have Fr := F.below hbk (by omega)
    have e0 := Fr.cell (i := 0) rfl; have e1 := Fr.cell (i := 1) rfl
    by_cases hlt : k < xs.length
    · obtain ⟨b, off, ⟨x0, x1, x2, x3, x4, x5⟩, rfl, g1, g2, _, hxk, hc0, hc1, hc2, hc3, hc4, hc5⟩ := APerson.at_ (h.same (Same.of_below hbk (by omega))) hlt
      have hkp := kidP_of (p := p) hxk
      simp only at hkp hc0 hc1 hc2 hc3 hc4 hc5
      have lb : b < wr.heap.size := by omega
      have lw : w.heap.size < wr.heap.size := by omega
      have i1 : (k : Int) < (xs.length : Int) := by omega
      have HM := Lib.hid (fun q (hq : q ∈ kidsM xs (kidP xs p) k) => kidsM_mem.1 hq)
      have hkl := kidsM_len (xs := xs) (P := kidP xs p) k
      clear hxk
      by_cases hyes : x2 = p ∨ x3 = p
      · have HS := Lib.hid (show kidsM xs (kidP xs p) (k + 1) = insA xs k (kidsM xs (kidP xs p) k) by rw [kidsM, if_pos (by rw [hkp]; exact decide_eq_true hyes)])
        clear hkp
        have hgo : (x2 == p) = true ∨ ((x2 == p) = false ∧ (x3 == p) = true) := by
          by_cases e : x2 = p
          · exact .inl (by simpa using e)
          · exact .inr ⟨by simpa using e, by rcases hyes with e' | e'; exact absurd e' e; simpa using e'⟩
        clear hyes
        rcases hgo with f2 | ⟨f2, f3⟩
        all_goals
          go_wp2_with (go_at_call 48; go_loud ((with_reducible refine (l1ByAge_any (some ⟨b, off, none⟩) B A1 c d c1 lo hi W.heap.size wr.heap.size xs ys (kidsM xs (kidP xs p) k) k _ (h.same (by (with_reducible repeat' first | exact Same.refl _ _ _ | assumption | (refine Same.setCell ?_ (by first | omega | (simp; omega) | (simp; done) | (dsimp only; omega)) _) | (refine Same.alloc ?_ (by first | omega | (simp; omega) | (simp; done) | (dsimp only; omega)) _) | (refine Same.drewN ?_ _) | (refine Same.drew ?_) | (refine Same.trans ?_ (Same.of_below hbk (by first | omega | (simp; omega) | (simp; done) | (dsimp only; omega))))))) (h'.same (by (with_reducible repeat' first | exact Same.refl _ _ _ | assumption | (refine Same.setCell ?_ (by first | omega | (simp; omega) | (simp; done) | (dsimp only; omega)) _) | (refine Same.alloc ?_ (by first | omega | (simp; omega) | (simp; done) | (dsimp only; omega)) _) | (refine Same.drewN ?_ _) | (refine Same.drew ?_) | (refine Same.trans ?_ (Same.of_below hbk (by first | omega | (simp; omega) | (simp; done) | (dsimp only; omega))))))) (by simp; omega) (ho.read.as.same (by (with_reducible repeat' first | exact Same.refl _ _ _ | assumption | (refine Same.setCell ?_ (by first | omega | (simp; omega) | (simp; done) | (dsimp only; omega)) _) | (refine Same.alloc ?_ (by first | omega | (simp; omega) | (simp; done) | (dsimp only; omega)) _) | (refine Same.drewN ?_ _) | (refine Same.drew ?_)))) (by simp) hlt (fun q hq => by obtain ⟨i, hi1, _, rfl⟩ := HM.out q hq; omega) (by omega)).mono ?_); rintro e w3 ⟨A3, c3, rfl, o3, hb3⟩))
          refine ⟨⟨k + 1, A3, c3, by omega, by go_num, by rw [HS.out], by rw [HS.out]; exact o3.mono (by simp; omega) (Nat.le_refl _), by (with_reducible repeat' first | exact Below.refl _ _ | assumption | (refine Below.setCell ?_ (by first | omega | (simp; omega) | (simp; done) | (dsimp only; omega)) _) | (refine Below.alloc ?_ (by first | omega | (simp; omega) | (simp; done) | (dsimp only; omega)) _) | (refine below_drewN ?_ _) | (refine Below.drew ?_) | (refine Below.trans ?_ (hb3.mono (by first | omega | (simp; omega) | (simp; done) | (dsimp only; omega)))) | (refine Below.trans ?_ (hbk.mono (by first | omega | (simp; omega) | (simp; done) | (dsimp only; omega)))))⟩, by simp [intOf]; omega⟩
      · have HS := Lib.hid (show kidsM xs (kidP xs p) (k + 1) = kidsM xs (kidP xs p) k by rw [kidsM, if_neg (by rw [hkp]; simpa using hyes)])
        clear hkp
        have f2 : (x2 == p) = false := by simp; omega
        have f3 : (x3 == p) = false := by simp; omega
        clear hyes
        go_wp2
        refine ⟨⟨k + 1, A1, c1, by omega, by go_num, by rw [HS.out], by rw [HS.out]; exact (ho.same (by (with_reducible repeat' first | exact Same.refl _ _ _ | assumption | (refine Same.setCell ?_ (by first | omega | (simp; omega) | (simp; done) | (dsimp only; omega)) _) | (refine Same.alloc ?_ (by first | omega | (simp; omega) | (simp; done) | (dsimp only; omega)) _) | (refine Same.drewN ?_ _) | (refine Same.drew ?_)))).mono (Nat.le_refl _) (by simp), by (with_reducible repeat' first | exact Below.refl _ _ | assumption | (refine Below.setCell ?_ (by first | omega | (simp; omega) | (simp; done) | (dsimp only; omega)) _) | (refine Below.alloc ?_ (by first | omega | (simp; omega) | (simp; done) | (dsimp only; omega)) _) | (refine below_drewN ?_ _) | (refine Below.drew ?_) | (refine Below.trans ?_ (hbk.mono (by first | omega | (simp; omega) | (simp; done) | (dsimp only; omega)))))⟩, by simp [intOf]; omega⟩
    · obtain rfl : k = xs.length := by omega
      go_wp2
      go_ret
      exact ⟨_, _, rfl, ho.mono (by omega) (Nat.le_refl _), hb.trans (hbk.mono (by omega))⟩
end Go.Proofs.Ythpcippgifmabaa
