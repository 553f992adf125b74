/-
  Lists of kin types that agree element by element.
-/
import Derived.Test.YtnnjilkjjdiblaaXGFrom
import Derived.Test.YtnnjilkjjdiblaaXTypEq
import Derived.Deep.DeepCutAuto
import Derived.Deep.RegionHeld3
namespace Go.Proofs.Ytnnjilkjjdiblaa
set_option maxRecDepth 100000
open Go.RowKit

theorem kin_one {W : World} {b lo hi c : Nat} {A : Option Addr} {e : Int} {zs : List Step} (h : EStep.AS W lo hi A zs) (hc : zs.length ≤ c ∧ c ≤ maxLen) (hB : Blk W b 30 #[.int .i64 e, .slice A zs.length c]) : EKin.AS W 0 (max (b + 1) hi) (some ⟨b, 0, none⟩) [⟨e, zs⟩] := by
  refine ⟨by simp [BIG], [[.int .i64 e, .slice A zs.length c]], fun _ => ⟨b, 0, rfl, Nat.zero_le _, by omega, fun i cs hi j u hj => ?_⟩, ⟨rfl, fun i x hx => ?_⟩⟩
  · cases i with
    | succ i => simp at hi
    | zero =>
      simp at hi
      subst hi
      show W.cell? ⟨b, 0 + (0 * 2 + j), none⟩ = some u
      rw [show 0 + (0 * 2 + j) = j by omega]
      exact hB.cell (by simpa using hj)
  · cases i with
    | succ i => simp at hx
    | zero =>
      simp at hx
      subst hx
      exact ⟨_, rfl, .slice A zs.length c, rfl, A, c, rfl, hc.1, hc.2, h.mono (Nat.zero_le _) (by omega)⟩
set_option maxHeartbeats 4000000 in
theorem sameTypes_same (A B : Option Addr) (c d lo hi lo' hi' : Nat) (xs : List KinType) (w : World) (h : EKin.AS w lo hi A xs) (h' : EKin.AS w lo' hi' B xs) (hh : hi ≤ w.heap.size) (hh' : hi' ≤ w.heap.size) :
    Calls Try.prog 68 #[.slice A xs.length c, .slice B xs.length d] w fun e w' => e = .returned (.bool true) ∧ Below w.heap.size w w' := by
  have hx := h.1
  unfold BIG at hx
  go_enter Try.func68, Try.ntmps68
  go_wp2
  go_loopw [13] (fun i wr => ∃ k : Nat, k ≤ xs.length ∧ i = .int .i64 k ∧ Below w.heap.size w wr) (fun i _ => xs.length - (intOf i).toNat)
  case atStart => exact ⟨0, Nat.zero_le _, rfl, Below.refl _ _⟩
  case round =>
    obtain ⟨k, hk, rfl, hbk⟩ := hrel
    have zk := hbk.size
    by_cases hlt : k < xs.length
    · have i1 : (k : Int) < (xs.length : Int) := by omega
      obtain ⟨b1, o1, ⟨x0, x1⟩, A1, c1, rfl, _, m1, _, hxk, hc0, hc1, s1⟩ := AKin.at_ (h.same (Same.of_below hbk hh)) hlt
      obtain ⟨b2, o2, ⟨y0, y1⟩, B1, d1, rfl, _, m2, _, hyk, hd0, hd1, t1⟩ := AKin.at_ (h'.same (Same.of_below hbk hh')) hlt
      rw [hxk] at hyk
      injection hyk with hyk
      injection hyk with hy0 hy1
      subst hy0; subst hy1
      clear hxk
      simp only at hc0 hc1 hd0 hd1 s1 t1
      have H := specEqualTypes_any A1 B1 c1 d1 lo hi lo' hi' x0 x0 x1 x1 wr.drew (s1.same ⟨Nat.le_refl _, fun _ _ _ => rfl⟩) (t1.same ⟨Nat.le_refl _, fun _ _ _ => rfl⟩) (Nat.le_trans hh zk) (Nat.le_trans hh' zk)
      rw [eqB_refl] at H
      go_upto_region 6 with fail
      have ca : wr.drew.cell? ⟨b1, o1 + k * 2, none⟩ = some (.int .i64 x0) := hc0
      have cb : wr.drew.cell? ⟨b1, o1 + k * 2 + 1, none⟩ = some (.slice A1 x1.length c1) := hc1
      have da : wr.drew.cell? ⟨b2, o2 + k * 2, none⟩ = some (.int .i64 x0) := hd0
      have db : wr.drew.cell? ⟨b2, o2 + k * 2 + 1, none⟩ = some (.slice B1 x1.length d1) := hd1
      have l1 : b1 < wr.drew.heap.size := by show b1 < wr.heap.size; omega
      have l2 : b2 < wr.drew.heap.size := by show b2 < wr.heap.size; omega
      refine wp_region_held_drew (S := fun w' => w'.cell? ⟨b1, o1 + k * 2, none⟩ = some (.int .i64 x0) ∧ w'.cell? ⟨b1, o1 + k * 2 + 1, none⟩ = some (.slice A1 x1.length c1) ∧ w'.cell? ⟨b2, o2 + k * 2, none⟩ = some (.int .i64 x0) ∧ w'.cell? ⟨b2, o2 + k * 2 + 1, none⟩ = some (.slice B1 x1.length d1)) (by kernel_rfl) ⟨ca, cb, da, db⟩ (fun hHeld => ?_)
      refine wpAnyH_take (i := 0) (oi := { dst := some 16, op := _, type := _, pos := _, after := _, guard := _ }) (v := ?_) rfl (by kernel_rfl) (by kernel_rfl) (by kernel_rfl) (fun _ _ _ h => h) (Or.inl ⟨by rfl, ?_⟩) (by assumption) ?_; rotate_left; (intro w hSw; (try dsimp only at hSw); go_simp); (try with_reducible rfl); (try simp only [Act.put, List.setIfInBounds_toArray, List.set_cons_zero, List.set_cons_succ])
      refine wpAnyH_take (i := 1) (oi := { dst := some 17, op := _, type := _, pos := _, after := _, guard := _ }) (v := ?_) rfl (by kernel_rfl) (by kernel_rfl) (by kernel_rfl) (fun _ _ _ h => h) (Or.inl ⟨by rfl, ?_⟩) (by assumption) ?_; rotate_left; (intro w hSw; (try dsimp only at hSw); go_simp); (try with_reducible rfl); (try simp only [Act.put, List.setIfInBounds_toArray, List.set_cons_zero, List.set_cons_succ])
      refine wpAnyH_take (i := 2) (oi := { dst := some 18, op := _, type := _, pos := _, after := _, guard := _ }) (v := ?_) rfl (by kernel_rfl) (by kernel_rfl) (by kernel_rfl) (fun _ _ _ h => h) (Or.inl ⟨by rfl, ?_⟩) (by assumption) ?_; rotate_left; (intro w hSw; (try dsimp only at hSw); go_simp); (try with_reducible rfl); (try simp only [Act.put, List.setIfInBounds_toArray, List.set_cons_zero, List.set_cons_succ])
      refine wpAnyH_take (i := 3) (oi := { dst := some 19, op := _, type := _, pos := _, after := _, guard := _ }) (v := ?_) rfl (by kernel_rfl) (by kernel_rfl) (by kernel_rfl) (fun _ _ _ h => h) (Or.inl ⟨by rfl, ?_⟩) (by assumption) ?_; rotate_left; (intro w hSw; (try dsimp only at hSw); go_simp); (try with_reducible rfl); (try simp only [Act.put, List.setIfInBounds_toArray, List.set_cons_zero, List.set_cons_succ])
      refine wpAnyH_take (i := 4) (oi := { dst := some 20, op := _, type := _, pos := _, after := _, guard := _ }) (v := ?_) rfl (by kernel_rfl) (by kernel_rfl) (by kernel_rfl) (fun _ _ _ h => h) (Or.inl ⟨by rfl, ?_⟩) (by assumption) ?_; rotate_left; (intro w hSw; (try dsimp only at hSw); go_simp); (try with_reducible rfl); (try simp only [Act.put, List.setIfInBounds_toArray, List.set_cons_zero, List.set_cons_succ])
      refine wpAnyH_take (i := 5) (oi := { dst := some 21, op := _, type := _, pos := _, after := _, guard := _ }) (v := ?_) rfl (by kernel_rfl) (by kernel_rfl) (by kernel_rfl) (fun _ _ _ h => h) (Or.inl ⟨by rfl, ?_⟩) (by assumption) ?_; rotate_left; (intro w hSw; (try dsimp only at hSw); go_simp); (try with_reducible rfl); (try simp only [Act.put, List.setIfInBounds_toArray, List.set_cons_zero, List.set_cons_succ])
      refine wpAnyH_take (i := 6) (oi := { dst := some 22, op := _, type := _, pos := _, after := _, guard := _ }) (v := ?_) rfl (by kernel_rfl) (by kernel_rfl) (by kernel_rfl) (fun _ _ _ h => h) (Or.inl ⟨by rfl, ?_⟩) (by assumption) ?_; rotate_left; (intro w hSw; (try dsimp only at hSw); go_simp); (try with_reducible rfl); (try simp only [Act.put, List.setIfInBounds_toArray, List.set_cons_zero, List.set_cons_succ])
      refine wpAnyH_take (i := 7) (oi := { dst := some 23, op := _, type := _, pos := _, after := _, guard := _ }) (v := ?_) rfl (by kernel_rfl) (by kernel_rfl) (by kernel_rfl) (fun _ _ _ h => h) (Or.inl ⟨by rfl, ?_⟩) (by assumption) ?_; rotate_left; (intro w hSw; (try dsimp only at hSw); go_simp); (try with_reducible rfl); (try simp only [Act.put, List.setIfInBounds_toArray, List.set_cons_zero, List.set_cons_succ])
      refine wpAnyH_ready (rs := [8]) (by kernel_rfl) (by simp) ?_
      refine AllReadyH.cons (o := { dst := some 24, op := _, type := _, pos := _, after := _, guard := _ }) rfl (fun K hK => ?_) (AllReadyH.nil)
      go_simp
      (go_at_call 31; (with_reducible refine H.mono ?_); rintro e w9 ⟨rfl, hb9⟩)
      try go_wp2_with fail
      refine hK.out _ _ ⟨(hb9.cell (p := ⟨b1, o1 + k * 2, none⟩) l1).trans ca, (hb9.cell (p := ⟨b1, o1 + k * 2 + 1, none⟩) l1).trans cb, (hb9.cell (p := ⟨b2, o2 + k * 2, none⟩) l2).trans da, (hb9.cell (p := ⟨b2, o2 + k * 2 + 1, none⟩) l2).trans db⟩ (fun hHeld => ?_)
      clear hK K; (try simp only [Act.put, List.setIfInBounds_toArray, List.set_cons_zero, List.set_cons_succ])
      refine wpAnyH_take (i := 9) (oi := { dst := some 25, op := _, type := _, pos := _, after := _, guard := _ }) (v := ?_) rfl (by kernel_rfl) (by kernel_rfl) (by kernel_rfl) (fun _ _ _ h => h) (Or.inl ⟨by rfl, ?_⟩) (by assumption) ?_; rotate_left; (intro w hSw; (try dsimp only at hSw); go_simp); (try with_reducible rfl); (try simp only [Act.put, List.setIfInBounds_toArray, List.set_cons_zero, List.set_cons_succ])
      refine wpAnyH_done (by kernel_rfl) ?_ _
      go_wp2_with fail
      exact ⟨⟨k + 1, by omega, by go_num, hbk.trans ((undrew hb9).mono zk)⟩, by simp [intOf]; omega⟩
    · have i1 : ¬ (k : Int) < (xs.length : Int) := by omega
      go_wp2
      go_ret
      exact ⟨rfl, hbk⟩
end Go.Proofs.Ytnnjilkjjdiblaa
