/-
  Equality of families, in the reference and in the program.
-/
import Derived.Test.YtkdgjbbjbghdnaaConvFam
namespace Go.Proofs.Ytkdgjbbjbghdnaa
set_option maxRecDepth 100000
open Go.RowKit

theorem person_guard : Try.prog.eqGuardType Try.prog.depth 59 = false := by kernel_rfl
theorem person_held : Try.prog.stoodInHeld 59 = false := by kernel_rfl
theorem person_und : Try.prog.underlying 59 = some (.struct (Try.prog.fieldsOf 59)) := by kernel_rfl
theorem union_guard : Try.prog.eqGuardType Try.prog.depth 61 = false := by kernel_rfl
theorem union_held : Try.prog.stoodInHeld 61 = false := by kernel_rfl
theorem union_und : Try.prog.underlying 61 = some (.struct (Try.prog.fieldsOf 61)) := by kernel_rfl
theorem union_neq (x0 x1 x2 x3 y0 y1 y2 y3 : Int) (w : World) : (binOp .neq 61 (.agg #[.int .i64 x0, .int .i64 x1, .int .i64 x2, .int .i64 x3]) (.agg #[.int .i64 y0, .int .i64 y1, .int .i64 y2, .int .i64 y3])).run Try.prog w = .ok (.bool (!eqB (⟨x0, x1, x2, x3⟩ : Union) ⟨y0, y1, y2, y3⟩)) w := by
  have h : (Op.equalIn 10000 61 (.agg #[.int .i64 x0, .int .i64 x1, .int .i64 x2, .int .i64 x3]) (.agg #[.int .i64 y0, .int .i64 y1, .int .i64 y2, .int .i64 y3])).run Try.prog w = .ok (eqB (⟨x0, x1, x2, x3⟩ : Union) ⟨y0, y1, y2, y3⟩) w := by
    rw [run_equalIn_struct _ _ _ _ _ union_und union_held]
    simp [go_sem, eqB]
    by_cases h0 : x0 = y0 <;> by_cases h1 : x1 = y1 <;> by_cases h2 : x2 = y2 <;> by_cases h3 : x3 = y3 <;> simp [h0, h1, h2, h3]
  rw [run_neq_struct, h]; rfl
theorem person_neq (x0 y0 : ByteArray) (x1 x2 x3 x4 x5 y1 y2 y3 y4 y5 : Int) (w : World) : (binOp .neq 59 (.agg #[.string x0, .int .i64 x1, .int .i64 x2, .int .i64 x3, .int .i64 x4, .int .i64 x5]) (.agg #[.string y0, .int .i64 y1, .int .i64 y2, .int .i64 y3, .int .i64 y4, .int .i64 y5])).run Try.prog w = .ok (.bool (!eqB (⟨x0, x1, x2, x3, x4, x5⟩ : Person) ⟨y0, y1, y2, y3, y4, y5⟩)) w := by
  have h : (Op.equalIn 10000 59 (.agg #[.string x0, .int .i64 x1, .int .i64 x2, .int .i64 x3, .int .i64 x4, .int .i64 x5]) (.agg #[.string y0, .int .i64 y1, .int .i64 y2, .int .i64 y3, .int .i64 y4, .int .i64 y5])).run Try.prog w = .ok (eqB (⟨x0, x1, x2, x3, x4, x5⟩ : Person) ⟨y0, y1, y2, y3, y4, y5⟩) w := by
    rw [run_equalIn_struct _ _ _ _ _ person_und person_held]
    simp [go_sem, eqB, str_eq]
    by_cases h0 : x0 = y0 <;> by_cases h1 : x1 = y1 <;> by_cases h2 : x2 = y2 <;> by_cases h3 : x3 = y3 <;> by_cases h4 : x4 = y4 <;> by_cases h5 : x5 = y5 <;> simp [h0, h1, h2, h3, h4, h5]
  rw [run_neq_struct, h]; rfl

set_option maxHeartbeats 2000000 in
theorem specEqualFamilies_any (A B A' B' : Option Addr) (c d c' d' lo hi lo' hi' : Nat) (xs : List Person) (ys : List Union) (xs' : List Person) (ys' : List Union) (w : World) (h : EPerson.AS w lo hi A xs) (h' : EUnion.AS w lo hi B ys) (h2 : EPerson.AS w lo' hi' A' xs') (h2' : EUnion.AS w lo' hi' B' ys') (hh : hi ≤ w.heap.size) (hh' : hi' ≤ w.heap.size) :
    Calls Try.prog 15 #[.agg #[.slice A xs.length c, .slice B ys.length d], .agg #[.slice A' xs'.length c', .slice B' ys'.length d']] w fun e w' => e = .returned (.bool (eqB (⟨xs, ys⟩ : Family) ⟨xs', ys'⟩)) ∧ Below w.heap.size w w' := by
  have HE := Lib.hid (show eqB (⟨xs, ys⟩ : Family) ⟨xs', ys'⟩ = (eqB xs xs' && eqB ys ys') by simp [eqB])
  have hx := h.le; have hy := h'.le; have hx' := h2.le; have hy' := h2'.le
  unfold BIG at hx hy hx' hy'
  by_cases hn : xs.length = xs'.length
  · by_cases hm : ys.length = ys'.length
    · have n1 : xs.length ≤ xs'.length := by omega
      have n2 : xs'.length ≤ xs.length := by omega
      have n3 : ys.length ≤ ys'.length := by omega
      have n4 : ys'.length ≤ ys.length := by omega
      have nb : ((xs.length : Int) != (xs'.length : Int)) = false := by simp; omega
      have mb : ((ys.length : Int) != (ys'.length : Int)) = false := by simp; omega
      clear hn hm
      have e1 := person_guard
      have e2 := union_guard
      go_enter Try.func15, Try.ntmps15
      go_wp2
      generalize hW : (w.alloc (.cells #[.slice A xs.length c, .slice B ys.length d] 31)).alloc (.cells #[.slice A' xs'.length c', .slice B' ys'.length d'] 31) = W
      have a0 : W.cell? ⟨w.heap.size, 0, none⟩ = some (.slice A xs.length c) := by subst hW; simp [go_sem]
      have a1 : W.cell? ⟨w.heap.size, 1, none⟩ = some (.slice B ys.length d) := by subst hW; simp [go_sem]
      have a2 : W.cell? ⟨w.heap.size + 1, 0, none⟩ = some (.slice A' xs'.length c') := by subst hW; simp [go_sem]
      have a3 : W.cell? ⟨w.heap.size + 1, 1, none⟩ = some (.slice B' ys'.length d') := by subst hW; simp [go_sem]
      have hb : Below w.heap.size w W := by subst hW; (with_reducible repeat' first | exact Below.refl _ _ | assumption | (refine Below.setCell ?_ (by first | omega | (simp; omega) | (simp; done) | (dsimp only; omega)) _) | (refine Below.alloc ?_ (by first | omega | (simp; omega) | (simp; done) | (dsimp only; omega)) _) | (refine below_drewN ?_ _) | (refine Below.drew ?_))
      clear hW
      replace h := h.same (Same.of_below hb hh); replace h' := h'.same (Same.of_below hb hh)
      replace h2 := h2.same (Same.of_below hb hh'); replace h2' := h2'.same (Same.of_below hb hh')
      go_loopw [26] (fun i wr => EqRel xs xs' W i wr) (fun i _ => xs.length - (intOf i).toNat)
      case atStart => exact ⟨0, 0, Nat.zero_le _, rfl, rfl, by simp⟩
      case round =>
        obtain ⟨k, n, hk, rfl, hw, he⟩ := hrel
        have HQ := Lib.hid he; clear he
        have g := hw ▸ h.drewN n; have g' := hw ▸ h2.drewN n
        have b0 : wr.cell? ⟨w.heap.size, 0, none⟩ = some (.slice A xs.length c) := by rw [hw]; exact a0
        have b1 : wr.cell? ⟨w.heap.size, 1, none⟩ = some (.slice B ys.length d) := by rw [hw]; exact a1
        have b2 : wr.cell? ⟨w.heap.size + 1, 0, none⟩ = some (.slice A' xs'.length c') := by rw [hw]; exact a2
        have b3 : wr.cell? ⟨w.heap.size + 1, 1, none⟩ = some (.slice B' ys'.length d') := by rw [hw]; exact a3
        have HW := Lib.hid hw
        by_cases hlt : k < xs.length
        · clear hw
          obtain ⟨p1, o1, ⟨x0, x1, x2, x3, x4, x5⟩, rfl, _, _, hd1, _, hc0, hc1, hc2, hc3, hc4, hc5⟩ := APerson.at_ g hlt
          obtain ⟨p2, o2, ⟨y0, y1, y2, y3, y4, y5⟩, rfl, _, _, hd2, _, hd0, hd1', hd2', hd3, hd4, hd5⟩ := APerson.at_ g' (by omega : k < xs'.length)
          have HD1 := Lib.hid hd1; have HD2 := Lib.hid hd2; clear hd1 hd2
          simp only at hc0 hc1 hc2 hc3 hc4 hc5 hd0 hd1' hd2' hd3 hd4 hd5
          have q1 : (0 : Int) ≤ (k : Int) := by omega
          have q2 : (k : Int) < (xs.length : Int) := by omega
          have q3 : (k : Int) < (xs'.length : Int) := by omega
          have e3 := fun w => person_neq x0 y0 x1 x2 x3 x4 x5 y1 y2 y3 y4 y5 w
          go_wp2
          go_quiet (fail)
          go_wp2
          · have hxy : (!eqB (⟨x0, x1, x2, x3, x4, x5⟩ : Person) ⟨y0, y1, y2, y3, y4, y5⟩) = true := by assumption
            go_ret
            refine ⟨ret_bool ?_, ?_⟩
            · rw [HE.out, ← eqB_no HQ.out HD1.out HD2.out (not_true hxy)]; rfl
            · rw [HW.out]; exact below_drewN (below_drewN hb _) _
          · have hxy : (!eqB (⟨x0, x1, x2, x3, x4, x5⟩ : Person) ⟨y0, y1, y2, y3, y4, y5⟩) = false := by assumption
            exact ⟨⟨k + 1, _, by omega, by go_num, by rw [HW.out, World.drewN_drewN], eqB_yes HQ.out HD1.out HD2.out (not_false hxy)⟩, by simp [intOf]; omega⟩
        · have HX := Lib.hid (eqB_end HQ.out (by omega) (by omega))
          have gy := hw ▸ h'.drewN n; have gy' := hw ▸ h2'.drewN n
          have hbr : Below w.heap.size w wr := by rw [hw]; exact below_drewN hb _
          clear hw HW g g' HQ
          go_wp2
          obtain ⟨wo, rfl⟩ : ∃ wo : World, wo = wr := ⟨_, rfl⟩
          go_loopw [44] (fun i w3 => EqRel ys ys' wo i w3) (fun i _ => ys.length - (intOf i).toNat)
          case atStart => exact ⟨0, 0, Nat.zero_le _, rfl, rfl, by simp⟩
          case round =>
            obtain ⟨k, n, hk, rfl, hw, he⟩ := hrel
            have HQ := Lib.hid he; clear he
            have g := hw ▸ gy.drewN n; have g' := hw ▸ gy'.drewN n
            have c1 : wr.cell? ⟨w.heap.size, 1, none⟩ = some (.slice B ys.length d) := by rw [hw]; exact b1
            have c3 : wr.cell? ⟨w.heap.size + 1, 1, none⟩ = some (.slice B' ys'.length d') := by rw [hw]; exact b3
            have HW := Lib.hid hw; clear hw
            by_cases hlt2 : k < ys.length
            · obtain ⟨p1, o1, ⟨x0, x1, x2, x3⟩, rfl, _, _, hd1, _, hc0, hc1, hc2, hc3⟩ := AUnion.at_ g hlt2
              obtain ⟨p2, o2, ⟨y0, y1, y2, y3⟩, rfl, _, _, hd2, _, hd0, hd1', hd2', hd3⟩ := AUnion.at_ g' (by omega : k < ys'.length)
              have HD1 := Lib.hid hd1; have HD2 := Lib.hid hd2; clear hd1 hd2
              simp only at hc0 hc1 hc2 hc3 hd0 hd1' hd2' hd3
              have q1 : (0 : Int) ≤ (k : Int) := by omega
              have q2 : (k : Int) < (ys.length : Int) := by omega
              have q3 : (k : Int) < (ys'.length : Int) := by omega
              have e3 := fun w => union_neq x0 x1 x2 x3 y0 y1 y2 y3 w
              go_wp2
              go_quiet (fail)
              go_wp2
              · have hxy : (!eqB (⟨x0, x1, x2, x3⟩ : Union) ⟨y0, y1, y2, y3⟩) = true := by assumption
                go_ret
                refine ⟨ret_bool ?_, ?_⟩
                · rw [HE.out, ← eqB_no HQ.out HD1.out HD2.out (not_true hxy)]; simp
                · rw [HW.out]; exact below_drewN (below_drewN hbr _) _
              · have hxy : (!eqB (⟨x0, x1, x2, x3⟩ : Union) ⟨y0, y1, y2, y3⟩) = false := by assumption
                exact ⟨⟨k + 1, _, by omega, by go_num, by rw [HW.out, World.drewN_drewN], eqB_yes HQ.out HD1.out HD2.out (not_false hxy)⟩, by simp [intOf]; omega⟩
            · have HY := Lib.hid (eqB_end HQ.out (by omega) (by omega))
              go_wp2
              go_ret
              refine ⟨ret_bool ?_, ?_⟩
              · rw [HE.out, ← HX.out, ← HY.out]; rfl
              · rw [HW.out]; exact below_drewN hbr _
    · have mb : ((ys.length : Int) != (ys'.length : Int)) = true := by simp; omega
      have nb : ((xs.length : Int) != (xs'.length : Int)) = false := by simp; omega
      have HN := Lib.hid (eqB_len hm)
      clear hm hn
      go_enter Try.func15, Try.ntmps15
      go_wp2
      go_ret
      exact ⟨ret_bool (by rw [HE.out, HN.out]; simp), by (with_reducible repeat' first | exact Below.refl _ _ | assumption | (refine Below.setCell ?_ (by first | omega | (simp; omega) | (simp; done) | (dsimp only; omega)) _) | (refine Below.alloc ?_ (by first | omega | (simp; omega) | (simp; done) | (dsimp only; omega)) _) | (refine below_drewN ?_ _) | (refine Below.drew ?_))⟩
  · have nb : ((xs.length : Int) != (xs'.length : Int)) = true := by simp; omega
    have HN := Lib.hid (eqB_len hn)
    clear hn
    go_enter Try.func15, Try.ntmps15
    go_wp2
    go_ret
    exact ⟨ret_bool (by rw [HE.out, HN.out]; rfl), by (with_reducible repeat' first | exact Below.refl _ _ | assumption | (refine Below.setCell ?_ (by first | omega | (simp; omega) | (simp; done) | (dsimp only; omega)) _) | (refine Below.alloc ?_ (by first | omega | (simp; omega) | (simp; done) | (dsimp only; omega)) _) | (refine below_drewN ?_ _) | (refine Below.drew ?_))⟩

set_option maxHeartbeats 2000000 in
theorem implEqualFamilies_any (A B A' B' : Option Addr) (c d c' d' lo hi lo' hi' : Nat) (xs : List Person) (ys : List Union) (xs' : List Person) (ys' : List Union) (w : World) (h : EPerson.AS w lo hi A xs) (h' : EUnion.AS w lo hi B ys) (h2 : EPerson.AS w lo' hi' A' xs') (h2' : EUnion.AS w lo' hi' B' ys') (hh : hi ≤ w.heap.size) (hh' : hi' ≤ w.heap.size) :
    Calls Try.prog 17 #[.agg #[.slice A xs.length c, .slice B ys.length d], .agg #[.slice A' xs'.length c', .slice B' ys'.length d']] w fun e w' => e = .returned (.bool (eqB (⟨xs, ys⟩ : Family) ⟨xs', ys'⟩)) ∧ Below w.heap.size w w' := by
  have HE := Lib.hid (show eqB (⟨xs, ys⟩ : Family) ⟨xs', ys'⟩ = (eqB xs xs' && eqB ys ys') by simp [eqB])
  have hx := h.le; have hy := h'.le; have hx' := h2.le; have hy' := h2'.le
  unfold BIG at hx hy hx' hy'
  by_cases hn : xs.length = xs'.length
  · by_cases hm : ys.length = ys'.length
    · have n1 : xs.length ≤ xs'.length := by omega
      have n2 : xs'.length ≤ xs.length := by omega
      have n3 : ys.length ≤ ys'.length := by omega
      have n4 : ys'.length ≤ ys.length := by omega
      have nb : ((xs.length : Int) != (xs'.length : Int)) = false := by simp; omega
      have mb : ((ys.length : Int) != (ys'.length : Int)) = false := by simp; omega
      clear hn hm
      have e1 := person_guard
      have e2 := union_guard
      go_enter Try.func17, Try.ntmps17
      go_wp2
      generalize hW : (w.alloc (.cells #[.slice A xs.length c, .slice B ys.length d] 31)).alloc (.cells #[.slice A' xs'.length c', .slice B' ys'.length d'] 31) = W
      have a0 : W.cell? ⟨w.heap.size, 0, none⟩ = some (.slice A xs.length c) := by subst hW; simp [go_sem]
      have a1 : W.cell? ⟨w.heap.size, 1, none⟩ = some (.slice B ys.length d) := by subst hW; simp [go_sem]
      have a2 : W.cell? ⟨w.heap.size + 1, 0, none⟩ = some (.slice A' xs'.length c') := by subst hW; simp [go_sem]
      have a3 : W.cell? ⟨w.heap.size + 1, 1, none⟩ = some (.slice B' ys'.length d') := by subst hW; simp [go_sem]
      have hb : Below w.heap.size w W := by subst hW; (with_reducible repeat' first | exact Below.refl _ _ | assumption | (refine Below.setCell ?_ (by first | omega | (simp; omega) | (simp; done) | (dsimp only; omega)) _) | (refine Below.alloc ?_ (by first | omega | (simp; omega) | (simp; done) | (dsimp only; omega)) _) | (refine below_drewN ?_ _) | (refine Below.drew ?_))
      clear hW
      replace h := h.same (Same.of_below hb hh); replace h' := h'.same (Same.of_below hb hh)
      replace h2 := h2.same (Same.of_below hb hh'); replace h2' := h2'.same (Same.of_below hb hh')
      go_loopw [26] (fun i wr => EqRel xs xs' W i wr) (fun i _ => xs.length - (intOf i).toNat)
      case atStart => exact ⟨0, 0, Nat.zero_le _, rfl, rfl, by simp⟩
      case round =>
        obtain ⟨k, n, hk, rfl, hw, he⟩ := hrel
        have HQ := Lib.hid he; clear he
        have g := hw ▸ h.drewN n; have g' := hw ▸ h2.drewN n
        have b0 : wr.cell? ⟨w.heap.size, 0, none⟩ = some (.slice A xs.length c) := by rw [hw]; exact a0
        have b1 : wr.cell? ⟨w.heap.size, 1, none⟩ = some (.slice B ys.length d) := by rw [hw]; exact a1
        have b2 : wr.cell? ⟨w.heap.size + 1, 0, none⟩ = some (.slice A' xs'.length c') := by rw [hw]; exact a2
        have b3 : wr.cell? ⟨w.heap.size + 1, 1, none⟩ = some (.slice B' ys'.length d') := by rw [hw]; exact a3
        have HW := Lib.hid hw
        by_cases hlt : k < xs.length
        · clear hw
          obtain ⟨p1, o1, ⟨x0, x1, x2, x3, x4, x5⟩, rfl, _, _, hd1, _, hc0, hc1, hc2, hc3, hc4, hc5⟩ := APerson.at_ g hlt
          obtain ⟨p2, o2, ⟨y0, y1, y2, y3, y4, y5⟩, rfl, _, _, hd2, _, hd0, hd1', hd2', hd3, hd4, hd5⟩ := APerson.at_ g' (by omega : k < xs'.length)
          have HD1 := Lib.hid hd1; have HD2 := Lib.hid hd2; clear hd1 hd2
          simp only at hc0 hc1 hc2 hc3 hc4 hc5 hd0 hd1' hd2' hd3 hd4 hd5
          have q1 : (0 : Int) ≤ (k : Int) := by omega
          have q2 : (k : Int) < (xs.length : Int) := by omega
          have q3 : (k : Int) < (xs'.length : Int) := by omega
          have e3 := fun w => person_neq x0 y0 x1 x2 x3 x4 x5 y1 y2 y3 y4 y5 w
          go_wp2
          go_quiet (fail)
          go_wp2
          · have hxy : (!eqB (⟨x0, x1, x2, x3, x4, x5⟩ : Person) ⟨y0, y1, y2, y3, y4, y5⟩) = true := by assumption
            go_ret
            refine ⟨ret_bool ?_, ?_⟩
            · rw [HE.out, ← eqB_no HQ.out HD1.out HD2.out (not_true hxy)]; rfl
            · rw [HW.out]; exact below_drewN (below_drewN hb _) _
          · have hxy : (!eqB (⟨x0, x1, x2, x3, x4, x5⟩ : Person) ⟨y0, y1, y2, y3, y4, y5⟩) = false := by assumption
            exact ⟨⟨k + 1, _, by omega, by go_num, by rw [HW.out, World.drewN_drewN], eqB_yes HQ.out HD1.out HD2.out (not_false hxy)⟩, by simp [intOf]; omega⟩
        · have HX := Lib.hid (eqB_end HQ.out (by omega) (by omega))
          have gy := hw ▸ h'.drewN n; have gy' := hw ▸ h2'.drewN n
          have hbr : Below w.heap.size w wr := by rw [hw]; exact below_drewN hb _
          clear hw HW g g' HQ
          go_wp2
          obtain ⟨wo, rfl⟩ : ∃ wo : World, wo = wr := ⟨_, rfl⟩
          go_loopw [44] (fun i w3 => EqRel ys ys' wo i w3) (fun i _ => ys.length - (intOf i).toNat)
          case atStart => exact ⟨0, 0, Nat.zero_le _, rfl, rfl, by simp⟩
          case round =>
            obtain ⟨k, n, hk, rfl, hw, he⟩ := hrel
            have HQ := Lib.hid he; clear he
            have g := hw ▸ gy.drewN n; have g' := hw ▸ gy'.drewN n
            have c1 : wr.cell? ⟨w.heap.size, 1, none⟩ = some (.slice B ys.length d) := by rw [hw]; exact b1
            have c3 : wr.cell? ⟨w.heap.size + 1, 1, none⟩ = some (.slice B' ys'.length d') := by rw [hw]; exact b3
            have HW := Lib.hid hw; clear hw
            by_cases hlt2 : k < ys.length
            · obtain ⟨p1, o1, ⟨x0, x1, x2, x3⟩, rfl, _, _, hd1, _, hc0, hc1, hc2, hc3⟩ := AUnion.at_ g hlt2
              obtain ⟨p2, o2, ⟨y0, y1, y2, y3⟩, rfl, _, _, hd2, _, hd0, hd1', hd2', hd3⟩ := AUnion.at_ g' (by omega : k < ys'.length)
              have HD1 := Lib.hid hd1; have HD2 := Lib.hid hd2; clear hd1 hd2
              simp only at hc0 hc1 hc2 hc3 hd0 hd1' hd2' hd3
              have q1 : (0 : Int) ≤ (k : Int) := by omega
              have q2 : (k : Int) < (ys.length : Int) := by omega
              have q3 : (k : Int) < (ys'.length : Int) := by omega
              have e3 := fun w => union_neq x0 x1 x2 x3 y0 y1 y2 y3 w
              go_wp2
              go_quiet (fail)
              go_wp2
              · have hxy : (!eqB (⟨x0, x1, x2, x3⟩ : Union) ⟨y0, y1, y2, y3⟩) = true := by assumption
                go_ret
                refine ⟨ret_bool ?_, ?_⟩
                · rw [HE.out, ← eqB_no HQ.out HD1.out HD2.out (not_true hxy)]; simp
                · rw [HW.out]; exact below_drewN (below_drewN hbr _) _
              · have hxy : (!eqB (⟨x0, x1, x2, x3⟩ : Union) ⟨y0, y1, y2, y3⟩) = false := by assumption
                exact ⟨⟨k + 1, _, by omega, by go_num, by rw [HW.out, World.drewN_drewN], eqB_yes HQ.out HD1.out HD2.out (not_false hxy)⟩, by simp [intOf]; omega⟩
            · have HY := Lib.hid (eqB_end HQ.out (by omega) (by omega))
              go_wp2
              go_ret
              refine ⟨ret_bool ?_, ?_⟩
              · rw [HE.out, ← HX.out, ← HY.out]; rfl
              · rw [HW.out]; exact below_drewN hbr _
    · have mb : ((ys.length : Int) != (ys'.length : Int)) = true := by simp; omega
      have nb : ((xs.length : Int) != (xs'.length : Int)) = false := by simp; omega
      have HN := Lib.hid (eqB_len hm)
      clear hm hn
      go_enter Try.func17, Try.ntmps17
      go_wp2
      go_ret
      exact ⟨ret_bool (by rw [HE.out, HN.out]; simp), by (with_reducible repeat' first | exact Below.refl _ _ | assumption | (refine Below.setCell ?_ (by first | omega | (simp; omega) | (simp; done) | (dsimp only; omega)) _) | (refine Below.alloc ?_ (by first | omega | (simp; omega) | (simp; done) | (dsimp only; omega)) _) | (refine below_drewN ?_ _) | (refine Below.drew ?_))⟩
  · have nb : ((xs.length : Int) != (xs'.length : Int)) = true := by simp; omega
    have HN := Lib.hid (eqB_len hn)
    clear hn
    go_enter Try.func17, Try.ntmps17
    go_wp2
    go_ret
    exact ⟨ret_bool (by rw [HE.out, HN.out]; rfl), by (with_reducible repeat' first | exact Below.refl _ _ | assumption | (refine Below.setCell ?_ (by first | omega | (simp; omega) | (simp; done) | (dsimp only; omega)) _) | (refine Below.alloc ?_ (by first | omega | (simp; omega) | (simp; done) | (dsimp only; omega)) _) | (refine below_drewN ?_ _) | (refine Below.drew ?_))⟩

end Go.Proofs.Ytkdgjbbjbghdnaa
