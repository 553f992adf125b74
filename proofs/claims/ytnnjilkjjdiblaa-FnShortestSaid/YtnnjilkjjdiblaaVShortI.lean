/-
  The shortest kin type between two persons, in the program.
-/
import Derived.Test.YtnnjilkjjdiblaaVShortS
import Derived.Test.YtnnjilkjjdiblaaVWalker
namespace Go.Proofs.Ytnnjilkjjdiblaa
set_option maxRecDepth 100000
open Go.RowKit

theorem hits_end {F : Nat → Int} {m : Int} {q : Nat → Bool} {n : Nat} (h : ∀ y, y < n → (q y && decide (F y = m)) = false) : hitsB F m n q = false := by
  cases e : hitsB F m n q with
  | false => rfl
  | true =>
    obtain ⟨x, hx, h1, h2⟩ := hitsB_iff.1 e
    have := h x hx
    rw [h1, h2] at this; simp at this
set_option maxHeartbeats 4000000 in
theorem reaches_any (A B : Option Addr) (c d lo hi lo2 hi2 n : Nat) (F : Nat → Int) (m : Int) (q : Nat → Bool) (w : World) (h : EBool.AS w lo hi A (row1 n q)) (h' : EInt.AS w lo2 hi2 B (rowI n F)) (hh : hi ≤ w.heap.size) (hh' : hi2 ≤ w.heap.size) (hn : n ≤ 40) :
    Calls Try.prog 104 #[.slice A n c, .slice B n d, .int .i64 m] w fun e w' => e = .returned (.bool (hitsB F m n q)) ∧ w = w' := by
  go_enter Try.func104, Try.ntmps104
  go_wp2
  go_loopw [11] (fun i wr => ∃ x : Nat, x ≤ n ∧ i = .int .i64 x ∧ w = wr ∧ ∀ y, y < x → (q y && decide (F y = m)) = false) (fun i _ => n - (intOf i).toNat)
  case atStart => exact ⟨0, Nat.zero_le _, rfl, rfl, fun y hy => by omega⟩
  case round =>
    obtain ⟨x, hx, rfl, rfl, hno⟩ := hrel
    by_cases hxl : x < n
    · obtain ⟨g1, o1, rfl, j1, j2, hq⟩ := row1_read h hxl
      obtain ⟨g2, o2, rfl, j3, j4, hf⟩ := rowI_read h' hxl
      have i1 : (0 : Int) ≤ (x : Int) ∧ (x : Int) < (n : Int) := by omega
      have l1 : g1 < w.heap.size := by omega
      have l2 : g2 < w.heap.size := by omega
      cases hqx : q x with
      | false =>
        rw [hqx] at hq
        have hno' : ∀ y, y < x + 1 → (q y && decide (F y = m)) = false := fun y hy => by
          by_cases e : y = x
          · subst e; rw [hqx]; rfl
          · exact hno y (by omega)
        clear hqx
        go_wp2_with fail
        exact ⟨⟨x + 1, by omega, by go_num, trivial, hno'⟩, by simp [intOf]; omega⟩
      | true =>
        rw [hqx] at hq
        obtain ⟨fx, hfx⟩ : ∃ fx, F x = fx := ⟨_, rfl⟩
        rw [hfx] at hf
        by_cases hc : fx = m
        · have n1 : (fx == m) = true := by rw [beq_iff_eq]; exact hc
          have HR := Lib.hid (hitsB_iff.2 ⟨x, hxl, hqx, by rw [hfx]; exact hc⟩ : hitsB F m n q = true)
          clear hqx hfx hc
          go_wp2_with fail
          go_ret
          exact ⟨by rw [HR.out]; rfl, rfl⟩
        · have n1 : (fx == m) = false := by rw [beq_eq_false_iff_ne]; exact hc
          have hno' : ∀ y, y < x + 1 → (q y && decide (F y = m)) = false := fun y hy => by
            by_cases e : y = x
            · subst e; rw [hqx, hfx, decide_eq_false hc]; rfl
            · exact hno y (by omega)
          clear hqx hfx hc
          go_wp2_with fail
          exact ⟨⟨x + 1, by omega, by go_num, trivial, hno'⟩, by simp [intOf]; omega⟩
    · obtain rfl : x = n := by omega
      have HR := Lib.hid (hits_end hno)
      clear hno
      go_wp2
      go_ret
      exact ⟨by rw [HR.out]; rfl, rfl⟩

theorem made_row (w : World) (n : Nat) (hn : n ≤ 40) : EInt.OS (w.alloc (.cells (madeCells #[Value.int .i64 0] n) 3)) w.heap.size (w.heap.size + 1) (.slice (some ⟨w.heap.size, 0, none⟩) n n) (rowI n fun _ => 0) := by
  have := made_osI w n (madeCells #[Value.int .i64 0] n) (by simpa [Value.cells] using made_ints n) (by unfold BIG; omega)
  rw [show rowI n (fun _ => (0 : Int)) = List.replicate n 0 from by apply List.ext_getElem <;> simp [rowI]]
  exact this
/-- The numbers while they are being blanked. -/
def negP (x : Nat) : Nat → Int := fun j => if j < x then -1 else 0
theorem negP_succ {n x : Nat} : rowI n (updI (negP x) x (-1)) = rowI n (negP (x + 1)) := rowI_congr fun j _ => by
  unfold updI negP
  by_cases hj : j = x
  · rw [if_pos hj, if_pos (by omega)]
  · rw [if_neg hj]
    by_cases h : j < x
    · rw [if_pos h, if_pos (by omega)]
    · rw [if_neg h, if_neg (by omega)]
theorem negP_end {n b : Nat} {L : Nat → Nat → Nat → Bool} : rowI n (updI (negP n) b 0) = rowI n (farM n L b 0) := rowI_congr fun j hj => by
  simp only [updI, negP, farM]; rw [if_pos hj]

set_option maxHeartbeats 8000000 in
theorem implShortestType_any (A B : Option Addr) (c d lo hi : Nat) (xs : List Person) (ys : List Union) (a b : Int) (w : World) (h : EPerson.AS w lo hi A xs) (h' : EUnion.AS w lo hi B ys) (hh : hi ≤ w.heap.size) (hdc : ys.length ≤ d ∧ d ≤ maxLen) (hs : totP xs ≤ 1048576) :
    Calls Try.prog 26 #[.agg #[.slice A xs.length c, .slice B ys.length d], .int .i64 a, .int .i64 b] w (RetTypB w (shortM xs ys a b)) := by
  cases ho : (hasOk xs ys a && hasOk xs ys b) with
  | false =>
    have HO := Lib.hid ho
    have HN := Lib.hid (shortM_no ho)
    clear ho
    rw [HN.out]
    go_enter Try.func26, Try.ntmps26
    go_wp2_with (go_at_call 101; refine (has_any _ _ _ _ lo hi xs ys (some ⟨w.heap.size + 1 + 1, 0, none⟩) _ _ _ [a, b] _ (h.same (by (with_reducible repeat' first | exact Same.refl _ _ _ | assumption | (refine Same.setCell ?_ (by first | omega | (simp; omega) | (simp; done) | (dsimp only; omega)) _) | (refine Same.alloc ?_ (by first | omega | (simp; omega) | (simp; done) | (dsimp only; omega)) _) | (refine Same.drewN ?_ _) | (refine Same.drew ?_)))) (h'.same (by (with_reducible repeat' first | exact Same.refl _ _ _ | assumption | (refine Same.setCell ?_ (by first | omega | (simp; omega) | (simp; done) | (dsimp only; omega)) _) | (refine Same.alloc ?_ (by first | omega | (simp; omega) | (simp; done) | (dsimp only; omega)) _) | (refine Same.drewN ?_ _) | (refine Same.drew ?_)))) (by first | omega | (simp; omega) | (simp; done) | (dsimp only; omega)) hdc hs (ints_as' _ _ [a, b] rfl (by simp [BIG]) _ (by simp)) (by first | omega | (simp; omega) | (simp; done) | (dsimp only; omega))).mono ?_; rintro e w1 ⟨rfl, hb1⟩; simp only [hasOk_all2, HO.out]; (obtain ⟨hb1c, hb1f⟩ := bcell hb1); (have hb1z := hb1.size); (try simp only [szs] at hb1c hb1f hb1z); (have r1 := ((Blk.new (t := 30) (cs := #[.int .i64 0, .slice none 0 0]) (w.alloc (.cells #[.slice A xs.length c, .slice B ys.length d] 26)) (by simp : w.heap.size + 1 = _)).alloc (.cells #[.int .i64 a, .int .i64 b] 3)).below hb1 (by simp)); (have g0 := r1.cell (i := 0) rfl); (have g1 := r1.cell (i := 1) rfl); (have f0 := r1.free 0); (have f1 := r1.free 1); (have lt1 := r1.lt))
    have R := (r1.set 0 (.int .i64 0)).set 1 (.slice none 0 0)
    exact bodyPost_ret (v := .tuple #[.agg #[.int .i64 0, .slice none 0 0], .bool false]) (by simp [results, Try.results26, go_sem, R.cell (i := 0) rfl, R.cell (i := 1) rfl]) rfl (RetTypB.zero (by (with_reducible repeat' first | exact Below.refl _ _ | assumption | (refine Below.setCell ?_ (by first | omega | (simp; omega) | (simp; done) | (dsimp only; omega)) _) | (refine Below.alloc ?_ (by first | omega | (simp; omega) | (simp; done) | (dsimp only; omega)) _) | (refine below_drewN ?_ _) | (refine Below.drew ?_) | (refine Below.trans ?_ (hb1.mono (by first | omega | (simp; omega) | (simp; done) | (dsimp only; omega)))))))
  | true =>
    have hoa : hasOk xs ys a = true := (Bool.and_eq_true _ _ ▸ ho : hasOk xs ys a = true ∧ hasOk xs ys b = true).1
    have hob : hasOk xs ys b = true := (Bool.and_eq_true _ _ ▸ ho : hasOk xs ys a = true ∧ hasOk xs ys b = true).2
    obtain ⟨hfam, p1, p2⟩ := hasOk_fam hoa
    obtain ⟨_, p3, p4⟩ := hasOk_fam hob
    obtain ⟨a, rfl⟩ := Int.eq_ofNat_of_zero_le p1
    obtain ⟨b, rfl⟩ := Int.eq_ofNat_of_zero_le p3
    have HO := Lib.hid ho
    have ha : a < xs.length := by omega
    have hb : b < xs.length := by omega
    have hn := (famOk_parts hfam).1
    have HFM := Lib.hid hfam
    clear ho hoa hob hfam
    have HSP := Lib.hid (fun h => short_path xs ys (a := a) (b := b) ha h)
    obtain ⟨ba, off, ⟨x0, x1, x2, x3, x4, x5⟩, rfl, f1, f2, _, hxk, hc0, hc1, hc2, hc3, hc4, hc5⟩ := APerson.at_ h ha
    simp only at hc1
    have HXK := Lib.hid hxk
    clear hxk hc0 hc2 hc3 hc4 hc5
    have hPX := Lib.hid h; have hPY := Lib.hid h'
    obtain ⟨i0, hi0, hz0, hz1, hz2⟩ := info_parts int_info
    have hmi := run_mk (P := Try.prog) 47 3 i0 _ 1 8 Try.underlying47 hi0 hz0 hz1 hz2 xs.length (by omega) (by unfold BIG; omega)
    clear hi0 hz0 hz1 hz2
    go_enter Try.func26, Try.ntmps26
    go_upto_region 3 with (go_at_call 101; refine (has_any _ _ _ _ lo hi xs ys (some ⟨w.heap.size + 1 + 1, 0, none⟩) _ _ _ [(a : Int), (b : Int)] _ (h.same (by (with_reducible repeat' first | exact Same.refl _ _ _ | assumption | (refine Same.setCell ?_ (by first | omega | (simp; omega) | (simp; done) | (dsimp only; omega)) _) | (refine Same.alloc ?_ (by first | omega | (simp; omega) | (simp; done) | (dsimp only; omega)) _) | (refine Same.drewN ?_ _) | (refine Same.drew ?_)))) (h'.same (by (with_reducible repeat' first | exact Same.refl _ _ _ | assumption | (refine Same.setCell ?_ (by first | omega | (simp; omega) | (simp; done) | (dsimp only; omega)) _) | (refine Same.alloc ?_ (by first | omega | (simp; omega) | (simp; done) | (dsimp only; omega)) _) | (refine Same.drewN ?_ _) | (refine Same.drew ?_)))) (by first | omega | (simp; omega) | (simp; done) | (dsimp only; omega)) hdc hs (ints_as' _ _ [(a : Int), (b : Int)] rfl (by simp [BIG]) _ (by simp)) (by first | omega | (simp; omega) | (simp; done) | (dsimp only; omega))).mono ?_; rintro e w1 ⟨rfl, hb1⟩; simp only [hasOk_all2, HO.out])
    have t1 : Blk w1 w.heap.size 26 #[.slice (some ⟨ba, off, none⟩) xs.length c, .slice B ys.length d] := ((((Blk.new w rfl).alloc _).alloc _).below hb1 (by simp; omega))
    have q1 := ((Blk.new (t := 30) (cs := #[.int .i64 0, .slice none 0 0]) (w.alloc (.cells #[.slice (some ⟨ba, off, none⟩) xs.length c, .slice B ys.length d] 26)) (by simp : w.heap.size + 1 = _)).alloc (.cells #[.int .i64 a, .int .i64 b] 3)).below hb1 (by simp)
    have hbw : Below w.heap.size w w1 := by (with_reducible repeat' first | exact Below.refl _ _ | assumption | (refine Below.setCell ?_ (by first | omega | (simp; omega) | (simp; done) | (dsimp only; omega)) _) | (refine Below.alloc ?_ (by first | omega | (simp; omega) | (simp; done) | (dsimp only; omega)) _) | (refine below_drewN ?_ _) | (refine Below.drew ?_) | (refine Below.trans ?_ (hb1.mono (by first | omega | (simp; omega) | (simp; done) | (dsimp only; omega)))))
    have z1 : w.heap.size + 1 + 1 + 1 ≤ w1.heap.size := by have := hb1.size; simpa using this
    have hX1 := hPX.out.same (Same.of_below hbw hh)
    have hY1 := hPY.out.same (Same.of_below hbw hh)
    have u0 := t1.cell (i := 0) rfl; have u1 := t1.cell (i := 1) rfl
    have lr1 := t1.lt
    clear hb1 h h'
    go_upto_region 4 with (go_at_call 102; (with_reducible refine (newWalker_any _ _ _ _ lo hi xs ys _ hX1 hY1 (by omega) HFM.out).mono ?_); rintro e w2 ⟨g, rfl, hg, hwk, hb2⟩)
    have z2 := hb2.size
    have t2 := t1.below hb2 lr1
    have q2 := q1.below hb2 q1.lt
    have hbw2 := hbw.trans (hb2.mono (by omega))
    have lg2 := hwk.lt
    have hwl := hwk.lt
    clear hb2 u0 u1 t1 q1 hX1 hY1 lr1
    have u0 := t2.cell (i := 0) rfl; have u1 := t2.cell (i := 1) rfl
    have lr2 := t2.lt
    go_upto_region 5 with fail
    have hm0 := made_row w2 xs.length hn
    generalize hW : w2.alloc (.cells (madeCells #[Value.int .i64 0] xs.length) 3) = w3 at hm0 ⊢
    have hb3 : Below w2.heap.size w2 w3 := by subst hW; (with_reducible repeat' first | exact Below.refl _ _ | assumption | (refine Below.setCell ?_ (by first | omega | (simp; omega) | (simp; done) | (dsimp only; omega)) _) | (refine Below.alloc ?_ (by first | omega | (simp; omega) | (simp; done) | (dsimp only; omega)) _) | (refine below_drewN ?_ _) | (refine Below.drew ?_))
    have z3 : w2.heap.size + 1 = w3.heap.size := by subst hW; simp
    clear hW hmi
    go_upto_region 6 with fail
    go_loopw [36] (fun i wr => ∃ x : Nat, x ≤ xs.length ∧ i = .int .i64 x ∧ Dist xs.length w2.heap.size xs.length (negP x) w3 wr) (fun i _ => xs.length - (intOf i).toNat)
    case atStart => exact ⟨0, Nat.zero_le _, rfl, hm0, Chg.refl _ _ _, by omega⟩
    case round =>
      obtain ⟨x, hx, rfl, hD⟩ := hrel
      obtain ⟨wf, rfl⟩ : ∃ x, x = wr := ⟨_, rfl⟩
      obtain ⟨ho4, hch4, hz4⟩ := hD
      by_cases hxl : x < xs.length
      · obtain ⟨g', c', hv, _, _, k1, k2, hset⟩ := rowI_own ho4 hxl
        injection hv with hv _ hcc
        injection hv with hv
        injection hv with hv _ _
        subst hv; subst hcc
        have i1 : (0 : Int) ≤ (x : Int) ∧ (x : Int) < (xs.length : Int) := by omega
        have lw : w2.heap.size < wf.heap.size := by omega
        have hs4 := hset (-1)
        rw [negP_succ] at hs4
        clear hset
        obtain ⟨ov, k1⟩ : ∃ ov, wf.cell? ⟨w2.heap.size, x, none⟩ = some (.int .i64 ov) := ⟨_, k1⟩
        go_wp2_with fail
        exact ⟨⟨x + 1, by omega, by go_num, hs4, hch4.setCell ⟨Nat.le_refl _, Nat.lt_succ_self _⟩ _, by simpa [World.setCell] using hz4⟩, by simp [intOf]; omega⟩
      · obtain rfl : x = xs.length := by omega
        obtain ⟨g', c', hv, _, _, k1, k2, hset⟩ := rowI_own ho4 hb
        injection hv with hv _ hcc
        injection hv with hv
        injection hv with hv _ _
        subst hv; subst hcc
        have i1 : (0 : Int) ≤ (b : Int) ∧ (b : Int) < (xs.length : Int) := by omega
        have lw : w2.heap.size < wf.heap.size := by omega
        have hs4 := hset 0
        rw [negP_end (L := leadK xs ys)] at hs4
        clear hset
        obtain ⟨ov, k1⟩ : ∃ ov, wf.cell? ⟨w2.heap.size, b, none⟩ = some (.int .i64 ov) := ⟨_, k1⟩
        have hch5 := hch4.setCell (p := ⟨w2.heap.size, b, none⟩) ⟨Nat.le_refl _, Nat.lt_succ_self _⟩ (.int .i64 0)
        have hz5 : w2.heap.size + 1 ≤ (wf.setCell ⟨w2.heap.size, b, none⟩ (.int .i64 0)).heap.size := by simpa [World.setCell] using hz4
        go_upto_region 12 with fail
        generalize hW : wf.setCell ⟨w2.heap.size, b, none⟩ (.int .i64 0) = W1 at hs4 hch5 hz5 ⊢
        clear hW k1 k2 ho4 hch4 hz4 lw
        have hb5 : Below w2.heap.size w2 W1 := hb3.trans (hch5.below (by omega) (Nat.le_refl _))
        have z5 := hch5.size
        have hwk5 := hwk.below hb5 lg2 (Nat.le_refl _)
        have t5 := t2.below hb5 lr2
        have q5 := q2.below hb5 q2.lt
        have hbw5 := hbw2.trans (hb5.mono (by omega))
        have hX5 := hPX.out.same (Same.of_below hbw5 hh)
        have lq2 := q2.lt
        clear t2 q2 u0 u1 hwk
        go_loopw [11] (fun i w2' => ∃ dd : Nat, dd ≤ 8 ∧ i = .int .i64 ((dd : Int) + 1) ∧ Dist xs.length w2.heap.size xs.length (farM xs.length (leadK xs ys) b dd) W1 w2') (fun i _ => 9 - (intOf i).toNat)
        case atStart => exact ⟨0, by omega, rfl, hs4, Chg.refl _ _ _, hz5⟩
        case round =>
          obtain ⟨dd, hdd, rfl, hD2⟩ := hrel
          by_cases hd8 : dd < 8
          · have HR := Lib.hid (far_round xs.length (leadK xs ys) b dd)
            obtain ⟨F, hF⟩ : ∃ F, farM xs.length (leadK xs ys) b dd = F := ⟨_, rfl⟩
            rw [hF] at hD2 HR
            clear hF
            go_upto_region 15 with fail
            go_loopw [52] (fun i w2' => ∃ p : Nat, p ≤ xs.length ∧ i = .int .i64 p ∧ Dist xs.length w2.heap.size xs.length (gOf F ((dd : Int) + 1) (hitP xs.length (leadK xs ys) F dd p)) W1 w2') (fun i _ => xs.length - (intOf i).toNat)
            case atStart => exact ⟨0, by omega, rfl, by rw [show hitP xs.length (leadK xs ys) F dd 0 = fun _ => false from rfl, gOf_none]; exact hD2⟩
            case round =>
              obtain ⟨p, hp, rfl, hD3⟩ := hrel
              by_cases hpl : p < xs.length
              · clear hD2
                obtain ⟨hPp, hhP⟩ : ∃ hPp, hitP xs.length (leadK xs ys) F dd p = hPp := ⟨_, rfl⟩
                have HP1 := Lib.hid (show hitP xs.length (leadK xs ys) F dd (p + 1) = hitKi xs.length (leadK xs ys) F dd p hPp 8 by rw [← hhP]; rfl)
                rw [hhP] at hD3
                clear hhP
                go_upto_region 18 with fail
                go_loopw [13] (fun i w2' => ∃ k : Nat, k ≤ 8 ∧ i = .int .i64 ((k : Int) + 1) ∧ Dist xs.length w2.heap.size xs.length (gOf F ((dd : Int) + 1) (hitKi xs.length (leadK xs ys) F dd p hPp k)) W1 w2') (fun i _ => 9 - (intOf i).toNat)
                case atStart => exact ⟨0, by omega, rfl, hD3⟩
                case round =>
                  obtain ⟨k, hk, rfl, hD4⟩ := hrel
                  obtain ⟨wk, rfl⟩ : ∃ x, x = wr := ⟨_, rfl⟩
                  by_cases hk8 : k < 8
                  · clear hD3
                    obtain ⟨hKk, hhK⟩ : ∃ hKk, hitKi xs.length (leadK xs ys) F dd p hPp k = hKk := ⟨_, rfl⟩
                    have HK1 := Lib.hid (show hitKi xs.length (leadK xs ys) F dd p hPp (k + 1) = hitR F dd p (idxTo (leadK xs ys k p) xs.length) hKk (idxTo (leadK xs ys k p) xs.length).length by rw [← hhK]; rfl)
                    rw [hhK] at hD4
                    clear hhK
                    obtain ⟨AL, cL, -, L1, hLS⟩ := hwk5.at_ hk8
                    obtain ⟨gl, ol, x, B', cx, rfl, r1, r2, _, hxk, hcell, _, _, hrow⟩ := AIntS.at_ hLS (k := p) (by rw [relM_len]; exact hpl)
                    rw [relM_at _ hpl] at hxk
                    injection hxk with hxk
                    subst hxk
                    have HM := Lib.hid (fun (x : Int) (h : x ∈ idxTo (leadK xs ys k p) xs.length) => mem_idxTo.1 h)
                    have hrl := idxTo_len (leadK xs ys k p) xs.length
                    obtain ⟨row, hrw⟩ : ∃ row, idxTo (leadK xs ys k p) xs.length = row := ⟨_, rfl⟩
                    rw [hrw] at HK1 HM hrow hcell hrl
                    clear hrw
                    have hch4 := hD4.2.1
                    have zc4 := hch4.size
                    have L2 := (hch4.cell (p := ⟨g, (k + 1) * 2 + 1, none⟩) (by simp; omega) (.inl lg2)).trans L1
                    replace hcell := (hch4.cell (p := ⟨gl, ol + p, none⟩) (by simp; omega) (.inl (by simp; omega))).trans hcell
                    have lg : g < wk.heap.size := by omega
                    have lgl : gl < wk.heap.size := by omega
                    have i2 : (0 : Int) ≤ (p : Int) ∧ (p : Int) < (xs.length : Int) := by omega
                    go_upto_region 21 with fail
                    go_loopw [70] (fun i w2' => ∃ j : Nat, j ≤ row.length ∧ i = .int .i64 j ∧ Dist xs.length w2.heap.size xs.length (gOf F ((dd : Int) + 1) (hitR F dd p row hKk j)) W1 w2') (fun i _ => row.length - (intOf i).toNat)
                    case atStart => exact ⟨0, Nat.zero_le _, rfl, hD4⟩
                    case round =>
                      obtain ⟨j, hj, rfl, hD5⟩ := hrel
                      obtain ⟨wj, rfl⟩ : ∃ x, x = wr := ⟨_, rfl⟩
                      by_cases hlj : j < row.length
                      · obtain ⟨H, hH⟩ : ∃ H, hitR F dd p row hKk j = H := ⟨_, rfl⟩
                        rw [hH] at hD5
                        obtain ⟨ho5, hch5', hsz5⟩ := hD5
                        obtain ⟨m2, o2, y, rfl, e1, e2, _, hyk, hyc⟩ := AInt.at_ (hrow.same (Same.of_chg hch5' (by omega) (.inl (by omega)))) hlj
                        obtain ⟨qq, hqn, _, rfl⟩ := HM.out y (List.mem_of_getElem? hyk)
                        have hgd : (row.getD j 0).toNat = qq := by rw [List.getD_eq_getElem?_getD, hyk]; simp
                        have HY1 := Lib.hid (show hitR F dd p row hKk (j + 1) = if F qq = (dd : Int) then upd1 H p true else H by rw [← hH, ← hgd]; rfl)
                        clear hH hgd hyk
                        have zc5 := hch5'.size
                        obtain ⟨gx, cx, hvx, _, _, kx1, kx2, hsetx⟩ := rowI_own ho5 hpl
                        injection hvx with hvx _ hcx
                        injection hvx with hvx
                        injection hvx with hvx _ _
                        subst hvx
                        subst hcx
                        obtain ⟨gy, cy, hvy, _, _, ky1, _, _⟩ := rowI_own ho5 hqn
                        injection hvy with hvy _ _
                        injection hvy with hvy
                        injection hvy with hvy _ _
                        subst hvy
                        have j1 : (0 : Int) ≤ (j : Int) ∧ (j : Int) < (row.length : Int) := by omega
                        have j2 : (0 : Int) ≤ (qq : Int) ∧ (qq : Int) < (xs.length : Int) := by omega
                        have lm : m2 < wj.heap.size := by omega
                        have lw5 : w2.heap.size < wj.heap.size := by omega
                        have hsub : ((dd : Int) + 1 - 1) = (dd : Int) := by omega
                        obtain ⟨vx, hvx⟩ : ∃ vx, gOf F ((dd : Int) + 1) H p = vx := ⟨_, rfl⟩
                        obtain ⟨vy, hvy⟩ : ∃ vy, gOf F ((dd : Int) + 1) H qq = vy := ⟨_, rfl⟩
                        rw [hvx] at kx1
                        rw [hvy] at ky1
                        by_cases hneg : vx < 0
                        · by_cases hvd : vy = (dd : Int)
                          · have n2 : (vy == (dd : Int)) = true := by rw [beq_iff_eq]; exact hvd
                            have hfy : F qq = (dd : Int) := gOf_eq.1 (by rw [hvy]; exact hvd)
                            have hfx := (gOf_neg (by rw [hvx]; exact hneg) (by omega)).1
                            have HE := Lib.hid (show gOf F ((dd : Int) + 1) (hitR F dd p row hKk (j + 1)) = updI (gOf F ((dd : Int) + 1) H) p ((dd : Int) + 1) by rw [HY1.out, if_pos hfy, gOf_put hfx])
                            have HSX := Lib.hid @hsetx
                            clear hvd hvx hvy hfy hfx hsetx
                            go_wp2_with fail
                            exact ⟨⟨j + 1, by omega, by go_num, by rw [HE.out]; exact ⟨HSX.out _, hch5'.setCell ⟨Nat.le_refl _, Nat.lt_succ_self _⟩ _, by simpa [World.setCell] using hsz5⟩⟩, by simp [intOf]; omega⟩
                          · have n2 : (vy == (dd : Int)) = false := by rw [beq_eq_false_iff_ne]; exact hvd
                            have hfy : F qq ≠ (dd : Int) := fun e => hvd (by rw [← hvy]; exact gOf_eq.2 e)
                            have HE := Lib.hid (show hitR F dd p row hKk (j + 1) = H by rw [HY1.out, if_neg hfy])
                            clear hvd hvx hvy hfy hsetx
                            go_wp2_with fail
                            exact ⟨⟨j + 1, by omega, by go_num, by rw [HE.out]; exact ⟨ho5, hch5', hsz5⟩⟩, by simp [intOf]; omega⟩
                        · have HE := Lib.hid (show gOf F ((dd : Int) + 1) (hitR F dd p row hKk (j + 1)) = gOf F ((dd : Int) + 1) H by
                            rw [HY1.out]; split
                            · exact gOf_keep (by rw [hvx]; exact hneg)
                            · rfl)
                          clear hvx hvy hsetx
                          go_wp2_with fail
                          exact ⟨⟨j + 1, by omega, by go_num, by rw [HE.out]; exact ⟨ho5, hch5', hsz5⟩⟩, by simp [intOf]; omega⟩
                      · obtain rfl : j = row.length := by omega
                        go_wp2
                        exact ⟨⟨k + 1, by omega, by go_num, by rw [HK1.out]; exact hD5⟩, by simp [intOf]; omega⟩
                  · obtain rfl : k = 8 := by omega
                    go_wp2
                    exact ⟨⟨p + 1, by omega, by go_num, by rw [HP1.out]; exact hD4⟩, by simp [intOf]; omega⟩
              · obtain rfl : p = xs.length := by omega
                have hD8 := hD3
                unfold Dist at hD8
                rw [HR.out] at hD8
                go_wp2
                exact ⟨⟨dd + 1, by omega, by go_num, hD8⟩, by simp [intOf]; omega⟩
          · obtain rfl : dd = 8 := by omega
            obtain ⟨wd, rfl⟩ : ∃ x, x = wr := ⟨_, rfl⟩
            obtain ⟨F, hF⟩ : ∃ F, awayM xs ys b = F := ⟨_, rfl⟩
            have HF := Lib.hid hF
            have hFle : -1 ≤ F a ∧ F a ≤ 8 := by rw [← hF]; exact farM_le (n := xs.length) (L := leadK xs ys) (b := b) a 8
            rw [show farM xs.length (leadK xs ys) b 8 = F from hF] at hD2
            rw [hF] at HSP
            clear hF
            obtain ⟨ho6, hch6, hz6⟩ := hD2
            have zc6 := hch6.size
            have hF6 := ho6.read.as
            obtain ⟨g', c', hv, _, _, k1, k2, -⟩ := rowI_own ho6 ha
            injection hv with hv _ hcc
            injection hv with hv
            injection hv with hv _ _
            subst hv; subst hcc
            have i2 : (0 : Int) ≤ (a : Int) ∧ (a : Int) < (xs.length : Int) := by omega
            have lw6 : w2.heap.size < wd.heap.size := by omega
            have hb6 : Below w2.heap.size W1 wd := hch6.below (by omega) (Nat.le_refl _)
            have hwk6 := hwk5.below hb6 lg2 (Nat.le_refl _)
            have t6 := t5.below hb6 lr2
            have q6 := q5.below hb6 lq2
            have hbw6 := hbw5.trans (hb6.mono (by omega))
            have hc6 := (hbw6.cell (p := ⟨ba, off + a * 6 + 1, none⟩) (by simp; omega)).trans hc1
            have lba : ba < wd.heap.size := by omega
            have lfam : w.heap.size < wd.heap.size := by omega
            have lq6 := q6.lt
            have u0 := t6.cell (i := 0) rfl; have u1 := t6.cell (i := 1) rfl
            have g0 := q6.cell (i := 0) rfl; have g1 := q6.cell (i := 1) rfl; have f0 := q6.free 0; have f1' := q6.free 1
            clear t5 q5 hwk5 hs4 hch5 ho6 hX5
            by_cases hneg : F a < 0
            · have HN := Lib.hid (shortM_far (xs := xs) (ys := ys) (a := a) (b := b) (by rw [HF.out]; exact hneg))
              obtain ⟨fa, hfa⟩ : ∃ fa, F a = fa := ⟨_, rfl⟩
              rw [hfa] at k1 hneg
              clear hfa hFle
              go_wp2_with fail
              have R := (q6.set 0 (.int .i64 0)).set 1 (.slice none 0 0)
              rw [HN.out]
              exact bodyPost_ret (v := .tuple #[.agg #[.int .i64 0, .slice none 0 0], .bool false]) (by simp [results, Try.results26, go_sem, R.cell (i := 0) rfl, R.cell (i := 1) rfl]) rfl (RetTypB.zero (by (with_reducible repeat' first | exact Below.refl _ _ | assumption | (refine Below.setCell ?_ (by first | omega | (simp; omega) | (simp; done) | (dsimp only; omega)) _) | (refine Below.alloc ?_ (by first | omega | (simp; omega) | (simp; done) | (dsimp only; omega)) _) | (refine below_drewN ?_ _) | (refine Below.drew ?_) | (refine Below.trans ?_ (hbw6.mono (by first | omega | (simp; omega) | (simp; done) | (dsimp only; omega)))))))
            · obtain ⟨v, hv⟩ := Int.eq_ofNat_of_zero_le (by omega : 0 ≤ F a)
              have HN := Lib.hid (shortM_in HO.out (by rw [HF.out]; exact hv) HXK.out)
              have HSP1 := HSP.out (by omega)
              have hv8 : v ≤ 8 := by omega
              rw [hv] at k1 HSP1
              have HSP2 := Lib.hid HSP1
              clear hneg hFle HSP1
              simp only [Int.toNat_natCast] at HSP2
              simp only at HN
              obtain ⟨i0, hi0, hz0, hz1, hz2⟩ := info_parts bool_info
              have hmk := run_mk (P := Try.prog) 112 4 i0 _ 1 1 Try.underlying112 hi0 hz0 hz1 hz2 xs.length (by omega) (by unfold BIG; omega)
              clear hi0 hz0 hz1 hz2
              have hvn : ¬ (v : Int) < 0 := by omega
              have HV := Lib.hid hv; clear hv
              go_upto_region 31 with fail
              have hm0 := made_one xs.length (wd.alloc (.cells #[.int .i64 x1, .slice none 0 0] 30)) hn
              simp only [szs] at hm0
              generalize hW : (wd.alloc (.cells #[.int .i64 x1, .slice none 0 0] 30)).alloc (.cells (madeCells #[Value.bool false] xs.length) 4) = w3' at hm0 ⊢
              have hb3' : Below wd.heap.size wd w3' := by subst hW; (with_reducible repeat' first | exact Below.refl _ _ | assumption | (refine Below.setCell ?_ (by first | omega | (simp; omega) | (simp; done) | (dsimp only; omega)) _) | (refine Below.alloc ?_ (by first | omega | (simp; omega) | (simp; done) | (dsimp only; omega)) _) | (refine below_drewN ?_ _) | (refine Below.drew ?_))
              have z3' : wd.heap.size + 1 + 1 = w3'.heap.size := by subst hW; simp
              have r3 : Blk w3' wd.heap.size 30 #[.int .i64 x1, .slice none 0 0] := by subst hW; exact (Blk.new _ rfl).alloc _
              clear hW hmk
              rw [row1_blank] at hm0
              obtain ⟨g', cc, hv, _, _, m1, m2, hset⟩ := row1_own hm0 ha
              injection hv with hv _ hcc
              injection hv with hv
              injection hv with hv _ _
              subst hv
              subst hcc
              have ho3 := hset true
              rw [show row1 xs.length (upd1 (fun _ => false) a true) = row1 xs.length (onlyP a) from row1_congr fun x _ => by
                unfold upd1 onlyP; by_cases hx : x = a <;> simp [hx]] at ho3
              clear hset
              replace k1 := (hb3'.cell (p := ⟨w2.heap.size, a, none⟩) (by simp; omega)).trans k1
              have lg3 : w2.heap.size < w3'.heap.size := by omega
              have lw3 : wd.heap.size + 1 < w3'.heap.size := by omega
              go_upto_region 33 with fail
              generalize hW : w3'.setCell ⟨wd.heap.size + 1, a, none⟩ (.bool true) = w4 at ho3 ⊢
              have hb4 : Below wd.heap.size wd w4 := by subst hW; (with_reducible repeat' first | exact Below.refl _ _ | assumption | (refine Below.setCell ?_ (by first | omega | (simp; omega) | (simp; done) | (dsimp only; omega)) _) | (refine Below.alloc ?_ (by first | omega | (simp; omega) | (simp; done) | (dsimp only; omega)) _) | (refine below_drewN ?_ _) | (refine Below.drew ?_) | (refine Below.trans ?_ (hb3'.mono (by first | omega | (simp; omega) | (simp; done) | (dsimp only; omega)))))
              have z4 : w3'.heap.size = w4.heap.size := by subst hW; simp [World.setCell]
              have r4 : Blk w4 wd.heap.size 30 #[.int .i64 x1, .slice none 0 0] := by subst hW; exact r3.far (by simp) _
              clear hW k1 k2 hb3' r3 hm0 m1 m2
              have t4 := t6.below hb4 lfam
              have q4 := q6.below hb4 lq6
              have hF4 := hF6.same (Same.of_below hb4 (by omega))
              have hwk4 := hwk6.below hb4 (by omega) (by omega)
              have hbw4 := hbw6.trans (hb4.mono (by omega))
              clear u0 u1 g0 g1 f0 f1' t6 q6 hF6 hwk6
              go_loopw [17, 18] (fun v10 v11 wr => PathRel (pathI xs.length (leadK xs ys) F) (pathI xs.length (leadK xs ys) F v (onlyP a)) x1 xs.length wd.heap.size w4 v10 v11 wr) (fun _ i _ => (intOf i + 1).toNat)
              case atStart => exact ⟨v, onlyP a, [], _, _, _, _, by first | rfl | (simp; done), rfl, ho3.mono (Nat.le_refl _) (by omega), r4, Elem.OS.nil, rfl, by simpa using hv8, Below.refl _ _⟩
              case round =>
                obtain ⟨l, q, acc, A5, c5, As, cs, rfl, rfl, hat, hB, hst, hP, hln, hbr⟩ := hrel
                have z5' := hbr.size
                cases l with
                | zero =>
                  have hneg : ¬ (0 : Int) ≤ ((0 : Nat) : Int) - 1 := by omega
                  simp only [pathI, List.append_nil] at hP
                  have g0 := hB.cell (i := 0) rfl; have g1 := hB.cell (i := 1) rfl
                  have q5 := q4.below hbr (by omega)
                  have e0 := q5.cell (i := 0) rfl; have e1' := q5.cell (i := 1) rfl; have f0 := q5.free 0; have f1' := q5.free 1
                  have lq5 : wd.heap.size < wr.heap.size := by omega
                  go_wp2_with fail
                  have R := (q5.set 0 (.int .i64 x1)).set 1 (.slice As acc.length cs)
                  rw [HN.out, HF.out, HSP2.out, ← hP]
                  exact bodyPost_ret (v := .tuple #[.agg #[.int .i64 x1, .slice As acc.length cs], .bool true]) (by simp [results, Try.results26, go_sem, R.cell (i := 0) rfl, R.cell (i := 1) rfl]) rfl ⟨As, cs, rfl, (hst.same (by (with_reducible repeat' first | exact Same.refl _ _ _ | assumption | (refine Same.setCell ?_ (by first | omega | (simp; omega) | (simp; done) | (dsimp only; omega)) _) | (refine Same.alloc ?_ (by first | omega | (simp; omega) | (simp; done) | (dsimp only; omega)) _) | (refine Same.drewN ?_ _) | (refine Same.drew ?_)))).mono (by omega) (by simp [World.setCell]), by (with_reducible repeat' first | exact Below.refl _ _ | assumption | (refine Below.setCell ?_ (by first | omega | (simp; omega) | (simp; done) | (dsimp only; omega)) _) | (refine Below.alloc ?_ (by first | omega | (simp; omega) | (simp; done) | (dsimp only; omega)) _) | (refine below_drewN ?_ _) | (refine Below.drew ?_) | (refine Below.trans ?_ (hbr.mono (by first | omega | (simp; omega) | (simp; done) | (dsimp only; omega)))) | (refine Below.trans ?_ (hbw4.mono (by first | omega | (simp; omega) | (simp; done) | (dsimp only; omega)))))⟩
                | succ m =>
                  obtain ⟨wo, rfl⟩ : ∃ x, x = wr := ⟨_, rfl⟩
                  rw [show ((m + 1 : Nat) : Int) - 1 = (m : Int) by omega]
                  have hm0 : (0 : Int) ≤ (m : Int) := by omega
                  go_upto_region 36 with fail
                  go_loopw [17, 19] (fun v10 v12 wk => ∃ k : Nat, k ≤ 8 ∧ v12 = .int .i64 ((k : Int) + 1) ∧ v10 = .slice A5 xs.length c5 ∧ (∀ j, j < k → hitsB F m xs.length (reachP xs.length q (leadK xs ys j)) = false) ∧ Below wo.heap.size wo wk) (fun _ i _ => 9 - (intOf i).toNat)
                  case atStart => exact ⟨0, by omega, rfl, rfl, fun j hj => by omega, Below.refl _ _⟩
                  case round =>
                    obtain ⟨k, hk, rfl, rfl, hno, hbk⟩ := hrel
                    obtain ⟨wk, rfl⟩ : ∃ x, x = wr := ⟨_, rfl⟩
                    have hbk4 : Below wd.heap.size w4 wk := hbr.trans (hbk.mono (by omega))
                    have zk := hbk.size
                    by_cases hk8 : k < 8
                    · obtain ⟨R, hR⟩ : ∃ R, reachP xs.length q (leadK xs ys k) = R := ⟨_, rfl⟩
                      have hF5 := hF4.same (Same.of_below hbk4 (by omega))
                      have hwk5 := hwk4.below hbk4 (by omega) (by omega)
                      have hB5 := hB.below hbk (by omega)
                      have hat5 := hat.same (Same.of_below hbk (Nat.le_refl _))
                      have hst5 := hst.same (Same.of_below hbk (Nat.le_refl _))
                      have lgk : g < wk.heap.size := by omega
                      have lw2k : w2.heap.size + 1 ≤ wk.heap.size := by omega
                      go_upto_region 39 with (go_at_call 103; (with_reducible refine (walkerNext_any g _ _ xs.length (leadK xs ys) A5 c5 _ _ k q _ hwk5 lgk (by omega) hat5.read.as (by first | omega | (simp; omega) | (simp; done) | (dsimp only; omega)) hk8 hn).mono ?_); rintro e w6 ⟨A6, c6, rfl, ho6, hb6'⟩)
                      rw [hR] at ho6
                      have z6 := hb6'.size
                      have hF7 := hF5.same (Same.of_below hb6' (by omega))
                      cases hh : hitsB F m xs.length R with
                      | false =>
                        have HH := Lib.hid hh
                        have hno' : ∀ j, j < k + 1 → hitsB F m xs.length (reachP xs.length q (leadK xs ys j)) = false := fun j hj => by
                          by_cases e : j = k
                          · subst e; rw [hR]; exact hh
                          · exact hno j (by omega)
                        clear hh
                        go_wp2_with (go_at_call 104; (with_reducible refine (reaches_any _ _ _ _ _ _ _ _ xs.length F (m : Int) R _ ho6.read.as hF7 (by first | omega | (simp; omega) | (simp; done) | (dsimp only; omega)) (by omega) hn).mono ?_); rintro e w8 ⟨rfl, rfl⟩; simp only [HH.out])
                        exact ⟨⟨k + 1, by omega, by go_num, rfl, hno', hbk.trans (hb6'.mono zk)⟩, by simp [intOf]; omega⟩
                      | true =>
                        have HH := Lib.hid hh
                        have HP := Lib.hid (pathI_some hk8 hno (by rw [hR]; exact hh))
                        rw [hR] at HP
                        clear hh hR
                        have B8 := hB5.below hb6' (by omega)
                        have hst8 := hst5.same (Same.of_below hb6' (by omega))
                        have p1 := B8.cell (i := 1) rfl; have p2 := B8.free 1
                        have lb8 := B8.lt
                        obtain ⟨us, hus⟩ : ∃ us, acc ++ [kindS k] = us := ⟨_, rfl⟩
                        have HUS := Lib.hid hus
                        have HUL := Lib.hid (show us.length = acc.length + 1 by rw [← hus]; simp)
                        clear hus
                        have hacc : acc.length + 1 ≤ 1048576 := by omega
                        go_wp2_with (first
                          | (go_at_call 104; (with_reducible refine (reaches_any _ _ _ _ _ _ _ _ xs.length F (m : Int) R _ ho6.read.as hF7 (by first | omega | (simp; omega) | (simp; done) | (dsimp only; omega)) (by omega) hn).mono ?_); rintro e w8 ⟨rfl, rfl⟩; simp only [HH.out])
                          | (at_builtin; refine wpList_app1b tyStepS As acc (kindS k) [.int .i64 ((k : Int) + 1), .int .i64 0] ⟨w6.heap.size, 0, none⟩ 1 (lo := wd.heap.size + 1) (hi := wo.heap.size) (hst8.same (by (with_reducible repeat' first | exact Same.refl _ _ _ | assumption | (refine Same.setCell ?_ (by first | omega | (simp; omega) | (simp; done) | (dsimp only; omega)) _) | (refine Same.alloc ?_ (by first | omega | (simp; omega) | (simp; done) | (dsimp only; omega)) _) | (refine Same.drewN ?_ _) | (refine Same.drew ?_)))) rfl (by first | omega | (simp; omega) | (simp; done) | (dsimp only; omega)) (by omega) rfl _ _ rfl rfl rfl rfl (cell_row_at _ #[.int .i64 ((k : Int) + 1), .int .i64 0] _ _ rfl) (by simp; exact ⟨rfl, rfl⟩) hacc (by decide) (fun A9 c9 w9 o9 hg9 hv9 => ?_); rw [HUS.out] at o9; rw [← HUL.out]; (have hb9 : Below (wd.heap.size + 1) w6 w9 := Below.grown (by (with_reducible repeat' first | exact Below.refl _ _ | assumption | (refine Below.setCell ?_ (by first | omega | (simp; omega) | (simp; done) | (dsimp only; omega)) _) | (refine Below.alloc ?_ (by first | omega | (simp; omega) | (simp; done) | (dsimp only; omega)) _) | (refine below_drewN ?_ _) | (refine Below.drew ?_))) hg9 (by simp; omega) (fun k hk => by have := (hst8.blkv k hk).1; omega)); (have B9 := B8.below hb9 (Nat.lt_succ_self _)); (have p3' := B9.cell (i := 1) rfl); (have p4' := B9.free 1); (have z9 := hb9.size); (have lb9 := B9.lt)))
                        rw [← HUL.out] at o9
                        have hsa : EBool.OS w9 wk.heap.size w6.heap.size _ (row1 xs.length R) := (ho6.same ((Same.refl _ _ _).alloc (by omega) _)).same (Same.of_grown hg9 (by simp) (fun j hj => by have := (hst8.blkv j hj).2; omega))
                        have hsb := hsa.same ((Same.refl _ _ _).setCell (p := ⟨wd.heap.size, 1, none⟩) (.inl (by simp; omega)) (.slice A9 us.length c9))
                        have hsc := o9.same ((Same.refl _ _ _).setCell (p := ⟨wd.heap.size, 1, none⟩) (.inl (by simp)) (.slice A9 us.length c9))
                        have zz : (w9.setCell ⟨wd.heap.size, 1, none⟩ (.slice A9 us.length c9)).heap.size = w9.heap.size := by simp [World.setCell]
                        have hbz : Below wd.heap.size w4 w9 := hbk4.trans ((hb6'.mono (by omega)).trans (hb9.mono (by omega)))
                        refine ⟨⟨m, R, us, _, _, A9, c9, rfl, rfl, hsb.mono (by omega) (by omega), B9.set 1 _, hsc.mono (Nat.le_refl _) (by omega), ?_, ?_, ?_⟩, by simp [intOf]⟩
                        · rw [← HUS.out, ← hP, HP.out]; simp
                        · rw [HUL.out]; omega
                        · (with_reducible repeat' first | exact Below.refl _ _ | assumption | (refine Below.setCell ?_ (by first | omega | (simp; omega) | (simp; done) | (dsimp only; omega)) _) | (refine Below.alloc ?_ (by first | omega | (simp; omega) | (simp; done) | (dsimp only; omega)) _) | (refine below_drewN ?_ _) | (refine Below.drew ?_) | (refine Below.trans ?_ (hbz.mono (by first | omega | (simp; omega) | (simp; done) | (dsimp only; omega)))))
                    · obtain rfl : k = 8 := by omega
                      rw [pathI_none hno] at hP
                      go_wp2_with fail
                      exact ⟨⟨m, q, acc, A5, c5, As, cs, by go_num, rfl, (hat.same (Same.of_below hbk (Nat.le_refl _))).mono (Nat.le_refl _) zk, hB.below hbk (by omega), (hst.same (Same.of_below hbk (Nat.le_refl _))).mono (Nat.le_refl _) zk, hP, by omega, hbk4⟩, by simp [intOf]⟩
end Go.Proofs.Ytnnjilkjjdiblaa
