/-
  Sizes, copies and equality of slices of ints and of slices of such slices: what each function returns and what it leaves of memory.
-/
import Derived.Test.YtmgfpcchlonknaaBase
namespace Go.Proofs.Ytmgfpcchlonknaa
set_option maxRecDepth 100000
open Go.RowKit

theorem int_info : (Try.prog.info? 3).map (fun i => (i.zero, i.size, i.bytes)) = some (some (.int .i64 0), 1, 8) := by kernel_rfl
theorem ints_info : (Try.prog.info? 79).map (fun i => (i.zero, i.size, i.bytes)) = some (some (.slice none 0 0), 1, 24) := by kernel_rfl

theorem szIntS_any (A : Option Addr) (c : Nat) (xs : List Int) (left : Int) (w : World) (hx : xs.length ≤ BIG) (h0 : 0 ≤ left) (h1 : left ≤ 1048576) :
    Calls Try.prog 120 #[.slice A xs.length c, .int .i64 left] w fun e w' => ∃ r, e = .returned (.int .i64 r) ∧ w = w' ∧ Sz r left xs.length := by
  unfold BIG at hx
  go_enter Try.func120, Try.ntmps120
  go_wp2
  · go_ret; exact ⟨_, rfl, rfl, .inl ⟨rfl, by omega⟩⟩
  · go_ret; exact ⟨_, rfl, rfl, .inr ⟨by omega, rfl⟩⟩

theorem toIntS_any (A : Option Addr) (c lo hi : Nat) (xs : List Int) (w : World) (h : EInt.AS w lo hi A xs) (hh : hi ≤ w.heap.size) (hs : xs.length ≤ 1048576) :
    Calls Try.prog 121 #[.slice A xs.length c] w fun e w' => ∃ A' c', e = .returned (.slice A' xs.length c') ∧ EInt.OS w' w.heap.size w'.heap.size (.slice A' xs.length c') xs ∧ Below w.heap.size w w' := by
  obtain ⟨i0, hi0, hz0, hz1, hz2⟩ := info_parts int_info
  have hx := h.le
  have hmk := run_mk (P := Try.prog) 79 3 i0 _ 1 8 Try.underlying79 hi0 hz0 hz1 hz2 xs.length (by omega) hx
  clear hi0 hz0 hz1 hz2
  unfold BIG at hx
  go_enter Try.func121, Try.ntmps121
  go_wp2
  go_loopw [4] (fun i wr => ToRel EInt w xs i wr) (fun i _ => xs.length - (intOf i).toNat)
  case atStart => exact ToRel.start (E := EInt) _ (by simp [size_madeCells, EInt, Elem.flat])
  case round =>
    have hrel' := hrel
    obtain ⟨k, css, hk, rfl, hb, hsz, hf, ho⟩ := hrel
    clear hmk
    have hl := Lib.hid (ToRel.flen ho hk)
    by_cases hlt : k < xs.length
    · obtain ⟨b, off, x, rfl, hb1, hb2, _, hxk, hc⟩ := AInt.at_ (h.same (Same.of_below hb hh)) hlt
      have HX := Lib.hid hxk; clear hxk
      obtain ⟨u, hu⟩ := hf.next (i := k) (by simpa [EInt, Elem.flat] using hlt)
      have hfz := hf.free k
      clear hrel'
      go_wp2
      exact ⟨ToRel.step hlt HX.out (hb.setCell (Nat.le_refl _) _) hsz (ToRel.fill1 hf hl.out hlt) ho ((Same.refl _ _ _).setCell (.inl (by simp)) _) rfl, by simp [intOf]; omega⟩
    · have hd := hrel'.done hlt h.le
      clear hrel'
      go_wp2
      go_ret
      exact ⟨_, _, rfl, hd⟩

def tot : List (List Int) → Nat
  | [] => 0
  | x :: r => x.length + tot r

theorem le_tot {x : List Int} {xs : List (List Int)} (h : x ∈ xs) : x.length ≤ tot xs := by
  induction xs with
  | nil => cases h
  | cons y r ih =>
    simp only [tot]
    rcases List.mem_cons.1 h with rfl | h
    · omega
    · have := ih h; omega
def SzRel (xss : List (List Int)) (left0 : Int) (l i : Value) : Prop :=
  ∃ (k : Nat) (left : Int), k ≤ xss.length ∧ i = .int .i64 k ∧ l = .int .i64 left ∧ 0 ≤ left ∧ left ≤ 1048576 ∧ left - tot (xss.drop k) = left0 - xss.length - tot xss
theorem szIntSS_any (A : Option Addr) (c lo hi : Nat) (xss : List (List Int)) (left0 : Int) (w : World) (h : EIntS.AS w lo hi A xss) (h0 : 0 ≤ left0) (h1 : left0 ≤ 1048576) :
    Calls Try.prog 67 #[.slice A xss.length c, .int .i64 left0] w fun e w' => ∃ r, e = .returned (.int .i64 r) ∧ w = w' ∧ Sz r left0 (xss.length + tot xss) := by
  have hx := h.le
  unfold BIG at hx
  go_enter Try.func67, Try.ntmps67
  go_wp2
  · go_ret; exact ⟨_, rfl, rfl, .inl ⟨rfl, by omega⟩⟩
  · go_loop [1, 5] (fun l i => SzRel xss left0 l i) (fun _ i => xss.length - (intOf i).toNat)
    case atStart => exact ⟨0, _, Nat.zero_le _, rfl, rfl, by omega, by omega, by simp⟩
    case round =>
      obtain ⟨k, left, hk, rfl, rfl, h3, h4, h5⟩ := hrel
      have H5 := Lib.hid h5; clear h5
      by_cases hlt : k < xss.length
      · obtain ⟨b, off, x, B, cx, rfl, _, _, hd, _, hc, _, _, hr⟩ := AIntS.at_ h hlt
        have HD := Lib.hid hd; clear hd
        have hxb := hr.le
        go_wp2_with (go_at_call 120; refine (szIntS_any _ _ x _ _ hxb h3 h4).mono ?_; rintro e w' ⟨r, rfl, rfl, hs⟩)
        · go_ret
          refine ⟨_, rfl, rfl, .inl ⟨rfl, ?_⟩⟩
          have h6 := H5.out
          rw [HD.out, tot] at h6
          rcases hs with ⟨_, hs⟩ | ⟨hs, _⟩ <;> omega
        · refine ⟨⟨k + 1, _, by omega, by go_num, rfl, by omega, ?_, ?_⟩, by simp [intOf]; omega⟩
          · rcases hs with ⟨hs, _⟩ | ⟨_, hs⟩ <;> omega
          · have h6 := H5.out
            rw [HD.out, tot] at h6
            rcases hs with ⟨hs, _⟩ | ⟨_, hs⟩ <;> omega
      · obtain rfl : k = xss.length := by omega
        go_wp2
        go_ret
        refine ⟨_, rfl, rfl, .inr ⟨h3, ?_⟩⟩
        have h6 := H5.out
        rw [List.drop_length] at h6
        simp only [tot] at h6
        omega

theorem toIntSS_any (A : Option Addr) (c lo hi : Nat) (xs : List (List Int)) (w : World) (h : EIntS.AS w lo hi A xs) (hh : hi ≤ w.heap.size) (hs : xs.length + tot xs ≤ 1048576) :
    Calls Try.prog 70 #[.slice A xs.length c] w fun e w' => ∃ A' c', e = .returned (.slice A' xs.length c') ∧ EIntS.OS w' w.heap.size w'.heap.size (.slice A' xs.length c') xs ∧ Below w.heap.size w w' := by
  obtain ⟨i0, hi0, hz0, hz1, hz2⟩ := info_parts ints_info
  have hx := h.le
  have hmk := run_mk (P := Try.prog) 22 79 i0 _ 1 24 Try.underlying22 hi0 hz0 hz1 hz2 xs.length (by omega) hx
  clear hi0 hz0 hz1 hz2
  unfold BIG at hx
  go_enter Try.func70, Try.ntmps70
  go_wp2
  go_loopw [4] (fun i wr => ToRel EIntS w xs i wr) (fun i _ => xs.length - (intOf i).toNat)
  case atStart => exact ToRel.start (E := EIntS) _ (by simp [size_madeCells, EIntS, Elem.slice])
  case round =>
    have hrel' := hrel
    obtain ⟨k, css, hk, rfl, hb, hsz, hf, ho⟩ := hrel
    clear hmk
    have hl := Lib.hid (ToRel.flen ho hk)
    by_cases hlt : k < xs.length
    · obtain ⟨b, off, x, B, cx, rfl, hb1, hb2, hdr, hxk, hc, hcx, hcm, hr⟩ := AIntS.at_ (h.same (Same.of_below hb hh)) hlt
      have HX := Lib.hid hxk; clear hxk
      have hxl : x.length ≤ 1048576 := by
        have : x.length ≤ tot xs := le_tot (List.mem_of_getElem? HX.out)
        omega
      clear hrel' hdr
      have hh' : hi ≤ wr.heap.size := by omega
      go_wp2_with (go_at_call 121; refine (toIntS_any B cx lo hi x wr hr hh' hxl).mono ?_; rintro e w1 ⟨A1, c1, rfl, hv, hb1'⟩; (have hz1 := hb1'.size); (have hf1 := hf.same (lo := 0) (Same.of_below hb1' (Nat.le_refl _)) (Nat.zero_le _) (by omega)); (obtain ⟨u, hu⟩ := hf1.next (i := k) (by simpa [EIntS, Elem.slice] using hlt)); (have hfz := hf1.free k))
      refine ⟨ToRel.step hlt HX.out ((hb.trans (hb1'.mono (by omega))).setCell (Nat.le_refl _) _) hsz (ToRel.fill1 hf1 hl.out hlt) ho ((Same.of_below hb1' (Nat.le_refl _)).setCell (.inl (by simp)) _) ⟨_, rfl, ?_⟩, by simp [intOf]; omega⟩
      exact (hv.same ((Same.refl _ _ _).setCell (.inl (by simp; omega)) _)).mono (Nat.le_refl _) (by simp [World.setCell])
    · have hd := hrel'.done hlt h.le
      clear hrel'
      go_wp2
      go_ret
      exact ⟨_, _, rfl, hd⟩

theorem eqIntS_any (A B : Option Addr) (c d lo hi lo' hi' : Nat) (xs ys : List Int) (w : World) (h : EInt.AS w lo hi A xs) (h' : EInt.AS w lo' hi' B ys) :
    Calls Try.prog 122 #[.slice A xs.length c, .slice B ys.length d] w fun e w' => ∃ n, e = .returned (.bool (eqB xs ys)) ∧ w.drewN n = w' := by
  have hx := h.le
  unfold BIG at hx
  by_cases hn : xs.length = ys.length
  · have n1 : xs.length ≤ ys.length := by omega
    have n2 : ys.length ≤ xs.length := by omega
    clear hn
    go_enter Try.func122, Try.ntmps122
    go_wp2
    go_loopw [5] (fun i wr => EqRel xs ys w i wr) (fun i _ => xs.length - (intOf i).toNat)
    case atStart => exact ⟨0, 0, Nat.zero_le _, rfl, rfl, by simp⟩
    case round =>
      obtain ⟨k, n, hk, rfl, hw, he⟩ := hrel
      have HE := Lib.hid he; clear he
      have h := hw ▸ h.drewN n; have h' := hw ▸ h'.drewN n
      have HW := Lib.hid hw; clear hw
      by_cases hlt : k < xs.length
      · obtain ⟨b1, o1, x, rfl, _, _, hd1, _, hc1⟩ := AInt.at_ h hlt
        obtain ⟨b2, o2, y, rfl, _, _, hd2, _, hc2⟩ := AInt.at_ h' (by omega : k < ys.length)
        have HD1 := Lib.hid hd1; have HD2 := Lib.hid hd2; clear hd1 hd2
        have q1 : (0 : Int) ≤ (k : Int) := by omega
        have q2 : (k : Int) < (xs.length : Int) := by omega
        have q3 : (k : Int) < (ys.length : Int) := by omega
        go_wp2
        go_quiet (fail)
        go_wp2
        · have hxy : (x != y) = true := by assumption
          go_ret
          exact ⟨_, ret_bool (eqB_no HE.out HD1.out HD2.out (eqB_int_ne hxy)), by rw [HW.out, World.drewN_drewN]⟩
        · have hxy : (x != y) = false := by assumption
          exact ⟨⟨k + 1, _, by omega, by go_num, by rw [HW.out, World.drewN_drewN], eqB_yes HE.out HD1.out HD2.out (eqB_int_eq hxy)⟩, by simp [intOf]; omega⟩
      · go_wp2
        go_ret
        exact ⟨_, ret_bool (eqB_end HE.out (by omega) (by omega)), HW.out.symm⟩
  · go_enter Try.func122, Try.ntmps122
    go_wp2
    go_ret
    exact ⟨0, ret_bool (eqB_len hn).symm, rfl⟩

theorem eqIntSS_any (A B : Option Addr) (c d lo hi lo' hi' : Nat) (xs ys : List (List Int)) (w : World) (h : EIntS.AS w lo hi A xs) (h' : EIntS.AS w lo' hi' B ys) :
    Calls Try.prog 73 #[.slice A xs.length c, .slice B ys.length d] w fun e w' => ∃ n, e = .returned (.bool (eqB xs ys)) ∧ w.drewN n = w' := by
  have hx := h.le
  unfold BIG at hx
  by_cases hn : xs.length = ys.length
  · have n1 : xs.length ≤ ys.length := by omega
    have n2 : ys.length ≤ xs.length := by omega
    clear hn
    go_enter Try.func73, Try.ntmps73
    go_wp2
    go_loopw [5] (fun i wr => EqRel xs ys w i wr) (fun i _ => xs.length - (intOf i).toNat)
    case atStart => exact ⟨0, 0, Nat.zero_le _, rfl, rfl, by simp⟩
    case round =>
      obtain ⟨k, n, hk, rfl, hw, he⟩ := hrel
      have HE := Lib.hid he; clear he
      have h := hw ▸ h.drewN n; have h' := hw ▸ h'.drewN n
      have HW := Lib.hid hw; clear hw
      by_cases hlt : k < xs.length
      · obtain ⟨b1, o1, x, A1, c1, rfl, _, _, hd1, _, hc1, _, _, hr1⟩ := AIntS.at_ h hlt
        obtain ⟨b2, o2, y, A2, c2, rfl, _, _, hd2, _, hc2, _, _, hr2⟩ := AIntS.at_ h' (by omega : k < ys.length)
        have HD1 := Lib.hid hd1; have HD2 := Lib.hid hd2; clear hd1 hd2
        have q1 : (0 : Int) ≤ (k : Int) := by omega
        have q2 : (k : Int) < (xs.length : Int) := by omega
        have q3 : (k : Int) < (ys.length : Int) := by omega
        have hq := fun (m : Nat) => quietE (eqIntS_any A1 A2 c1 c2 lo hi lo' hi' x y (wr.drewN m) (hr1.drewN m) (hr2.drewN m))
        go_wp2
        go_quiet ((go_at_call 122; exact hq _))
        go_wp2
        · have hxy : (!eqB x y) = true := by assumption
          go_ret
          exact ⟨_, ret_bool (eqB_no HE.out HD1.out HD2.out (not_true hxy)), by rw [HW.out, World.drewN_drewN]⟩
        · have hxy : (!eqB x y) = false := by assumption
          exact ⟨⟨k + 1, _, by omega, by go_num, by rw [HW.out, World.drewN_drewN], eqB_yes HE.out HD1.out HD2.out (not_false hxy)⟩, by simp [intOf]; omega⟩
      · go_wp2
        go_ret
        exact ⟨_, ret_bool (eqB_end HE.out (by omega) (by omega)), HW.out.symm⟩
  · go_enter Try.func73, Try.ntmps73
    go_wp2
    go_ret
    exact ⟨0, ret_bool (eqB_len hn).symm, rfl⟩
end Go.Proofs.Ytmgfpcchlonknaa
