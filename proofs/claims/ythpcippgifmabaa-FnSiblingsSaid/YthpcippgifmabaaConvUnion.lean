/-
  Unions: sizes, copies, equality, marks.
-/
import Derived.Test.YthpcippgifmabaaFlat
namespace Go.Proofs.Ythpcippgifmabaa
set_option maxRecDepth 100000
open Go.RowKit

structure Union where
  man : Int
  woman : Int
  since : Int
  till : Int
  deriving DecidableEq
def EUnion : Elem Union := .flat 73 4 (fun s => [.int .i64 s.man, .int .i64 s.woman, .int .i64 s.since, .int .i64 s.till]) (fun _ => rfl) (fun _ => rfl)
def vsUnion (s : Union) : List Value := [.int .i64 s.man, .int .i64 s.woman, .int .i64 s.since, .int .i64 s.till]
theorem EUnion_O (w : World) (lo hi : Nat) (cs : List Value) (x : Union) : EUnion.O w lo hi cs x ↔ cs = vsUnion x := Iff.rfl
section
variable {w : World} {lo hi : Nat} {A : Option Addr} {k : Nat}
theorem AUnion.at_ {xs : List Union} (h : EUnion.AS w lo hi A xs) (hk : k < xs.length) : ∃ b off x, A = some ⟨b, off, none⟩ ∧ lo ≤ b ∧ b < hi ∧ xs.drop k = x :: xs.drop (k + 1) ∧ xs[k]? = some x ∧
    w.cell? ⟨b, off + k * 4, none⟩ = some (.int .i64 x.man) ∧ w.cell? ⟨b, off + k * 4 + 1, none⟩ = some (.int .i64 x.woman) ∧ w.cell? ⟨b, off + k * 4 + 2, none⟩ = some (.int .i64 x.since) ∧ w.cell? ⟨b, off + k * 4 + 3, none⟩ = some (.int .i64 x.till) := by
  obtain ⟨b, off, x, cs, rfl, h1, h2, h3, h4, rfl, hc⟩ := h.at_ hk
  exact ⟨b, off, x, rfl, h1, h2, h3, h4, by simpa [EUnion, Elem.flat, Nat.add_assoc] using hc 0 _ rfl, by simpa [EUnion, Elem.flat, Nat.add_assoc] using hc 1 _ rfl, by simpa [EUnion, Elem.flat, Nat.add_assoc] using hc 2 _ rfl, by simpa [EUnion, Elem.flat, Nat.add_assoc] using hc 3 _ rfl⟩
end

theorem szUnionS_any (A : Option Addr) (c : Nat) (xs : List Union) (left : Int) (w : World) (hx : xs.length ≤ BIG) (h0 : 0 ≤ left) (h1 : left ≤ 1048576) :
    Calls Try.prog 40 #[.slice A xs.length c, .int .i64 left] w fun e w' => ∃ r, e = .returned (.int .i64 r) ∧ w = w' ∧ Sz r left xs.length := by
  unfold BIG at hx
  go_enter Try.func40, Try.ntmps40
  go_wp2
  · go_ret; exact ⟨_, rfl, rfl, .inl ⟨rfl, by omega⟩⟩
  · go_ret; exact ⟨_, rfl, rfl, .inr ⟨by omega, rfl⟩⟩

theorem toUnion_any (x0 : Int) (x1 : Int) (x2 : Int) (x3 : Int) (w : World) :
    Calls Try.prog 60 #[.agg #[.int .i64 x0, .int .i64 x1, .int .i64 x2, .int .i64 x3]] w fun e w' => e = .returned (.agg #[.int .i64 x0, .int .i64 x1, .int .i64 x2, .int .i64 x3]) ∧ Below w.heap.size w w' := by
  go_enter Try.func60, Try.ntmps60
  go_wp2
  exact bodyPost_ret (v := .agg #[.int .i64 x0, .int .i64 x1, .int .i64 x2, .int .i64 x3]) (by simp [results, Try.results60, go_sem]) rfl ⟨rfl, by (with_reducible repeat' first | exact Below.refl _ _ | assumption | (refine Below.setCell ?_ (by first | omega | (simp; omega) | (simp; done) | (dsimp only; omega)) _) | (refine Below.alloc ?_ (by first | omega | (simp; omega) | (simp; done) | (dsimp only; omega)) _) | (refine below_drewN ?_ _) | (refine Below.drew ?_))⟩

theorem eqUnion_any (x0 : Int) (x1 : Int) (x2 : Int) (x3 : Int) (y0 : Int) (y1 : Int) (y2 : Int) (y3 : Int) (w : World) :
    Calls Try.prog 62 #[.agg #[.int .i64 x0, .int .i64 x1, .int .i64 x2, .int .i64 x3], .agg #[.int .i64 y0, .int .i64 y1, .int .i64 y2, .int .i64 y3]] w fun e w' => e = .returned (.bool (eqB (⟨x0, x1, x2, x3⟩ : Union) ⟨y0, y1, y2, y3⟩)) ∧ Below w.heap.size w w' := by
  go_enter Try.func62, Try.ntmps62
  go_wp2
  all_goals (go_ret; exact ⟨ret_bool (by simp_all [eqB]), by (with_reducible repeat' first | exact Below.refl _ _ | assumption | (refine Below.setCell ?_ (by first | omega | (simp; omega) | (simp; done) | (dsimp only; omega)) _) | (refine Below.alloc ?_ (by first | omega | (simp; omega) | (simp; done) | (dsimp only; omega)) _) | (refine below_drewN ?_ _) | (refine Below.drew ?_))⟩)

theorem union_info : (Try.prog.info? 73).map (fun i => (i.zero, i.size, i.bytes)) = some (some (.agg #[.int .i64 0, .int .i64 0, .int .i64 0, .int .i64 0]), 4, 32) := by kernel_rfl

theorem union_fill {k n g e : Nat} {css : List (List Value)} {w1 : World} {a0 a1 a2 a3 : Value} (hf : Fill w1 g e (n * 4) css.flatten (k * 4)) (hl : css.flatten.length = k * 4) (hk : k < n) :
    Fill (((((w1).setCell ⟨g, k * 4, none⟩ a0).setCell ⟨g, k * 4 + 1, none⟩ a1).setCell ⟨g, k * 4 + 2, none⟩ a2).setCell ⟨g, k * 4 + 3, none⟩ a3) g e (n * 4) (css.flatten ++ [a0, a1, a2, a3]) ((k + 1) * 4) := by
  have h := (((hf.push (o := k * 4) (u := a0) hl (by omega) rfl).push (o := k * 4 + 1) (u := a1) (by simp [hl]) (by omega) rfl).push (o := k * 4 + 2) (u := a2) (by simp [hl]) (by omega) rfl).push (o := k * 4 + 3) (u := a3) (by simp [hl]) (by omega) rfl
  simpa [Nat.succ_mul] using h
theorem toUnionS_any (A : Option Addr) (c lo hi : Nat) (xs : List Union) (w : World) (h : EUnion.AS w lo hi A xs) (hh : hi ≤ w.heap.size) (hs : xs.length ≤ 1048576) :
    Calls Try.prog 42 #[.slice A xs.length c] w fun e w' => ∃ A' c', e = .returned (.slice A' xs.length c') ∧ EUnion.OS w' w.heap.size w'.heap.size (.slice A' xs.length c') xs ∧ Below w.heap.size w w' := by
  obtain ⟨i0, hi0, hz0, hz1, hz2⟩ := info_parts union_info
  have hx := h.le
  have hmk := run_mk (P := Try.prog) 24 73 i0 _ 4 32 Try.underlying24 hi0 hz0 hz1 hz2 xs.length (by omega) hx
  clear hi0 hz0 hz1 hz2
  unfold BIG at hx
  go_enter Try.func42, Try.ntmps42
  go_wp2
  go_loopw [4] (fun i wr => ToRel EUnion w xs i wr) (fun i _ => xs.length - (intOf i).toNat)
  case atStart => exact ToRel.start (E := EUnion) _ (by simp [size_madeCells, EUnion, Elem.flat])
  case round =>
    have hrel' := hrel
    obtain ⟨k, css, hk, rfl, hb, hsz, hf, ho⟩ := hrel
    clear hmk
    have hl := Lib.hid (ToRel.flen ho hk)
    by_cases hlt : k < xs.length
    · obtain ⟨b, off, ⟨x0, x1, x2, x3⟩, rfl, hb1, hb2, hdr, hxk, hc0, hc1, hc2, hc3⟩ := AUnion.at_ (h.same (Same.of_below hb hh)) hlt
      have HX := Lib.hid hxk; clear hxk hrel' hdr
      have hh' : hi ≤ wr.heap.size := by omega
      go_wp2_with (go_at_call 60; refine (toUnion_any x0 x1 x2 x3 wr).mono ?_; rintro e w1 ⟨rfl, hb1'⟩; (have hz1 := hb1'.size); (have hf1 := hf.same (lo := 0) (Same.of_below hb1' (Nat.le_refl _)) (Nat.zero_le _) (by omega)); (obtain ⟨u0, hu0⟩ := hf1.next (i := k * 4) (by simp [EUnion, Elem.flat]; omega)); (have hfz0 := hf1.free (k * 4)); (obtain ⟨u1, hu1⟩ := hf1.next (i := k * 4 + 1) (by simp [EUnion, Elem.flat]; omega)); (have hfz1 := hf1.free (k * 4 + 1)); (obtain ⟨u2, hu2⟩ := hf1.next (i := k * 4 + 2) (by simp [EUnion, Elem.flat]; omega)); (have hfz2 := hf1.free (k * 4 + 2)); (obtain ⟨u3, hu3⟩ := hf1.next (i := k * 4 + 3) (by simp [EUnion, Elem.flat]; omega)); (have hfz3 := hf1.free (k * 4 + 3)))
      exact ⟨ToRel.step hlt HX.out (by (with_reducible repeat' first | exact Below.refl _ _ | assumption | (refine Below.setCell ?_ (by first | omega | (simp; omega) | (simp; done) | (dsimp only; omega)) _) | (refine Below.alloc ?_ (by first | omega | (simp; omega) | (simp; done) | (dsimp only; omega)) _) | (refine below_drewN ?_ _) | (refine Below.drew ?_) | (refine Below.trans ?_ (hb1'.mono (by first | omega | (simp; omega) | (simp; done) | (dsimp only; omega)))))) hsz (union_fill hf1 hl.out hlt) ho (by (with_reducible repeat' first | exact Same.refl _ _ _ | assumption | (refine Same.setCell ?_ (by first | omega | (simp; omega) | (simp; done) | (dsimp only; omega)) _) | (refine Same.alloc ?_ (by first | omega | (simp; omega) | (simp; done) | (dsimp only; omega)) _) | (refine Same.drewN ?_ _) | (refine Same.drew ?_) | (refine Same.trans ?_ (Same.of_below hb1' (by first | omega | (simp; omega) | (simp; done) | (dsimp only; omega)))))) rfl, by simp [intOf]; omega⟩
    · have hd := hrel'.done hlt h.le
      clear hrel'
      go_wp2
      go_ret
      exact ⟨_, _, rfl, hd⟩

set_option maxHeartbeats 4000000 in
theorem eqUnionS_any (A B : Option Addr) (c d lo hi lo' hi' : Nat) (xs ys : List Union) (w : World) (h : EUnion.AS w lo hi A xs) (h' : EUnion.AS w lo' hi' B ys) (hh : hi ≤ w.heap.size) (hh' : hi' ≤ w.heap.size) :
    Calls Try.prog 44 #[.slice A xs.length c, .slice B ys.length d] w fun e w' => e = .returned (.bool (eqB xs ys)) ∧ Below w.heap.size w w' := by
  have hx := h.le
  unfold BIG at hx
  by_cases hn : xs.length = ys.length
  · have n1 : xs.length ≤ ys.length := by omega
    have n2 : ys.length ≤ xs.length := by omega
    clear hn
    have nb : ((xs.length : Int) != (ys.length : Int)) = false := by simp; omega
    go_enter Try.func44, Try.ntmps44
    go_wp2
    go_loopw [5] (fun i wr => EqRelB xs ys w i wr) (fun i _ => xs.length - (intOf i).toNat)
    case atStart => exact ⟨0, Nat.zero_le _, rfl, Below.refl _ _, by simp⟩
    case round =>
      obtain ⟨k, hk, rfl, hw, he⟩ := hrel
      have HE := Lib.hid he; clear he
      have h := h.same (Same.of_below hw hh); have h' := h'.same (Same.of_below hw hh')
      have hz := hw.size
      by_cases hlt : k < xs.length
      · obtain ⟨b1, o1, ⟨x0, x1, x2, x3⟩, rfl, l1, m1, hd1', _, hc0, hc1, hc2, hc3⟩ := AUnion.at_ h hlt
        obtain ⟨b2, o2, ⟨y0, y1, y2, y3⟩, rfl, l2, m2, hd2', _, hd0, hd1, hd2, hd3⟩ := AUnion.at_ h' (by omega : k < ys.length)
        have HD1 := Lib.hid hd1'; have HD2 := Lib.hid hd2'; clear hd1' hd2'
        have q1 : (0 : Int) ≤ (k : Int) := by omega
        have q2 : (k : Int) < (xs.length : Int) := by omega
        have q3 : (k : Int) < (ys.length : Int) := by omega
        go_wp2
        go_region_held3 (fun w' => w'.cell? ⟨b1, o1 + k * 4, none⟩ = some (.int .i64 x0) ∧ w'.cell? ⟨b1, o1 + k * 4 + 1, none⟩ = some (.int .i64 x1) ∧ w'.cell? ⟨b1, o1 + k * 4 + 2, none⟩ = some (.int .i64 x2) ∧ w'.cell? ⟨b1, o1 + k * 4 + 3, none⟩ = some (.int .i64 x3) ∧ w'.cell? ⟨b2, o2 + k * 4, none⟩ = some (.int .i64 y0) ∧ w'.cell? ⟨b2, o2 + k * 4 + 1, none⟩ = some (.int .i64 y1) ∧ w'.cell? ⟨b2, o2 + k * 4 + 2, none⟩ = some (.int .i64 y2) ∧ w'.cell? ⟨b2, o2 + k * 4 + 3, none⟩ = some (.int .i64 y3)) (first | exact ⟨hc0, hc1, hc2, hc3, hd0, hd1, hd2, hd3⟩ | exact ⟨(hb1.cell (by simp; omega)).trans hc0, (hb1.cell (by simp; omega)).trans hc1, (hb1.cell (by simp; omega)).trans hc2, (hb1.cell (by simp; omega)).trans hc3, (hb1.cell (by simp; omega)).trans hd0, (hb1.cell (by simp; omega)).trans hd1, (hb1.cell (by simp; omega)).trans hd2, (hb1.cell (by simp; omega)).trans hd3⟩)
          (first | (go_at_call 62; refine (eqUnion_any x0 x1 x2 x3 y0 y1 y2 y3 _).mono ?_; rintro e w1 ⟨rfl, hb1⟩))
        have hw1 := hw.trans (((Below.refl _ _).drew.trans hb1).mono hz)
        go_wp2
        · have hxy : (!eqB (⟨x0, x1, x2, x3⟩ : Union) ⟨y0, y1, y2, y3⟩) = true := by assumption
          go_ret
          exact ⟨ret_bool (eqB_no HE.out HD1.out HD2.out (not_true hxy)), hw1⟩
        · have hxy : (!eqB (⟨x0, x1, x2, x3⟩ : Union) ⟨y0, y1, y2, y3⟩) = false := by assumption
          exact ⟨⟨k + 1, by omega, by go_num, hw1, eqB_yes HE.out HD1.out HD2.out (not_false hxy)⟩, by simp [intOf]; omega⟩
      · go_wp2
        go_ret
        exact ⟨ret_bool (eqB_end HE.out (by omega) (by omega)), hw⟩
  · go_enter Try.func44, Try.ntmps44
    go_wp2
    go_ret
    exact ⟨ret_bool (eqB_len hn).symm, Below.refl _ _⟩

def markUnion (k : Int) (i : Nat) : Union := ⟨k + 4 * i, k + 4 * i + 1, k + 4 * i + 1 + 1, k + 4 * i + 1 + 1 + 1⟩
set_option maxHeartbeats 4000000 in
theorem markUnionS_own (A : Option Addr) (c lo hi : Nat) (xs : List Union) (k : Int) (w : World) (h : EUnion.OS w lo hi (.slice A xs.length c) xs) (hh : hi ≤ w.heap.size) (h0 : 0 ≤ k) (h1 : k + 4 * xs.length ≤ 4611686018427387904) :
    Calls Try.prog 46 #[.slice A xs.length c, .int .i64 k] w fun e w' => e = .returned (.int .i64 (k + 4 * xs.length)) ∧ EUnion.OS w' lo hi (.slice A xs.length c) (mkTo (markUnion k) xs.length) ∧
      Only (fun b => (Value.slice A xs.length c).ownBlock = some b) w w' ∧ w'.heap.size = w.heap.size := by
  have hx := h.read.as.le
  unfold BIG at hx
  go_enter Try.func46, Try.ntmps46
  go_wp2
  go_loopw [1, 5] (fun kk i wr => MarkToRel EUnion (markUnion k) 4 w lo hi (.slice A xs.length c) xs k kk i wr) (fun _ i _ => xs.length - (intOf i).toNat)
  case atStart => exact ⟨0, Nat.zero_le _, rfl, by simp, by simpa [mkTo] using h, Only.refl _ _, rfl⟩
  case round =>
    obtain ⟨j, hj, rfl, rfl, ho, hch, hsz⟩ := hrel
    have HS := Lib.hid hsz
    by_cases hlt : j < xs.length
    · obtain ⟨y0, y1, y2, y3, hxj⟩ : ∃ y0 y1 y2 y3, xs[j]? = some (⟨y0, y1, y2, y3⟩ : Union) := ⟨_, _, _, _, by rw [List.getElem?_eq_getElem hlt]⟩
      have hl0 := mkTo_mlen (m := markUnion k) hj
      have hxm := mkTo_at (m := markUnion k) hxj
      obtain ⟨g, c1, hv, g1, g2, g3, hc, hs0⟩ := flat_put EUnion_O ho (by omega) hxm
      rw [hl0] at hv
      injection hv with hv _ hcc
      subst hv; subst hcc
      have e0 := hc 0 _ rfl
      have e1 := hc 1 _ rfl
      have e2 := hc 2 _ rfl
      have e3 := hc 3 _ rfl
      clear hc
      obtain ⟨e0, f0⟩ := e0; obtain ⟨e1, f1⟩ := e1; obtain ⟨e2, f2⟩ := e2; obtain ⟨e3, f3⟩ := e3
      simp only [EUnion, Elem.flat, Nat.add_zero] at e0 f0 e1 f1 e2 f2 e3 f3
      have hhr : hi ≤ wr.heap.size := by omega
      have HL := Lib.hid hl0; have HX := Lib.hid hxm; clear hxm hxj hsz hl0
      go_wp2
      have p0 := ho
      have p1 := hs0 0 (.int .i64 (k + 4 * (j : Int))) _ ⟨k + 4 * (j : Int), y1, y2, y3⟩ rfl rfl rfl
      obtain ⟨g1', c1', hv1, _, _, _, _, hs1⟩ := flat_put EUnion_O p1 (by simpa [World.setCell] using hhr) (getElem_set_self' (by (try simp only [List.length_set]); rw [HL.out]; exact hlt))
      injection hv1 with hv1; injection hv1 with hv1; injection hv1 with hv1; subst hv1
      have p2 := hs1 1 (.int .i64 (k + 4 * (j : Int) + 1)) _ ⟨k + 4 * (j : Int), k + 4 * (j : Int) + 1, y2, y3⟩ rfl rfl rfl
      rw [List.set_set] at p2
      obtain ⟨g2', c2', hv2, _, _, _, _, hs2⟩ := flat_put EUnion_O p2 (by simpa [World.setCell] using hhr) (getElem_set_self' (by (try simp only [List.length_set]); rw [HL.out]; exact hlt))
      injection hv2 with hv2; injection hv2 with hv2; injection hv2 with hv2; subst hv2
      have p3 := hs2 2 (.int .i64 (k + 4 * (j : Int) + 1 + 1)) _ ⟨k + 4 * (j : Int), k + 4 * (j : Int) + 1, k + 4 * (j : Int) + 1 + 1, y3⟩ rfl rfl rfl
      rw [List.set_set] at p3
      obtain ⟨g3', c3', hv3, _, _, _, _, hs3⟩ := flat_put EUnion_O p3 (by simpa [World.setCell] using hhr) (getElem_set_self' (by (try simp only [List.length_set]); rw [HL.out]; exact hlt))
      injection hv3 with hv3; injection hv3 with hv3; injection hv3 with hv3; subst hv3
      have p4 := hs3 3 (.int .i64 (k + 4 * (j : Int) + 1 + 1 + 1)) _ ⟨k + 4 * (j : Int), k + 4 * (j : Int) + 1, k + 4 * (j : Int) + 1 + 1, k + 4 * (j : Int) + 1 + 1 + 1⟩ rfl rfl rfl
      rw [List.set_set] at p4
      clear p1 p2 p3 hs0 hs1 hs2 hs3
      rw [show (⟨k + 4 * (j : Int), k + 4 * (j : Int) + 1, k + 4 * (j : Int) + 1 + 1, k + 4 * (j : Int) + 1 + 1 + 1⟩ : Union) = markUnion k j from rfl, mkTo_mid hlt] at p4
      simp only [EUnion, Elem.flat, Nat.add_zero] at p4
      exact ⟨⟨j + 1, by omega, by go_num, by first | go_num | (simp; omega), by first | exact p4 | simpa using p4, ((((hch.setCell (a := ⟨g, j * 4, none⟩) rfl _).setCell (a := ⟨g, j * 4 + 1, none⟩) rfl _).setCell (a := ⟨g, j * 4 + 2, none⟩) rfl _).setCell (a := ⟨g, j * 4 + 3, none⟩) rfl _), by simp [World.setCell, HS.out]⟩, by simp [intOf]; omega⟩
    · obtain rfl : j = xs.length := by omega
      go_wp2
      go_ret
      exact ⟨rfl, by simpa using ho, hch, HS.out⟩
theorem markUnionS_any (A : Option Addr) (c lo hi : Nat) (xs : List Union) (k : Int) (w : World) (h : EUnion.OS w lo hi (.slice A xs.length c) xs) (hh : hi ≤ w.heap.size) (h0 : 0 ≤ k) (h1 : k + 4 * xs.length ≤ 4611686018427387904) :
    Calls Try.prog 46 #[.slice A xs.length c, .int .i64 k] w fun e w' => e = .returned (.int .i64 (k + 4 * xs.length)) ∧ EUnion.OS w' lo hi (.slice A xs.length c) (mkTo (markUnion k) xs.length) ∧ Chg lo hi w w' := by
  refine (markUnionS_own A c lo hi xs k w h hh h0 h1).mono ?_
  rintro e w' ⟨rfl, ho, hc, hs⟩
  exact ⟨rfl, ho, hc.chg fun b hb => h.blkv b hb⟩
end Go.Proofs.Ythpcippgifmabaa
