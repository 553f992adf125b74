/-
  The families that the laws make out of bytes are valid.
-/
import Derived.Test.YthpcippgifmabaaVilD
namespace Go.Proofs.Ythpcippgifmabaa
set_option maxRecDepth 100000
open Go.RowKit

theorem os_cap {α : Type} {E : Elem α} {w : World} {lo hi c : Nat} {A : Option Addr} {xs : List α} (h : E.OS w lo hi (.slice A xs.length c) xs) : xs.length ≤ c ∧ c ≤ maxLen := by
  obtain ⟨A', c', e1, e2, e3, _⟩ := h.read.open_
  injection e1 with _ _ e
  subst e
  exact ⟨e2, e3⟩
/-- A valid family is returned that the call has made: so many persons at most. -/
def RetVilF (n : Int) (w : World) (e : Ending) (w' : World) : Prop :=
  ∃ (xs : List Person) (ys : List Union) (A B : Option Addr) (c d : Nat), e = .returned (.agg #[.slice A xs.length c, .slice B ys.length d]) ∧ EPerson.OS w' w.heap.size w'.heap.size (.slice A xs.length c) xs ∧ EUnion.OS w' w.heap.size w'.heap.size (.slice B ys.length d) ys ∧
    (xs.length : Int) ≤ n ∧ famOk xs ys = true ∧ Below w.heap.size w w'
/-- A valid family that is not empty is returned, which the call has made. -/
def RetVilC (w : World) (e : Ending) (w' : World) : Prop := ∃ (xs : List Person) (ys : List Union) (A B : Option Addr) (c d : Nat), e = .returned (.agg #[.slice A xs.length c, .slice B ys.length d]) ∧ EPerson.OS w' w.heap.size w'.heap.size (.slice A xs.length c) xs ∧ EUnion.OS w' w.heap.size w'.heap.size (.slice B ys.length d) ys ∧
    1 ≤ xs.length ∧ famOk xs ys = true ∧ Below w.heap.size w w'
theorem vil_one {ys : List Union} (h : famOk [] ys = true) : famOk [(⟨⟨#[97, 97]⟩, 1, -1, -1, 0, -1⟩ : Person)] ys = true := by
  have h4 := (famOk_parts h).2.2.2
  cases ys with
  | nil => decide +kernel
  | cons u r =>
    exfalso
    rw [unionsOk, List.all_eq_true] at h4
    have := h4 0 (List.mem_range.2 (by simp))
    rw [unionOk_of (u := u) (by simp), unionOf_out (by first | (simp; done) | (simp; omega))] at this
    cases this
set_option maxHeartbeats 2000000 in
theorem makeFamily_is (A : Option Addr) (c lo hi n : Nat) (bs : List Int) (w : World) (h : EByte.AS w lo hi A bs) (hh : hi ≤ w.heap.size) (hbs : bs.length ≤ 1048576) (hn : 1 ≤ n ∧ n ≤ 40) :
    Calls Try.prog 25 #[.slice A bs.length c, .int .i64 n] w (RetVilF n w) := by
  go_enter Try.func25, Try.ntmps25
  go_upto_region 1 with fail
  generalize hW : w.alloc (.cells #[.slice none 0 0, .slice none 0 0] 26) = W
  have R : Blk W w.heap.size 26 #[.slice none 0 0, .slice none 0 0] := by subst hW; exact Blk.new _ rfl
  have hb : Below w.heap.size w W := by subst hW; (with_reducible repeat' first | exact Below.refl _ _ | assumption | (refine Below.setCell ?_ (by first | omega | (simp; omega) | (simp; done) | (dsimp only; omega)) _) | (refine Below.alloc ?_ (by first | omega | (simp; omega) | (simp; done) | (dsimp only; omega)) _) | (refine below_drewN ?_ _) | (refine Below.drew ?_))
  have z0 : w.heap.size + 1 ≤ W.heap.size := by subst hW; simp
  clear hW
  replace h := h.same (Same.of_below hb hh)
  have i1 : ¬ (40 : Int) < (n : Int) := by omega
  have i2 : (0 : Int) < (n : Int) := by omega
  have i3 : (n : Int) ≤ 40 := by omega
  have m1 : min (n : Int) 40 = n := by omega
  have m2 : max 0 (n : Int) = n := by omega
  go_wp2_with (first
    | (go_at_call 50; go_loud (refine (l01New_any A c lo hi bs _ h (by omega) hbs).mono ?_; rintro e w1 ⟨g, rfl, hg, hc, hb1⟩; (have z1 := hb1.size); (have lc := hc.lt); (replace R := R.below hb1 (by omega)); (replace hb := hb.trans (hb1.mono (by omega)))))
    | (go_at_call 49; go_loud (refine (l1Family_is g n _ hc hn.2).mono ?_; rintro e w2 ⟨xs, ys, A2, B2, c2, d2, rfl, o2, u2, hx, hok, _, hch⟩; (have z2 := hch.size); (replace R := R.chg hch (by omega)); (replace hb := hb.trans (hch.below (B := w.heap.size) (by omega) (by omega))); (have f0 := R.free 0); (have f1 := R.free 1); (have q0 := R.cell (i := 0) rfl); (have q1 := R.cell (i := 1) rfl); (have lR := R.lt))))
  have RR := (R.set 0 (.slice A2 xs.length c2)).set 1 (.slice B2 ys.length d2)
  exact bodyPost_ret (v := .agg #[.slice A2 xs.length c2, .slice B2 ys.length d2]) (by simp [results, Try.results25, go_sem, RR.cell (i := 0) rfl, RR.cell (i := 1) rfl]) rfl ⟨xs, ys, A2, B2, c2, d2, rfl, (o2.same (by (with_reducible repeat' first | exact Same.refl _ _ _ | assumption | (refine Same.setCell ?_ (by first | omega | (simp; omega) | (simp; done) | (dsimp only; omega)) _) | (refine Same.alloc ?_ (by first | omega | (simp; omega) | (simp; done) | (dsimp only; omega)) _) | (refine Same.drewN ?_ _) | (refine Same.drew ?_)))).mono (by first | omega | (simp; omega) | (simp; done) | (dsimp only; omega)) (by first | omega | (simp; omega) | (simp; done) | (dsimp only; omega)), (u2.same (by (with_reducible repeat' first | exact Same.refl _ _ _ | assumption | (refine Same.setCell ?_ (by first | omega | (simp; omega) | (simp; done) | (dsimp only; omega)) _) | (refine Same.alloc ?_ (by first | omega | (simp; omega) | (simp; done) | (dsimp only; omega)) _) | (refine Same.drewN ?_ _) | (refine Same.drew ?_)))).mono (by first | omega | (simp; omega) | (simp; done) | (dsimp only; omega)) (by first | omega | (simp; omega) | (simp; done) | (dsimp only; omega)), hx, hok, by (with_reducible repeat' first | exact Below.refl _ _ | assumption | (refine Below.setCell ?_ (by first | omega | (simp; omega) | (simp; done) | (dsimp only; omega)) _) | (refine Below.alloc ?_ (by first | omega | (simp; omega) | (simp; done) | (dsimp only; omega)) _) | (refine below_drewN ?_ _) | (refine Below.drew ?_) | (refine Below.trans ?_ (hb.mono (by first | omega | (simp; omega) | (simp; done) | (dsimp only; omega)))))⟩
set_option maxHeartbeats 2000000 in
theorem makeClose_is (A : Option Addr) (c lo hi : Nat) (bs : List Int) (w : World) (h : EByte.AS w lo hi A bs) (hh : hi ≤ w.heap.size) (hbs : bs.length ≤ 1048576) :
    Calls Try.prog 27 #[.slice A bs.length c] w (RetVilF 40 w) := by
  go_enter Try.func27, Try.ntmps27
  go_upto_region 1 with fail
  generalize hW : w.alloc (.cells #[.slice none 0 0, .slice none 0 0] 26) = W
  have R : Blk W w.heap.size 26 #[.slice none 0 0, .slice none 0 0] := by subst hW; exact Blk.new _ rfl
  have hb : Below w.heap.size w W := by subst hW; (with_reducible repeat' first | exact Below.refl _ _ | assumption | (refine Below.setCell ?_ (by first | omega | (simp; omega) | (simp; done) | (dsimp only; omega)) _) | (refine Below.alloc ?_ (by first | omega | (simp; omega) | (simp; done) | (dsimp only; omega)) _) | (refine below_drewN ?_ _) | (refine Below.drew ?_))
  have z0 : w.heap.size + 1 ≤ W.heap.size := by subst hW; simp
  clear hW
  replace h := h.same (Same.of_below hb hh)
  go_wp2_with (first
    | (go_at_call 50; go_loud (refine (l01New_any A c lo hi bs _ h (by omega) hbs).mono ?_; rintro e w1 ⟨g, rfl, hg, hc, hb1⟩; (have z1 := hb1.size); (have lc := hc.lt); (replace R := R.below hb1 (by omega)); (replace hb := hb.trans (hb1.mono (by omega)))))
    | (go_at_call 51; go_loud (refine (l8Close_is g _ hc).mono ?_; rintro e w2 ⟨xs, ys, A2, B2, c2, d2, rfl, o2, u2, hx, hok, _, hch⟩; (have z2 := hch.size); (replace R := R.chg hch (by omega)); (replace hb := hb.trans (hch.below (B := w.heap.size) (by omega) (by omega))); (have f0 := R.free 0); (have f1 := R.free 1); (have q0 := R.cell (i := 0) rfl); (have q1 := R.cell (i := 1) rfl); (have lR := R.lt))))
  have RR := (R.set 0 (.slice A2 xs.length c2)).set 1 (.slice B2 ys.length d2)
  exact bodyPost_ret (v := .agg #[.slice A2 xs.length c2, .slice B2 ys.length d2]) (by simp [results, Try.results27, go_sem, RR.cell (i := 0) rfl, RR.cell (i := 1) rfl]) rfl ⟨xs, ys, A2, B2, c2, d2, rfl, (o2.same (by (with_reducible repeat' first | exact Same.refl _ _ _ | assumption | (refine Same.setCell ?_ (by first | omega | (simp; omega) | (simp; done) | (dsimp only; omega)) _) | (refine Same.alloc ?_ (by first | omega | (simp; omega) | (simp; done) | (dsimp only; omega)) _) | (refine Same.drewN ?_ _) | (refine Same.drew ?_)))).mono (by first | omega | (simp; omega) | (simp; done) | (dsimp only; omega)) (by first | omega | (simp; omega) | (simp; done) | (dsimp only; omega)), (u2.same (by (with_reducible repeat' first | exact Same.refl _ _ _ | assumption | (refine Same.setCell ?_ (by first | omega | (simp; omega) | (simp; done) | (dsimp only; omega)) _) | (refine Same.alloc ?_ (by first | omega | (simp; omega) | (simp; done) | (dsimp only; omega)) _) | (refine Same.drewN ?_ _) | (refine Same.drew ?_)))).mono (by first | omega | (simp; omega) | (simp; done) | (dsimp only; omega)) (by first | omega | (simp; omega) | (simp; done) | (dsimp only; omega)), hx, hok, by (with_reducible repeat' first | exact Below.refl _ _ | assumption | (refine Below.setCell ?_ (by first | omega | (simp; omega) | (simp; done) | (dsimp only; omega)) _) | (refine Below.alloc ?_ (by first | omega | (simp; omega) | (simp; done) | (dsimp only; omega)) _) | (refine below_drewN ?_ _) | (refine Below.drew ?_) | (refine Below.trans ?_ (hb.mono (by first | omega | (simp; omega) | (simp; done) | (dsimp only; omega)))))⟩

def RetAny (w : World) (e : Ending) (w' : World) : Prop := ∃ x : Int, e = .returned (.int .i64 x) ∧ w = w'
theorem at_free (A : Option Addr) (c lo hi : Nat) (bs : List Int) (i : Int) (w : World) (h : EByte.AS w lo hi A bs) (hbs : bs.length ≤ 1048576) (h0 : 0 ≤ i) (h1 : i ≤ 1000) :
    Calls Try.prog 26 #[.slice A bs.length c, .int .i64 i] w (RetAny w) := by
  by_cases hlt : i.toNat < bs.length
  · obtain ⟨b, off, x, rfl, _, _, _, hx, hc⟩ := AByte.at_ h hlt
    clear hx
    have i1 : i < (bs.length : Int) := by omega
    go_enter Try.func26, Try.ntmps26
    go_wp2
    go_ret
    exact ⟨_, rfl, rfl⟩
  · have i1 : ¬ i < (bs.length : Int) := by omega
    go_enter Try.func26, Try.ntmps26
    go_wp2
    go_ret
    exact ⟨_, rfl, rfl⟩
set_option maxHeartbeats 4000000 in
theorem crowd_is (A : Option Addr) (c lo hi n : Nat) (bs : List Int) (w : World) (h : EByte.AS w lo hi A bs) (hh : hi ≤ w.heap.size) (hbs : bs.length ≤ 1048576) (hn : 1 ≤ n ∧ n ≤ 40) :
    Calls Try.prog 7 #[.slice A bs.length c, .int .i64 n] w (RetVilC w) := by
  go_enter Try.func7, Try.ntmps7
  go_upto_region 1 with fail
  generalize hW : w.alloc (.cells #[.slice none 0 0, .slice none 0 0] 26) = W
  have R : Blk W w.heap.size 26 #[.slice none 0 0, .slice none 0 0] := by subst hW; exact Blk.new _ rfl
  have hb : Below w.heap.size w W := by subst hW; (with_reducible repeat' first | exact Below.refl _ _ | assumption | (refine Below.setCell ?_ (by first | omega | (simp; omega) | (simp; done) | (dsimp only; omega)) _) | (refine Below.alloc ?_ (by first | omega | (simp; omega) | (simp; done) | (dsimp only; omega)) _) | (refine below_drewN ?_ _) | (refine Below.drew ?_))
  have z0 : w.heap.size + 1 ≤ W.heap.size := by subst hW; simp
  clear hW
  replace h := h.same (Same.of_below hb hh)
  have H := makeFamily_is A c lo hi n bs W h (by omega) hbs hn
  go_upto_region 2 with (go_at_call 25; (with_reducible refine H.mono ?_); rintro e w1 ⟨xs, ys, A1, B1, c1, d1, rfl, o1, u1, hx, hnm, hb1⟩)
  generalize hW : w1.alloc (.cells #[.slice A1 xs.length c1, .slice B1 ys.length d1] 26) = W1
  obtain ⟨fb, hfb⟩ : ∃ m, m = w1.heap.size := ⟨_, rfl⟩
  rw [← hfb]
  have z1 := hb1.size
  have FB : Blk W1 fb 26 #[.slice A1 xs.length c1, .slice B1 ys.length d1] := by subst hW; rw [hfb]; exact Blk.new _ rfl
  have hb2 : Below W.heap.size W W1 := by subst hW; (with_reducible repeat' first | exact Below.refl _ _ | assumption | (refine Below.setCell ?_ (by first | omega | (simp; omega) | (simp; done) | (dsimp only; omega)) _) | (refine Below.alloc ?_ (by first | omega | (simp; omega) | (simp; done) | (dsimp only; omega)) _) | (refine below_drewN ?_ _) | (refine Below.drew ?_) | (refine Below.trans ?_ (hb1.mono (by first | omega | (simp; omega) | (simp; done) | (dsimp only; omega)))))
  have o2 : EPerson.OS W1 W.heap.size W1.heap.size (.slice A1 xs.length c1) xs := by subst hW; exact (o1.same (by (with_reducible repeat' first | exact Same.refl _ _ _ | assumption | (refine Same.setCell ?_ (by first | omega | (simp; omega) | (simp; done) | (dsimp only; omega)) _) | (refine Same.alloc ?_ (by first | omega | (simp; omega) | (simp; done) | (dsimp only; omega)) _) | (refine Same.drewN ?_ _) | (refine Same.drew ?_)))).mono (Nat.le_refl _) (by simp)
  have u2 : EUnion.OS W1 W.heap.size W1.heap.size (.slice B1 ys.length d1) ys := by subst hW; exact (u1.same (by (with_reducible repeat' first | exact Same.refl _ _ _ | assumption | (refine Same.setCell ?_ (by first | omega | (simp; omega) | (simp; done) | (dsimp only; omega)) _) | (refine Same.alloc ?_ (by first | omega | (simp; omega) | (simp; done) | (dsimp only; omega)) _) | (refine Same.drewN ?_ _) | (refine Same.drew ?_)))).mono (Nat.le_refl _) (by simp)
  have zfb : W.heap.size ≤ fb := by rw [hfb]; exact z1
  clear hW hfb o1 u1 hb1 H
  have h1 := h.same (Same.of_below hb2 (by omega))
  have z2 := hb2.size
  have lfb := FB.lt
  go_upto_if 12 with (go_at_call 26; refine (at_free A c lo hi bs 9 _ h1 hbs (by omega) (by omega)).mono ?_; rintro e w2 ⟨x, rfl, rfl⟩)
  go_cut [] (fun wc => ∃ (xs : List Person) (ys : List Union) (A1 B1 : Option Addr) (c1 d1 : Nat), Blk wc fb 26 #[.slice A1 xs.length c1, .slice B1 ys.length d1] ∧ EPerson.OS wc W.heap.size wc.heap.size (.slice A1 xs.length c1) xs ∧ EUnion.OS wc W.heap.size wc.heap.size (.slice B1 ys.length d1) ys ∧ xs.length ≤ 40 ∧ famOk xs ys = true ∧ Below W.heap.size W wc)
  case first =>
    by_cases hx4 : x.tmod 4 = 0
    · have h4 : (x.tmod 4 == 0) = true := by simpa using hx4
      have H := makeClose_is A c lo hi bs W1 h1 (by omega) hbs
      have HN := Lib.hid hnm; clear hnm
      go_wp2_with (go_at_call 27; (with_reducible refine H.mono ?_); rintro e w3 ⟨xs3, ys3, A3, B3, c3, d3, rfl, o3, u3, hx3, hnm3, hb3⟩; (replace hnm3 := Lib.hid hnm3); (have F3 := FB.below hb3 lfb); (have q0 := F3.cell (i := 0) rfl); (have q1 := F3.cell (i := 1) rfl); (have f0 := F3.free 0); (have f1 := F3.free 1); (have lF3 := F3.lt))
      go_meet
      have z3 := hb3.size
      have k1 := flatPerson.far (i := 0) (u := .slice A3 xs3.length c3) o3 F3 (by decide)
      have k2 := flatPerson.far (i := 1) (u := .slice B3 ys3.length d3) k1 (F3.set 0 (.slice A3 xs3.length c3)) (by decide)
      have l1 := flatUnion.far (i := 0) (u := .slice A3 xs3.length c3) u3 F3 (by decide)
      have l2 := flatUnion.far (i := 1) (u := .slice B3 ys3.length d3) l1 (F3.set 0 (.slice A3 xs3.length c3)) (by decide)
      have hbx : Below W.heap.size W w3 := hb2.trans (hb3.mono z2)
      exact ⟨xs3, ys3, A3, B3, c3, d3, (F3.set 0 _).set 1 _, k2.mono z2 (by simp [World.setCell]), l2.mono z2 (by simp [World.setCell]), by omega, hnm3.out, by (with_reducible repeat' first | exact Below.refl _ _ | assumption | (refine Below.setCell ?_ (by first | omega | (simp; omega) | (simp; done) | (dsimp only; omega)) _) | (refine Below.alloc ?_ (by first | omega | (simp; omega) | (simp; done) | (dsimp only; omega)) _) | (refine below_drewN ?_ _) | (refine Below.drew ?_) | (refine Below.trans ?_ (hbx.mono (by first | omega | (simp; omega) | (simp; done) | (dsimp only; omega)))))⟩
    · have h4 : (x.tmod 4 == 0) = false := by simpa using hx4
      have HN := Lib.hid hnm; clear hnm
      go_wp2
      go_meet
      exact ⟨xs, ys, A1, B1, c1, d1, FB, o2, u2, by omega, HN.out, hb2⟩
  case rest =>
    obtain ⟨xs3, ys3, A3, B3, c3, d3, F3, o3, u3, hx3, hnm3, hb3⟩ := hcut
    clear FB o2 u2 hnm hx hb2 h1 z2
    have z3 := hb3.size
    have HN := Lib.hid hnm3; clear hnm3
    have R3 := R.below hb3 (by omega)
    have q0 := F3.cell (i := 0) rfl; have q1 := F3.cell (i := 1) rfl; have f0 := F3.free 0
    have lF3 := F3.lt
    have r0 := R3.cell (i := 0) rfl; have r1 := R3.cell (i := 1) rfl; have s0 := R3.free 0; have s1 := R3.free 1
    have lR3 := R3.lt
    have hbx : Below w.heap.size w wc := hb.trans (hb3.mono (by omega))
    by_cases h0 : xs3.length = 0
    · have hn0 : ((xs3.length : Int) == 0) = true := by simp [h0]
      have H0 := Lib.hid h0
      go_upto_region 6 with fail
      generalize hV : World.alloc (wc.setCell ⟨fb, 0, none⟩ (.slice (some ⟨wc.heap.size, 0, none⟩) 1 1)) (.cells #[.string ⟨#[97, 97]⟩, .int .i64 1, .int .i64 (-1), .int .i64 (-1), .int .i64 0, .int .i64 (-1)] 48) = W5
      have hone := one_person (wc.setCell ⟨fb, 0, none⟩ (.slice (some ⟨wc.heap.size, 0, none⟩) 1 1)) ⟨⟨#[97, 97]⟩, 1, -1, -1, 0, -1⟩
      have F5 : Blk W5 fb 26 #[(.slice (some ⟨wc.heap.size, 0, none⟩) 1 1), .slice B3 ys3.length d3] := by
        have := (F3.set 0 (.slice (some ⟨wc.heap.size, 0, none⟩) 1 1)).alloc (.cells #[.string ⟨#[97, 97]⟩, .int .i64 1, .int .i64 (-1), .int .i64 (-1), .int .i64 0, .int .i64 (-1)] 48)
        subst hV; simpa using this
      have R5 : Blk W5 w.heap.size 26 #[.slice none 0 0, .slice none 0 0] := by subst hV; exact (R3.far (by simp; omega) _).alloc _
      have o5 : EPerson.OS W5 wc.heap.size W5.heap.size (.slice (some ⟨wc.heap.size, 0, none⟩) ([(⟨⟨#[97, 97]⟩, 1, -1, -1, 0, -1⟩ : Person)] : List Person).length 1) [⟨⟨#[97, 97]⟩, 1, -1, -1, 0, -1⟩] := by
        subst hV
        simpa [World.setCell, vsPerson] using hone
      have u5 : EUnion.OS W5 W.heap.size W5.heap.size (.slice B3 ys3.length d3) ys3 := by
        subst hV
        have := (flatUnion.far (i := 0) (u := (.slice (some ⟨wc.heap.size, 0, none⟩) 1 1)) u3 F3 (by decide)).same (Same.alloc (Same.refl W.heap.size wc.heap.size (wc.setCell ⟨fb, 0, none⟩ (.slice (some ⟨wc.heap.size, 0, none⟩) 1 1))) (by simp [World.setCell]) (.cells #[.string ⟨#[97, 97]⟩, .int .i64 1, .int .i64 (-1), .int .i64 (-1), .int .i64 0, .int .i64 (-1)] 48))
        exact this.mono (Nat.le_refl _) (by simp [World.setCell])
      have hb5 : Below w.heap.size w W5 := by subst hV; (with_reducible repeat' first | exact Below.refl _ _ | assumption | (refine Below.setCell ?_ (by first | omega | (simp; omega) | (simp; done) | (dsimp only; omega)) _) | (refine Below.alloc ?_ (by first | omega | (simp; omega) | (simp; done) | (dsimp only; omega)) _) | (refine below_drewN ?_ _) | (refine Below.drew ?_) | (refine Below.trans ?_ (hbx.mono (by first | omega | (simp; omega) | (simp; done) | (dsimp only; omega)))))
      have z5 : wc.heap.size ≤ W5.heap.size := by subst hV; simp [World.setCell]
      clear hV q0 q1 f0 r0 r1 s0 s1 F3 R3 o3 u3 hone
      have q0 := F5.cell (i := 0) rfl; have q1 := F5.cell (i := 1) rfl
      have r0 := R5.cell (i := 0) rfl; have r1 := R5.cell (i := 1) rfl; have s0 := R5.free 0; have s1 := R5.free 1
      have lR5 := R5.lt; have lF5 := F5.lt
      go_wp2
      have RR := (R5.set 0 (.slice (some ⟨wc.heap.size, 0, none⟩) 1 1)).set 1 (.slice B3 ys3.length d3)
      exact bodyPost_ret (v := .agg #[.slice (some ⟨wc.heap.size, 0, none⟩) 1 1, .slice B3 ys3.length d3]) (by simp [results, Try.results7, go_sem, RR.cell (i := 0) rfl, RR.cell (i := 1) rfl]) rfl ⟨([⟨⟨#[97, 97]⟩, 1, -1, -1, 0, -1⟩] : List Person), ys3, some ⟨wc.heap.size, 0, none⟩, B3, 1, d3, rfl, (o5.same (by (with_reducible repeat' first | exact Same.refl _ _ _ | assumption | (refine Same.setCell ?_ (by first | omega | (simp; omega) | (simp; done) | (dsimp only; omega)) _) | (refine Same.alloc ?_ (by first | omega | (simp; omega) | (simp; done) | (dsimp only; omega)) _) | (refine Same.drewN ?_ _) | (refine Same.drew ?_)))).mono (by omega) (by simp [World.setCell]), (u5.same (by (with_reducible repeat' first | exact Same.refl _ _ _ | assumption | (refine Same.setCell ?_ (by first | omega | (simp; omega) | (simp; done) | (dsimp only; omega)) _) | (refine Same.alloc ?_ (by first | omega | (simp; omega) | (simp; done) | (dsimp only; omega)) _) | (refine Same.drewN ?_ _) | (refine Same.drew ?_)))).mono (by omega) (by simp [World.setCell]), by simp, vil_one (by rw [← List.eq_nil_of_length_eq_zero H0.out]; exact HN.out), by (with_reducible repeat' first | exact Below.refl _ _ | assumption | (refine Below.setCell ?_ (by first | omega | (simp; omega) | (simp; done) | (dsimp only; omega)) _) | (refine Below.alloc ?_ (by first | omega | (simp; omega) | (simp; done) | (dsimp only; omega)) _) | (refine below_drewN ?_ _) | (refine Below.drew ?_) | (refine Below.trans ?_ (hb5.mono (by first | omega | (simp; omega) | (simp; done) | (dsimp only; omega)))))⟩
    · have hn0 : ((xs3.length : Int) == 0) = false := by rw [beq_eq_false_iff_ne]; omega
      have H0 := Lib.hid h0
      go_wp2
      have RR := (R3.set 0 (.slice A3 xs3.length c3)).set 1 (.slice B3 ys3.length d3)
      have H1 := H0.out
      exact bodyPost_ret (v := .agg #[.slice A3 xs3.length c3, .slice B3 ys3.length d3]) (by simp [results, Try.results7, go_sem, RR.cell (i := 0) rfl, RR.cell (i := 1) rfl]) rfl ⟨xs3, ys3, A3, B3, c3, d3, rfl, (o3.same (by (with_reducible repeat' first | exact Same.refl _ _ _ | assumption | (refine Same.setCell ?_ (by first | omega | (simp; omega) | (simp; done) | (dsimp only; omega)) _) | (refine Same.alloc ?_ (by first | omega | (simp; omega) | (simp; done) | (dsimp only; omega)) _) | (refine Same.drewN ?_ _) | (refine Same.drew ?_)))).mono (by omega) (by simp [World.setCell]), (u3.same (by (with_reducible repeat' first | exact Same.refl _ _ _ | assumption | (refine Same.setCell ?_ (by first | omega | (simp; omega) | (simp; done) | (dsimp only; omega)) _) | (refine Same.alloc ?_ (by first | omega | (simp; omega) | (simp; done) | (dsimp only; omega)) _) | (refine Same.drewN ?_ _) | (refine Same.drew ?_)))).mono (by omega) (by simp [World.setCell]), by omega, HN.out, by (with_reducible repeat' first | exact Below.refl _ _ | assumption | (refine Below.setCell ?_ (by first | omega | (simp; omega) | (simp; done) | (dsimp only; omega)) _) | (refine Below.alloc ?_ (by first | omega | (simp; omega) | (simp; done) | (dsimp only; omega)) _) | (refine below_drewN ?_ _) | (refine Below.drew ?_) | (refine Below.trans ?_ (hbx.mono (by first | omega | (simp; omega) | (simp; done) | (dsimp only; omega)))))⟩
end Go.Proofs.Ythpcippgifmabaa
