/-
  A family drawn from bytes: it is valid.
-/
import Derived.Test.YthpcippgifmabaaCrowdD
import Derived.Test.YthpcippgifmabaaVilC
namespace Go.Proofs.Ythpcippgifmabaa
set_option maxRecDepth 100000
open Go.RowKit

theorem pick_lt {xs : List Person} {ds : List Int} {sex f : Int} (h : Pick xs ds sex f) : f < xs.length := by
  rcases h with rfl | ⟨i, y, rfl, hy, _⟩
  · omega
  · have := (List.getElem?_eq_some_iff.1 hy).1
    omega
theorem parents_has (x : Person) : (0 ≤ x.father → x.father ∈ parentsL x) ∧ (0 ≤ x.mother → x.mother ∈ parentsL x) := by
  unfold parentsL
  refine ⟨fun h => List.mem_append_left _ ?_, fun h => List.mem_append_right _ ?_⟩
  · rw [if_pos h]; exact List.mem_singleton.2 rfl
  · rw [if_pos h]; exact List.mem_singleton.2 rfl
/-- The year of birth is behind the parents' that were looked at. -/
def BornQ (xs : List Person) (ps : List Int) (j : Nat) (b : Int) : Prop := (0 ≤ b ∧ b ≤ 11 + 30 * (xs.length : Int)) ∧ ∀ (i q : Nat) (y : Person), i < j → ps[i]? = some (q : Int) → xs[q]? = some y → y.born < b
theorem BornQ.zero {xs : List Person} {ps : List Int} {b : Int} (h0 : 0 ≤ b) (h1 : b < 12) : BornQ xs ps 0 b := ⟨⟨h0, by omega⟩, fun i q y hi => by omega⟩
theorem BornQ.bounds {xs : List Person} {ps : List Int} {j : Nat} {b : Int} (h : BornQ xs ps j b) : 0 ≤ b ∧ b ≤ 11 + 30 * (xs.length : Int) := h.1
theorem BornQ.bound {xs : List Person} {ps : List Int} {j : Nat} {b : Int} (h : BornQ xs ps j b) (hl : xs.length ≤ 40) : 0 ≤ b ∧ b ≤ 1300 := by have := h.1; omega
theorem Grown.born {xs : List Person} {q : Nat} {y : Person} (h : Grown 11 xs) (hy : xs[q]? = some y) : 0 ≤ y.born ∧ y.born ≤ 11 + 30 * (q : Int) ∧ y.born ≤ 1300 := by
  obtain ⟨g1, g2, _⟩ := famOk_iff.1 h.ok
  have h1 := (h.at_ q y hy).2.1
  have h2 := (g2 q y hy).alive
  have hl := (List.getElem?_eq_some_iff.1 hy).1
  unfold aliveOk at h2
  rw [decide_eq_true_eq] at h2
  omega
theorem BornQ.next {xs : List Person} {ps : List Int} {j q : Nat} {b b' step yy : Int} {y : Person} (h : BornQ xs ps j b) (hg : Grown 11 xs) (hq : ps[j]? = some (q : Int)) (hy : xs[q]? = some y) (hs : 1 ≤ step ∧ step ≤ 25) (h0 : 0 ≤ yy) (h1 : yy < 6) (e : b' = max b (y.born + step + yy)) : BornQ xs ps (j + 1) b' := by
  have hb := hg.born hy
  have hl := (List.getElem?_eq_some_iff.1 hy).1
  have h2 := h.1
  refine ⟨by omega, fun i q' y' hi hq' hy' => ?_⟩
  by_cases hij : i = j
  · subst hij
    have e2 := Option.some.inj (hq.symm.trans hq')
    have e3 : q = q' := by omega
    subst e3
    obtain rfl := Option.some.inj (hy.symm.trans hy')
    omega
  · have := h.2 i q' y' (by omega) hq' hy'
    omega
theorem par_of {xs : List Person} {ds ps : List Int} {sex f b : Int} (h : Pick xs ds sex f) (hd : depL xs xs.length = ds) (hb : BornQ xs ps ps.length b) (hm : 0 ≤ f → f ∈ ps) : Par xs f sex b := by
  rcases h with rfl | ⟨i, y, rfl, hy, hs, hdd⟩
  · exact .inl rfl
  · obtain ⟨k, hk⟩ := List.getElem?_of_mem (hm (by omega))
    exact .inr ⟨i, y, rfl, hy, hs, hb.2 k i y (List.getElem?_eq_some_iff.1 hk).1 hk hy, by rw [hd]; exact hdd⟩
def GrowRelV (g : Nat) (n : Nat) (w : World) (i : Value) (wr : World) : Prop := ∃ (k : Nat) (xs : List Person) (A : Option Addr) (cc : Nat), i = .int .i64 k ∧ xs.length + k ≤ n ∧ Before xs ∧ Grown 11 xs ∧ FamW g w xs A cc wr
/-- Some have died. -/
def DieOk (zs : List Person) : Prop := famOk zs [] = true ∧ ∀ x ∈ zs, 0 ≤ x.born ∧ x.born ≤ 1300
theorem DieOk.of_grown {xs : List Person} (h : Grown 11 xs) (_hl : xs.length ≤ 40) : DieOk xs := ⟨h.ok, fun x hx => by
  obtain ⟨k, hk⟩ := List.getElem?_of_mem hx
  have := h.born hk
  omega⟩
def DieRelV (g : Nat) (n : Nat) (A : Option Addr) (cc : Nat) (w : World) (i : Value) (wr : World) : Prop := ∃ (j : Nat) (xs : List Person), i = .int .i64 j ∧ j ≤ n ∧ xs.length = n ∧ Before xs ∧ DieOk xs ∧ FamW g w xs A cc wr
/-- The year is not ahead of the births of the children that were looked at. -/
def KidQ (zs : List Person) (ks : List Int) (x4 : Int) (m : Nat) (a : Int) : Prop := x4 ≤ a ∧ a ≤ 1300 ∧ ∀ (i q : Nat) (y : Person), i < m → ks[i]? = some (q : Int) → zs[q]? = some y → y.born ≤ a
theorem KidQ.zero {zs : List Person} {ks : List Int} {x4 : Int} (h : x4 ≤ 1300) : KidQ zs ks x4 0 x4 := ⟨by omega, h, fun i q y hi => by omega⟩
theorem KidQ.next {zs : List Person} {ks : List Int} {x4 a a' : Int} {m q : Nat} {y : Person} (h : KidQ zs ks x4 m a) (hq : ks[m]? = some (q : Int)) (hy : zs[q]? = some y) (hb : y.born ≤ 1300) (e : a' = max a y.born) : KidQ zs ks x4 (m + 1) a' := by
  obtain ⟨h1, h2, h3⟩ := h
  refine ⟨by omega, by omega, fun i q' y' hi hq' hy' => ?_⟩
  by_cases hij : i = m
  · subst hij
    have e2 := Option.some.inj (hq.symm.trans hq')
    have e3 : q = q' := by omega
    subst e3
    obtain rfl := Option.some.inj (hy.symm.trans hy')
    omega
  · have := h3 i q' y' (by omega) hq' hy'
    omega
theorem DieOk.step {zs : List Person} {ks : List Int} {j : Nat} {x : Person} {a v : Int} (h : DieOk zs) (hx : zs[j]? = some x) (hk : KidQ zs ks x.born ks.length a) (hm : ∀ q : Nat, q < zs.length → kidP zs j q = true → (q : Int) ∈ ks) (h1 : a ≤ v) (h2 : v ≤ 9999) : DieOk (zs.set j (dead x v)) := by
  refine ⟨famOk_dead h.1 hx (by have := hk.1; omega) h2 fun k y hy hp => ?_, fun z hz => ?_⟩
  · have hl := (List.getElem?_eq_some_iff.1 hy).1
    obtain ⟨i, hi⟩ := List.getElem?_of_mem (hm k hl (by rw [kidP_of hy, decide_eq_true_eq]; exact hp))
    have := hk.2.2 i k y (List.getElem?_eq_some_iff.1 hi).1 hi hy
    omega
  · rcases List.mem_or_eq_of_mem_set hz with hz | rfl
    · exact h.2 z hz
    · exact h.2 x (List.mem_of_getElem? hx)
/-- A person in the making, in block pb. -/
def PInV (g pb : Nat) (s : ByteArray) (sx : Int) (xs : List Person) (ds : List Int) (wr wc : World) : Prop := ∃ f m : Int, Pick xs ds 1 f ∧ Pick xs ds 2 m ∧ Blk wc pb 48 #[.string s, .int .i64 sx, .int .i64 f, .int .i64 m, .int .i64 0, .int .i64 (-1)] ∧ Cur wc g ∧ Chg g (g + 1) wr wc

set_option maxHeartbeats 16000000 in
theorem l1Family_is (g n : Nat) (w : World) (h : Cur w g) (hn : n ≤ 40) : Calls Try.prog 49 #[.pointer (some ⟨g, 0, none⟩), .int .i64 n] w (RetVil g n w) := by
  have hg := h.lt
  go_enter Try.func49, Try.ntmps49
  go_upto_region 2 with fail
  generalize hW : (w.alloc (.cells #[.slice none 0 0, .slice none 0 0] 26)).alloc (.cells #[.slice none 0 0, .slice none 0 0] 26) = W
  have F0 : FamW g w [] none 0 W := by
    have hb : Below w.heap.size w W := by subst hW; (with_reducible repeat' first | exact Below.refl _ _ | assumption | (refine Below.setCell ?_ (by first | omega | (simp; omega) | (simp; done) | (dsimp only; omega)) _) | (refine Below.alloc ?_ (by first | omega | (simp; omega) | (simp; done) | (dsimp only; omega)) _) | (refine below_drewN ?_ _) | (refine Below.drew ?_))
    subst hW
    exact { res := (Blk.new _ rfl).alloc _, fam := Blk.new _ (by simp), own := Elem.OS.nil, name := fun x hx => absurd hx (by simp), cur := h.below hb hg, chg := (Chg.refl _ _ _).then_below hb (Nat.le_refl _), glt := hg, size := by simp }
  clear hW h
  have h1 := l01Int_any g (some ⟨W.heap.size, 0, none⟩) 4 W.heap.size (W.heap.size + 1) [1, 7, 20, 25] (W.alloc (.cells #[.int .i64 1, .int .i64 7, .int .i64 20, .int .i64 25] 3)) (F0.cur.below ((Below.refl _ _).alloc (Nat.le_refl _) _) F0.cur.lt) (ints_lit W [1, 7, 20, 25] (by decide)).read.as (by simp) (.inr F0.cur.lt) (by decide) (by decide)
  rw [show ([1, 7, 20, 25] : List Int).length = 4 from rfl] at h1
  go_upto_region 3 with (go_at_call 65; (with_reducible refine h1.mono ?_); rintro e w1 ⟨step, hst, rfl, hc1, hch1, hs1⟩)
  have F1 := F0.next (((Chg.refl _ _ _).alloc _).trans hch1) hc1
  have hstep : 1 ≤ step ∧ step ≤ 25 := by simp at hst; omega
  have HST := Lib.hid hstep
  clear hch1 hc1 hs1 h1 F0 hst hstep
  have h1 := l01Int_any g (some ⟨w1.heap.size, 0, none⟩) 3 w1.heap.size (w1.heap.size + 1) [3, 5, 9] (w1.alloc (.cells #[.int .i64 3, .int .i64 5, .int .i64 9] 3)) (F1.cur.below ((Below.refl _ _).alloc (Nat.le_refl _) _) F1.cur.lt) (ints_lit w1 [3, 5, 9] (by decide)).read.as (by simp) (.inr F1.cur.lt) (by decide) (by decide)
  rw [show ([3, 5, 9] : List Int).length = 3 from rfl] at h1
  go_upto_region 4 with (go_at_call 65; (with_reducible refine h1.mono ?_); rintro e w2 ⟨loose, hlo, rfl, hc1, hch1, hs1⟩)
  have F2 := F1.next (((Chg.refl _ _ _).alloc _).trans hch1) hc1
  have hloose : 1 ≤ loose ∧ loose ≤ 256 := by simp at hlo; omega
  clear hch1 hc1 hs1 h1 F1 hlo
  have h1 := l01Below_any g ((n : Int) + 1) w2 F2.cur (by omega) (by omega)
  go_upto_region 5 with (go_at_call 66; (with_reducible refine h1.mono ?_); rintro e w3 ⟨k0, hk0, hk1, rfl, hc1, hch1, hs1⟩)
  obtain ⟨k0, rfl⟩ := Int.eq_ofNat_of_zero_le hk0
  have F3 := F2.next hch1 hc1
  clear hch1 hc1 hs1 h1 F2
  go_loopw [8] (fun i wr => GrowRelV g n w i wr) (fun i _ => (intOf i).toNat)
  case atStart => exact ⟨k0, [], none, 0, rfl, by simp; omega, Before_nil, Grown.nil _, F3⟩
  case round =>
    obtain ⟨k, xs, A, cc, rfl, hk, hB, hGr, F⟩ := hrel
    have HGr := Lib.hid hGr
    clear hGr
    clear F3
    have zF := F.size
    have hgl := F.glt
    have e0 := F.fam.cell (i := 0) rfl; have e1 := F.fam.cell (i := 1) rfl
    by_cases hk0 : 0 < k
    · have i1 : (0 : Int) < (k : Int) := by omega
      have hdl := depL_len xs xs.length
      have h1 := l1Depths_any A none cc 0 (w.heap.size + 2) wr.heap.size xs [] wr F.own.read.as (Nat.le_refl _) (by omega) hB
      rw [show ([] : List Union).length = 0 from rfl] at h1
      go_upto_region 8 with (go_at_call 67; (with_reducible refine h1.mono ?_); rintro e w4 ⟨D, cd, rfl, od, hb4⟩)
      rw [hdl] at od
      have z4 := hb4.size
      have F4 := F.next (Chg.of_below hb4) (F.cur.below hb4 F.cur.lt)
      have hDS := od.read.as
      have HD := Lib.hid hdl
      generalize hdsx : depL xs xs.length = ds at *
      have HDX := Lib.hid hdsx
      clear hdsx
      clear h1 od hb4 e0 e1 F hdl
      have e0 := F4.fam.cell (i := 0) rfl; have e1 := F4.fam.cell (i := 1) rfl
      have h1 := l1Called_is xs.length w4 (by omega)
      obtain ⟨s, hs⟩ : ∃ s, called xs.length = s := ⟨_, rfl⟩
      have hs2 : s.size = 2 := by rw [← hs]; rfl
      have HSn := Lib.hid hs
      rw [hs] at h1
      clear hs
      go_upto_region 9 with (first
        | (go_at_call 68; (with_reducible refine h1.mono ?_); rintro e w5 ⟨rfl, hb5⟩)
        | (go_at_call 66; refine (l01Below_any g 2 _ (F4.cur.below hb5 F4.cur.lt) (by omega) (by omega)).mono ?_; rintro e w6 ⟨sx, hsx0, hsx1, rfl, hc6, hch6, hs6⟩; clear hs6))
      generalize hV : World.alloc w6 (.cells #[.string s, .int .i64 (1 + sx), .int .i64 (-1), .int .i64 (-1), .int .i64 0, .int .i64 (-1)] 48) = W6
      obtain ⟨pb, hpb⟩ : ∃ m, m = w6.heap.size := ⟨_, rfl⟩
      rw [← hpb]
      have PB0 : Blk W6 pb 48 #[.string s, .int .i64 (1 + sx), .int .i64 (-1), .int .i64 (-1), .int .i64 0, .int .i64 (-1)] := by subst hV; rw [hpb]; exact Blk.new _ rfl
      have hchW : Chg g (g + 1) w4 W6 := by subst hV; exact ((Chg.of_below hb5).trans hch6).alloc _
      have hcuW : Cur W6 g := by subst hV; exact hc6.below ((Below.refl _ _).alloc (Nat.le_refl _) _) hc6.lt
      have zpb : w4.heap.size ≤ pb := by rw [hpb]; have := hb5.size; have := hch6.size; omega
      clear hV h1 hb5 hch6 hc6 hpb e0 e1
      have hcurl := F4.cur.lt
      generalize hsex : 1 + sx = sex at *
      have HSX := Lib.hid (show sex = 1 ∨ sex = 2 by omega)
      clear hsex
      go_upto_if 45 with (go_at_call 69; refine (l01Once_any g loose _ hcuW (by omega) (by omega)).mono ?_; rintro e w7 ⟨x7, rfl, hc7, hch7, hs7⟩)
      have PB7 := PB0.chg hch7 (.inr (by omega))
      have h47 := hchW.trans hch7
      clear hs7 hch7 PB0 hchW hcuW
      go_cut [] from 28 to 93 (fun wc => PInV g pb s sex xs ds w4 wc)
      case first =>
        cases x7 with
        | true =>
          go_wp2
          go_meet
          exact ⟨-1, -1, .inl rfl, .inl rfl, PB7, hc7, h47⟩
        | false =>
          have G := F4.next h47 hc7
          have e0 := G.fam.cell (i := 0) rfl; have e1 := G.fam.cell (i := 1) rfl
          have zG := G.size
          have h1 := l1Some_is g A none D cc 0 cd (w.heap.size + 2) w7.heap.size wr.heap.size w4.heap.size xs [] ds 1 w7 hc7 G.own.read.as (Nat.le_refl _) (hDS.same (Same.of_chg h47 (Nat.le_refl _) (.inr (by omega)))) h47.size (.inr (by omega)) (.inr (by omega)) HD.out (by omega)
          rw [show ([] : List Union).length = 0 from rfl] at h1
          have lP := PB7.lt
          go_wp2_with (go_at_call 70; (with_reducible refine h1.mono ?_); rintro e w8 ⟨f, hf1, rfl, hc8, hch8⟩; have PB8 := PB7.chg hch8 (.inr (by omega)); have p2 := PB8.cell (i := 2) rfl; have k2 := PB8.free 2; have lP8 := PB8.lt)
          go_meet
          exact ⟨f, -1, hf1, .inl rfl, PB8.set 2 _, hc8.below (by (with_reducible repeat' first | exact Below.refl _ _ | assumption | (refine Below.setCell ?_ (by first | omega | (simp; omega) | (simp; done) | (dsimp only; omega)) _) | (refine Below.alloc ?_ (by first | omega | (simp; omega) | (simp; done) | (dsimp only; omega)) _) | (refine below_drewN ?_ _) | (refine Below.drew ?_)) : Below w4.heap.size w8 _) hcurl, (h47.trans hch8).then_below (by (with_reducible repeat' first | exact Below.refl _ _ | assumption | (refine Below.setCell ?_ (by first | omega | (simp; omega) | (simp; done) | (dsimp only; omega)) _) | (refine Below.alloc ?_ (by first | omega | (simp; omega) | (simp; done) | (dsimp only; omega)) _) | (refine below_drewN ?_ _) | (refine Below.drew ?_)) : Below w4.heap.size w8 _) (Nat.le_refl _)⟩
      case rest =>
        obtain ⟨f, m, hf, hm, PB9, hc9, h49⟩ := hcut
        replace hf := Lib.hid hf; replace hm := Lib.hid hm
        clear PB7 h47 hc7
        go_upto_if 54 with (go_at_call 69; refine (l01Once_any g loose _ hc9 (by omega) (by omega)).mono ?_; rintro e w10 ⟨x10, rfl, hc10, hch10, hs10⟩)
        have PB10 := PB9.chg hch10 (.inr (by omega))
        have h410 := h49.trans hch10
        clear hs10 hch10 PB9 h49 hc9
        go_cut [] from 28 to 93 (fun wc => PInV g pb s sex xs ds w4 wc)
        case first =>
          cases x10 with
          | true =>
            go_wp2
            go_meet
            exact ⟨f, m, hf.out, hm.out, PB10, hc10, h410⟩
          | false =>
            have G := F4.next h410 hc10
            have e0 := G.fam.cell (i := 0) rfl; have e1 := G.fam.cell (i := 1) rfl
            have zG := G.size
            have h1 := l1Some_is g A none D cc 0 cd (w.heap.size + 2) w10.heap.size wr.heap.size w4.heap.size xs [] ds 2 w10 hc10 G.own.read.as (Nat.le_refl _) (hDS.same (Same.of_chg h410 (Nat.le_refl _) (.inr (by omega)))) h410.size (.inr (by omega)) (.inr (by omega)) HD.out (by omega)
            rw [show ([] : List Union).length = 0 from rfl] at h1
            have lP := PB10.lt
            go_wp2_with (go_at_call 70; (with_reducible refine h1.mono ?_); rintro e w8 ⟨m', hm1, rfl, hc8, hch8⟩; have PB8 := PB10.chg hch8 (.inr (by omega)); have p3 := PB8.cell (i := 3) rfl; have k3 := PB8.free 3; have lP8 := PB8.lt)
            go_meet
            exact ⟨f, m', hf.out, hm1, PB8.set 3 _, hc8.below (by (with_reducible repeat' first | exact Below.refl _ _ | assumption | (refine Below.setCell ?_ (by first | omega | (simp; omega) | (simp; done) | (dsimp only; omega)) _) | (refine Below.alloc ?_ (by first | omega | (simp; omega) | (simp; done) | (dsimp only; omega)) _) | (refine below_drewN ?_ _) | (refine Below.drew ?_)) : Below w4.heap.size w8 _) hcurl, (h410.trans hch8).then_below (by (with_reducible repeat' first | exact Below.refl _ _ | assumption | (refine Below.setCell ?_ (by first | omega | (simp; omega) | (simp; done) | (dsimp only; omega)) _) | (refine Below.alloc ?_ (by first | omega | (simp; omega) | (simp; done) | (dsimp only; omega)) _) | (refine below_drewN ?_ _) | (refine Below.drew ?_)) : Below w4.heap.size w8 _) (Nat.le_refl _)⟩
        case rest =>
          obtain ⟨f', m', hf', hm', PB11, hc11, h411⟩ := hcut
          have HF := Lib.hid hf'; have HM := Lib.hid hm'
          replace hf' := pick_lt hf'; replace hm' := pick_lt hm'
          clear PB10 h410 hc10 hf hm
          have lP := PB11.lt
          go_upto_region 14 with (go_at_call 66; refine (l01Below_any g 12 _ hc11 (by omega) (by omega)).mono ?_; rintro e w12 ⟨bo, hbo0, hbo1, rfl, hc12, hch12, hs12⟩; have PB12 := PB11.chg hch12 (.inr (by omega)); have p4 := PB12.cell (i := 4) rfl; have k4 := PB12.free 4; have lP12 := PB12.lt)
          generalize hV : w12.setCell ⟨pb, 4, none⟩ (.int .i64 bo) = W12
          have PBV : Blk W12 pb 48 #[.string s, .int .i64 sex, .int .i64 f', .int .i64 m', .int .i64 bo, .int .i64 (-1)] := by subst hV; exact PB12.set 4 _
          have hcV : Cur W12 g := by subst hV; exact hc12.below ((Below.refl w4.heap.size _).setCell (by simp; omega) _) hcurl
          have h4V : Chg g (g + 1) w4 W12 := by subst hV; exact (h411.trans hch12).then_below ((Below.refl w4.heap.size _).setCell (by simp; omega) _) (Nat.le_refl _)
          clear hV PB12 p4 k4 hch12 hc12 hs12 PB11 hc11 h411 lP lP12
          have lPV := PBV.lt
          have p0 := PBV.cell (i := 0) rfl; have p1 := PBV.cell (i := 1) rfl; have p2 := PBV.cell (i := 2) rfl; have p3 := PBV.cell (i := 3) rfl; have p4 := PBV.cell (i := 4) rfl; have p5 := PBV.cell (i := 5) rfl
          have hone : EPerson.AS (W12.alloc (.cells #[.string s, .int .i64 sex, .int .i64 f', .int .i64 m', .int .i64 bo, .int .i64 (-1)] 48)) W12.heap.size (W12.heap.size + 1) (some ⟨W12.heap.size, 0, none⟩) [(⟨s, sex, f', m', bo, -1⟩ : Person)] := by
            have := (one_person W12 ⟨s, sex, f', m', bo, -1⟩).read.as
            simpa [vsPerson] using this
          have h1 := l1Parents_any (some ⟨W12.heap.size, 0, none⟩) none 1 0 W12.heap.size (W12.heap.size + 1) [(⟨s, sex, f', m', bo, -1⟩ : Person)] [] 0 _ hone Elem.AS.nil (by simp) (by simp)
          rw [show ([] : List Union).length = 0 from rfl, show ([(⟨s, sex, f', m', bo, -1⟩ : Person)] : List Person).length = 1 from rfl, show parentsAt [(⟨s, sex, f', m', bo, -1⟩ : Person)] 0 = parentsL ⟨s, sex, f', m', bo, -1⟩ from rfl, show ((0 : Nat) : Int) = 0 from rfl] at h1
          have HP := Lib.hid (fun q (hq : q ∈ parentsL ⟨s, sex, f', m', bo, -1⟩) => parents_in hq)
          have hpl := parents_len ⟨s, sex, f', m', bo, -1⟩
          have HPC := Lib.hid (parents_has ⟨s, sex, f', m', bo, -1⟩)
          generalize parentsL ⟨s, sex, f', m', bo, -1⟩ = ps at *
          go_upto_region 15 with (go_at_call 71; (with_reducible refine h1.mono ?_); rintro e w13 ⟨L, cL, rfl, oL, hb13⟩)
          have z13 := hb13.size
          simp only [szs] at z13
          have hbV : Below W12.heap.size W12 w13 := by (with_reducible repeat' first | exact Below.refl _ _ | assumption | (refine Below.setCell ?_ (by first | omega | (simp; omega) | (simp; done) | (dsimp only; omega)) _) | (refine Below.alloc ?_ (by first | omega | (simp; omega) | (simp; done) | (dsimp only; omega)) _) | (refine below_drewN ?_ _) | (refine Below.drew ?_) | (refine Below.trans ?_ (hb13.mono (by first | omega | (simp; omega) | (simp; done) | (dsimp only; omega)))))
          have PB13 := PBV.below hbV lPV
          have hc13 := hcV.below hbV hcV.lt
          have h413 := h4V.trans (Chg.of_below hbV)
          obtain ⟨llo, hllo⟩ : ∃ m, m = W12.heap.size + 1 := ⟨_, rfl⟩
          have hLS : EInt.AS w13 llo w13.heap.size L ps := by
            have := oL.read.as
            simp only [szs] at this
            rw [hllo]; exact this
          have hpl' : pb < llo := by omega
          have hlh : llo ≤ w13.heap.size := by omega
          clear h1 oL hb13 hbV PBV hcV h4V p0 p1 p2 p3 p4 p5 hone hllo
          go_loopw [68] (fun i wc => ∃ (j : Nat) (b : Int), i = .int .i64 j ∧ j ≤ ps.length ∧ BornQ xs ps j b ∧ Blk wc pb 48 #[.string s, .int .i64 sex, .int .i64 f', .int .i64 m', .int .i64 b, .int .i64 (-1)] ∧ EInt.AS wc llo w13.heap.size L ps ∧ Cur wc g ∧ Chg g (g + 1) w4 wc ∧ w13.heap.size ≤ wc.heap.size) (fun i _ => ps.length - (intOf i).toNat)
          case atStart => exact ⟨0, bo, rfl, by omega, BornQ.zero hbo0 hbo1, PB13, hLS, hc13, h413, Nat.le_refl _⟩
          case round =>
            obtain ⟨j, b, rfl, hj, hbq, PB, hLS', hcL, hchL, hzL⟩ := hrel
            have HBQ := Lib.hid hbq
            clear hbq
            clear PB13 hLS hc13 h413
            have G := F4.next hchL hcL
            have lPB := PB.lt
            by_cases hjl : j < ps.length
            · have i2 : (j : Int) < (ps.length : Int) := by omega
              obtain ⟨lb, lo', qq, rfl, k1, k2, _, hq, cl⟩ := AInt.at_ hLS' hjl
              obtain ⟨hq0, hq1⟩ := HP.out qq (List.mem_of_getElem? hq)
              obtain ⟨q, rfl⟩ := Int.eq_ofNat_of_zero_le hq0
              have hqn : q < xs.length := by rcases hq1 with hq1 | hq1 <;> omega
              obtain ⟨qb, qo, ⟨y0, y1, y2, y3, y4, y5⟩, rfl, g1, g2, _, hyq, _, _, _, _, cq, _⟩ := APerson.at_ G.own.read.as hqn
              have HQ := Lib.hid hq; have HY := Lib.hid hyq
              clear hyq
              simp only at cq
              have i3 : (q : Int) < (xs.length : Int) := by omega
              have zG := G.size
              clear hq hq1
              go_upto_region 17 with fail
              have c0 := G.fam.cell (i := 0) rfl
              have lF : w.heap.size + 1 < wr.drew.heap.size := G.fam.lt
              have gF : w.heap.size + 1 < g ∨ g + 1 ≤ w.heap.size + 1 := .inr (by omega)
              have lQ : qb < wr.drew.heap.size := g2
              have gQ : qb < g ∨ g + 1 ≤ qb := .inr (by omega)
              have lP : pb < wr.drew.heap.size := PB.lt
              have gP : pb < g ∨ g + 1 ≤ pb := .inr (by omega)
              have hcu0 : Cur wr.drew g := hcL.drew
              have hLh : w13.heap.size ≤ wr.heap.size := hzL
              have hne : qb < pb := by
                obtain ⟨b', o', x', he, _, hlt', _⟩ := APerson.at_ F4.own.read.as hqn
                injection he with he; injection he with he1 _ _; omega
              clear G
              refine wp_region_held_drew (S := fun w' => w'.cell? ⟨w.heap.size + 1, 0, none⟩ = some (.slice (some ⟨qb, qo, none⟩) xs.length cc) ∧ w'.cell? ⟨qb, qo + q * 6 + 4, none⟩ = some (.int .i64 y4)) (by kernel_rfl) ⟨c0, cq⟩ (fun hHeld => ?_)
              refine wpAnyH_take (i := 0) (oi := { dst := some 72, op := _, type := _, pos := _, after := _, guard := _ }) (v := ?_) rfl (by kernel_rfl) (by kernel_rfl) (by kernel_rfl) (fun _ _ _ h => h) (Or.inl ⟨by rfl, ?_⟩) (by assumption) ?_; rotate_left; (intro w hSw; (try dsimp only at hSw); go_simp); (try with_reducible rfl); (try simp only [Act.put, List.setIfInBounds_toArray, List.set_cons_zero, List.set_cons_succ])
              refine wpAnyH_take (i := 2) (oi := { dst := some 74, op := _, type := _, pos := _, after := _, guard := _ }) (v := ?_) rfl (by kernel_rfl) (by kernel_rfl) (by kernel_rfl) (fun _ _ _ h => h) (Or.inl ⟨by rfl, ?_⟩) (by assumption) ?_; rotate_left; (intro w hSw; (try dsimp only at hSw); go_simp); (try with_reducible rfl); (try simp only [Act.put, List.setIfInBounds_toArray, List.set_cons_zero, List.set_cons_succ])
              refine wpAnyH_take (i := 3) (oi := { dst := some 75, op := _, type := _, pos := _, after := _, guard := _ }) (v := ?_) rfl (by kernel_rfl) (by kernel_rfl) (by kernel_rfl) (fun _ _ _ h => h) (Or.inl ⟨by rfl, ?_⟩) (by assumption) ?_; rotate_left; (intro w hSw; (try dsimp only at hSw); go_simp); (try with_reducible rfl); (try simp only [Act.put, List.setIfInBounds_toArray, List.set_cons_zero, List.set_cons_succ])
              refine wpAnyH_take (i := 4) (oi := { dst := some 76, op := _, type := _, pos := _, after := _, guard := _ }) (v := ?_) rfl (by kernel_rfl) (by kernel_rfl) (by kernel_rfl) (fun _ _ _ h => h) (Or.inl ⟨by rfl, ?_⟩) (by assumption) ?_; rotate_left; (intro w hSw; (try dsimp only at hSw); go_simp); (try with_reducible rfl); (try simp only [Act.put, List.setIfInBounds_toArray, List.set_cons_zero, List.set_cons_succ])
              refine wpAnyH_take (i := 5) (oi := { dst := some 77, op := _, type := _, pos := _, after := _, guard := _ }) (v := ?_) rfl (by kernel_rfl) (by kernel_rfl) (by kernel_rfl) (fun _ _ _ h => h) (Or.inl ⟨by rfl, ?_⟩) (by assumption) ?_; rotate_left; (intro w hSw; (try dsimp only at hSw); go_simp); (try with_reducible rfl); (try simp only [Act.put, List.setIfInBounds_toArray, List.set_cons_zero, List.set_cons_succ])
              refine wpAnyH_take (i := 6) (oi := { dst := some 78, op := _, type := _, pos := _, after := _, guard := _ }) (v := ?_) rfl (by kernel_rfl) (by kernel_rfl) (by kernel_rfl) (fun _ _ _ h => h) (Or.inl ⟨by rfl, ?_⟩) (by assumption) ?_; rotate_left; (intro w hSw; (try dsimp only at hSw); go_simp); (try with_reducible rfl); (try simp only [Act.put, List.setIfInBounds_toArray, List.set_cons_zero, List.set_cons_succ])
              refine wpAnyH_take (i := 7) (oi := { dst := some 79, op := _, type := _, pos := _, after := _, guard := _ }) (v := ?_) rfl (by kernel_rfl) (by kernel_rfl) (by kernel_rfl) (fun _ _ _ h => h) (Or.inl ⟨by rfl, ?_⟩) (by assumption) ?_; rotate_left; (intro w hSw; (try dsimp only at hSw); go_simp); (try with_reducible rfl); (try simp only [Act.put, List.setIfInBounds_toArray, List.set_cons_zero, List.set_cons_succ])
              refine wpAnyH_take (i := 8) (oi := { dst := some 80, op := _, type := _, pos := _, after := _, guard := _ }) (v := ?_) rfl (by kernel_rfl) (by kernel_rfl) (by kernel_rfl) (fun _ _ _ h => h) (Or.inl ⟨by rfl, ?_⟩) (by assumption) ?_; rotate_left; (intro w hSw; (try dsimp only at hSw); go_simp); (try with_reducible rfl); (try simp only [Act.put, List.setIfInBounds_toArray, List.set_cons_zero, List.set_cons_succ])
              refine wpAnyH_take (i := 9) (oi := { dst := some 81, op := _, type := _, pos := _, after := _, guard := _ }) (v := ?_) rfl (by kernel_rfl) (by kernel_rfl) (by kernel_rfl) (fun _ _ _ h => h) (Or.inl ⟨by rfl, ?_⟩) (by assumption) ?_; rotate_left; (intro w hSw; (try dsimp only at hSw); go_simp); (try with_reducible rfl); (try simp only [Act.put, List.setIfInBounds_toArray, List.set_cons_zero, List.set_cons_succ])
              refine wpAnyH_take (i := 10) (oi := { dst := some 82, op := _, type := _, pos := _, after := _, guard := _ }) (v := ?_) rfl (by kernel_rfl) (by kernel_rfl) (by kernel_rfl) (fun _ _ _ h => h) (Or.inl ⟨by rfl, ?_⟩) (by assumption) ?_; rotate_left; (intro w hSw; (try dsimp only at hSw); go_simp); (try with_reducible rfl); (try simp only [Act.put, List.setIfInBounds_toArray, List.set_cons_zero, List.set_cons_succ])
              refine wpAnyH_ready (rs := [1, 11]) (by kernel_rfl) (by simp) ?_
              refine AllReadyH.cons (o := { dst := some 73, op := _, type := _, pos := _, after := _, guard := _ }) rfl (fun K hK => ?_) (AllReadyH.cons (o := { dst := some 83, op := _, type := _, pos := _, after := _, guard := _ }) rfl (fun K hK => ?_) (AllReadyH.nil))
              ·
                have cp := PB.drew.cell (i := 4) rfl
                go_simp
                refine hK.out _ _ ⟨c0, cq⟩ (fun hHeld => ?_)
                clear hK K; (try simp only [Act.put, List.setIfInBounds_toArray, List.set_cons_zero, List.set_cons_succ])
                refine wpAnyH_ready (rs := [11]) (by kernel_rfl) (by simp) ?_
                refine AllReadyH.cons (o := { dst := some 83, op := _, type := _, pos := _, after := _, guard := _ }) rfl (fun K hK => ?_) (AllReadyH.nil)
                go_simp
                (go_at_call 66; refine (l01Below_any g 6 _ hcu0 (by omega) (by omega)).mono ?_; rintro e v1 ⟨yy, hy0, hy1, rfl, hcu1, hchq, hsq⟩)
                try go_wp2_with fail
                refine hK.out _ _ ⟨hchq.cell1 lF gF c0, hchq.cell1 lQ gQ cq⟩ (fun hHeld => ?_)
                clear hK K; (try simp only [Act.put, List.setIfInBounds_toArray, List.set_cons_zero, List.set_cons_succ])
                clear hsq hcu0
                refine wpAnyH_take (i := 12) (oi := { dst := some 84, op := _, type := _, pos := _, after := _, guard := _ }) (v := ?_) rfl (by kernel_rfl) (by kernel_rfl) (by kernel_rfl) (fun _ _ _ h => h) (Or.inl ⟨by rfl, ?_⟩) (by assumption) ?_; rotate_left; (intro w hSw; (try dsimp only at hSw); go_simp); (try with_reducible rfl); (try simp only [Act.put, List.setIfInBounds_toArray, List.set_cons_zero, List.set_cons_succ])
                refine wpAnyH_take (i := 13) (oi := { dst := some 85, op := _, type := _, pos := _, after := _, guard := _ }) (v := ?_) rfl (by kernel_rfl) (by kernel_rfl) (by kernel_rfl) (fun _ _ _ h => h) (Or.inl ⟨by rfl, ?_⟩) (by assumption) ?_; rotate_left; (intro w hSw; (try dsimp only at hSw); go_simp); (try with_reducible rfl); (try simp only [Act.put, List.setIfInBounds_toArray, List.set_cons_zero, List.set_cons_succ])
                refine wpAnyH_take (i := 14) (oi := { dst := some 86, op := _, type := _, pos := _, after := _, guard := _ }) (v := ?_) rfl (by kernel_rfl) (by kernel_rfl) (by kernel_rfl) (fun _ _ _ h => h) (Or.inl ⟨by rfl, ?_⟩) (by assumption) ?_; rotate_left; (intro w hSw; (try dsimp only at hSw); go_simp); (try with_reducible rfl); (try simp only [Act.put, List.setIfInBounds_toArray, List.set_cons_zero, List.set_cons_succ])
                refine wpAnyH_ready (rs := [15]) (by kernel_rfl) (by simp) ?_
                refine AllReadyH.cons (o := { dst := none, op := _, type := _, pos := _, after := _, guard := _ }) rfl (fun K hK => ?_) (AllReadyH.nil)
                have U2 := PB.drew.chg hchq gP
                have u4 := U2.cell (i := 4) rfl; have f4 := U2.free 4; have lU2 := U2.lt
                go_simp
                refine hK.out _ _ ⟨(World.cell?_setCell_other _ _ _ _ (by first | (simp; done) | (simp; omega))).trans (hchq.cell1 lF gF c0), (World.cell?_setCell_other _ _ _ _ (by first | (simp; done) | (simp; omega))).trans (hchq.cell1 lQ gQ cq)⟩ (fun hHeld => ?_)
                clear hK K; (try simp only [Act.put, List.setIfInBounds_toArray, List.set_cons_zero, List.set_cons_succ])
                refine wpAnyH_done (by kernel_rfl) ?_ _
                go_wp2_with fail
                refine ⟨⟨j + 1, _, by go_num, by omega, ?_, U2.set 4 _, ?_, hcu1.below (by (with_reducible repeat' first | exact Below.refl _ _ | assumption | (refine Below.setCell ?_ (by first | omega | (simp; omega) | (simp; done) | (dsimp only; omega)) _) | (refine Below.alloc ?_ (by first | omega | (simp; omega) | (simp; done) | (dsimp only; omega)) _) | (refine below_drewN ?_ _) | (refine Below.drew ?_)) : Below w4.heap.size v1 _) (by omega), (hchL.trans (undrewT hchq)).then_below (by (with_reducible repeat' first | exact Below.refl _ _ | assumption | (refine Below.setCell ?_ (by first | omega | (simp; omega) | (simp; done) | (dsimp only; omega)) _) | (refine Below.alloc ?_ (by first | omega | (simp; omega) | (simp; done) | (dsimp only; omega)) _) | (refine below_drewN ?_ _) | (refine Below.drew ?_)) : Below w4.heap.size v1 _) (Nat.le_refl _), (by have h9 := hchq.size; simp only [szs] at h9; simp [World.setCell]; omega)⟩, by simp [intOf]; omega⟩
                · have hby := HGr.out.born HY.out; have hbb := HBQ.out.bound (by omega); have hst := HST.out; simp only at hby; exact HBQ.out.next HGr.out HQ.out HY.out HST.out hy0 hy1 (by first | rfl | (simp only [wrap64]; omega) | (simp only [wrap64]; split <;> omega))
                exact (hLS'.same (Same.of_chg (undrewT hchq) hLh (.inr (by omega)))).same (by (with_reducible repeat' first | exact Same.refl _ _ _ | assumption | (refine Same.setCell ?_ (by first | omega | (simp; omega) | (simp; done) | (dsimp only; omega)) _) | (refine Same.alloc ?_ (by first | omega | (simp; omega) | (simp; done) | (dsimp only; omega)) _) | (refine Same.drewN ?_ _) | (refine Same.drew ?_)))
              ·
                go_simp
                (go_at_call 66; refine (l01Below_any g 6 _ hcu0 (by omega) (by omega)).mono ?_; rintro e v1 ⟨yy, hy0, hy1, rfl, hcu1, hchq, hsq⟩)
                try go_wp2_with fail
                refine hK.out _ _ ⟨hchq.cell1 lF gF c0, hchq.cell1 lQ gQ cq⟩ (fun hHeld => ?_)
                clear hK K; (try simp only [Act.put, List.setIfInBounds_toArray, List.set_cons_zero, List.set_cons_succ])
                clear hsq hcu0
                refine wpAnyH_take (i := 12) (oi := { dst := some 84, op := _, type := _, pos := _, after := _, guard := _ }) (v := ?_) rfl (by kernel_rfl) (by kernel_rfl) (by kernel_rfl) (fun _ _ _ h => h) (Or.inl ⟨by rfl, ?_⟩) (by assumption) ?_; rotate_left; (intro w hSw; (try dsimp only at hSw); go_simp); (try with_reducible rfl); (try simp only [Act.put, List.setIfInBounds_toArray, List.set_cons_zero, List.set_cons_succ])
                refine wpAnyH_ready (rs := [1]) (by kernel_rfl) (by simp) ?_
                refine AllReadyH.cons (o := { dst := some 73, op := _, type := _, pos := _, after := _, guard := _ }) rfl (fun K hK => ?_) (AllReadyH.nil)
                have cp := (PB.drew.chg hchq gP).cell (i := 4) rfl
                go_simp
                refine hK.out _ _ ⟨hchq.cell1 lF gF c0, hchq.cell1 lQ gQ cq⟩ (fun hHeld => ?_)
                clear hK K; (try simp only [Act.put, List.setIfInBounds_toArray, List.set_cons_zero, List.set_cons_succ])
                refine wpAnyH_take (i := 13) (oi := { dst := some 85, op := _, type := _, pos := _, after := _, guard := _ }) (v := ?_) rfl (by kernel_rfl) (by kernel_rfl) (by kernel_rfl) (fun _ _ _ h => h) (Or.inl ⟨by rfl, ?_⟩) (by assumption) ?_; rotate_left; (intro w hSw; (try dsimp only at hSw); go_simp); (try with_reducible rfl); (try simp only [Act.put, List.setIfInBounds_toArray, List.set_cons_zero, List.set_cons_succ])
                refine wpAnyH_take (i := 14) (oi := { dst := some 86, op := _, type := _, pos := _, after := _, guard := _ }) (v := ?_) rfl (by kernel_rfl) (by kernel_rfl) (by kernel_rfl) (fun _ _ _ h => h) (Or.inl ⟨by rfl, ?_⟩) (by assumption) ?_; rotate_left; (intro w hSw; (try dsimp only at hSw); go_simp); (try with_reducible rfl); (try simp only [Act.put, List.setIfInBounds_toArray, List.set_cons_zero, List.set_cons_succ])
                refine wpAnyH_ready (rs := [15]) (by kernel_rfl) (by simp) ?_
                refine AllReadyH.cons (o := { dst := none, op := _, type := _, pos := _, after := _, guard := _ }) rfl (fun K hK => ?_) (AllReadyH.nil)
                have U2 := PB.drew.chg hchq gP
                have u4 := U2.cell (i := 4) rfl; have f4 := U2.free 4; have lU2 := U2.lt
                go_simp
                refine hK.out _ _ ⟨(World.cell?_setCell_other _ _ _ _ (by first | (simp; done) | (simp; omega))).trans (hchq.cell1 lF gF c0), (World.cell?_setCell_other _ _ _ _ (by first | (simp; done) | (simp; omega))).trans (hchq.cell1 lQ gQ cq)⟩ (fun hHeld => ?_)
                clear hK K; (try simp only [Act.put, List.setIfInBounds_toArray, List.set_cons_zero, List.set_cons_succ])
                refine wpAnyH_done (by kernel_rfl) ?_ _
                go_wp2_with fail
                refine ⟨⟨j + 1, _, by go_num, by omega, ?_, U2.set 4 _, ?_, hcu1.below (by (with_reducible repeat' first | exact Below.refl _ _ | assumption | (refine Below.setCell ?_ (by first | omega | (simp; omega) | (simp; done) | (dsimp only; omega)) _) | (refine Below.alloc ?_ (by first | omega | (simp; omega) | (simp; done) | (dsimp only; omega)) _) | (refine below_drewN ?_ _) | (refine Below.drew ?_)) : Below w4.heap.size v1 _) (by omega), (hchL.trans (undrewT hchq)).then_below (by (with_reducible repeat' first | exact Below.refl _ _ | assumption | (refine Below.setCell ?_ (by first | omega | (simp; omega) | (simp; done) | (dsimp only; omega)) _) | (refine Below.alloc ?_ (by first | omega | (simp; omega) | (simp; done) | (dsimp only; omega)) _) | (refine below_drewN ?_ _) | (refine Below.drew ?_)) : Below w4.heap.size v1 _) (Nat.le_refl _), (by have h9 := hchq.size; simp only [szs] at h9; simp [World.setCell]; omega)⟩, by simp [intOf]; omega⟩
                · have hby := HGr.out.born HY.out; have hbb := HBQ.out.bound (by omega); have hst := HST.out; simp only at hby; exact HBQ.out.next HGr.out HQ.out HY.out HST.out hy0 hy1 (by first | rfl | (simp only [wrap64]; omega) | (simp only [wrap64]; split <;> omega))
                exact (hLS'.same (Same.of_chg (undrewT hchq) hLh (.inr (by omega)))).same (by (with_reducible repeat' first | exact Same.refl _ _ _ | assumption | (refine Same.setCell ?_ (by first | omega | (simp; omega) | (simp; done) | (dsimp only; omega)) _) | (refine Same.alloc ?_ (by first | omega | (simp; omega) | (simp; done) | (dsimp only; omega)) _) | (refine Same.drewN ?_ _) | (refine Same.drew ?_)))
            · have i2 : ¬ (j : Int) < (ps.length : Int) := by omega
              have p0 := PB.cell (i := 0) rfl; have p1 := PB.cell (i := 1) rfl; have p2 := PB.cell (i := 2) rfl; have p3 := PB.cell (i := 3) rfl; have p4 := PB.cell (i := 4) rfl; have p5 := PB.cell (i := 5) rfl
              have e0 := G.fam.cell (i := 0) rfl; have e1 := G.fam.cell (i := 1) rfl; have f0 := G.fam.free 0
              have zW := G.size; have ho := G.own; have lF := G.fam.lt
              go_wp2_with (at_builtin; refine wpList_app1 tyPersonS A xs ⟨s, sex, f', m', b, -1⟩ (vsPerson ⟨s, sex, f', m', b, -1⟩) ⟨wr.heap.size, 0, none⟩ 1 (lo := w.heap.size + 2) (hi := wr.heap.size) (ho.same (by (with_reducible repeat' first | exact Same.refl _ _ _ | assumption | (refine Same.setCell ?_ (by first | omega | (simp; omega) | (simp; done) | (dsimp only; omega)) _) | (refine Same.alloc ?_ (by first | omega | (simp; omega) | (simp; done) | (dsimp only; omega)) _) | (refine Same.drewN ?_ _) | (refine Same.drew ?_)))) rfl (by (first | omega | (simp; omega) | (simp; done) | (dsimp only; omega))) zW rfl _ _ rfl rfl rfl rfl (cell_row_at _ _ _ _ (by simp)) (flatPerson.one _) (by omega) (by decide) (fun A' c' w15 ho5 hg5 hc5 hm5 => ?_); have hb5 : Below (w.heap.size + 2) wr w15 := Below.grown (w := World.alloc _ _) (by (with_reducible repeat' first | exact Below.refl _ _ | assumption | (refine Below.setCell ?_ (by first | omega | (simp; omega) | (simp; done) | (dsimp only; omega)) _) | (refine Below.alloc ?_ (by first | omega | (simp; omega) | (simp; done) | (dsimp only; omega)) _) | (refine below_drewN ?_ _) | (refine Below.drew ?_))) hg5 (by simp; omega) (fun k hk => (ho.blkv k hk).1); replace e0 := (hb5.cell (p := ⟨w.heap.size + 1, 0, none⟩) (by first | omega | (simp; omega) | (simp; done) | (dsimp only; omega))).trans e0; replace f0 := (hb5.frozen (p := ⟨w.heap.size + 1, 0, none⟩) (by first | omega | (simp; omega) | (simp; done) | (dsimp only; omega))).trans f0)
              have ej : j = ps.length := by omega
              have HBE : BornQ xs ps ps.length b := ej ▸ HBQ.out
              have HGN : Grown 11 (xs ++ [(⟨s, sex, f', m', b, -1⟩ : Person)]) := HGr.out.push (x := ⟨s, sex, f', m', b, -1⟩) (by omega) (by omega) HSn.out.symm HSX.out HBE.bounds rfl (par_of HF.out HDX.out HBE HPC.out.1) (par_of HM.out HDX.out HBE HPC.out.2)
              exact ⟨⟨k - 1, xs ++ [⟨s, sex, f', m', b, -1⟩], A', c', by congr 1; omega, by simp; omega, Before_snoc hB hf' hm', HGN, by simpa using G.pushed _ hg5 ho5 hs2⟩, by simp [intOf]; omega⟩
    · have i1 : ¬ (0 : Int) < (k : Int) := by omega
      have hxn : xs.length ≤ n := by omega
      clear hk hk0
      go_upto_region 21 with fail
      have HN := Lib.hid hxn
      go_loopw [97] (fun i wc => DieRelV g xs.length A cc w i wc) (fun i _ => xs.length - (intOf i).toNat)
      case atStart => exact ⟨0, xs, rfl, by omega, rfl, hB, DieOk.of_grown HGr.out (by omega), F⟩
      case round =>
        obtain ⟨j, zs, rfl, hj, hl, hB2, hDie, G⟩ := hrel
        have HDie := Lib.hid hDie
        clear hDie
        have hzn : zs.length ≤ 40 := by omega
        have HL := Lib.hid hl
        have HB := Lib.hid hB2
        have zG := G.size
        have hfam := G.fam
        have hown := G.own
        rw [hl] at hfam hown
        have e0 := hfam.cell (i := 0) rfl; have e1 := hfam.cell (i := 1) rfl
        clear F hl hB2
        by_cases hjl : j < xs.length
        · have i2 : (j : Int) < (xs.length : Int) := by omega
          go_upto_if 101 with (go_at_call 69; refine (l01Once_any g 3 _ G.cur (by omega) (by omega)).mono ?_; rintro e w5 ⟨x, rfl, hc5, hch5, hs5⟩; clear hs5)
          have F5 := G.next hch5 hc5
          have f5 := F5.fam
          have o5 := F5.own
          rw [HL.out] at f5 o5
          cases x with
          | false =>
            go_wp2
            exact ⟨⟨j + 1, zs, by go_num, by omega, HL.out, HB.out, HDie.out, F5⟩, by simp [intOf]; omega⟩
          | true =>
            obtain ⟨⟨x0, x1, x2, x3, x4, x5⟩, hxj⟩ : ∃ x, zs[j]? = some (x : Person) := ⟨_, List.getElem?_eq_getElem (by rw [HL.out]; exact hjl)⟩
            obtain ⟨qb, c1, hv, k1, k2, k3, hcell, _⟩ := flat_put EPerson_O F5.own (Nat.le_refl _) hxj
            injection hv with hv _ hcc
            subst hv; subst hcc
            obtain ⟨d4, _⟩ := hcell 4 (.int .i64 x4) rfl
            have n4 : (⟨qb, j * EPerson.sz + 4, none⟩ : Addr) = ⟨qb, j * 6 + 4, none⟩ := rfl
            rw [n4] at d4
            have g0 := f5.cell (i := 0) rfl; have g1 := f5.cell (i := 1) rfl
            have HX := Lib.hid hxj
            clear hcell hxj n4 e0 e1 G hfam hown hch5 hc5
            have hK := l1Children_any (some ⟨qb, 0, none⟩) none cc 0 (w.heap.size + 2) w5.heap.size zs [] j w5 F5.own.read.as Elem.AS.nil (Nat.le_refl _) hzn
            rw [show ([] : List Union).length = 0 from rfl, HL.out] at hK
            have HM := Lib.hid (fun q (hq : q ∈ kidsM zs (kidP zs j) xs.length) => kidsM_mem.1 hq)
            have hkl := kidsM_len (xs := zs) (P := kidP zs j) xs.length
            have HMB := Lib.hid (fun (q : Nat) (hq : q < xs.length) (hp : kidP zs j q = true) => (kidsM_mem (xs := zs) (P := kidP zs j) (k := xs.length)).2 ⟨q, hq, hp, rfl⟩)
            generalize kidsM zs (kidP zs j) xs.length = ks at *
            go_upto_region 26 with (go_at_call 38; (with_reducible refine hK.mono ?_); rintro e w6 ⟨K, cK, rfl, oK, hb6⟩)
            have F6 := F5.next (Chg.of_below hb6) (F5.cur.below hb6 F5.cur.lt)
            have hKS := oK.read.as
            have f6 := F6.fam
            have o6 := F6.own
            rw [HL.out] at f6 o6
            have z6 := hb6.size
            clear hK oK hb6 F5 f5 o5 g0 g1 d4
            go_loopw [14, 112] (fun v i wc => ∃ (m : Nat) (a : Int), i = .int .i64 m ∧ v = .int .i64 a ∧ m ≤ ks.length ∧ KidQ zs ks x4 m a ∧ w6 = wc) (fun _ i _ => ks.length - (intOf i).toNat)
            case atStart => exact ⟨0, _, rfl, rfl, by omega, KidQ.zero (HDie.out.2 _ (List.mem_of_getElem? HX.out)).2, rfl⟩
            case round =>
              obtain ⟨m, a, rfl, rfl, hm, hkq0, rfl⟩ := hrel
              have HKQ := Lib.hid hkq0
              clear hkq0
              have g0 := f6.cell (i := 0) rfl; have g1 := f6.cell (i := 1) rfl
              by_cases hml : m < ks.length
              · have i3 : (m : Int) < (ks.length : Int) := by omega
                obtain ⟨kb, ko, kq, rfl, _, _, _, hkq, ck⟩ := AInt.at_ hKS hml
                obtain ⟨q, hq1, _, rfl⟩ := HM.out kq (List.mem_of_getElem? hkq)
                obtain ⟨qb', qo', ⟨y0, y1, y2, y3, y4, y5⟩, he, _, _, _, hyq, _, _, _, _, cq, _⟩ := APerson.at_ F6.own.read.as (k := q) (by rw [HL.out]; exact hq1)
                injection he with he; injection he with he1 he2 _
                subst he1; subst he2
                simp only [Nat.zero_add] at cq
                have i4 : (q : Int) < (xs.length : Int) := by omega
                have HQ := Lib.hid hkq; have HY := Lib.hid hyq
                clear hkq hyq
                go_wp2
                refine ⟨⟨m + 1, _, by go_num, rfl, by omega, ?_, trivial⟩, by simp [intOf]; omega⟩
                exact HKQ.out.next HQ.out HY.out (HDie.out.2 _ (List.mem_of_getElem? HY.out)).2 (by first | rfl | omega | (split <;> omega))
              · have i3 : ¬ (m : Int) < (ks.length : Int) := by omega
                go_upto_region 30 with fail
                have hxj := HX.out
                have c0 := f6.cell (i := 0) rfl
                have lF : w.heap.size + 1 < w6.drew.heap.size := f6.lt
                have gF : w.heap.size + 1 < g ∨ g + 1 ≤ w.heap.size + 1 := .inr (by omega)
                have hch0 : Chg g (g + 1) w6.drew w6.drew := Chg.refl _ _ _
                have hcu0 : Cur w6.drew g := F6.cur.drew
                clear g0 g1
                refine wp_region_held_drew (S := fun w' => w'.cell? ⟨w.heap.size + 1, 0, none⟩ = some (.slice (some ⟨qb, 0, none⟩) xs.length cc)) (by kernel_rfl) c0 (fun hHeld => ?_)
                refine wpAnyH_take (i := 0) (oi := { dst := some 125, op := _, type := _, pos := _, after := _, guard := _ }) (v := ?_) rfl (by kernel_rfl) (by kernel_rfl) (by kernel_rfl) (fun _ _ _ h => h) (Or.inl ⟨by rfl, ?_⟩) (by assumption) ?_; rotate_left; (intro w hSw; (try dsimp only at hSw); go_simp); (try with_reducible rfl); (try simp only [Act.put, List.setIfInBounds_toArray, List.set_cons_zero, List.set_cons_succ])
                refine wpAnyH_take (i := 1) (oi := { dst := some 126, op := _, type := _, pos := _, after := _, guard := _ }) (v := ?_) rfl (by kernel_rfl) (by kernel_rfl) (by kernel_rfl) (fun _ _ _ h => h) (Or.inl ⟨by rfl, ?_⟩) (by assumption) ?_; rotate_left; (intro w hSw; (try dsimp only at hSw); go_simp); (try with_reducible rfl); (try simp only [Act.put, List.setIfInBounds_toArray, List.set_cons_zero, List.set_cons_succ])
                refine wpAnyH_take (i := 2) (oi := { dst := some 127, op := _, type := _, pos := _, after := _, guard := _ }) (v := ?_) rfl (by kernel_rfl) (by kernel_rfl) (by kernel_rfl) (fun _ _ _ h => h) (Or.inl ⟨by rfl, ?_⟩) (by assumption) ?_; rotate_left; (intro w hSw; (try dsimp only at hSw); go_simp); (try with_reducible rfl); (try simp only [Act.put, List.setIfInBounds_toArray, List.set_cons_zero, List.set_cons_succ])
                refine wpAnyH_take (i := 3) (oi := { dst := some 128, op := _, type := _, pos := _, after := _, guard := _ }) (v := ?_) rfl (by kernel_rfl) (by kernel_rfl) (by kernel_rfl) (fun _ _ _ h => h) (Or.inl ⟨by rfl, ?_⟩) (by assumption) ?_; rotate_left; (intro w hSw; (try dsimp only at hSw); go_simp); (try with_reducible rfl); (try simp only [Act.put, List.setIfInBounds_toArray, List.set_cons_zero, List.set_cons_succ])
                refine wpAnyH_take (i := 4) (oi := { dst := some 129, op := _, type := _, pos := _, after := _, guard := _ }) (v := ?_) rfl (by kernel_rfl) (by kernel_rfl) (by kernel_rfl) (fun _ _ _ h => h) (Or.inl ⟨by rfl, ?_⟩) (by assumption) ?_; rotate_left; (intro w hSw; (try dsimp only at hSw); go_simp); (try with_reducible rfl); (try simp only [Act.put, List.setIfInBounds_toArray, List.set_cons_zero, List.set_cons_succ])
                refine wpAnyH_ready (rs := [5]) (by kernel_rfl) (by simp) ?_
                refine AllReadyH.cons (o := { dst := some 130, op := _, type := _, pos := _, after := _, guard := _ }) rfl (fun K hK => ?_) (AllReadyH.nil)
                go_simp
                refine hK.out _ _ ((hch0.alloc _).cell1 lF gF c0) (fun hHeld => ?_)
                clear hK K; (try simp only [Act.put, List.setIfInBounds_toArray, List.set_cons_zero, List.set_cons_succ])
                generalize hV : (World.alloc w6 (.cells #[.int .i64 0, .int .i64 1, .int .i64 5, .int .i64 30, .int .i64 60] 3)).drew = v1
                have hch1 : Chg g (g + 1) w6.drew v1 := by subst hV; exact hch0.alloc _
                have hcu1 : Cur v1 g := by subst hV; exact hcu0.below ((Below.refl _ _).alloc (Nat.le_refl _) _) hcu0.lt
                have BS : EInt.AS v1 w6.heap.size (w6.heap.size + 1) (some ⟨w6.heap.size, 0, none⟩) [0, 1, 5, 30, 60] := by subst hV; exact (ints_lit w6.drew [0, 1, 5, 30, 60] (by decide)).read.as
                obtain ⟨lbs0, hlbs⟩ : ∃ m, m = w6.heap.size := ⟨_, rfl⟩
                have lbs : lbs0 < v1.heap.size := by subst hV; rw [hlbs]; simp
                have gbs : g + 1 ≤ lbs0 := by rw [hlbs]; exact hcu0.lt
                rw [← hlbs] at BS ⊢
                clear hV hch0 hcu0 hlbs
                refine wpAnyH_ready (rs := [6]) (by kernel_rfl) (by simp) ?_
                refine AllReadyH.cons (o := { dst := some 131, op := _, type := _, pos := _, after := _, guard := _ }) rfl (fun K hK => ?_) (AllReadyH.nil)
                go_simp
                (go_at_call 65; refine (l01Int_any g (some ⟨lbs0, 0, none⟩) 5 lbs0 (lbs0 + 1) [0, 1, 5, 30, 60] _ hcu1 BS (by omega) (.inr gbs) (by decide) (by decide)).mono ?_; rintro e v2 ⟨yy, hyy, rfl, hcu2, hchq, hsq⟩)
                have hch2 := hch1.trans hchq
                try go_wp2_with fail
                refine hK.out _ _ (hch2.cell1 lF gF c0) (fun hHeld => ?_)
                clear hK K; (try simp only [Act.put, List.setIfInBounds_toArray, List.set_cons_zero, List.set_cons_succ])
                clear hchq hsq hch1 hcu1 BS
                have G2 := F6.next (undrewT hch2) hcu2
                refine wpAnyH_take (i := 7) (oi := { dst := some 132, op := _, type := _, pos := _, after := _, guard := _ }) (v := ?_) rfl (by kernel_rfl) (by kernel_rfl) (by kernel_rfl) (fun _ _ _ h => h) (Or.inl ⟨by rfl, ?_⟩) (by assumption) ?_; rotate_left; (intro w hSw; (try dsimp only at hSw); go_simp); (try with_reducible rfl); (try simp only [Act.put, List.setIfInBounds_toArray, List.set_cons_zero, List.set_cons_succ])
                refine wpAnyH_take (i := 8) (oi := { dst := some 133, op := _, type := _, pos := _, after := _, guard := _ }) (v := ?_) rfl (by kernel_rfl) (by kernel_rfl) (by kernel_rfl) (fun _ _ _ h => h) (Or.inl ⟨by rfl, ?_⟩) (by assumption) ?_; rotate_left; (intro w hSw; (try dsimp only at hSw); go_simp); (try with_reducible rfl); (try simp only [Act.put, List.setIfInBounds_toArray, List.set_cons_zero, List.set_cons_succ])
                refine wpAnyH_take (i := 9) (oi := { dst := some 134, op := _, type := _, pos := _, after := _, guard := _ }) (v := ?_) rfl (by kernel_rfl) (by kernel_rfl) (by kernel_rfl) (fun _ _ _ h => h) (Or.inl ⟨by rfl, ?_⟩) (by assumption) ?_; rotate_left; (intro w hSw; (try dsimp only at hSw); go_simp); (try with_reducible rfl); (try simp only [Act.put, List.setIfInBounds_toArray, List.set_cons_zero, List.set_cons_succ])
                refine wpAnyH_ready (rs := [10]) (by kernel_rfl) (by simp) ?_
                refine AllReadyH.cons (o := { dst := none, op := _, type := _, pos := _, after := _, guard := _ }) rfl (fun K hK => ?_) (AllReadyH.nil)
                obtain ⟨kk1, kk2, hc2, hs2⟩ := put_at G2.own (Nat.le_refl _) hxj
                obtain ⟨d5, f5⟩ := hc2 5 (.int .i64 x5) rfl
                go_simp
                refine hK.out _ _ ((World.cell?_setCell_other _ _ _ _ (by first | (simp; done) | (simp; omega))).trans (hch2.cell1 lF gF c0)) (fun hHeld => ?_)
                clear hK K; (try simp only [Act.put, List.setIfInBounds_toArray, List.set_cons_zero, List.set_cons_succ])
                refine wpAnyH_done (by kernel_rfl) ?_ _
                go_wp2_with fail
                have em : m = ks.length := by omega
                have HKE : KidQ zs ks x4 ks.length a := em ▸ HKQ.out
                have k1 := HKE.1; have k2 := HKE.2.1; have k3 := (HDie.out.2 _ (List.mem_of_getElem? hxj)).1
                simp only at k3
                simp at hyy
                have HDN : DieOk (zs.set j (⟨x0, x1, x2, x3, x4, wrap64 (a + yy)⟩ : Person)) := HDie.out.step hxj HKE (fun q hq hp => HMB.out q (by rw [← HL.out]; exact hq) hp) (by simp only [wrap64]; omega) (by simp only [wrap64]; omega)
                refine ⟨⟨j + 1, zs.set j ⟨x0, x1, x2, x3, x4, wrap64 (a + yy)⟩, by go_num, by omega, by rw [List.length_set]; exact HL.out, HB.out.set5 hxj _, HDN, G2.put hxj (hs2 5 (.int .i64 (wrap64 (a + yy))) _ ⟨x0, x1, x2, x3, x4, wrap64 (a + yy)⟩ rfl rfl rfl) kk1⟩, by simp [intOf]; omega⟩
        · have i2 : ¬ (j : Int) < (xs.length : Int) := by omega
          have hw := l1Wed_is g A none cc 0 (w.heap.size + 2) wr.heap.size zs [] wr G.cur G.own Elem.OS.nil (Nat.le_refl _) (by omega) (by omega) (by omega) HB.out G.name (by simp) HDie.out.1
          rw [show ([] : List Union).length = 0 from rfl, HL.out] at hw
          go_upto_region 32 with fail
          have r0 := G.res.cell (i := 0) rfl; have r1 := G.res.cell (i := 1) rfl
          go_wp2_with (go_at_call 72; (with_reducible refine hw.mono ?_); rintro e w6 ⟨ys, A6, B6, c6, d6, rfl, o6, u6, hy6, hc6, hch6⟩; have R6 := G.res.chg hch6 (by omega); have r0 := R6.cell (i := 0) rfl; have r1 := R6.cell (i := 1) rfl; have s0 := R6.free 0; have s1 := R6.free 1; have lR6 := R6.lt)
          have z6 := hch6.size
          have RR := (R6.set 0 (.slice A6 zs.length c6)).set 1 (.slice B6 ys.length d6)
          have hbl : Below w.heap.size w6 ((w6.setCell ⟨w.heap.size, 0, none⟩ (.slice A6 zs.length c6)).setCell ⟨w.heap.size, 1, none⟩ (.slice B6 ys.length d6)) := by (with_reducible repeat' first | exact Below.refl _ _ | assumption | (refine Below.setCell ?_ (by first | omega | (simp; omega) | (simp; done) | (dsimp only; omega)) _) | (refine Below.alloc ?_ (by first | omega | (simp; omega) | (simp; done) | (dsimp only; omega)) _) | (refine below_drewN ?_ _) | (refine Below.drew ?_))
          exact bodyPost_ret (v := .agg #[.slice A6 zs.length c6, .slice B6 ys.length d6]) (by simp [results, Try.results49, go_sem, RR.cell (i := 0) rfl, RR.cell (i := 1) rfl]) rfl ⟨zs, ys, A6, B6, c6, d6, rfl, (o6.same (by (with_reducible repeat' first | exact Same.refl _ _ _ | assumption | (refine Same.setCell ?_ (by first | omega | (simp; omega) | (simp; done) | (dsimp only; omega)) _) | (refine Same.alloc ?_ (by first | omega | (simp; omega) | (simp; done) | (dsimp only; omega)) _) | (refine Same.drewN ?_ _) | (refine Same.drew ?_)))).mono (by omega) (by simp [World.setCell]), (u6.same (by (with_reducible repeat' first | exact Same.refl _ _ _ | assumption | (refine Same.setCell ?_ (by first | omega | (simp; omega) | (simp; done) | (dsimp only; omega)) _) | (refine Same.alloc ?_ (by first | omega | (simp; omega) | (simp; done) | (dsimp only; omega)) _) | (refine Same.drewN ?_ _) | (refine Same.drew ?_)))).mono (by omega) (by simp [World.setCell]), by have := HN.out; have := HL.out; omega, hy6, hc6.below hbl hg, (G.chg.trans hch6).then_below hbl (Nat.le_refl _)⟩
end Go.Proofs.Ythpcippgifmabaa
