/-
  Families and kin types that the laws make out of bytes: what they leave, not who is drawn.
-/
import Derived.Test.YtnnjilkjjdiblaaXCrowdB
import Derived.Test.YtnnjilkjjdiblaaXGFamS
import Derived.Lib.Bytealg
import Derived.Lib.Slices
import Derived.Lib.Strings
import Derived.Lib.Walk
import Derived.Test.YtnnjilkjjdiblaaXOrderS
import Derived.Test.YtnnjilkjjdiblaaXTypesLaw
namespace Go.Proofs.Ytnnjilkjjdiblaa
set_option maxRecDepth 100000
open Go.RowKit

theorem Chg.cell1 {w w' : World} {lo hi : Nat} {p : Addr} {u : Value} (h : Chg lo hi w w') (hp : p.block < w.heap.size) (hd : p.block < lo ∨ hi ≤ p.block) (hc : w.cell? p = some u) : w'.cell? p = some u := (World.cell?_of_block (h.block _ hp hd)).trans hc
theorem Blk.grown' {w w' : World} {o : Obj} {g t : Nat} {cs : Array Value} {row : Option Nat} (h : Blk w g t cs) (hg : (w.alloc o).grownBy w' row) (hne : some g ≠ row) : Blk w' g t cs := (h.alloc o).grown hg hne
theorem Chg.of_below' {w w' : World} {lo hi : Nat} (h : Below w.heap.size w w') : Chg lo hi w w' := Chg.of_below h
theorem ints_lit (W : World) (l : List Int) (hl : l.length ≤ BIG) : EInt.OS (W.alloc (.cells (l.map fun n => Value.int .i64 n).toArray 3)) W.heap.size (W.heap.size + 1) (.slice (some ⟨W.heap.size, 0, none⟩) l.length l.length) l := by
  have hf : Fill (W.alloc (.cells (l.map fun n => Value.int .i64 n).toArray 3)) W.heap.size 3 l.length (ints l) l.length := ⟨_, heap_alloc_new W _, by simp, fun i _ => by rw [ints_at]; simp⟩
  have h := hf.own (n := l.length) (sz := 1) (lo := W.heap.size) (by omega) (ints_len l) (Nat.le_refl _) hl
  exact EInt_os.2 (by simpa using h)
theorem totP_two {xs : List Person} (h : ∀ x ∈ xs, x.name.size = 2) : totP xs = 2 * xs.length := by
  induction xs with
  | nil => rfl
  | cons x r ih => rw [totP, ih fun y hy => h y (List.mem_cons_of_mem _ hy), h x (List.mem_cons_self ..), List.length_cons]; omega
/-- A family with the same persons and some unions more is returned. -/
def RetWed (g lo : Nat) (xs : List Person) (n : Nat) (w : World) (e : Ending) (w' : World) : Prop :=
  ∃ (ys : List Union) (A B : Option Addr) (c d : Nat), e = .returned (.agg #[.slice A xs.length c, .slice B ys.length d]) ∧ EPerson.OS w' lo w'.heap.size (.slice A xs.length c) xs ∧ EUnion.OS w' lo w'.heap.size (.slice B ys.length d) ys ∧ ys.length ≤ n ∧ Cur w' g ∧ Chg g (g + 1) w w'
structure WedW (g lo : Nat) (w : World) (xs : List Person) (ds : List Int) (D : Option Addr) (lo2 hi2 : Nat) (ys : List Union) (A B : Option Addr) (c d : Nat) (wr : World) : Prop where
  fam : Blk wr w.heap.size 26 #[.slice A xs.length c, .slice B ys.length d]
  res : Blk wr (w.heap.size + 1) 26 #[.slice none 0 0, .slice none 0 0]
  own : EPerson.OS wr lo wr.heap.size (.slice A xs.length c) xs
  uni : EUnion.OS wr lo wr.heap.size (.slice B ys.length d) ys
  dep : EInt.AS wr lo2 hi2 D ds
  cur : Cur wr g
  chg : Chg g (g + 1) w wr
  size : w.heap.size + 2 ≤ wr.heap.size
  dlo : w.heap.size + 2 ≤ lo2 ∧ hi2 ≤ wr.heap.size
  glt : g < lo ∧ lo ≤ w.heap.size
section
variable {g lo lo2 hi2 c d : Nat} {w wr wq : World} {xs : List Person} {ds : List Int} {ys : List Union} {A B D : Option Addr}
theorem WedW.next (h : WedW g lo w xs ds D lo2 hi2 ys A B c d wr) (hc : Chg g (g + 1) wr wq) (hcur : Cur wq g) : WedW g lo w xs ds D lo2 hi2 ys A B c d wq := by
  have h1 := h.size; have h2 := h.dlo; have h3 := h.glt; have hz := hc.size
  exact { fam := h.fam.chg hc (by omega), res := h.res.chg hc (by omega), own := (h.own.same (Same.of_chg hc (Nat.le_refl _) (.inr (by omega)))).mono (Nat.le_refl _) hz, uni := (h.uni.same (Same.of_chg hc (Nat.le_refl _) (.inr (by omega)))).mono (Nat.le_refl _) hz, dep := h.dep.same (Same.of_chg hc h2.2 (.inr (by omega))), cur := hcur, chg := h.chg.trans hc, size := by omega, dlo := ⟨h2.1, by omega⟩, glt := h3 }
end
def WedLoop (g lo : Nat) (w : World) (xs : List Person) (ds : List Int) (D : Option Addr) (lo2 hi2 n : Nat) (i : Value) (wr : World) : Prop :=
  ∃ (k : Nat) (ys : List Union) (A B : Option Addr) (c d : Nat), i = .int .i64 k ∧ ys.length + k ≤ n ∧ WedW g lo w xs ds D lo2 hi2 ys A B c d wr
set_option maxHeartbeats 8000000 in
theorem l1Wed_any (g : Nat) (A B : Option Addr) (c d lo hi : Nat) (xs : List Person) (ys : List Union) (w : World) (hc : Cur w g) (h : EPerson.OS w lo hi (.slice A xs.length c) xs) (h' : EUnion.OS w lo hi (.slice B ys.length d) ys) (hh : hi ≤ w.heap.size) (hlo : lo ≤ w.heap.size) (hgl : g < lo)
    (hn : xs.length ≤ 40) (hB : Before xs) (hs : ∀ x ∈ xs, x.name.size = 2) (hy : ys.length ≤ 100) :
    Calls Try.prog 212 #[.pointer (some ⟨g, 0, none⟩), .agg #[.slice A xs.length c, .slice B ys.length d]] w (RetWed g lo xs (ys.length + 20) w) := by
  have htp := totP_two hs
  go_enter Try.func212, Try.ntmps212
  go_upto_region 1 with fail
  generalize hW : (w.alloc (.cells #[.slice A xs.length c, .slice B ys.length d] 26)).alloc (.cells #[.slice none 0 0, .slice none 0 0] 26) = W
  have F : Blk W w.heap.size 26 #[.slice A xs.length c, .slice B ys.length d] := by subst hW; exact (Blk.new _ rfl).alloc _
  have R : Blk W (w.heap.size + 1) 26 #[.slice none 0 0, .slice none 0 0] := by subst hW; exact Blk.new _ (by simp)
  have hb : Below w.heap.size w W := by subst hW; (with_reducible repeat' first | exact Below.refl _ _ | assumption | (refine Below.setCell ?_ (by first | omega | (simp; omega) | (simp; done) | (dsimp only; omega)) _) | (refine Below.alloc ?_ (by first | omega | (simp; omega) | (simp; done) | (dsimp only; omega)) _) | (refine below_drewN ?_ _) | (refine Below.drew ?_))
  have z0 : w.heap.size + 2 ≤ W.heap.size := by subst hW; simp
  clear hW
  have e0 := F.cell (i := 0) rfl; have e1 := F.cell (i := 1) rfl
  have hr := h.read.as.same (Same.of_below hb hh)
  go_upto_region 2 with (go_at_call 196; go_loud (refine (l1Depths_any A B c d lo hi xs ys _ hr (by omega) hn hB).mono ?_; rintro e w1 ⟨D, cd, rfl, od, hb1⟩))
  have hdl := depL_len xs xs.length
  rw [hdl] at od
  have z1 := hb1.size
  have hb2 := hb.trans (hb1.mono (by omega))
  have Q1 : WedW g lo w xs (depL xs xs.length) D W.heap.size w1.heap.size ys A B c d w1 :=
    { fam := F.below hb1 (by omega), res := R.below hb1 (by omega), own := (h.same (Same.of_below hb2 hh)).mono (Nat.le_refl _) (by omega), uni := (h'.same (Same.of_below hb2 hh)).mono (Nat.le_refl _) (by omega), dep := od.read.as, cur := hc.below hb2 (by omega), chg := (Chg.refl _ _ _).then_below hb2 (Nat.le_refl _), size := by omega, dlo := ⟨by omega, Nat.le_refl _⟩, glt := ⟨hgl, hlo⟩ }
  have HD := Lib.hid hdl
  generalize hds : depL xs xs.length = ds at *
  clear hds od hb1 hb2 hb F R hr e0 e1 h h'
  have e0 := Q1.fam.cell (i := 0) rfl; have e1 := Q1.fam.cell (i := 1) rfl
  have hk := l01Below_any g ((xs.length : Int) / 2 + 1) w1 Q1.cur (by omega) (by omega)
  go_upto_region 3 with (go_at_call 170; (with_reducible refine hk.mono ?_); rintro e w2 ⟨k0, hk0, hk1, rfl, hc2, hch2, hs2⟩)
  clear hk
  obtain ⟨k0, rfl⟩ := Int.eq_ofNat_of_zero_le hk0
  have Q2 := Q1.next hch2 hc2
  clear Q1 hch2 hc2 hs2 hc e0 e1
  go_loopw [6] (fun i wr => WedLoop g lo w xs ds D W.heap.size w1.heap.size (ys.length + 20) i wr) (fun i _ => (intOf i).toNat)
  case atStart => exact ⟨k0, ys, A, B, c, d, rfl, by omega, Q2⟩
  case round =>
    obtain ⟨k, zs, A3, B3, c3, d3, rfl, hk, Q⟩ := hrel
    clear Q2
    have zd := Q.dlo; have zz := Q.size
    by_cases hk0 : 0 < k
    · have i1 : (0 : Int) < (k : Int) := by omega
      have e0 := Q.fam.cell (i := 0) rfl; have e1 := Q.fam.cell (i := 1) rfl
      go_upto_region 6 with (go_at_call 210; go_loud (refine (l1Some_any g A3 B3 D c3 d3 cd lo wr.heap.size W.heap.size w1.heap.size xs zs ds 1 wr Q.cur Q.own.read.as (Nat.le_refl _) Q.dep zd.2 (.inr (by omega)) (.inr (by omega)) HD.out hn).mono ?_; rintro e w5 ⟨a, ha0, ha1, rfl, hc5, hch5⟩))
      have Q5 := Q.next hch5 hc5
      have zz5 := Q5.size; have zd5 := Q5.dlo
      clear e0 e1 hch5 hc5 Q
      have e0 := Q5.fam.cell (i := 0) rfl; have e1 := Q5.fam.cell (i := 1) rfl
      go_upto_region 7 with (go_at_call 210; go_loud (refine (l1Some_any g A3 B3 D c3 d3 cd lo w5.heap.size W.heap.size w1.heap.size xs zs ds 2 w5 Q5.cur Q5.own.read.as (Nat.le_refl _) Q5.dep zd5.2 (.inr (by omega)) (.inr (by omega)) HD.out hn).mono ?_; rintro e w6 ⟨b, hb0, hb1, rfl, hc6, hch6⟩))
      have Q6 := Q5.next hch6 hc6
      have zz6 := Q6.size; have zd6 := Q6.dlo
      clear e0 e1 hch6 hc6 Q5
      by_cases han : a < 0
      · go_wp2
        exact ⟨⟨k - 1, zs, A3, B3, c3, d3, by congr 1; omega, by omega, Q6⟩, by simp [intOf]; omega⟩
      · by_cases hbn : b < 0
        · go_wp2
          exact ⟨⟨k - 1, zs, A3, B3, c3, d3, by congr 1; omega, by omega, Q6⟩, by simp [intOf]; omega⟩
        · obtain ⟨a, rfl⟩ := Int.eq_ofNat_of_zero_le (by omega : 0 ≤ a)
          obtain ⟨b, rfl⟩ := Int.eq_ofNat_of_zero_le (by omega : 0 ≤ b)
          go_upto_region 8 with fail
          go_cut [9] from 20 to 77 (fun v wc => ∃ (ub : Nat) (fr : Int), v = .pointer (some ⟨ub, 0, none⟩) ∧ w6.heap.size ≤ ub ∧ Blk wc ub 179 #[.int .i64 a, .int .i64 b, .int .i64 fr, .int .i64 (-1)] ∧ Cur wc g ∧ Chg g (g + 1) w6 wc)
          case first =>
            have ho := Q6.own.read.as
            obtain ⟨pb, po, ⟨x0, x1, x2, x3, ba, x5⟩, rfl, g1, g2, _, _, _, _, _, _, ca, _⟩ := APerson.at_ ho (k := a) (by omega)
            obtain ⟨pb', po', ⟨y0, y1, y2, y3, bb, y5⟩, he, _, _, _, _, _, _, _, _, cb, _⟩ := APerson.at_ ho (k := b) (by omega)
            injection he with he; injection he with he1 he2 _; subst he1; subst he2
            simp only at ca cb
            have c0 := Q6.fam.cell (i := 0) rfl
            have lF : w.heap.size < w6.drew.heap.size := Q6.fam.lt
            have gF : w.heap.size < g ∨ g + 1 ≤ w.heap.size := .inr (by omega)
            have lP : pb < w6.drew.heap.size := g2
            have gP : pb < g ∨ g + 1 ≤ pb := .inr (by omega)
            have hch0 : Chg g (g + 1) w6.drew w6.drew := Chg.refl _ _ _
            have hcu0 : Cur w6.drew g := Q6.cur.drew
            have w6c := Q6.cur
            have j1 : (a : Int) < (xs.length : Int) := by omega
            have j2 : (b : Int) < (xs.length : Int) := by omega
            clear ho Q6
            refine wp_region_held_drew (S := fun w' => w'.cell? ⟨w.heap.size, 0, none⟩ = some (.slice (some ⟨pb, po, none⟩) xs.length c3) ∧ w'.cell? ⟨pb, po + a * 6 + 4, none⟩ = some (.int .i64 ba) ∧ w'.cell? ⟨pb, po + b * 6 + 4, none⟩ = some (.int .i64 bb)) (by kernel_rfl) ⟨c0, ca, cb⟩ (fun hHeld => ?_)
            refine wpAnyH_take (i := 0) (oi := { dst := some 38, op := _, type := _, pos := _, after := _, guard := _ }) (v := ?_) rfl (by kernel_rfl) (by kernel_rfl) (by kernel_rfl) (fun _ _ _ h => h) (Or.inl ⟨by rfl, ?_⟩) (by assumption) ?_; rotate_left; (intro w hSw; (try dsimp only at hSw); go_simp); (try with_reducible rfl); (try simp only [Act.put, List.setIfInBounds_toArray, List.set_cons_zero, List.set_cons_succ])
            refine wpAnyH_take (i := 1) (oi := { dst := some 39, op := _, type := _, pos := _, after := _, guard := _ }) (v := ?_) rfl (by kernel_rfl) (by kernel_rfl) (by kernel_rfl) (fun _ _ _ h => h) (Or.inl ⟨by rfl, ?_⟩) (by assumption) ?_; rotate_left; (intro w hSw; (try dsimp only at hSw); go_simp); (try with_reducible rfl); (try simp only [Act.put, List.setIfInBounds_toArray, List.set_cons_zero, List.set_cons_succ])
            refine wpAnyH_take (i := 2) (oi := { dst := some 40, op := _, type := _, pos := _, after := _, guard := _ }) (v := ?_) rfl (by kernel_rfl) (by kernel_rfl) (by kernel_rfl) (fun _ _ _ h => h) (Or.inl ⟨by rfl, ?_⟩) (by assumption) ?_; rotate_left; (intro w hSw; (try dsimp only at hSw); go_simp); (try with_reducible rfl); (try simp only [Act.put, List.setIfInBounds_toArray, List.set_cons_zero, List.set_cons_succ])
            refine wpAnyH_take (i := 3) (oi := { dst := some 41, op := _, type := _, pos := _, after := _, guard := _ }) (v := ?_) rfl (by kernel_rfl) (by kernel_rfl) (by kernel_rfl) (fun _ _ _ h => h) (Or.inl ⟨by rfl, ?_⟩) (by assumption) ?_; rotate_left; (intro w hSw; (try dsimp only at hSw); go_simp); (try with_reducible rfl); (try simp only [Act.put, List.setIfInBounds_toArray, List.set_cons_zero, List.set_cons_succ])
            refine wpAnyH_take (i := 4) (oi := { dst := some 42, op := _, type := _, pos := _, after := _, guard := _ }) (v := ?_) rfl (by kernel_rfl) (by kernel_rfl) (by kernel_rfl) (fun _ _ _ h => h) (Or.inl ⟨by rfl, ?_⟩) (by assumption) ?_; rotate_left; (intro w hSw; (try dsimp only at hSw); go_simp); (try with_reducible rfl); (try simp only [Act.put, List.setIfInBounds_toArray, List.set_cons_zero, List.set_cons_succ])
            refine wpAnyH_take (i := 5) (oi := { dst := some 43, op := _, type := _, pos := _, after := _, guard := _ }) (v := ?_) rfl (by kernel_rfl) (by kernel_rfl) (by kernel_rfl) (fun _ _ _ h => h) (Or.inl ⟨by rfl, ?_⟩) (by assumption) ?_; rotate_left; (intro w hSw; (try dsimp only at hSw); go_simp); (try with_reducible rfl); (try simp only [Act.put, List.setIfInBounds_toArray, List.set_cons_zero, List.set_cons_succ])
            refine wpAnyH_take (i := 6) (oi := { dst := some 44, op := _, type := _, pos := _, after := _, guard := _ }) (v := ?_) rfl (by kernel_rfl) (by kernel_rfl) (by kernel_rfl) (fun _ _ _ h => h) (Or.inl ⟨by rfl, ?_⟩) (by assumption) ?_; rotate_left; (intro w hSw; (try dsimp only at hSw); go_simp); (try with_reducible rfl); (try simp only [Act.put, List.setIfInBounds_toArray, List.set_cons_zero, List.set_cons_succ])
            refine wpAnyH_take (i := 7) (oi := { dst := some 45, op := _, type := _, pos := _, after := _, guard := _ }) (v := ?_) rfl (by kernel_rfl) (by kernel_rfl) (by kernel_rfl) (fun _ _ _ h => h) (Or.inl ⟨by rfl, ?_⟩) (by assumption) ?_; rotate_left; (intro w hSw; (try dsimp only at hSw); go_simp); (try with_reducible rfl); (try simp only [Act.put, List.setIfInBounds_toArray, List.set_cons_zero, List.set_cons_succ])
            refine wpAnyH_take (i := 8) (oi := { dst := some 46, op := _, type := _, pos := _, after := _, guard := _ }) (v := ?_) rfl (by kernel_rfl) (by kernel_rfl) (by kernel_rfl) (fun _ _ _ h => h) (Or.inl ⟨by rfl, ?_⟩) (by assumption) ?_; rotate_left; (intro w hSw; (try dsimp only at hSw); go_simp); (try with_reducible rfl); (try simp only [Act.put, List.setIfInBounds_toArray, List.set_cons_zero, List.set_cons_succ])
            refine wpAnyH_take (i := 9) (oi := { dst := some 47, op := _, type := _, pos := _, after := _, guard := _ }) (v := ?_) rfl (by kernel_rfl) (by kernel_rfl) (by kernel_rfl) (fun _ _ _ h => h) (Or.inl ⟨by rfl, ?_⟩) (by assumption) ?_; rotate_left; (intro w hSw; (try dsimp only at hSw); go_simp); (try with_reducible rfl); (try simp only [Act.put, List.setIfInBounds_toArray, List.set_cons_zero, List.set_cons_succ])
            refine wpAnyH_take (i := 10) (oi := { dst := some 48, op := _, type := _, pos := _, after := _, guard := _ }) (v := ?_) rfl (by kernel_rfl) (by kernel_rfl) (by kernel_rfl) (fun _ _ _ h => h) (Or.inl ⟨by rfl, ?_⟩) (by assumption) ?_; rotate_left; (intro w hSw; (try dsimp only at hSw); go_simp); (try with_reducible rfl); (try simp only [Act.put, List.setIfInBounds_toArray, List.set_cons_zero, List.set_cons_succ])
            refine wpAnyH_take (i := 11) (oi := { dst := some 49, op := _, type := _, pos := _, after := _, guard := _ }) (v := ?_) rfl (by kernel_rfl) (by kernel_rfl) (by kernel_rfl) (fun _ _ _ h => h) (Or.inl ⟨by rfl, ?_⟩) (by assumption) ?_; rotate_left; (intro w hSw; (try dsimp only at hSw); go_simp); (try with_reducible rfl); (try simp only [Act.put, List.setIfInBounds_toArray, List.set_cons_zero, List.set_cons_succ])
            refine wpAnyH_take (i := 12) (oi := { dst := some 50, op := _, type := _, pos := _, after := _, guard := _ }) (v := ?_) rfl (by kernel_rfl) (by kernel_rfl) (by kernel_rfl) (fun _ _ _ h => h) (Or.inl ⟨by rfl, ?_⟩) (by assumption) ?_; rotate_left; (intro w hSw; (try dsimp only at hSw); go_simp); (try with_reducible rfl); (try simp only [Act.put, List.setIfInBounds_toArray, List.set_cons_zero, List.set_cons_succ])
            refine wpAnyH_take (i := 13) (oi := { dst := some 51, op := _, type := _, pos := _, after := _, guard := _ }) (v := ?_) rfl (by kernel_rfl) (by kernel_rfl) (by kernel_rfl) (fun _ _ _ h => h) (Or.inl ⟨by rfl, ?_⟩) (by assumption) ?_; rotate_left; (intro w hSw; (try dsimp only at hSw); go_simp); (try with_reducible rfl); (try simp only [Act.put, List.setIfInBounds_toArray, List.set_cons_zero, List.set_cons_succ])
            refine wpAnyH_take (i := 14) (oi := { dst := some 52, op := _, type := _, pos := _, after := _, guard := _ }) (v := ?_) rfl (by kernel_rfl) (by kernel_rfl) (by kernel_rfl) (fun _ _ _ h => h) (Or.inl ⟨by rfl, ?_⟩) (by assumption) ?_; rotate_left; (intro w hSw; (try dsimp only at hSw); go_simp); (try with_reducible rfl); (try simp only [Act.put, List.setIfInBounds_toArray, List.set_cons_zero, List.set_cons_succ])
            refine wpAnyH_take (i := 15) (oi := { dst := some 53, op := _, type := _, pos := _, after := _, guard := _ }) (v := ?_) rfl (by kernel_rfl) (by kernel_rfl) (by kernel_rfl) (fun _ _ _ h => h) (Or.inl ⟨by rfl, ?_⟩) (by assumption) ?_; rotate_left; (intro w hSw; (try dsimp only at hSw); go_simp); (try with_reducible rfl); (try simp only [Act.put, List.setIfInBounds_toArray, List.set_cons_zero, List.set_cons_succ])
            refine wpAnyH_ready (rs := [16, 20]) (by kernel_rfl) (by simp) ?_
            refine AllReadyH.cons (o := { dst := some 54, op := _, type := _, pos := _, after := _, guard := _ }) rfl (fun K hK => ?_) (AllReadyH.cons (o := { dst := some 9, op := _, type := _, pos := _, after := _, guard := _ }) rfl (fun K hK => ?_) (AllReadyH.nil))
            ·
              go_simp
              refine hK.out _ _ ⟨(hch0.alloc _).cell1 lF gF c0, (hch0.alloc _).cell1 lP gP ca, (hch0.alloc _).cell1 lP gP cb⟩ (fun hHeld => ?_)
              clear hK K; (try simp only [Act.put, List.setIfInBounds_toArray, List.set_cons_zero, List.set_cons_succ])
              generalize hV : (World.alloc w6 (.cells #[.int .i64 0, .int .i64 1, .int .i64 16, .int .i64 20, .int .i64 30] 3)).drew = v1
              have hch1 : Chg g (g + 1) w6.drew v1 := by subst hV; exact hch0.alloc _
              have hcu1 : Cur v1 g := by subst hV; exact hcu0.below ((Below.refl _ _).alloc (Nat.le_refl _) _) hcu0.lt
              have BS : EInt.AS v1 w6.heap.size (w6.heap.size + 1) (some ⟨w6.heap.size, 0, none⟩) [0, 1, 16, 20, 30] := by subst hV; exact (ints_lit w6.drew [0, 1, 16, 20, 30] (by decide)).read.as
              obtain ⟨lbs0, hlbs⟩ : ∃ m, m = w6.heap.size := ⟨_, rfl⟩
              have lbs : lbs0 < v1.heap.size := by subst hV; rw [hlbs]; simp
              have gbs : g + 1 ≤ lbs0 := by rw [hlbs]; exact hcu0.lt
              rw [← hlbs] at BS ⊢
              clear hV hlbs hch0 hcu0
              refine wpAnyH_ready (rs := [17, 20]) (by kernel_rfl) (by simp) ?_
              refine AllReadyH.cons (o := { dst := some 55, op := _, type := _, pos := _, after := _, guard := _ }) rfl (fun K hK => ?_) (AllReadyH.cons (o := { dst := some 9, op := _, type := _, pos := _, after := _, guard := _ }) rfl (fun K hK => ?_) (AllReadyH.nil))
              ·
                go_simp
                (go_at_call 208; refine (l01Int_any g (some ⟨lbs0, 0, none⟩) 5 lbs0 (lbs0 + 1) [0, 1, 16, 20, 30] _ hcu1 BS (by omega) (.inr gbs) (by decide) (by decide)).mono ?_; rintro e v2 ⟨yy, hyy, rfl, hcu2, hchq, hsq⟩)
                have hch2 := hch1.trans hchq
                try go_wp2_with fail
                refine hK.out _ _ ⟨hch2.cell1 lF gF c0, hch2.cell1 lP gP ca, hch2.cell1 lP gP cb⟩ (fun hHeld => ?_)
                clear hK K; (try simp only [Act.put, List.setIfInBounds_toArray, List.set_cons_zero, List.set_cons_succ])
                clear hchq hsq hch1 hcu1 BS
                refine wpAnyH_take (i := 18) (oi := { dst := some 56, op := _, type := _, pos := _, after := _, guard := _ }) (v := ?_) rfl (by kernel_rfl) (by kernel_rfl) (by kernel_rfl) (fun _ _ _ h => h) (Or.inl ⟨by rfl, ?_⟩) (by assumption) ?_; rotate_left; (intro w hSw; (try dsimp only at hSw); go_simp); (try with_reducible rfl); (try simp only [Act.put, List.setIfInBounds_toArray, List.set_cons_zero, List.set_cons_succ])
                refine wpAnyH_take (i := 19) (oi := { dst := some 57, op := _, type := _, pos := _, after := _, guard := _ }) (v := ?_) rfl (by kernel_rfl) (by kernel_rfl) (by kernel_rfl) (fun _ _ _ h => h) (Or.inl ⟨by rfl, ?_⟩) (by assumption) ?_; rotate_left; (intro w hSw; (try dsimp only at hSw); go_simp); (try with_reducible rfl); (try simp only [Act.put, List.setIfInBounds_toArray, List.set_cons_zero, List.set_cons_succ])
                refine wpAnyH_ready (rs := [20]) (by kernel_rfl) (by simp) ?_
                refine AllReadyH.cons (o := { dst := some 9, op := _, type := _, pos := _, after := _, guard := _ }) rfl (fun K hK => ?_) (AllReadyH.nil)
                go_simp
                refine hK.out _ _ ⟨(hch2.alloc _).cell1 lF gF c0, (hch2.alloc _).cell1 lP gP ca, (hch2.alloc _).cell1 lP gP cb⟩ (fun hHeld => ?_)
                clear hK K; (try simp only [Act.put, List.setIfInBounds_toArray, List.set_cons_zero, List.set_cons_succ])
                generalize hV : World.alloc v2 (.cells #[.int .i64 0, .int .i64 0, .int .i64 0, .int .i64 0] 179) = v3
                have hch3 : Chg g (g + 1) w6.drew v3 := by subst hV; exact hch2.alloc _
                have hcu3 : Cur v3 g := by subst hV; exact hcu2.below ((Below.refl _ _).alloc (Nat.le_refl _) _) hcu2.lt
                have U : Blk v3 v2.heap.size 179 #[.int .i64 0, .int .i64 0, .int .i64 0, .int .i64 0] := by subst hV; exact Blk.new _ rfl
                have zu : w6.heap.size ≤ v2.heap.size := hch2.size
                clear hV hch2 hcu2
                refine wpAnyH_ready (rs := [21]) (by kernel_rfl) (by simp) ?_
                refine AllReadyH.cons (o := { dst := none, op := _, type := _, pos := _, after := _, guard := _ }) rfl (fun K hK => ?_) (AllReadyH.nil)
                have u0 := U.cell (i := 0) rfl; have f0 := U.free 0; have u1 := U.cell (i := 1) rfl; have f1 := U.free 1; have u2 := U.cell (i := 2) rfl; have f2 := U.free 2; have u3 := U.cell (i := 3) rfl; have f3 := U.free 3; have lU := U.lt
                go_simp
                refine hK.out _ _ ⟨(hch3.then_below (by (with_reducible repeat' first | exact Below.refl _ _ | assumption | (refine Below.setCell ?_ (by first | omega | (simp; omega) | (simp; done) | (dsimp only; omega)) _) | (refine Below.alloc ?_ (by first | omega | (simp; omega) | (simp; done) | (dsimp only; omega)) _) | (refine below_drewN ?_ _) | (refine Below.drew ?_)) : Below w6.heap.size v3 _) (Nat.le_refl _)).cell1 lF gF c0, (hch3.then_below (by (with_reducible repeat' first | exact Below.refl _ _ | assumption | (refine Below.setCell ?_ (by first | omega | (simp; omega) | (simp; done) | (dsimp only; omega)) _) | (refine Below.alloc ?_ (by first | omega | (simp; omega) | (simp; done) | (dsimp only; omega)) _) | (refine below_drewN ?_ _) | (refine Below.drew ?_)) : Below w6.heap.size v3 _) (Nat.le_refl _)).cell1 lP gP ca, (hch3.then_below (by (with_reducible repeat' first | exact Below.refl _ _ | assumption | (refine Below.setCell ?_ (by first | omega | (simp; omega) | (simp; done) | (dsimp only; omega)) _) | (refine Below.alloc ?_ (by first | omega | (simp; omega) | (simp; done) | (dsimp only; omega)) _) | (refine below_drewN ?_ _) | (refine Below.drew ?_)) : Below w6.heap.size v3 _) (Nat.le_refl _)).cell1 lP gP cb⟩ (fun hHeld => ?_)
                clear hK K; (try simp only [Act.put, List.setIfInBounds_toArray, List.set_cons_zero, List.set_cons_succ])
                refine wpAnyH_done (by kernel_rfl) ?_ _
                go_wp2_with fail
                go_meet
                exact ⟨_, _, rfl, zu, ((((U.set 0 _).set 1 _).set 2 _).set 3 _), hcu3.below (by (with_reducible repeat' first | exact Below.refl _ _ | assumption | (refine Below.setCell ?_ (by first | omega | (simp; omega) | (simp; done) | (dsimp only; omega)) _) | (refine Below.alloc ?_ (by first | omega | (simp; omega) | (simp; done) | (dsimp only; omega)) _) | (refine below_drewN ?_ _) | (refine Below.drew ?_)) : Below w6.heap.size v3 _) (by have := w6c.lt; omega), (undrewT hch3).then_below (by (with_reducible repeat' first | exact Below.refl _ _ | assumption | (refine Below.setCell ?_ (by first | omega | (simp; omega) | (simp; done) | (dsimp only; omega)) _) | (refine Below.alloc ?_ (by first | omega | (simp; omega) | (simp; done) | (dsimp only; omega)) _) | (refine below_drewN ?_ _) | (refine Below.drew ?_)) : Below w6.heap.size v3 _) (Nat.le_refl _)⟩
              ·
                go_simp
                refine hK.out _ _ ⟨(hch1.alloc _).cell1 lF gF c0, (hch1.alloc _).cell1 lP gP ca, (hch1.alloc _).cell1 lP gP cb⟩ (fun hHeld => ?_)
                clear hK K; (try simp only [Act.put, List.setIfInBounds_toArray, List.set_cons_zero, List.set_cons_succ])
                generalize hV : World.alloc v1 (.cells #[.int .i64 0, .int .i64 0, .int .i64 0, .int .i64 0] 179) = v2
                have hch2 : Chg g (g + 1) w6.drew v2 := by subst hV; exact hch1.alloc _
                have hcu2 : Cur v2 g := by subst hV; exact hcu1.below ((Below.refl _ _).alloc (Nat.le_refl _) _) hcu1.lt
                have U : Blk v2 v1.heap.size 179 #[.int .i64 0, .int .i64 0, .int .i64 0, .int .i64 0] := by subst hV; exact Blk.new _ rfl
                have zu : w6.heap.size ≤ v1.heap.size := hch1.size
                replace BS : EInt.AS v2 lbs0 (lbs0 + 1) (some ⟨lbs0, 0, none⟩) [0, 1, 16, 20, 30] := by subst hV; exact BS.same (Same.alloc (Same.refl _ _ _) (by omega) _)
                have lbs1 : lbs0 < v2.heap.size := by subst hV; simp; omega
                clear hV hch1 hcu1
                refine wpAnyH_ready (rs := [17]) (by kernel_rfl) (by simp) ?_
                refine AllReadyH.cons (o := { dst := some 55, op := _, type := _, pos := _, after := _, guard := _ }) rfl (fun K hK => ?_) (AllReadyH.nil)
                go_simp
                (go_at_call 208; refine (l01Int_any g (some ⟨lbs0, 0, none⟩) 5 lbs0 (lbs0 + 1) [0, 1, 16, 20, 30] _ hcu2 BS (by omega) (.inr gbs) (by decide) (by decide)).mono ?_; rintro e v3 ⟨yy, hyy, rfl, hcu3, hchq, hsq⟩)
                have hch3 := hch2.trans hchq
                replace U := U.chg hchq (.inr (by have := hcu2.lt; omega))
                try go_wp2_with fail
                refine hK.out _ _ ⟨hch3.cell1 lF gF c0, hch3.cell1 lP gP ca, hch3.cell1 lP gP cb⟩ (fun hHeld => ?_)
                clear hK K; (try simp only [Act.put, List.setIfInBounds_toArray, List.set_cons_zero, List.set_cons_succ])
                clear hchq hsq hch2 hcu2 BS
                refine wpAnyH_take (i := 18) (oi := { dst := some 56, op := _, type := _, pos := _, after := _, guard := _ }) (v := ?_) rfl (by kernel_rfl) (by kernel_rfl) (by kernel_rfl) (fun _ _ _ h => h) (Or.inl ⟨by rfl, ?_⟩) (by assumption) ?_; rotate_left; (intro w hSw; (try dsimp only at hSw); go_simp); (try with_reducible rfl); (try simp only [Act.put, List.setIfInBounds_toArray, List.set_cons_zero, List.set_cons_succ])
                refine wpAnyH_take (i := 19) (oi := { dst := some 57, op := _, type := _, pos := _, after := _, guard := _ }) (v := ?_) rfl (by kernel_rfl) (by kernel_rfl) (by kernel_rfl) (fun _ _ _ h => h) (Or.inl ⟨by rfl, ?_⟩) (by assumption) ?_; rotate_left; (intro w hSw; (try dsimp only at hSw); go_simp); (try with_reducible rfl); (try simp only [Act.put, List.setIfInBounds_toArray, List.set_cons_zero, List.set_cons_succ])
                refine wpAnyH_ready (rs := [21]) (by kernel_rfl) (by simp) ?_
                refine AllReadyH.cons (o := { dst := none, op := _, type := _, pos := _, after := _, guard := _ }) rfl (fun K hK => ?_) (AllReadyH.nil)
                have u0 := U.cell (i := 0) rfl; have f0 := U.free 0; have u1 := U.cell (i := 1) rfl; have f1 := U.free 1; have u2 := U.cell (i := 2) rfl; have f2 := U.free 2; have u3 := U.cell (i := 3) rfl; have f3 := U.free 3; have lU := U.lt
                go_simp
                refine hK.out _ _ ⟨(hch3.then_below (by (with_reducible repeat' first | exact Below.refl _ _ | assumption | (refine Below.setCell ?_ (by first | omega | (simp; omega) | (simp; done) | (dsimp only; omega)) _) | (refine Below.alloc ?_ (by first | omega | (simp; omega) | (simp; done) | (dsimp only; omega)) _) | (refine below_drewN ?_ _) | (refine Below.drew ?_)) : Below w6.heap.size v3 _) (Nat.le_refl _)).cell1 lF gF c0, (hch3.then_below (by (with_reducible repeat' first | exact Below.refl _ _ | assumption | (refine Below.setCell ?_ (by first | omega | (simp; omega) | (simp; done) | (dsimp only; omega)) _) | (refine Below.alloc ?_ (by first | omega | (simp; omega) | (simp; done) | (dsimp only; omega)) _) | (refine below_drewN ?_ _) | (refine Below.drew ?_)) : Below w6.heap.size v3 _) (Nat.le_refl _)).cell1 lP gP ca, (hch3.then_below (by (with_reducible repeat' first | exact Below.refl _ _ | assumption | (refine Below.setCell ?_ (by first | omega | (simp; omega) | (simp; done) | (dsimp only; omega)) _) | (refine Below.alloc ?_ (by first | omega | (simp; omega) | (simp; done) | (dsimp only; omega)) _) | (refine below_drewN ?_ _) | (refine Below.drew ?_)) : Below w6.heap.size v3 _) (Nat.le_refl _)).cell1 lP gP cb⟩ (fun hHeld => ?_)
                clear hK K; (try simp only [Act.put, List.setIfInBounds_toArray, List.set_cons_zero, List.set_cons_succ])
                refine wpAnyH_done (by kernel_rfl) ?_ _
                go_wp2_with fail
                go_meet
                exact ⟨_, _, rfl, zu, ((((U.set 0 _).set 1 _).set 2 _).set 3 _), hcu3.below (by (with_reducible repeat' first | exact Below.refl _ _ | assumption | (refine Below.setCell ?_ (by first | omega | (simp; omega) | (simp; done) | (dsimp only; omega)) _) | (refine Below.alloc ?_ (by first | omega | (simp; omega) | (simp; done) | (dsimp only; omega)) _) | (refine below_drewN ?_ _) | (refine Below.drew ?_)) : Below w6.heap.size v3 _) (by have := w6c.lt; omega), (undrewT hch3).then_below (by (with_reducible repeat' first | exact Below.refl _ _ | assumption | (refine Below.setCell ?_ (by first | omega | (simp; omega) | (simp; done) | (dsimp only; omega)) _) | (refine Below.alloc ?_ (by first | omega | (simp; omega) | (simp; done) | (dsimp only; omega)) _) | (refine below_drewN ?_ _) | (refine Below.drew ?_)) : Below w6.heap.size v3 _) (Nat.le_refl _)⟩
            ·
              go_simp
              refine hK.out _ _ ⟨(hch0.alloc _).cell1 lF gF c0, (hch0.alloc _).cell1 lP gP ca, (hch0.alloc _).cell1 lP gP cb⟩ (fun hHeld => ?_)
              clear hK K; (try simp only [Act.put, List.setIfInBounds_toArray, List.set_cons_zero, List.set_cons_succ])
              generalize hV : (World.alloc w6 (.cells #[.int .i64 0, .int .i64 0, .int .i64 0, .int .i64 0] 179)).drew = v1
              have hch1 : Chg g (g + 1) w6.drew v1 := by subst hV; exact hch0.alloc _
              have hcu1 : Cur v1 g := by subst hV; exact hcu0.below ((Below.refl _ _).alloc (Nat.le_refl _) _) hcu0.lt
              have U : Blk v1 w6.heap.size 179 #[.int .i64 0, .int .i64 0, .int .i64 0, .int .i64 0] := by subst hV; exact Blk.new _ rfl
              have zu : w6.heap.size ≤ w6.heap.size := hch0.size
              clear hV hch0 hcu0
              refine wpAnyH_ready (rs := [16]) (by kernel_rfl) (by simp) ?_
              refine AllReadyH.cons (o := { dst := some 54, op := _, type := _, pos := _, after := _, guard := _ }) rfl (fun K hK => ?_) (AllReadyH.nil)
              go_simp
              refine hK.out _ _ ⟨(hch1.alloc _).cell1 lF gF c0, (hch1.alloc _).cell1 lP gP ca, (hch1.alloc _).cell1 lP gP cb⟩ (fun hHeld => ?_)
              clear hK K; (try simp only [Act.put, List.setIfInBounds_toArray, List.set_cons_zero, List.set_cons_succ])
              generalize hV : World.alloc v1 (.cells #[.int .i64 0, .int .i64 1, .int .i64 16, .int .i64 20, .int .i64 30] 3) = v2
              have hch2 : Chg g (g + 1) w6.drew v2 := by subst hV; exact hch1.alloc _
              have hcu2 : Cur v2 g := by subst hV; exact hcu1.below ((Below.refl _ _).alloc (Nat.le_refl _) _) hcu1.lt
              have BS : EInt.AS v2 v1.heap.size (v1.heap.size + 1) (some ⟨v1.heap.size, 0, none⟩) [0, 1, 16, 20, 30] := by subst hV; exact (ints_lit v1 [0, 1, 16, 20, 30] (by decide)).read.as
              obtain ⟨lbs0, hlbs⟩ : ∃ m, m = v1.heap.size := ⟨_, rfl⟩
              have lbs : lbs0 < v2.heap.size := by subst hV; rw [hlbs]; simp
              have gbs : g + 1 ≤ lbs0 := by rw [hlbs]; exact hcu1.lt
              rw [← hlbs] at BS ⊢
              replace U := (show Blk v2 _ _ _ by subst hV; exact U.alloc _)
              clear hV hlbs hch1 hcu1
              refine wpAnyH_ready (rs := [17]) (by kernel_rfl) (by simp) ?_
              refine AllReadyH.cons (o := { dst := some 55, op := _, type := _, pos := _, after := _, guard := _ }) rfl (fun K hK => ?_) (AllReadyH.nil)
              go_simp
              (go_at_call 208; refine (l01Int_any g (some ⟨lbs0, 0, none⟩) 5 lbs0 (lbs0 + 1) [0, 1, 16, 20, 30] _ hcu2 BS (by omega) (.inr gbs) (by decide) (by decide)).mono ?_; rintro e v3 ⟨yy, hyy, rfl, hcu3, hchq, hsq⟩)
              have hch3 := hch2.trans hchq
              replace U := U.chg hchq (.inr (by have := hcu2.lt; omega))
              try go_wp2_with fail
              refine hK.out _ _ ⟨hch3.cell1 lF gF c0, hch3.cell1 lP gP ca, hch3.cell1 lP gP cb⟩ (fun hHeld => ?_)
              clear hK K; (try simp only [Act.put, List.setIfInBounds_toArray, List.set_cons_zero, List.set_cons_succ])
              clear hchq hsq hch2 hcu2 BS
              refine wpAnyH_take (i := 18) (oi := { dst := some 56, op := _, type := _, pos := _, after := _, guard := _ }) (v := ?_) rfl (by kernel_rfl) (by kernel_rfl) (by kernel_rfl) (fun _ _ _ h => h) (Or.inl ⟨by rfl, ?_⟩) (by assumption) ?_; rotate_left; (intro w hSw; (try dsimp only at hSw); go_simp); (try with_reducible rfl); (try simp only [Act.put, List.setIfInBounds_toArray, List.set_cons_zero, List.set_cons_succ])
              refine wpAnyH_take (i := 19) (oi := { dst := some 57, op := _, type := _, pos := _, after := _, guard := _ }) (v := ?_) rfl (by kernel_rfl) (by kernel_rfl) (by kernel_rfl) (fun _ _ _ h => h) (Or.inl ⟨by rfl, ?_⟩) (by assumption) ?_; rotate_left; (intro w hSw; (try dsimp only at hSw); go_simp); (try with_reducible rfl); (try simp only [Act.put, List.setIfInBounds_toArray, List.set_cons_zero, List.set_cons_succ])
              refine wpAnyH_ready (rs := [21]) (by kernel_rfl) (by simp) ?_
              refine AllReadyH.cons (o := { dst := none, op := _, type := _, pos := _, after := _, guard := _ }) rfl (fun K hK => ?_) (AllReadyH.nil)
              have u0 := U.cell (i := 0) rfl; have f0 := U.free 0; have u1 := U.cell (i := 1) rfl; have f1 := U.free 1; have u2 := U.cell (i := 2) rfl; have f2 := U.free 2; have u3 := U.cell (i := 3) rfl; have f3 := U.free 3; have lU := U.lt
              go_simp
              refine hK.out _ _ ⟨(hch3.then_below (by (with_reducible repeat' first | exact Below.refl _ _ | assumption | (refine Below.setCell ?_ (by first | omega | (simp; omega) | (simp; done) | (dsimp only; omega)) _) | (refine Below.alloc ?_ (by first | omega | (simp; omega) | (simp; done) | (dsimp only; omega)) _) | (refine below_drewN ?_ _) | (refine Below.drew ?_)) : Below w6.heap.size v3 _) (Nat.le_refl _)).cell1 lF gF c0, (hch3.then_below (by (with_reducible repeat' first | exact Below.refl _ _ | assumption | (refine Below.setCell ?_ (by first | omega | (simp; omega) | (simp; done) | (dsimp only; omega)) _) | (refine Below.alloc ?_ (by first | omega | (simp; omega) | (simp; done) | (dsimp only; omega)) _) | (refine below_drewN ?_ _) | (refine Below.drew ?_)) : Below w6.heap.size v3 _) (Nat.le_refl _)).cell1 lP gP ca, (hch3.then_below (by (with_reducible repeat' first | exact Below.refl _ _ | assumption | (refine Below.setCell ?_ (by first | omega | (simp; omega) | (simp; done) | (dsimp only; omega)) _) | (refine Below.alloc ?_ (by first | omega | (simp; omega) | (simp; done) | (dsimp only; omega)) _) | (refine below_drewN ?_ _) | (refine Below.drew ?_)) : Below w6.heap.size v3 _) (Nat.le_refl _)).cell1 lP gP cb⟩ (fun hHeld => ?_)
              clear hK K; (try simp only [Act.put, List.setIfInBounds_toArray, List.set_cons_zero, List.set_cons_succ])
              refine wpAnyH_done (by kernel_rfl) ?_ _
              go_wp2_with fail
              go_meet
              exact ⟨_, _, rfl, zu, ((((U.set 0 _).set 1 _).set 2 _).set 3 _), hcu3.below (by (with_reducible repeat' first | exact Below.refl _ _ | assumption | (refine Below.setCell ?_ (by first | omega | (simp; omega) | (simp; done) | (dsimp only; omega)) _) | (refine Below.alloc ?_ (by first | omega | (simp; omega) | (simp; done) | (dsimp only; omega)) _) | (refine below_drewN ?_ _) | (refine Below.drew ?_)) : Below w6.heap.size v3 _) (by have := w6c.lt; omega), (undrewT hch3).then_below (by (with_reducible repeat' first | exact Below.refl _ _ | assumption | (refine Below.setCell ?_ (by first | omega | (simp; omega) | (simp; done) | (dsimp only; omega)) _) | (refine Below.alloc ?_ (by first | omega | (simp; omega) | (simp; done) | (dsimp only; omega)) _) | (refine below_drewN ?_ _) | (refine Below.drew ?_)) : Below w6.heap.size v3 _) (Nat.le_refl _)⟩
          case rest =>
            obtain ⟨ub, fr, rfl, hub, U, hcu, hch⟩ := hcut
            have h69 := hch
            go_upto_if 59 with (go_at_call 171; refine (l01Once_any g 4 _ hcu (by omega) (by omega)).mono ?_; rintro e w9 ⟨x, rfl, hcu9, hchq, hsq⟩)
            have U9 := U.chg hchq (.inr (by have := hcu.lt; omega))
            replace h69 := h69.trans hchq
            clear hchq hch hcu U hsq
            go_cut [] from 20 to 77 (fun wc => ∃ (f t : Int), Blk wc ub 179 #[.int .i64 a, .int .i64 b, .int .i64 f, .int .i64 t] ∧ Cur wc g ∧ Chg g (g + 1) w6 wc)
            case first =>
              cases x with
              | false =>
                go_wp2
                go_meet
                exact ⟨_, _, U9, hcu9, h69⟩
              | true =>
                go_upto_region 10 with fail
                have cu := U9.cell (i := 2) rfl
                have lU : ub < w9.drew.heap.size := U9.lt
                have gU : ub < g ∨ g + 1 ≤ ub := .inr (by have := Q6.cur.lt; omega)
                have hch0 : Chg g (g + 1) w9.drew w9.drew := Chg.refl _ _ _
                have hcu0 : Cur w9.drew g := hcu9.drew
                refine wp_region_held_drew (S := fun w' => w'.cell? ⟨ub, 2, none⟩ = some (.int .i64 fr)) (by kernel_rfl) cu (fun hHeld => ?_)
                refine wpAnyH_take (i := 0) (oi := { dst := some 60, op := _, type := _, pos := _, after := _, guard := _ }) (v := ?_) rfl (by kernel_rfl) (by kernel_rfl) (by kernel_rfl) (fun _ _ _ h => h) (Or.inl ⟨by rfl, ?_⟩) (by assumption) ?_; rotate_left; (intro w hSw; (try dsimp only at hSw); go_simp); (try with_reducible rfl); (try simp only [Act.put, List.setIfInBounds_toArray, List.set_cons_zero, List.set_cons_succ])
                refine wpAnyH_take (i := 1) (oi := { dst := some 61, op := _, type := _, pos := _, after := _, guard := _ }) (v := ?_) rfl (by kernel_rfl) (by kernel_rfl) (by kernel_rfl) (fun _ _ _ h => h) (Or.inl ⟨by rfl, ?_⟩) (by assumption) ?_; rotate_left; (intro w hSw; (try dsimp only at hSw); go_simp); (try with_reducible rfl); (try simp only [Act.put, List.setIfInBounds_toArray, List.set_cons_zero, List.set_cons_succ])
                refine wpAnyH_take (i := 2) (oi := { dst := some 62, op := _, type := _, pos := _, after := _, guard := _ }) (v := ?_) rfl (by kernel_rfl) (by kernel_rfl) (by kernel_rfl) (fun _ _ _ h => h) (Or.inl ⟨by rfl, ?_⟩) (by assumption) ?_; rotate_left; (intro w hSw; (try dsimp only at hSw); go_simp); (try with_reducible rfl); (try simp only [Act.put, List.setIfInBounds_toArray, List.set_cons_zero, List.set_cons_succ])
                refine wpAnyH_ready (rs := [3]) (by kernel_rfl) (by simp) ?_
                refine AllReadyH.cons (o := { dst := some 63, op := _, type := _, pos := _, after := _, guard := _ }) rfl (fun K hK => ?_) (AllReadyH.nil)
                go_simp
                refine hK.out _ _ ((hch0.alloc _).cell1 lU gU cu) (fun hHeld => ?_)
                clear hK K; (try simp only [Act.put, List.setIfInBounds_toArray, List.set_cons_zero, List.set_cons_succ])
                generalize hV : (World.alloc w9 (.cells #[.int .i64 0, .int .i64 1, .int .i64 9] 3)).drew = v1
                have hch1 : Chg g (g + 1) w9.drew v1 := by subst hV; exact hch0.alloc _
                have hcu1 : Cur v1 g := by subst hV; exact hcu0.below ((Below.refl _ _).alloc (Nat.le_refl _) _) hcu0.lt
                have BS : EInt.AS v1 w9.heap.size (w9.heap.size + 1) (some ⟨w9.heap.size, 0, none⟩) [0, 1, 9] := by subst hV; exact (ints_lit w9.drew [0, 1, 9] (by decide)).read.as
                obtain ⟨lbs0, hlbs⟩ : ∃ m, m = w9.heap.size := ⟨_, rfl⟩
                have lbs : lbs0 < v1.heap.size := by subst hV; rw [hlbs]; simp
                have gbs : g + 1 ≤ lbs0 := by rw [hlbs]; exact hcu0.lt
                rw [← hlbs] at BS ⊢
                clear hV hch0 hcu0 hlbs
                refine wpAnyH_ready (rs := [4]) (by kernel_rfl) (by simp) ?_
                refine AllReadyH.cons (o := { dst := some 64, op := _, type := _, pos := _, after := _, guard := _ }) rfl (fun K hK => ?_) (AllReadyH.nil)
                go_simp
                (go_at_call 208; refine (l01Int_any g (some ⟨lbs0, 0, none⟩) 3 lbs0 (lbs0 + 1) [0, 1, 9] _ hcu1 BS (by omega) (.inr gbs) (by decide) (by decide)).mono ?_; rintro e v2 ⟨yy, hyy, rfl, hcu2, hchq, hsq⟩)
                have hch2 := hch1.trans hchq
                try go_wp2_with fail
                refine hK.out _ _ (hch2.cell1 lU gU cu) (fun hHeld => ?_)
                clear hK K; (try simp only [Act.put, List.setIfInBounds_toArray, List.set_cons_zero, List.set_cons_succ])
                clear hchq hsq hch1 hcu1 BS
                refine wpAnyH_take (i := 5) (oi := { dst := some 65, op := _, type := _, pos := _, after := _, guard := _ }) (v := ?_) rfl (by kernel_rfl) (by kernel_rfl) (by kernel_rfl) (fun _ _ _ h => h) (Or.inl ⟨by rfl, ?_⟩) (by assumption) ?_; rotate_left; (intro w hSw; (try dsimp only at hSw); go_simp); (try with_reducible rfl); (try simp only [Act.put, List.setIfInBounds_toArray, List.set_cons_zero, List.set_cons_succ])
                refine wpAnyH_take (i := 6) (oi := { dst := some 66, op := _, type := _, pos := _, after := _, guard := _ }) (v := ?_) rfl (by kernel_rfl) (by kernel_rfl) (by kernel_rfl) (fun _ _ _ h => h) (Or.inl ⟨by rfl, ?_⟩) (by assumption) ?_; rotate_left; (intro w hSw; (try dsimp only at hSw); go_simp); (try with_reducible rfl); (try simp only [Act.put, List.setIfInBounds_toArray, List.set_cons_zero, List.set_cons_succ])
                refine wpAnyH_ready (rs := [7]) (by kernel_rfl) (by simp) ?_
                refine AllReadyH.cons (o := { dst := none, op := _, type := _, pos := _, after := _, guard := _ }) rfl (fun K hK => ?_) (AllReadyH.nil)
                have U2 := U9.drew.chg hch2 gU
                have u3 := U2.cell (i := 3) rfl; have f3 := U2.free 3; have lU2 := U2.lt
                go_simp
                refine hK.out _ _ ((World.cell?_setCell_other _ _ _ _ (by simp)).trans (hch2.cell1 lU gU cu)) (fun hHeld => ?_)
                clear hK K; (try simp only [Act.put, List.setIfInBounds_toArray, List.set_cons_zero, List.set_cons_succ])
                refine wpAnyH_done (by kernel_rfl) ?_ _
                go_wp2_with fail
                go_meet
                exact ⟨_, _, U2.set 3 _, hcu2.below (by (with_reducible repeat' first | exact Below.refl _ _ | assumption | (refine Below.setCell ?_ (by first | omega | (simp; omega) | (simp; done) | (dsimp only; omega)) _) | (refine Below.alloc ?_ (by first | omega | (simp; omega) | (simp; done) | (dsimp only; omega)) _) | (refine below_drewN ?_ _) | (refine Below.drew ?_)) : Below w6.heap.size v2 _) (by omega), (h69.trans (undrewT hch2)).then_below (by (with_reducible repeat' first | exact Below.refl _ _ | assumption | (refine Below.setCell ?_ (by first | omega | (simp; omega) | (simp; done) | (dsimp only; omega)) _) | (refine Below.alloc ?_ (by first | omega | (simp; omega) | (simp; done) | (dsimp only; omega)) _) | (refine below_drewN ?_ _) | (refine Below.drew ?_)) : Below w6.heap.size v2 _) (Nat.le_refl _)⟩
            case rest =>
              obtain ⟨f, t, U10, hcu10, hch10⟩ := hcut
              have Q10 := Q6.next hch10 hcu10
              clear Q6 U9 hcu9 h69 hch10 hcu10
              have e0 := Q10.fam.cell (i := 0) rfl; have e1 := Q10.fam.cell (i := 1) rfl
              have zz10 := Q10.size; have zd10 := Q10.dlo
              have lub := U10.lt
              have hzl : zs.length ≤ 120 := by omega
              have hcopy := l1Copy_any A3 B3 c3 d3 lo wc.heap.size xs zs wc Q10.own.read.as Q10.uni.read.as (Nat.le_refl _) (by omega) (by omega)
              go_upto_region 12 with (go_at_call 226; (with_reducible refine hcopy.mono ?_); rintro e w11 ⟨A4, c4, B4, d4, rfl, o4, u4, hb11⟩)
              generalize hV : World.alloc w11 (.cells #[.slice A4 xs.length c4, .slice B4 zs.length d4] 26) = W11
              have z11 := hb11.size
              have G : Blk W11 w11.heap.size 26 #[.slice A4 xs.length c4, .slice B4 zs.length d4] := by subst hV; exact Blk.new _ rfl
              have hbV : Below wc.heap.size wc W11 := by subst hV; exact hb11.alloc z11 _
              have o4' : EPerson.OS W11 wc.heap.size w11.heap.size (.slice A4 xs.length c4) xs := by subst hV; exact o4.same (by (with_reducible repeat' first | exact Same.refl _ _ _ | assumption | (refine Same.setCell ?_ (by first | omega | (simp; omega) | (simp; done) | (dsimp only; omega)) _) | (refine Same.alloc ?_ (by first | omega | (simp; omega) | (simp; done) | (dsimp only; omega)) _) | (refine Same.drewN ?_ _) | (refine Same.drew ?_)))
              have u4' : EUnion.OS W11 wc.heap.size w11.heap.size (.slice B4 zs.length d4) zs := by subst hV; exact u4.same (by (with_reducible repeat' first | exact Same.refl _ _ _ | assumption | (refine Same.setCell ?_ (by first | omega | (simp; omega) | (simp; done) | (dsimp only; omega)) _) | (refine Same.alloc ?_ (by first | omega | (simp; omega) | (simp; done) | (dsimp only; omega)) _) | (refine Same.drewN ?_ _) | (refine Same.drew ?_)))
              have zV : w11.heap.size < W11.heap.size := by subst hV; simp
              clear hV hcopy o4 u4 hb11 e0 e1
              have UV := U10.below hbV lub
              have g0 := G.cell (i := 0) rfl; have g1 := G.cell (i := 1) rfl; have k1 := G.free 1
              have u0 := UV.cell (i := 0) rfl; have u1 := UV.cell (i := 1) rfl; have u2 := UV.cell (i := 2) rfl; have u3 := UV.cell (i := 3) rfl
              have lUV := UV.lt
              go_upto_region 13 with (at_builtin; refine wpList_app1 tyUnionS B4 zs ⟨a, b, f, t⟩ (vsUnion ⟨a, b, f, t⟩) ⟨W11.heap.size, 0, none⟩ 1 (lo := wc.heap.size) (hi := w11.heap.size) (u4'.same (by (with_reducible repeat' first | exact Same.refl _ _ _ | assumption | (refine Same.setCell ?_ (by first | omega | (simp; omega) | (simp; done) | (dsimp only; omega)) _) | (refine Same.alloc ?_ (by first | omega | (simp; omega) | (simp; done) | (dsimp only; omega)) _) | (refine Same.drewN ?_ _) | (refine Same.drew ?_)))) rfl (by (first | omega | (simp; omega) | (simp; done) | (dsimp only; omega))) z11 (rfl : vsUnion _ = _) _ _ rfl rfl rfl rfl (cell_row_at _ _ _ _ (by simp)) (flatUnion.one _) (by omega) (by decide) (fun A' c' w12 ou hg12 hc12 hm12 => ?_); have lG := G.grown' hg12 (fun e => by have := (u4'.blkv _ e.symm).2; omega); replace g0 := lG.cell (i := 0) rfl; replace g1 := lG.cell (i := 1) rfl; replace k1 := lG.free 1)
              generalize hV : w12.setCell ⟨w11.heap.size, 1, none⟩ (.slice A' (zs.length + 1) c') = W12
              have z12 := hg12.size
              simp only [szs] at z12
              have hb12 : Below wc.heap.size W11 w12 := Below.grown (w := World.alloc _ _) ((Below.refl _ _).alloc (by omega) _) hg12 (by simp; omega) (fun k hk => (u4'.blkv k hk).1)
              have hbW : Below wc.heap.size wc W12 := by subst hV; exact (hbV.trans hb12).setCell (by simp; omega) _
              have oW : EPerson.OS W12 wc.heap.size w11.heap.size (.slice A4 xs.length c4) xs := by
                have h1 : EPerson.OS w12 wc.heap.size w11.heap.size (.slice A4 xs.length c4) xs := flat_os.2 ((flat_os.1 o4').loc fun k hk => (hg12.block k (by have := (o4'.blkv k hk).2; simp; omega) (fun e => OSl.ne_type (flat_os.1 u4') (flat_os.1 o4') (by decide) e.symm hk)).trans (Below.heap_alloc _ _ _ (by have := (o4'.blkv k hk).2; omega)))
                subst hV; exact h1.same (by (with_reducible repeat' first | exact Same.refl _ _ _ | assumption | (refine Same.setCell ?_ (by first | omega | (simp; omega) | (simp; done) | (dsimp only; omega)) _) | (refine Same.alloc ?_ (by first | omega | (simp; omega) | (simp; done) | (dsimp only; omega)) _) | (refine Same.drewN ?_ _) | (refine Same.drew ?_)))
              have uW : EUnion.OS W12 wc.heap.size W12.heap.size (.slice A' (zs ++ [(⟨a, b, f, t⟩ : Union)]).length c') (zs ++ [⟨a, b, f, t⟩]) := by
                have h1 := flatUnion.far (i := 1) (u := .slice A' (zs.length + 1) c') ou lG (by decide)
                subst hV; simpa [World.setCell] using h1
              have GW : Blk W12 w11.heap.size 26 #[.slice A4 xs.length c4, .slice A' (zs ++ [(⟨a, b, f, t⟩ : Union)]).length c'] := by
                have h1 := lG.set 1 (.slice A' (zs.length + 1) c')
                subst hV; simpa using h1
              have zW12 : w12.heap.size = W12.heap.size := by subst hV; simp [World.setCell]
              clear hV hg12 lG g0 g1 k1 o4' u4' ou G hb12 UV u0 u1 u2 u3 hbV
              have QW := Q10.next (Chg.of_below' hbW) (Q10.cur.below hbW (by omega))
              obtain ⟨zl, hzl'⟩ : ∃ zl : List Union, zl = zs ++ [⟨a, b, f, t⟩] := ⟨_, rfl⟩
              rw [← hzl'] at uW GW
              have hzn : zl.length = zs.length + 1 := by rw [hzl']; simp
              clear hzl' zW12 Q10
              have HZ := Lib.hid hzn; clear hzn
              have g0 := GW.cell (i := 0) rfl; have g1 := GW.cell (i := 1) rfl
              have zzW := QW.size; have zdW := QW.dlo
              have lGW := GW.lt
              have hfam := specIsFamily_any A4 A' c4 c' wc.heap.size W12.heap.size xs zl W12 ((oW.mono (Nat.le_refl _) (by omega)).read.as) uW.read.as (Nat.le_refl _) (by omega)
              generalize famOk xs zl = ok at hfam
              go_upto_if 76 with (go_at_call 133; (with_reducible refine hfam.mono ?_); rintro e w13 ⟨rfl, hb13⟩)
              have z13 := hb13.size
              have Q13 := QW.next (Chg.of_below hb13) (QW.cur.below hb13 QW.cur.lt)
              cases ok with
              | false =>
                go_wp2
                exact ⟨⟨k - 1, zs, A3, B3, c3, d3, by congr 1; omega, by omega, Q13⟩, by simp [intOf]; omega⟩
              | true =>
                have G13 := GW.below hb13 lGW
                replace g0 := G13.cell (i := 0) rfl; replace g1 := G13.cell (i := 1) rfl
                have s0 := Q13.fam.cell (i := 0) rfl; have s1 := Q13.fam.cell (i := 1) rfl; have t0 := Q13.fam.free 0; have t1 := Q13.fam.free 1
                have lF := Q13.fam.lt
                have o13 := oW.same (Same.of_below hb13 (by omega))
                have u13 := uW.same (Same.of_below hb13 (Nat.le_refl _))
                clear hfam
                go_wp2
                have hzn := HZ.out
                have hsm : ∀ v1 v2 : Value, Same (w.heap.size + 1) (w13.heap.size + 1) w13 ((w13.setCell ⟨w.heap.size, 0, none⟩ v1).setCell ⟨w.heap.size, 1, none⟩ v2) := fun v1 v2 => by (with_reducible repeat' first | exact Same.refl _ _ _ | assumption | (refine Same.setCell ?_ (by first | omega | (simp; omega) | (simp; done) | (dsimp only; omega)) _) | (refine Same.alloc ?_ (by first | omega | (simp; omega) | (simp; done) | (dsimp only; omega)) _) | (refine Same.drewN ?_ _) | (refine Same.drew ?_))
                have hbl : ∀ v1 v2 : Value, Below w.heap.size w13 ((w13.setCell ⟨w.heap.size, 0, none⟩ v1).setCell ⟨w.heap.size, 1, none⟩ v2) := fun v1 v2 => by (with_reducible repeat' first | exact Below.refl _ _ | assumption | (refine Below.setCell ?_ (by first | omega | (simp; omega) | (simp; done) | (dsimp only; omega)) _) | (refine Below.alloc ?_ (by first | omega | (simp; omega) | (simp; done) | (dsimp only; omega)) _) | (refine below_drewN ?_ _) | (refine Below.drew ?_))
                have hsz : ∀ v1 v2 : Value, ((w13.setCell ⟨w.heap.size, 0, none⟩ v1).setCell ⟨w.heap.size, 1, none⟩ v2).heap.size = w13.heap.size := fun v1 v2 => by simp [World.setCell]
                refine ⟨⟨k - 1, zl, A4, A', c4, c', by congr 1; omega, by omega, { fam := (Q13.fam.set 0 _).set 1 _, res := ?_, own := ?_, uni := ?_, dep := ?_, cur := ?_, chg := Q13.chg.then_below (hbl _ _) (Nat.le_refl _), size := ?_, dlo := ⟨QW.dlo.1, ?_⟩, glt := Q13.glt }⟩, by simp [intOf]; omega⟩
                · exact (Q13.res.far (by simp) _).far (by simp) _
                · exact (o13.same ((hsm _ _).mono (by omega) (by omega))).mono (by omega) (by rw [hsz]; omega)
                · exact (u13.same ((hsm _ _).mono (by omega) (by omega))).mono (by omega) (by rw [hsz]; omega)
                · exact Q13.dep.same ((hsm _ _).mono (by omega) (by omega))
                · exact Q13.cur.below (hbl _ _) (by omega)
                · rw [hsz]; omega
                · rw [hsz]; omega
    · have i1 : ¬ (0 : Int) < (k : Int) := by omega
      have e0 := Q.fam.cell (i := 0) rfl; have e1 := Q.fam.cell (i := 1) rfl
      have r0 := Q.res.cell (i := 0) rfl; have r1 := Q.res.cell (i := 1) rfl; have s0 := Q.res.free 0; have s1 := Q.res.free 1
      have lR := Q.res.lt
      go_wp2
      have RR := (Q.res.set 0 (.slice A3 xs.length c3)).set 1 (.slice B3 zs.length d3)
      have hbl : Below w.heap.size wr ((wr.setCell ⟨w.heap.size + 1, 0, none⟩ (.slice A3 xs.length c3)).setCell ⟨w.heap.size + 1, 1, none⟩ (.slice B3 zs.length d3)) := by (with_reducible repeat' first | exact Below.refl _ _ | assumption | (refine Below.setCell ?_ (by first | omega | (simp; omega) | (simp; done) | (dsimp only; omega)) _) | (refine Below.alloc ?_ (by first | omega | (simp; omega) | (simp; done) | (dsimp only; omega)) _) | (refine below_drewN ?_ _) | (refine Below.drew ?_))
      have hsz : ((wr.setCell ⟨w.heap.size + 1, 0, none⟩ (.slice A3 xs.length c3)).setCell ⟨w.heap.size + 1, 1, none⟩ (.slice B3 zs.length d3)).heap.size = wr.heap.size := by simp [World.setCell]
      have o1 := flatPerson.far (i := 1) (u := .slice B3 zs.length d3) (flatPerson.far (i := 0) (u := .slice A3 xs.length c3) Q.own Q.res (by decide)) (Q.res.set 0 (.slice A3 xs.length c3)) (by decide)
      have o2 := flatUnion.far (i := 1) (u := .slice B3 zs.length d3) (flatUnion.far (i := 0) (u := .slice A3 xs.length c3) Q.uni Q.res (by decide)) (Q.res.set 0 (.slice A3 xs.length c3)) (by decide)
      exact bodyPost_ret (v := .agg #[.slice A3 xs.length c3, .slice B3 zs.length d3]) (by simp [results, Try.results212, go_sem, RR.cell (i := 0) rfl, RR.cell (i := 1) rfl]) rfl ⟨zs, A3, B3, c3, d3, rfl, by rw [hsz]; exact o1, by rw [hsz]; exact o2, by omega, Q.cur.below hbl (by omega), Q.chg.then_below hbl (Nat.le_refl _)⟩
end Go.Proofs.Ytnnjilkjjdiblaa

namespace Go.Proofs.Ytnnjilkjjdiblaa
set_option maxRecDepth 100000
open Go.RowKit

theorem one_person (w : World) (x : Person) : EPerson.OS (w.alloc (.cells (vsPerson x).toArray 99)) w.heap.size (w.alloc (.cells (vsPerson x).toArray 99)).heap.size (.slice (some ⟨w.heap.size, 0, none⟩) 1 1) [x] := by
  have hf : Fill (w.alloc (.cells (vsPerson x).toArray 99)) w.heap.size 99 6 (vsPerson x) 6 := ⟨(vsPerson x).toArray, heap_alloc_new w _, rfl, fun i _ => by simp⟩
  exact flat_os.2 (hf.own (n := 1) (sz := 6) rfl rfl (Nat.le_refl _) (by simp [BIG]))
theorem Before_nil : Before [] := fun k x h => by simp at h
theorem Before_snoc {xs : List Person} {x : Person} (h : Before xs) (h1 : x.father < xs.length) (h2 : x.mother < xs.length) : Before (xs ++ [x]) := fun k y hy => by
  by_cases hk : k < xs.length
  · rw [List.getElem?_append_left hk] at hy; exact h k y hy
  · rw [List.getElem?_append_right (by omega)] at hy
    have hk0 : k - xs.length = 0 := by
      have := (List.getElem?_eq_some_iff.1 hy).1
      simp at this; omega
    rw [hk0] at hy
    simp at hy; subst hy
    omega
theorem Before.set5 {xs : List Person} {j : Nat} {x0 : ByteArray} {x1 x2 x3 x4 x5 : Int} (h : Before xs) (hx : xs[j]? = some ⟨x0, x1, x2, x3, x4, x5⟩) (y : Int) : Before (xs.set j ⟨x0, x1, x2, x3, x4, y⟩) := fun k z hz => by
  by_cases hk : j = k
  · subst hk
    rw [List.getElem?_set_self (List.getElem?_eq_some_iff.1 hx).1] at hz
    injection hz with hz
    subst hz
    have := h j _ hx
    exact this
  · rw [List.getElem?_set_ne hk] at hz; exact h k z hz
section
variable {g : Nat} {w wq : World} {xs : List Person} {A : Option Addr} {cc : Nat}
/-- One person's last number is written anew. -/
theorem FamW.put {j q o : Nat} {x0 : ByteArray} {x1 x2 x3 x4 x5 y : Int} (h : FamW g w xs (some ⟨q, 0, none⟩) cc wq) (hx : xs[j]? = some ⟨x0, x1, x2, x3, x4, x5⟩) {u : Value} (ho : EPerson.OS (wq.setCell ⟨q, o, none⟩ u) (w.heap.size + 2) wq.heap.size (.slice (some ⟨q, 0, none⟩) xs.length cc) (xs.set j ⟨x0, x1, x2, x3, x4, y⟩)) (hq : w.heap.size + 2 ≤ q) :
    FamW g w (xs.set j ⟨x0, x1, x2, x3, x4, y⟩) (some ⟨q, 0, none⟩) cc (wq.setCell ⟨q, o, none⟩ u) := by
  have hb : Below w.heap.size wq (wq.setCell ⟨q, o, none⟩ u) := (Below.refl _ _).setCell (by simp; omega) _
  refine { res := h.res.far (by simp; omega) _, fam := ?_, own := ?_, name := fun z hz => ?_, cur := h.cur.below hb h.glt, chg := h.chg.then_below hb (Nat.le_refl _), glt := h.glt, size := by rw [World.size_setCell]; exact h.size }
  · rw [List.length_set]; exact h.fam.far (by simp; omega) _
  · rw [List.length_set, World.size_setCell]; exact ho
  · rcases List.mem_or_eq_of_mem_set hz with hz | rfl
    · exact h.name z hz
    · have := h.name _ (List.mem_of_getElem? hx)
      exact this
end
theorem put_at {w : World} {lo hi i q c : Nat} {xs : List Person} {x : Person} (h : EPerson.OS w lo hi (.slice (some ⟨q, 0, none⟩) xs.length c) xs) (hh : hi ≤ w.heap.size) (hx : xs[i]? = some x) : lo ≤ q ∧ q < hi ∧ (∀ (j : Nat) (u : Value), (vsPerson x)[j]? = some u → w.cell? ⟨q, i * 6 + j, none⟩ = some u ∧ w.frozen? ⟨q, i * 6 + j, none⟩ = false) ∧
    ∀ (j : Nat) (u u0 : Value) (x' : Person), (vsPerson x)[j]? = some u0 → u.ownBlock = none → (vsPerson x).set j u = vsPerson x' → EPerson.OS (w.setCell ⟨q, i * 6 + j, none⟩ u) lo hi (.slice (some ⟨q, 0, none⟩) xs.length c) (xs.set i x') := by
  obtain ⟨q2, c2, hv, h1, h2, _, h3, h4⟩ := flat_put EPerson_O h hh hx
  injection hv with hv _ hc
  injection hv with hv
  injection hv with hv _ _
  subst hv; subst hc
  exact ⟨h1, h2, h3, h4⟩
def GrowRel (g : Nat) (n : Nat) (w : World) (i : Value) (wr : World) : Prop := ∃ (k : Nat) (xs : List Person) (A : Option Addr) (cc : Nat), i = .int .i64 k ∧ xs.length + k ≤ n ∧ Before xs ∧ FamW g w xs A cc wr
def DieRel (g : Nat) (n : Nat) (A : Option Addr) (cc : Nat) (w : World) (i : Value) (wr : World) : Prop := ∃ (j : Nat) (xs : List Person), i = .int .i64 j ∧ j ≤ n ∧ xs.length = n ∧ Before xs ∧ FamW g w xs A cc wr
/-- A person in the making, in block pb. -/
def PIn (g pb : Nat) (s : ByteArray) (sx n : Int) (wr wc : World) : Prop := ∃ f m : Int, f < n ∧ m < n ∧ Blk wc pb 99 #[.string s, .int .i64 sx, .int .i64 f, .int .i64 m, .int .i64 0, .int .i64 (-1)] ∧ Cur wc g ∧ Chg g (g + 1) wr wc
theorem parents_in {x : Person} {q : Int} (h : q ∈ parentsL x) : 0 ≤ q ∧ (q = x.father ∨ q = x.mother) := by
  unfold parentsL at h
  rcases List.mem_append.1 h with h | h
  · split at h
    · simp at h; subst h; exact ⟨by assumption, .inl rfl⟩
    · cases h
  · split at h
    · simp at h; subst h; exact ⟨by assumption, .inr rfl⟩
    · cases h
theorem parents_len (x : Person) : (parentsL x).length ≤ 2 := by
  unfold parentsL; split <;> split <;> simp

set_option maxHeartbeats 16000000 in
theorem l1Family_any (g n : Nat) (w : World) (h : Cur w g) (hn : n ≤ 40) : Calls Try.prog 168 #[.pointer (some ⟨g, 0, none⟩), .int .i64 n] w (RetCrowd g n w) := by
  have hg := h.lt
  go_enter Try.func168, Try.ntmps168
  go_upto_region 2 with fail
  generalize hW : (w.alloc (.cells #[.slice none 0 0, .slice none 0 0] 26)).alloc (.cells #[.slice none 0 0, .slice none 0 0] 26) = W
  have F0 : FamW g w [] none 0 W := by
    have hb : Below w.heap.size w W := by subst hW; (with_reducible repeat' first | exact Below.refl _ _ | assumption | (refine Below.setCell ?_ (by first | omega | (simp; omega) | (simp; done) | (dsimp only; omega)) _) | (refine Below.alloc ?_ (by first | omega | (simp; omega) | (simp; done) | (dsimp only; omega)) _) | (refine below_drewN ?_ _) | (refine Below.drew ?_))
    subst hW
    exact { res := (Blk.new _ rfl).alloc _, fam := Blk.new _ (by simp), own := Elem.OS.nil, name := fun x hx => absurd hx (by simp), cur := h.below hb hg, chg := (Chg.refl _ _ _).then_below hb (Nat.le_refl _), glt := hg, size := by simp }
  clear hW h
  have h1 := l01Int_any g (some ⟨W.heap.size, 0, none⟩) 4 W.heap.size (W.heap.size + 1) [1, 7, 20, 25] (W.alloc (.cells #[.int .i64 1, .int .i64 7, .int .i64 20, .int .i64 25] 3)) (F0.cur.below ((Below.refl _ _).alloc (Nat.le_refl _) _) F0.cur.lt) (ints_lit W [1, 7, 20, 25] (by decide)).read.as (by simp) (.inr F0.cur.lt) (by decide) (by decide)
  rw [show ([1, 7, 20, 25] : List Int).length = 4 from rfl] at h1
  go_upto_region 3 with (go_at_call 208; (with_reducible refine h1.mono ?_); rintro e w1 ⟨step, hst, rfl, hc1, hch1, hs1⟩)
  have F1 := F0.next (((Chg.refl _ _ _).alloc _).trans hch1) hc1
  clear hch1 hc1 hs1 h1 F0 hst
  have h1 := l01Int_any g (some ⟨w1.heap.size, 0, none⟩) 3 w1.heap.size (w1.heap.size + 1) [3, 5, 9] (w1.alloc (.cells #[.int .i64 3, .int .i64 5, .int .i64 9] 3)) (F1.cur.below ((Below.refl _ _).alloc (Nat.le_refl _) _) F1.cur.lt) (ints_lit w1 [3, 5, 9] (by decide)).read.as (by simp) (.inr F1.cur.lt) (by decide) (by decide)
  rw [show ([3, 5, 9] : List Int).length = 3 from rfl] at h1
  go_upto_region 4 with (go_at_call 208; (with_reducible refine h1.mono ?_); rintro e w2 ⟨loose, hlo, rfl, hc1, hch1, hs1⟩)
  have F2 := F1.next (((Chg.refl _ _ _).alloc _).trans hch1) hc1
  have hloose : 1 ≤ loose ∧ loose ≤ 256 := by simp at hlo; omega
  clear hch1 hc1 hs1 h1 F1 hlo
  have h1 := l01Below_any g ((n : Int) + 1) w2 F2.cur (by omega) (by omega)
  go_upto_region 5 with (go_at_call 170; (with_reducible refine h1.mono ?_); rintro e w3 ⟨k0, hk0, hk1, rfl, hc1, hch1, hs1⟩)
  obtain ⟨k0, rfl⟩ := Int.eq_ofNat_of_zero_le hk0
  have F3 := F2.next hch1 hc1
  clear hch1 hc1 hs1 h1 F2
  go_loopw [8] (fun i wr => GrowRel g n w i wr) (fun i _ => (intOf i).toNat)
  case atStart => exact ⟨k0, [], none, 0, rfl, by simp; omega, Before_nil, F3⟩
  case round =>
    obtain ⟨k, xs, A, cc, rfl, hk, hB, F⟩ := hrel
    clear F3
    have zF := F.size
    have hgl := F.glt
    have e0 := F.fam.cell (i := 0) rfl; have e1 := F.fam.cell (i := 1) rfl
    by_cases hk0 : 0 < k
    · have i1 : (0 : Int) < (k : Int) := by omega
      have hdl := depL_len xs xs.length
      have h1 := l1Depths_any A none cc 0 (w.heap.size + 2) wr.heap.size xs [] wr F.own.read.as (Nat.le_refl _) (by omega) hB
      rw [show ([] : List Union).length = 0 from rfl] at h1
      go_upto_region 8 with (go_at_call 196; (with_reducible refine h1.mono ?_); rintro e w4 ⟨D, cd, rfl, od, hb4⟩)
      rw [hdl] at od
      have z4 := hb4.size
      have F4 := F.next (Chg.of_below hb4) (F.cur.below hb4 F.cur.lt)
      have hDS := od.read.as
      have HD := Lib.hid hdl
      generalize depL xs xs.length = ds at *
      clear h1 od hb4 e0 e1 F hdl
      have e0 := F4.fam.cell (i := 0) rfl; have e1 := F4.fam.cell (i := 1) rfl
      have h1 := l1Called_any xs.length w4 (by omega)
      go_upto_region 9 with (first
        | (go_at_call 209; (with_reducible refine h1.mono ?_); rintro e w5 ⟨s, rfl, hs2, hb5⟩)
        | (go_at_call 170; refine (l01Below_any g 2 _ (F4.cur.below hb5 F4.cur.lt) (by omega) (by omega)).mono ?_; rintro e w6 ⟨sx, hsx0, hsx1, rfl, hc6, hch6, hs6⟩; clear hs6))
      generalize hV : World.alloc w6 (.cells #[.string s, .int .i64 (1 + sx), .int .i64 (-1), .int .i64 (-1), .int .i64 0, .int .i64 (-1)] 99) = W6
      obtain ⟨pb, hpb⟩ : ∃ m, m = w6.heap.size := ⟨_, rfl⟩
      rw [← hpb]
      have PB0 : Blk W6 pb 99 #[.string s, .int .i64 (1 + sx), .int .i64 (-1), .int .i64 (-1), .int .i64 0, .int .i64 (-1)] := by subst hV; rw [hpb]; exact Blk.new _ rfl
      have hchW : Chg g (g + 1) w4 W6 := by subst hV; exact ((Chg.of_below hb5).trans hch6).alloc _
      have hcuW : Cur W6 g := by subst hV; exact hc6.below ((Below.refl _ _).alloc (Nat.le_refl _) _) hc6.lt
      have zpb : w4.heap.size ≤ pb := by rw [hpb]; have := hb5.size; have := hch6.size; omega
      clear hV h1 hb5 hch6 hc6 hpb e0 e1
      have hcurl := F4.cur.lt
      generalize hsex : 1 + sx = sex at *
      clear hsex
      go_upto_if 45 with (go_at_call 171; refine (l01Once_any g loose _ hcuW (by omega) (by omega)).mono ?_; rintro e w7 ⟨x7, rfl, hc7, hch7, hs7⟩)
      have PB7 := PB0.chg hch7 (.inr (by omega))
      have h47 := hchW.trans hch7
      clear hs7 hch7 PB0 hchW hcuW
      go_cut [] from 28 to 93 (fun wc => PIn g pb s sex xs.length w4 wc)
      case first =>
        cases x7 with
        | true =>
          go_wp2
          go_meet
          exact ⟨-1, -1, by omega, by omega, PB7, hc7, h47⟩
        | false =>
          have G := F4.next h47 hc7
          have e0 := G.fam.cell (i := 0) rfl; have e1 := G.fam.cell (i := 1) rfl
          have zG := G.size
          have h1 := l1Some_any g A none D cc 0 cd (w.heap.size + 2) w7.heap.size wr.heap.size w4.heap.size xs [] ds 1 w7 hc7 G.own.read.as (Nat.le_refl _) (hDS.same (Same.of_chg h47 (Nat.le_refl _) (.inr (by omega)))) h47.size (.inr (by omega)) (.inr (by omega)) HD.out (by omega)
          rw [show ([] : List Union).length = 0 from rfl] at h1
          have lP := PB7.lt
          go_wp2_with (go_at_call 210; (with_reducible refine h1.mono ?_); rintro e w8 ⟨f, hf0, hf1, rfl, hc8, hch8⟩; have PB8 := PB7.chg hch8 (.inr (by omega)); have p2 := PB8.cell (i := 2) rfl; have k2 := PB8.free 2; have lP8 := PB8.lt)
          go_meet
          exact ⟨f, -1, hf1, by omega, PB8.set 2 _, hc8.below (by (with_reducible repeat' first | exact Below.refl _ _ | assumption | (refine Below.setCell ?_ (by first | omega | (simp; omega) | (simp; done) | (dsimp only; omega)) _) | (refine Below.alloc ?_ (by first | omega | (simp; omega) | (simp; done) | (dsimp only; omega)) _) | (refine below_drewN ?_ _) | (refine Below.drew ?_)) : Below w4.heap.size w8 _) hcurl, (h47.trans hch8).then_below (by (with_reducible repeat' first | exact Below.refl _ _ | assumption | (refine Below.setCell ?_ (by first | omega | (simp; omega) | (simp; done) | (dsimp only; omega)) _) | (refine Below.alloc ?_ (by first | omega | (simp; omega) | (simp; done) | (dsimp only; omega)) _) | (refine below_drewN ?_ _) | (refine Below.drew ?_)) : Below w4.heap.size w8 _) (Nat.le_refl _)⟩
      case rest =>
        obtain ⟨f, m, hf, hm, PB9, hc9, h49⟩ := hcut
        clear PB7 h47 hc7
        go_upto_if 54 with (go_at_call 171; refine (l01Once_any g loose _ hc9 (by omega) (by omega)).mono ?_; rintro e w10 ⟨x10, rfl, hc10, hch10, hs10⟩)
        have PB10 := PB9.chg hch10 (.inr (by omega))
        have h410 := h49.trans hch10
        clear hs10 hch10 PB9 h49 hc9
        go_cut [] from 28 to 93 (fun wc => PIn g pb s sex xs.length w4 wc)
        case first =>
          cases x10 with
          | true =>
            go_wp2
            go_meet
            exact ⟨f, m, hf, hm, PB10, hc10, h410⟩
          | false =>
            have G := F4.next h410 hc10
            have e0 := G.fam.cell (i := 0) rfl; have e1 := G.fam.cell (i := 1) rfl
            have zG := G.size
            have h1 := l1Some_any g A none D cc 0 cd (w.heap.size + 2) w10.heap.size wr.heap.size w4.heap.size xs [] ds 2 w10 hc10 G.own.read.as (Nat.le_refl _) (hDS.same (Same.of_chg h410 (Nat.le_refl _) (.inr (by omega)))) h410.size (.inr (by omega)) (.inr (by omega)) HD.out (by omega)
            rw [show ([] : List Union).length = 0 from rfl] at h1
            have lP := PB10.lt
            go_wp2_with (go_at_call 210; (with_reducible refine h1.mono ?_); rintro e w8 ⟨m', hm0, hm1, rfl, hc8, hch8⟩; have PB8 := PB10.chg hch8 (.inr (by omega)); have p3 := PB8.cell (i := 3) rfl; have k3 := PB8.free 3; have lP8 := PB8.lt)
            go_meet
            exact ⟨f, m', hf, hm1, PB8.set 3 _, hc8.below (by (with_reducible repeat' first | exact Below.refl _ _ | assumption | (refine Below.setCell ?_ (by first | omega | (simp; omega) | (simp; done) | (dsimp only; omega)) _) | (refine Below.alloc ?_ (by first | omega | (simp; omega) | (simp; done) | (dsimp only; omega)) _) | (refine below_drewN ?_ _) | (refine Below.drew ?_)) : Below w4.heap.size w8 _) hcurl, (h410.trans hch8).then_below (by (with_reducible repeat' first | exact Below.refl _ _ | assumption | (refine Below.setCell ?_ (by first | omega | (simp; omega) | (simp; done) | (dsimp only; omega)) _) | (refine Below.alloc ?_ (by first | omega | (simp; omega) | (simp; done) | (dsimp only; omega)) _) | (refine below_drewN ?_ _) | (refine Below.drew ?_)) : Below w4.heap.size w8 _) (Nat.le_refl _)⟩
        case rest =>
          obtain ⟨f', m', hf', hm', PB11, hc11, h411⟩ := hcut
          clear PB10 h410 hc10 hf hm
          have lP := PB11.lt
          go_upto_region 14 with (go_at_call 170; refine (l01Below_any g 12 _ hc11 (by omega) (by omega)).mono ?_; rintro e w12 ⟨bo, hbo0, hbo1, rfl, hc12, hch12, hs12⟩; have PB12 := PB11.chg hch12 (.inr (by omega)); have p4 := PB12.cell (i := 4) rfl; have k4 := PB12.free 4; have lP12 := PB12.lt)
          generalize hV : w12.setCell ⟨pb, 4, none⟩ (.int .i64 bo) = W12
          have PBV : Blk W12 pb 99 #[.string s, .int .i64 sex, .int .i64 f', .int .i64 m', .int .i64 bo, .int .i64 (-1)] := by subst hV; exact PB12.set 4 _
          have hcV : Cur W12 g := by subst hV; exact hc12.below ((Below.refl w4.heap.size _).setCell (by simp; omega) _) hcurl
          have h4V : Chg g (g + 1) w4 W12 := by subst hV; exact (h411.trans hch12).then_below ((Below.refl w4.heap.size _).setCell (by simp; omega) _) (Nat.le_refl _)
          clear hV PB12 p4 k4 hch12 hc12 hs12 PB11 hc11 h411 lP lP12
          have lPV := PBV.lt
          have p0 := PBV.cell (i := 0) rfl; have p1 := PBV.cell (i := 1) rfl; have p2 := PBV.cell (i := 2) rfl; have p3 := PBV.cell (i := 3) rfl; have p4 := PBV.cell (i := 4) rfl; have p5 := PBV.cell (i := 5) rfl
          have hone : EPerson.AS (W12.alloc (.cells #[.string s, .int .i64 sex, .int .i64 f', .int .i64 m', .int .i64 bo, .int .i64 (-1)] 99)) W12.heap.size (W12.heap.size + 1) (some ⟨W12.heap.size, 0, none⟩) [(⟨s, sex, f', m', bo, -1⟩ : Person)] := by
            have := (one_person W12 ⟨s, sex, f', m', bo, -1⟩).read.as
            simpa [vsPerson] using this
          have h1 := l1Parents_any (some ⟨W12.heap.size, 0, none⟩) none 1 0 W12.heap.size (W12.heap.size + 1) [(⟨s, sex, f', m', bo, -1⟩ : Person)] [] 0 _ hone Elem.AS.nil (by simp) (by simp)
          rw [show ([] : List Union).length = 0 from rfl, show ([(⟨s, sex, f', m', bo, -1⟩ : Person)] : List Person).length = 1 from rfl, show parentsAt [(⟨s, sex, f', m', bo, -1⟩ : Person)] 0 = parentsL ⟨s, sex, f', m', bo, -1⟩ from rfl, show ((0 : Nat) : Int) = 0 from rfl] at h1
          have HP := Lib.hid (fun q (hq : q ∈ parentsL ⟨s, sex, f', m', bo, -1⟩) => parents_in hq)
          have hpl := parents_len ⟨s, sex, f', m', bo, -1⟩
          generalize parentsL ⟨s, sex, f', m', bo, -1⟩ = ps at *
          go_upto_region 15 with (go_at_call 211; (with_reducible refine h1.mono ?_); rintro e w13 ⟨L, cL, rfl, oL, hb13⟩)
          have z13 := hb13.size
          simp only [szs] at z13
          have hbV : Below W12.heap.size W12 w13 := by (with_reducible repeat' first | exact Below.refl _ _ | assumption | (refine Below.setCell ?_ (by first | omega | (simp; omega) | (simp; done) | (dsimp only; omega)) _) | (refine Below.alloc ?_ (by first | omega | (simp; omega) | (simp; done) | (dsimp only; omega)) _) | (refine below_drewN ?_ _) | (refine Below.drew ?_) | (refine Below.trans ?_ (hb13.mono (by first | omega | (simp; omega) | (simp; done) | (dsimp only; omega)))))
          have PB13 := PBV.below hbV lPV
          have hc13 := hcV.below hbV hcV.lt
          have h413 := h4V.trans (Chg.of_below hbV)
          obtain ⟨llo, hllo⟩ : ∃ m, m = W12.heap.size + 1 := ⟨_, rfl⟩
          have hLS : EInt.AS w13 llo w13.heap.size L ps := by
            have := oL.read.as
            simp only [szs] at this
            rw [hllo]; exact this
          have hpl' : pb < llo := by omega
          have hlh : llo ≤ w13.heap.size := by omega
          clear h1 oL hb13 hbV PBV hcV h4V p0 p1 p2 p3 p4 p5 hone hllo
          go_loopw [68] (fun i wc => ∃ (j : Nat) (b : Int), i = .int .i64 j ∧ j ≤ ps.length ∧ Blk wc pb 99 #[.string s, .int .i64 sex, .int .i64 f', .int .i64 m', .int .i64 b, .int .i64 (-1)] ∧ EInt.AS wc llo w13.heap.size L ps ∧ Cur wc g ∧ Chg g (g + 1) w4 wc ∧ w13.heap.size ≤ wc.heap.size) (fun i _ => ps.length - (intOf i).toNat)
          case atStart => exact ⟨0, bo, rfl, by omega, PB13, hLS, hc13, h413, Nat.le_refl _⟩
          case round =>
            obtain ⟨j, b, rfl, hj, PB, hLS', hcL, hchL, hzL⟩ := hrel
            clear PB13 hLS hc13 h413
            have G := F4.next hchL hcL
            have lPB := PB.lt
            by_cases hjl : j < ps.length
            · have i2 : (j : Int) < (ps.length : Int) := by omega
              obtain ⟨lb, lo', qq, rfl, k1, k2, _, hq, cl⟩ := AInt.at_ hLS' hjl
              obtain ⟨hq0, hq1⟩ := HP.out qq (List.mem_of_getElem? hq)
              obtain ⟨q, rfl⟩ := Int.eq_ofNat_of_zero_le hq0
              have hqn : q < xs.length := by rcases hq1 with hq1 | hq1 <;> omega
              obtain ⟨qb, qo, ⟨y0, y1, y2, y3, y4, y5⟩, rfl, g1, g2, _, _, _, _, _, _, cq, _⟩ := APerson.at_ G.own.read.as hqn
              simp only at cq
              have i3 : (q : Int) < (xs.length : Int) := by omega
              have zG := G.size
              clear hq hq1
              go_upto_region 17 with fail
              have c0 := G.fam.cell (i := 0) rfl
              have lF : w.heap.size + 1 < wr.drew.heap.size := G.fam.lt
              have gF : w.heap.size + 1 < g ∨ g + 1 ≤ w.heap.size + 1 := .inr (by omega)
              have lQ : qb < wr.drew.heap.size := g2
              have gQ : qb < g ∨ g + 1 ≤ qb := .inr (by omega)
              have lP : pb < wr.drew.heap.size := PB.lt
              have gP : pb < g ∨ g + 1 ≤ pb := .inr (by omega)
              have hcu0 : Cur wr.drew g := hcL.drew
              have hLh : w13.heap.size ≤ wr.heap.size := hzL
              have hne : qb < pb := by
                obtain ⟨b', o', x', he, _, hlt', _⟩ := APerson.at_ F4.own.read.as hqn
                injection he with he; injection he with he1 _ _; omega
              clear G
              refine wp_region_held_drew (S := fun w' => w'.cell? ⟨w.heap.size + 1, 0, none⟩ = some (.slice (some ⟨qb, qo, none⟩) xs.length cc) ∧ w'.cell? ⟨qb, qo + q * 6 + 4, none⟩ = some (.int .i64 y4)) (by kernel_rfl) ⟨c0, cq⟩ (fun hHeld => ?_)
              refine wpAnyH_take (i := 0) (oi := { dst := some 72, op := _, type := _, pos := _, after := _, guard := _ }) (v := ?_) rfl (by kernel_rfl) (by kernel_rfl) (by kernel_rfl) (fun _ _ _ h => h) (Or.inl ⟨by rfl, ?_⟩) (by assumption) ?_; rotate_left; (intro w hSw; (try dsimp only at hSw); go_simp); (try with_reducible rfl); (try simp only [Act.put, List.setIfInBounds_toArray, List.set_cons_zero, List.set_cons_succ])
              refine wpAnyH_take (i := 2) (oi := { dst := some 74, op := _, type := _, pos := _, after := _, guard := _ }) (v := ?_) rfl (by kernel_rfl) (by kernel_rfl) (by kernel_rfl) (fun _ _ _ h => h) (Or.inl ⟨by rfl, ?_⟩) (by assumption) ?_; rotate_left; (intro w hSw; (try dsimp only at hSw); go_simp); (try with_reducible rfl); (try simp only [Act.put, List.setIfInBounds_toArray, List.set_cons_zero, List.set_cons_succ])
              refine wpAnyH_take (i := 3) (oi := { dst := some 75, op := _, type := _, pos := _, after := _, guard := _ }) (v := ?_) rfl (by kernel_rfl) (by kernel_rfl) (by kernel_rfl) (fun _ _ _ h => h) (Or.inl ⟨by rfl, ?_⟩) (by assumption) ?_; rotate_left; (intro w hSw; (try dsimp only at hSw); go_simp); (try with_reducible rfl); (try simp only [Act.put, List.setIfInBounds_toArray, List.set_cons_zero, List.set_cons_succ])
              refine wpAnyH_take (i := 4) (oi := { dst := some 76, op := _, type := _, pos := _, after := _, guard := _ }) (v := ?_) rfl (by kernel_rfl) (by kernel_rfl) (by kernel_rfl) (fun _ _ _ h => h) (Or.inl ⟨by rfl, ?_⟩) (by assumption) ?_; rotate_left; (intro w hSw; (try dsimp only at hSw); go_simp); (try with_reducible rfl); (try simp only [Act.put, List.setIfInBounds_toArray, List.set_cons_zero, List.set_cons_succ])
              refine wpAnyH_take (i := 5) (oi := { dst := some 77, op := _, type := _, pos := _, after := _, guard := _ }) (v := ?_) rfl (by kernel_rfl) (by kernel_rfl) (by kernel_rfl) (fun _ _ _ h => h) (Or.inl ⟨by rfl, ?_⟩) (by assumption) ?_; rotate_left; (intro w hSw; (try dsimp only at hSw); go_simp); (try with_reducible rfl); (try simp only [Act.put, List.setIfInBounds_toArray, List.set_cons_zero, List.set_cons_succ])
              refine wpAnyH_take (i := 6) (oi := { dst := some 78, op := _, type := _, pos := _, after := _, guard := _ }) (v := ?_) rfl (by kernel_rfl) (by kernel_rfl) (by kernel_rfl) (fun _ _ _ h => h) (Or.inl ⟨by rfl, ?_⟩) (by assumption) ?_; rotate_left; (intro w hSw; (try dsimp only at hSw); go_simp); (try with_reducible rfl); (try simp only [Act.put, List.setIfInBounds_toArray, List.set_cons_zero, List.set_cons_succ])
              refine wpAnyH_take (i := 7) (oi := { dst := some 79, op := _, type := _, pos := _, after := _, guard := _ }) (v := ?_) rfl (by kernel_rfl) (by kernel_rfl) (by kernel_rfl) (fun _ _ _ h => h) (Or.inl ⟨by rfl, ?_⟩) (by assumption) ?_; rotate_left; (intro w hSw; (try dsimp only at hSw); go_simp); (try with_reducible rfl); (try simp only [Act.put, List.setIfInBounds_toArray, List.set_cons_zero, List.set_cons_succ])
              refine wpAnyH_take (i := 8) (oi := { dst := some 80, op := _, type := _, pos := _, after := _, guard := _ }) (v := ?_) rfl (by kernel_rfl) (by kernel_rfl) (by kernel_rfl) (fun _ _ _ h => h) (Or.inl ⟨by rfl, ?_⟩) (by assumption) ?_; rotate_left; (intro w hSw; (try dsimp only at hSw); go_simp); (try with_reducible rfl); (try simp only [Act.put, List.setIfInBounds_toArray, List.set_cons_zero, List.set_cons_succ])
              refine wpAnyH_take (i := 9) (oi := { dst := some 81, op := _, type := _, pos := _, after := _, guard := _ }) (v := ?_) rfl (by kernel_rfl) (by kernel_rfl) (by kernel_rfl) (fun _ _ _ h => h) (Or.inl ⟨by rfl, ?_⟩) (by assumption) ?_; rotate_left; (intro w hSw; (try dsimp only at hSw); go_simp); (try with_reducible rfl); (try simp only [Act.put, List.setIfInBounds_toArray, List.set_cons_zero, List.set_cons_succ])
              refine wpAnyH_take (i := 10) (oi := { dst := some 82, op := _, type := _, pos := _, after := _, guard := _ }) (v := ?_) rfl (by kernel_rfl) (by kernel_rfl) (by kernel_rfl) (fun _ _ _ h => h) (Or.inl ⟨by rfl, ?_⟩) (by assumption) ?_; rotate_left; (intro w hSw; (try dsimp only at hSw); go_simp); (try with_reducible rfl); (try simp only [Act.put, List.setIfInBounds_toArray, List.set_cons_zero, List.set_cons_succ])
              refine wpAnyH_ready (rs := [1, 11]) (by kernel_rfl) (by simp) ?_
              refine AllReadyH.cons (o := { dst := some 73, op := _, type := _, pos := _, after := _, guard := _ }) rfl (fun K hK => ?_) (AllReadyH.cons (o := { dst := some 83, op := _, type := _, pos := _, after := _, guard := _ }) rfl (fun K hK => ?_) (AllReadyH.nil))
              ·
                have cp := PB.drew.cell (i := 4) rfl
                go_simp
                refine hK.out _ _ ⟨c0, cq⟩ (fun hHeld => ?_)
                clear hK K; (try simp only [Act.put, List.setIfInBounds_toArray, List.set_cons_zero, List.set_cons_succ])
                refine wpAnyH_ready (rs := [11]) (by kernel_rfl) (by simp) ?_
                refine AllReadyH.cons (o := { dst := some 83, op := _, type := _, pos := _, after := _, guard := _ }) rfl (fun K hK => ?_) (AllReadyH.nil)
                go_simp
                (go_at_call 170; refine (l01Below_any g 6 _ hcu0 (by omega) (by omega)).mono ?_; rintro e v1 ⟨yy, hy0, hy1, rfl, hcu1, hchq, hsq⟩)
                try go_wp2_with fail
                refine hK.out _ _ ⟨hchq.cell1 lF gF c0, hchq.cell1 lQ gQ cq⟩ (fun hHeld => ?_)
                clear hK K; (try simp only [Act.put, List.setIfInBounds_toArray, List.set_cons_zero, List.set_cons_succ])
                clear hsq hcu0
                refine wpAnyH_take (i := 12) (oi := { dst := some 84, op := _, type := _, pos := _, after := _, guard := _ }) (v := ?_) rfl (by kernel_rfl) (by kernel_rfl) (by kernel_rfl) (fun _ _ _ h => h) (Or.inl ⟨by rfl, ?_⟩) (by assumption) ?_; rotate_left; (intro w hSw; (try dsimp only at hSw); go_simp); (try with_reducible rfl); (try simp only [Act.put, List.setIfInBounds_toArray, List.set_cons_zero, List.set_cons_succ])
                refine wpAnyH_take (i := 13) (oi := { dst := some 85, op := _, type := _, pos := _, after := _, guard := _ }) (v := ?_) rfl (by kernel_rfl) (by kernel_rfl) (by kernel_rfl) (fun _ _ _ h => h) (Or.inl ⟨by rfl, ?_⟩) (by assumption) ?_; rotate_left; (intro w hSw; (try dsimp only at hSw); go_simp); (try with_reducible rfl); (try simp only [Act.put, List.setIfInBounds_toArray, List.set_cons_zero, List.set_cons_succ])
                refine wpAnyH_take (i := 14) (oi := { dst := some 86, op := _, type := _, pos := _, after := _, guard := _ }) (v := ?_) rfl (by kernel_rfl) (by kernel_rfl) (by kernel_rfl) (fun _ _ _ h => h) (Or.inl ⟨by rfl, ?_⟩) (by assumption) ?_; rotate_left; (intro w hSw; (try dsimp only at hSw); go_simp); (try with_reducible rfl); (try simp only [Act.put, List.setIfInBounds_toArray, List.set_cons_zero, List.set_cons_succ])
                refine wpAnyH_ready (rs := [15]) (by kernel_rfl) (by simp) ?_
                refine AllReadyH.cons (o := { dst := none, op := _, type := _, pos := _, after := _, guard := _ }) rfl (fun K hK => ?_) (AllReadyH.nil)
                have U2 := PB.drew.chg hchq gP
                have u4 := U2.cell (i := 4) rfl; have f4 := U2.free 4; have lU2 := U2.lt
                go_simp
                refine hK.out _ _ ⟨(World.cell?_setCell_other _ _ _ _ (by first | (simp; done) | (simp; omega))).trans (hchq.cell1 lF gF c0), (World.cell?_setCell_other _ _ _ _ (by first | (simp; done) | (simp; omega))).trans (hchq.cell1 lQ gQ cq)⟩ (fun hHeld => ?_)
                clear hK K; (try simp only [Act.put, List.setIfInBounds_toArray, List.set_cons_zero, List.set_cons_succ])
                refine wpAnyH_done (by kernel_rfl) ?_ _
                go_wp2_with fail
                refine ⟨⟨j + 1, _, by go_num, by omega, U2.set 4 _, ?_, hcu1.below (by (with_reducible repeat' first | exact Below.refl _ _ | assumption | (refine Below.setCell ?_ (by first | omega | (simp; omega) | (simp; done) | (dsimp only; omega)) _) | (refine Below.alloc ?_ (by first | omega | (simp; omega) | (simp; done) | (dsimp only; omega)) _) | (refine below_drewN ?_ _) | (refine Below.drew ?_)) : Below w4.heap.size v1 _) (by omega), (hchL.trans (undrewT hchq)).then_below (by (with_reducible repeat' first | exact Below.refl _ _ | assumption | (refine Below.setCell ?_ (by first | omega | (simp; omega) | (simp; done) | (dsimp only; omega)) _) | (refine Below.alloc ?_ (by first | omega | (simp; omega) | (simp; done) | (dsimp only; omega)) _) | (refine below_drewN ?_ _) | (refine Below.drew ?_)) : Below w4.heap.size v1 _) (Nat.le_refl _), (by have h9 := hchq.size; simp only [szs] at h9; simp [World.setCell]; omega)⟩, by simp [intOf]; omega⟩
                exact (hLS'.same (Same.of_chg (undrewT hchq) hLh (.inr (by omega)))).same (by (with_reducible repeat' first | exact Same.refl _ _ _ | assumption | (refine Same.setCell ?_ (by first | omega | (simp; omega) | (simp; done) | (dsimp only; omega)) _) | (refine Same.alloc ?_ (by first | omega | (simp; omega) | (simp; done) | (dsimp only; omega)) _) | (refine Same.drewN ?_ _) | (refine Same.drew ?_)))
              ·
                go_simp
                (go_at_call 170; refine (l01Below_any g 6 _ hcu0 (by omega) (by omega)).mono ?_; rintro e v1 ⟨yy, hy0, hy1, rfl, hcu1, hchq, hsq⟩)
                try go_wp2_with fail
                refine hK.out _ _ ⟨hchq.cell1 lF gF c0, hchq.cell1 lQ gQ cq⟩ (fun hHeld => ?_)
                clear hK K; (try simp only [Act.put, List.setIfInBounds_toArray, List.set_cons_zero, List.set_cons_succ])
                clear hsq hcu0
                refine wpAnyH_take (i := 12) (oi := { dst := some 84, op := _, type := _, pos := _, after := _, guard := _ }) (v := ?_) rfl (by kernel_rfl) (by kernel_rfl) (by kernel_rfl) (fun _ _ _ h => h) (Or.inl ⟨by rfl, ?_⟩) (by assumption) ?_; rotate_left; (intro w hSw; (try dsimp only at hSw); go_simp); (try with_reducible rfl); (try simp only [Act.put, List.setIfInBounds_toArray, List.set_cons_zero, List.set_cons_succ])
                refine wpAnyH_ready (rs := [1]) (by kernel_rfl) (by simp) ?_
                refine AllReadyH.cons (o := { dst := some 73, op := _, type := _, pos := _, after := _, guard := _ }) rfl (fun K hK => ?_) (AllReadyH.nil)
                have cp := (PB.drew.chg hchq gP).cell (i := 4) rfl
                go_simp
                refine hK.out _ _ ⟨hchq.cell1 lF gF c0, hchq.cell1 lQ gQ cq⟩ (fun hHeld => ?_)
                clear hK K; (try simp only [Act.put, List.setIfInBounds_toArray, List.set_cons_zero, List.set_cons_succ])
                refine wpAnyH_take (i := 13) (oi := { dst := some 85, op := _, type := _, pos := _, after := _, guard := _ }) (v := ?_) rfl (by kernel_rfl) (by kernel_rfl) (by kernel_rfl) (fun _ _ _ h => h) (Or.inl ⟨by rfl, ?_⟩) (by assumption) ?_; rotate_left; (intro w hSw; (try dsimp only at hSw); go_simp); (try with_reducible rfl); (try simp only [Act.put, List.setIfInBounds_toArray, List.set_cons_zero, List.set_cons_succ])
                refine wpAnyH_take (i := 14) (oi := { dst := some 86, op := _, type := _, pos := _, after := _, guard := _ }) (v := ?_) rfl (by kernel_rfl) (by kernel_rfl) (by kernel_rfl) (fun _ _ _ h => h) (Or.inl ⟨by rfl, ?_⟩) (by assumption) ?_; rotate_left; (intro w hSw; (try dsimp only at hSw); go_simp); (try with_reducible rfl); (try simp only [Act.put, List.setIfInBounds_toArray, List.set_cons_zero, List.set_cons_succ])
                refine wpAnyH_ready (rs := [15]) (by kernel_rfl) (by simp) ?_
                refine AllReadyH.cons (o := { dst := none, op := _, type := _, pos := _, after := _, guard := _ }) rfl (fun K hK => ?_) (AllReadyH.nil)
                have U2 := PB.drew.chg hchq gP
                have u4 := U2.cell (i := 4) rfl; have f4 := U2.free 4; have lU2 := U2.lt
                go_simp
                refine hK.out _ _ ⟨(World.cell?_setCell_other _ _ _ _ (by first | (simp; done) | (simp; omega))).trans (hchq.cell1 lF gF c0), (World.cell?_setCell_other _ _ _ _ (by first | (simp; done) | (simp; omega))).trans (hchq.cell1 lQ gQ cq)⟩ (fun hHeld => ?_)
                clear hK K; (try simp only [Act.put, List.setIfInBounds_toArray, List.set_cons_zero, List.set_cons_succ])
                refine wpAnyH_done (by kernel_rfl) ?_ _
                go_wp2_with fail
                refine ⟨⟨j + 1, _, by go_num, by omega, U2.set 4 _, ?_, hcu1.below (by (with_reducible repeat' first | exact Below.refl _ _ | assumption | (refine Below.setCell ?_ (by first | omega | (simp; omega) | (simp; done) | (dsimp only; omega)) _) | (refine Below.alloc ?_ (by first | omega | (simp; omega) | (simp; done) | (dsimp only; omega)) _) | (refine below_drewN ?_ _) | (refine Below.drew ?_)) : Below w4.heap.size v1 _) (by omega), (hchL.trans (undrewT hchq)).then_below (by (with_reducible repeat' first | exact Below.refl _ _ | assumption | (refine Below.setCell ?_ (by first | omega | (simp; omega) | (simp; done) | (dsimp only; omega)) _) | (refine Below.alloc ?_ (by first | omega | (simp; omega) | (simp; done) | (dsimp only; omega)) _) | (refine below_drewN ?_ _) | (refine Below.drew ?_)) : Below w4.heap.size v1 _) (Nat.le_refl _), (by have h9 := hchq.size; simp only [szs] at h9; simp [World.setCell]; omega)⟩, by simp [intOf]; omega⟩
                exact (hLS'.same (Same.of_chg (undrewT hchq) hLh (.inr (by omega)))).same (by (with_reducible repeat' first | exact Same.refl _ _ _ | assumption | (refine Same.setCell ?_ (by first | omega | (simp; omega) | (simp; done) | (dsimp only; omega)) _) | (refine Same.alloc ?_ (by first | omega | (simp; omega) | (simp; done) | (dsimp only; omega)) _) | (refine Same.drewN ?_ _) | (refine Same.drew ?_)))
            · have i2 : ¬ (j : Int) < (ps.length : Int) := by omega
              have p0 := PB.cell (i := 0) rfl; have p1 := PB.cell (i := 1) rfl; have p2 := PB.cell (i := 2) rfl; have p3 := PB.cell (i := 3) rfl; have p4 := PB.cell (i := 4) rfl; have p5 := PB.cell (i := 5) rfl
              have e0 := G.fam.cell (i := 0) rfl; have e1 := G.fam.cell (i := 1) rfl; have f0 := G.fam.free 0
              have zW := G.size; have ho := G.own; have lF := G.fam.lt
              go_wp2_with (at_builtin; refine wpList_app1 tyPersonS A xs ⟨s, sex, f', m', b, -1⟩ (vsPerson ⟨s, sex, f', m', b, -1⟩) ⟨wr.heap.size, 0, none⟩ 1 (lo := w.heap.size + 2) (hi := wr.heap.size) (ho.same (by (with_reducible repeat' first | exact Same.refl _ _ _ | assumption | (refine Same.setCell ?_ (by first | omega | (simp; omega) | (simp; done) | (dsimp only; omega)) _) | (refine Same.alloc ?_ (by first | omega | (simp; omega) | (simp; done) | (dsimp only; omega)) _) | (refine Same.drewN ?_ _) | (refine Same.drew ?_)))) rfl (by (first | omega | (simp; omega) | (simp; done) | (dsimp only; omega))) zW rfl _ _ rfl rfl rfl rfl (cell_row_at _ _ _ _ (by simp)) (flatPerson.one _) (by omega) (by decide) (fun A' c' w15 ho5 hg5 hc5 hm5 => ?_); have hb5 : Below (w.heap.size + 2) wr w15 := Below.grown (w := World.alloc _ _) (by (with_reducible repeat' first | exact Below.refl _ _ | assumption | (refine Below.setCell ?_ (by first | omega | (simp; omega) | (simp; done) | (dsimp only; omega)) _) | (refine Below.alloc ?_ (by first | omega | (simp; omega) | (simp; done) | (dsimp only; omega)) _) | (refine below_drewN ?_ _) | (refine Below.drew ?_))) hg5 (by simp; omega) (fun k hk => (ho.blkv k hk).1); replace e0 := (hb5.cell (p := ⟨w.heap.size + 1, 0, none⟩) (by first | omega | (simp; omega) | (simp; done) | (dsimp only; omega))).trans e0; replace f0 := (hb5.frozen (p := ⟨w.heap.size + 1, 0, none⟩) (by first | omega | (simp; omega) | (simp; done) | (dsimp only; omega))).trans f0)
              exact ⟨⟨k - 1, xs ++ [⟨s, sex, f', m', b, -1⟩], A', c', by congr 1; omega, by simp; omega, Before_snoc hB hf' hm', by simpa using G.pushed _ hg5 ho5 hs2⟩, by simp [intOf]; omega⟩
    · have i1 : ¬ (0 : Int) < (k : Int) := by omega
      have hxn : xs.length ≤ n := by omega
      clear hk hk0
      go_upto_region 21 with fail
      have HN := Lib.hid hxn
      go_loopw [97] (fun i wc => DieRel g xs.length A cc w i wc) (fun i _ => xs.length - (intOf i).toNat)
      case atStart => exact ⟨0, xs, rfl, by omega, rfl, hB, F⟩
      case round =>
        obtain ⟨j, zs, rfl, hj, hl, hB2, G⟩ := hrel
        have hzn : zs.length ≤ 40 := by omega
        have HL := Lib.hid hl
        have HB := Lib.hid hB2
        have zG := G.size
        have hfam := G.fam
        have hown := G.own
        rw [hl] at hfam hown
        have e0 := hfam.cell (i := 0) rfl; have e1 := hfam.cell (i := 1) rfl
        clear F hl hB2
        by_cases hjl : j < xs.length
        · have i2 : (j : Int) < (xs.length : Int) := by omega
          go_upto_if 101 with (go_at_call 171; refine (l01Once_any g 3 _ G.cur (by omega) (by omega)).mono ?_; rintro e w5 ⟨x, rfl, hc5, hch5, hs5⟩; clear hs5)
          have F5 := G.next hch5 hc5
          have f5 := F5.fam
          have o5 := F5.own
          rw [HL.out] at f5 o5
          cases x with
          | false =>
            go_wp2
            exact ⟨⟨j + 1, zs, by go_num, by omega, HL.out, HB.out, F5⟩, by simp [intOf]; omega⟩
          | true =>
            obtain ⟨⟨x0, x1, x2, x3, x4, x5⟩, hxj⟩ : ∃ x, zs[j]? = some (x : Person) := ⟨_, List.getElem?_eq_getElem (by rw [HL.out]; exact hjl)⟩
            obtain ⟨qb, c1, hv, k1, k2, k3, hcell, _⟩ := flat_put EPerson_O F5.own (Nat.le_refl _) hxj
            injection hv with hv _ hcc
            subst hv; subst hcc
            obtain ⟨d4, _⟩ := hcell 4 (.int .i64 x4) rfl
            have n4 : (⟨qb, j * EPerson.sz + 4, none⟩ : Addr) = ⟨qb, j * 6 + 4, none⟩ := rfl
            rw [n4] at d4
            have g0 := f5.cell (i := 0) rfl; have g1 := f5.cell (i := 1) rfl
            have HX := Lib.hid hxj
            clear hcell hxj n4 e0 e1 G hfam hown hch5 hc5
            have hK := l1Children_any (some ⟨qb, 0, none⟩) none cc 0 (w.heap.size + 2) w5.heap.size zs [] j w5 F5.own.read.as Elem.AS.nil (Nat.le_refl _) hzn
            rw [show ([] : List Union).length = 0 from rfl, HL.out] at hK
            have HM := Lib.hid (fun q (hq : q ∈ kidsM zs (kidP zs j) xs.length) => kidsM_mem.1 hq)
            have hkl := kidsM_len (xs := zs) (P := kidP zs j) xs.length
            generalize kidsM zs (kidP zs j) xs.length = ks at *
            go_upto_region 26 with (go_at_call 165; (with_reducible refine hK.mono ?_); rintro e w6 ⟨K, cK, rfl, oK, hb6⟩)
            have F6 := F5.next (Chg.of_below hb6) (F5.cur.below hb6 F5.cur.lt)
            have hKS := oK.read.as
            have f6 := F6.fam
            have o6 := F6.own
            rw [HL.out] at f6 o6
            have z6 := hb6.size
            clear hK oK hb6 F5 f5 o5 g0 g1 d4
            go_loopw [14, 112] (fun v i wc => ∃ (m : Nat) (a : Int), i = .int .i64 m ∧ v = .int .i64 a ∧ m ≤ ks.length ∧ w6 = wc) (fun _ i _ => ks.length - (intOf i).toNat)
            case atStart => exact ⟨0, _, rfl, rfl, by omega, rfl⟩
            case round =>
              obtain ⟨m, a, rfl, rfl, hm, rfl⟩ := hrel
              have g0 := f6.cell (i := 0) rfl; have g1 := f6.cell (i := 1) rfl
              by_cases hml : m < ks.length
              · have i3 : (m : Int) < (ks.length : Int) := by omega
                obtain ⟨kb, ko, kq, rfl, _, _, _, hkq, ck⟩ := AInt.at_ hKS hml
                obtain ⟨q, hq1, _, rfl⟩ := HM.out kq (List.mem_of_getElem? hkq)
                obtain ⟨qb', qo', ⟨y0, y1, y2, y3, y4, y5⟩, he, _, _, _, _, _, _, _, _, cq, _⟩ := APerson.at_ F6.own.read.as (k := q) (by rw [HL.out]; exact hq1)
                injection he with he; injection he with he1 he2 _
                subst he1; subst he2
                simp only [Nat.zero_add] at cq
                have i4 : (q : Int) < (xs.length : Int) := by omega
                clear hkq
                go_wp2
                exact ⟨⟨m + 1, _, by go_num, rfl, by omega, trivial⟩, by simp [intOf]; omega⟩
              · have i3 : ¬ (m : Int) < (ks.length : Int) := by omega
                go_upto_region 30 with fail
                have hxj := HX.out
                have c0 := f6.cell (i := 0) rfl
                have lF : w.heap.size + 1 < w6.drew.heap.size := f6.lt
                have gF : w.heap.size + 1 < g ∨ g + 1 ≤ w.heap.size + 1 := .inr (by omega)
                have hch0 : Chg g (g + 1) w6.drew w6.drew := Chg.refl _ _ _
                have hcu0 : Cur w6.drew g := F6.cur.drew
                clear g0 g1
                refine wp_region_held_drew (S := fun w' => w'.cell? ⟨w.heap.size + 1, 0, none⟩ = some (.slice (some ⟨qb, 0, none⟩) xs.length cc)) (by kernel_rfl) c0 (fun hHeld => ?_)
                refine wpAnyH_take (i := 0) (oi := { dst := some 125, op := _, type := _, pos := _, after := _, guard := _ }) (v := ?_) rfl (by kernel_rfl) (by kernel_rfl) (by kernel_rfl) (fun _ _ _ h => h) (Or.inl ⟨by rfl, ?_⟩) (by assumption) ?_; rotate_left; (intro w hSw; (try dsimp only at hSw); go_simp); (try with_reducible rfl); (try simp only [Act.put, List.setIfInBounds_toArray, List.set_cons_zero, List.set_cons_succ])
                refine wpAnyH_take (i := 1) (oi := { dst := some 126, op := _, type := _, pos := _, after := _, guard := _ }) (v := ?_) rfl (by kernel_rfl) (by kernel_rfl) (by kernel_rfl) (fun _ _ _ h => h) (Or.inl ⟨by rfl, ?_⟩) (by assumption) ?_; rotate_left; (intro w hSw; (try dsimp only at hSw); go_simp); (try with_reducible rfl); (try simp only [Act.put, List.setIfInBounds_toArray, List.set_cons_zero, List.set_cons_succ])
                refine wpAnyH_take (i := 2) (oi := { dst := some 127, op := _, type := _, pos := _, after := _, guard := _ }) (v := ?_) rfl (by kernel_rfl) (by kernel_rfl) (by kernel_rfl) (fun _ _ _ h => h) (Or.inl ⟨by rfl, ?_⟩) (by assumption) ?_; rotate_left; (intro w hSw; (try dsimp only at hSw); go_simp); (try with_reducible rfl); (try simp only [Act.put, List.setIfInBounds_toArray, List.set_cons_zero, List.set_cons_succ])
                refine wpAnyH_take (i := 3) (oi := { dst := some 128, op := _, type := _, pos := _, after := _, guard := _ }) (v := ?_) rfl (by kernel_rfl) (by kernel_rfl) (by kernel_rfl) (fun _ _ _ h => h) (Or.inl ⟨by rfl, ?_⟩) (by assumption) ?_; rotate_left; (intro w hSw; (try dsimp only at hSw); go_simp); (try with_reducible rfl); (try simp only [Act.put, List.setIfInBounds_toArray, List.set_cons_zero, List.set_cons_succ])
                refine wpAnyH_take (i := 4) (oi := { dst := some 129, op := _, type := _, pos := _, after := _, guard := _ }) (v := ?_) rfl (by kernel_rfl) (by kernel_rfl) (by kernel_rfl) (fun _ _ _ h => h) (Or.inl ⟨by rfl, ?_⟩) (by assumption) ?_; rotate_left; (intro w hSw; (try dsimp only at hSw); go_simp); (try with_reducible rfl); (try simp only [Act.put, List.setIfInBounds_toArray, List.set_cons_zero, List.set_cons_succ])
                refine wpAnyH_ready (rs := [5]) (by kernel_rfl) (by simp) ?_
                refine AllReadyH.cons (o := { dst := some 130, op := _, type := _, pos := _, after := _, guard := _ }) rfl (fun K hK => ?_) (AllReadyH.nil)
                go_simp
                refine hK.out _ _ ((hch0.alloc _).cell1 lF gF c0) (fun hHeld => ?_)
                clear hK K; (try simp only [Act.put, List.setIfInBounds_toArray, List.set_cons_zero, List.set_cons_succ])
                generalize hV : (World.alloc w6 (.cells #[.int .i64 0, .int .i64 1, .int .i64 5, .int .i64 30, .int .i64 60] 3)).drew = v1
                have hch1 : Chg g (g + 1) w6.drew v1 := by subst hV; exact hch0.alloc _
                have hcu1 : Cur v1 g := by subst hV; exact hcu0.below ((Below.refl _ _).alloc (Nat.le_refl _) _) hcu0.lt
                have BS : EInt.AS v1 w6.heap.size (w6.heap.size + 1) (some ⟨w6.heap.size, 0, none⟩) [0, 1, 5, 30, 60] := by subst hV; exact (ints_lit w6.drew [0, 1, 5, 30, 60] (by decide)).read.as
                obtain ⟨lbs0, hlbs⟩ : ∃ m, m = w6.heap.size := ⟨_, rfl⟩
                have lbs : lbs0 < v1.heap.size := by subst hV; rw [hlbs]; simp
                have gbs : g + 1 ≤ lbs0 := by rw [hlbs]; exact hcu0.lt
                rw [← hlbs] at BS ⊢
                clear hV hch0 hcu0 hlbs
                refine wpAnyH_ready (rs := [6]) (by kernel_rfl) (by simp) ?_
                refine AllReadyH.cons (o := { dst := some 131, op := _, type := _, pos := _, after := _, guard := _ }) rfl (fun K hK => ?_) (AllReadyH.nil)
                go_simp
                (go_at_call 208; refine (l01Int_any g (some ⟨lbs0, 0, none⟩) 5 lbs0 (lbs0 + 1) [0, 1, 5, 30, 60] _ hcu1 BS (by omega) (.inr gbs) (by decide) (by decide)).mono ?_; rintro e v2 ⟨yy, hyy, rfl, hcu2, hchq, hsq⟩)
                have hch2 := hch1.trans hchq
                try go_wp2_with fail
                refine hK.out _ _ (hch2.cell1 lF gF c0) (fun hHeld => ?_)
                clear hK K; (try simp only [Act.put, List.setIfInBounds_toArray, List.set_cons_zero, List.set_cons_succ])
                clear hchq hsq hch1 hcu1 BS
                have G2 := F6.next (undrewT hch2) hcu2
                refine wpAnyH_take (i := 7) (oi := { dst := some 132, op := _, type := _, pos := _, after := _, guard := _ }) (v := ?_) rfl (by kernel_rfl) (by kernel_rfl) (by kernel_rfl) (fun _ _ _ h => h) (Or.inl ⟨by rfl, ?_⟩) (by assumption) ?_; rotate_left; (intro w hSw; (try dsimp only at hSw); go_simp); (try with_reducible rfl); (try simp only [Act.put, List.setIfInBounds_toArray, List.set_cons_zero, List.set_cons_succ])
                refine wpAnyH_take (i := 8) (oi := { dst := some 133, op := _, type := _, pos := _, after := _, guard := _ }) (v := ?_) rfl (by kernel_rfl) (by kernel_rfl) (by kernel_rfl) (fun _ _ _ h => h) (Or.inl ⟨by rfl, ?_⟩) (by assumption) ?_; rotate_left; (intro w hSw; (try dsimp only at hSw); go_simp); (try with_reducible rfl); (try simp only [Act.put, List.setIfInBounds_toArray, List.set_cons_zero, List.set_cons_succ])
                refine wpAnyH_take (i := 9) (oi := { dst := some 134, op := _, type := _, pos := _, after := _, guard := _ }) (v := ?_) rfl (by kernel_rfl) (by kernel_rfl) (by kernel_rfl) (fun _ _ _ h => h) (Or.inl ⟨by rfl, ?_⟩) (by assumption) ?_; rotate_left; (intro w hSw; (try dsimp only at hSw); go_simp); (try with_reducible rfl); (try simp only [Act.put, List.setIfInBounds_toArray, List.set_cons_zero, List.set_cons_succ])
                refine wpAnyH_ready (rs := [10]) (by kernel_rfl) (by simp) ?_
                refine AllReadyH.cons (o := { dst := none, op := _, type := _, pos := _, after := _, guard := _ }) rfl (fun K hK => ?_) (AllReadyH.nil)
                obtain ⟨kk1, kk2, hc2, hs2⟩ := put_at G2.own (Nat.le_refl _) hxj
                obtain ⟨d5, f5⟩ := hc2 5 (.int .i64 x5) rfl
                go_simp
                refine hK.out _ _ ((World.cell?_setCell_other _ _ _ _ (by first | (simp; done) | (simp; omega))).trans (hch2.cell1 lF gF c0)) (fun hHeld => ?_)
                clear hK K; (try simp only [Act.put, List.setIfInBounds_toArray, List.set_cons_zero, List.set_cons_succ])
                refine wpAnyH_done (by kernel_rfl) ?_ _
                go_wp2_with fail
                refine ⟨⟨j + 1, zs.set j ⟨x0, x1, x2, x3, x4, wrap64 (a + yy)⟩, by go_num, by omega, by rw [List.length_set]; exact HL.out, HB.out.set5 hxj _, G2.put hxj (hs2 5 (.int .i64 (wrap64 (a + yy))) _ ⟨x0, x1, x2, x3, x4, wrap64 (a + yy)⟩ rfl rfl rfl) kk1⟩, by simp [intOf]; omega⟩
        · have i2 : ¬ (j : Int) < (xs.length : Int) := by omega
          have hw := l1Wed_any g A none cc 0 (w.heap.size + 2) wr.heap.size zs [] wr G.cur G.own Elem.OS.nil (Nat.le_refl _) (by omega) (by omega) (by omega) HB.out G.name (by simp)
          rw [show ([] : List Union).length = 0 from rfl, HL.out] at hw
          go_upto_region 32 with fail
          have r0 := G.res.cell (i := 0) rfl; have r1 := G.res.cell (i := 1) rfl
          go_wp2_with (go_at_call 212; (with_reducible refine hw.mono ?_); rintro e w6 ⟨ys, A6, B6, c6, d6, rfl, o6, u6, hy6, hc6, hch6⟩; have R6 := G.res.chg hch6 (by omega); have r0 := R6.cell (i := 0) rfl; have r1 := R6.cell (i := 1) rfl; have s0 := R6.free 0; have s1 := R6.free 1; have lR6 := R6.lt)
          have z6 := hch6.size
          have RR := (R6.set 0 (.slice A6 zs.length c6)).set 1 (.slice B6 ys.length d6)
          have hbl : Below w.heap.size w6 ((w6.setCell ⟨w.heap.size, 0, none⟩ (.slice A6 zs.length c6)).setCell ⟨w.heap.size, 1, none⟩ (.slice B6 ys.length d6)) := by (with_reducible repeat' first | exact Below.refl _ _ | assumption | (refine Below.setCell ?_ (by first | omega | (simp; omega) | (simp; done) | (dsimp only; omega)) _) | (refine Below.alloc ?_ (by first | omega | (simp; omega) | (simp; done) | (dsimp only; omega)) _) | (refine below_drewN ?_ _) | (refine Below.drew ?_))
          have hnm := G.name
          exact bodyPost_ret (v := .agg #[.slice A6 zs.length c6, .slice B6 ys.length d6]) (by simp [results, Try.results168, go_sem, RR.cell (i := 0) rfl, RR.cell (i := 1) rfl]) rfl ⟨zs, ys, A6, B6, c6, d6, rfl, (o6.same (by (with_reducible repeat' first | exact Same.refl _ _ _ | assumption | (refine Same.setCell ?_ (by first | omega | (simp; omega) | (simp; done) | (dsimp only; omega)) _) | (refine Same.alloc ?_ (by first | omega | (simp; omega) | (simp; done) | (dsimp only; omega)) _) | (refine Same.drewN ?_ _) | (refine Same.drew ?_)))).mono (by omega) (by simp [World.setCell]), (u6.same (by (with_reducible repeat' first | exact Same.refl _ _ _ | assumption | (refine Same.setCell ?_ (by first | omega | (simp; omega) | (simp; done) | (dsimp only; omega)) _) | (refine Same.alloc ?_ (by first | omega | (simp; omega) | (simp; done) | (dsimp only; omega)) _) | (refine Same.drewN ?_ _) | (refine Same.drew ?_)))).mono (by omega) (by simp [World.setCell]), by have := HN.out; have := HL.out; omega, by omega, hnm, hc6.below hbl hg, (G.chg.trans hch6).then_below hbl (Nat.le_refl _)⟩
end Go.Proofs.Ytnnjilkjjdiblaa

namespace Go.Proofs.Ytnnjilkjjdiblaa
set_option maxRecDepth 100000
open Go.RowKit

theorem os_cap {α : Type} {E : Elem α} {w : World} {lo hi c : Nat} {A : Option Addr} {xs : List α} (h : E.OS w lo hi (.slice A xs.length c) xs) : xs.length ≤ c ∧ c ≤ maxLen := by
  obtain ⟨A', c', e1, e2, e3, _⟩ := h.read.open_
  injection e1 with _ _ e
  subst e
  exact ⟨e2, e3⟩
/-- A family is returned that the call has made: so many persons at most. -/
def RetFamily (n : Int) (w : World) (e : Ending) (w' : World) : Prop :=
  ∃ (xs : List Person) (ys : List Union) (A B : Option Addr) (c d : Nat), e = .returned (.agg #[.slice A xs.length c, .slice B ys.length d]) ∧ EPerson.OS w' w.heap.size w'.heap.size (.slice A xs.length c) xs ∧ EUnion.OS w' w.heap.size w'.heap.size (.slice B ys.length d) ys ∧
    (xs.length : Int) ≤ n ∧ ys.length ≤ 1000 ∧ (∀ x ∈ xs, x.name.size = 2) ∧ Below w.heap.size w w'
set_option maxHeartbeats 2000000 in
theorem makeFamily_any (A : Option Addr) (c lo hi n : Nat) (bs : List Int) (w : World) (h : EByte.AS w lo hi A bs) (hh : hi ≤ w.heap.size) (hbs : bs.length ≤ 1048576) (hn : 1 ≤ n ∧ n ≤ 40) :
    Calls Try.prog 80 #[.slice A bs.length c, .int .i64 n] w (RetFamily n w) := by
  go_enter Try.func80, Try.ntmps80
  go_upto_region 1 with fail
  generalize hW : w.alloc (.cells #[.slice none 0 0, .slice none 0 0] 26) = W
  have R : Blk W w.heap.size 26 #[.slice none 0 0, .slice none 0 0] := by subst hW; exact Blk.new _ rfl
  have hb : Below w.heap.size w W := by subst hW; (with_reducible repeat' first | exact Below.refl _ _ | assumption | (refine Below.setCell ?_ (by first | omega | (simp; omega) | (simp; done) | (dsimp only; omega)) _) | (refine Below.alloc ?_ (by first | omega | (simp; omega) | (simp; done) | (dsimp only; omega)) _) | (refine below_drewN ?_ _) | (refine Below.drew ?_))
  have z0 : w.heap.size + 1 ≤ W.heap.size := by subst hW; simp
  clear hW
  replace h := h.same (Same.of_below hb hh)
  have i1 : ¬ (40 : Int) < (n : Int) := by omega
  have i2 : (0 : Int) < (n : Int) := by omega
  have i3 : (n : Int) ≤ 40 := by omega
  have m1 : min (n : Int) 40 = n := by omega
  have m2 : max 0 (n : Int) = n := by omega
  go_wp2_with (first
    | (go_at_call 84; go_loud (refine (l01New_any A c lo hi bs _ h (by omega) hbs).mono ?_; rintro e w1 ⟨g, rfl, hg, hc, hb1⟩; (have z1 := hb1.size); (have lc := hc.lt); (replace R := R.below hb1 (by omega)); (replace hb := hb.trans (hb1.mono (by omega)))))
    | (go_at_call 168; go_loud (refine (l1Family_any g n _ hc hn.2).mono ?_; rintro e w2 ⟨xs, ys, A2, B2, c2, d2, rfl, o2, u2, hx, hy, hnm, _, hch⟩; (have z2 := hch.size); (replace R := R.chg hch (by omega)); (replace hb := hb.trans (hch.below (B := w.heap.size) (by omega) (by omega))); (have f0 := R.free 0); (have f1 := R.free 1); (have q0 := R.cell (i := 0) rfl); (have q1 := R.cell (i := 1) rfl); (have lR := R.lt))))
  have RR := (R.set 0 (.slice A2 xs.length c2)).set 1 (.slice B2 ys.length d2)
  exact bodyPost_ret (v := .agg #[.slice A2 xs.length c2, .slice B2 ys.length d2]) (by simp [results, Try.results80, go_sem, RR.cell (i := 0) rfl, RR.cell (i := 1) rfl]) rfl ⟨xs, ys, A2, B2, c2, d2, rfl, (o2.same (by (with_reducible repeat' first | exact Same.refl _ _ _ | assumption | (refine Same.setCell ?_ (by first | omega | (simp; omega) | (simp; done) | (dsimp only; omega)) _) | (refine Same.alloc ?_ (by first | omega | (simp; omega) | (simp; done) | (dsimp only; omega)) _) | (refine Same.drewN ?_ _) | (refine Same.drew ?_)))).mono (by first | omega | (simp; omega) | (simp; done) | (dsimp only; omega)) (by first | omega | (simp; omega) | (simp; done) | (dsimp only; omega)), (u2.same (by (with_reducible repeat' first | exact Same.refl _ _ _ | assumption | (refine Same.setCell ?_ (by first | omega | (simp; omega) | (simp; done) | (dsimp only; omega)) _) | (refine Same.alloc ?_ (by first | omega | (simp; omega) | (simp; done) | (dsimp only; omega)) _) | (refine Same.drewN ?_ _) | (refine Same.drew ?_)))).mono (by first | omega | (simp; omega) | (simp; done) | (dsimp only; omega)) (by first | omega | (simp; omega) | (simp; done) | (dsimp only; omega)), hx, hy, hnm, by (with_reducible repeat' first | exact Below.refl _ _ | assumption | (refine Below.setCell ?_ (by first | omega | (simp; omega) | (simp; done) | (dsimp only; omega)) _) | (refine Below.alloc ?_ (by first | omega | (simp; omega) | (simp; done) | (dsimp only; omega)) _) | (refine below_drewN ?_ _) | (refine Below.drew ?_) | (refine Below.trans ?_ (hb.mono (by first | omega | (simp; omega) | (simp; done) | (dsimp only; omega)))))⟩
set_option maxHeartbeats 2000000 in
theorem makeClose_any (A : Option Addr) (c lo hi : Nat) (bs : List Int) (w : World) (h : EByte.AS w lo hi A bs) (hh : hi ≤ w.heap.size) (hbs : bs.length ≤ 1048576) :
    Calls Try.prog 82 #[.slice A bs.length c] w (RetFamily 40 w) := by
  go_enter Try.func82, Try.ntmps82
  go_upto_region 1 with fail
  generalize hW : w.alloc (.cells #[.slice none 0 0, .slice none 0 0] 26) = W
  have R : Blk W w.heap.size 26 #[.slice none 0 0, .slice none 0 0] := by subst hW; exact Blk.new _ rfl
  have hb : Below w.heap.size w W := by subst hW; (with_reducible repeat' first | exact Below.refl _ _ | assumption | (refine Below.setCell ?_ (by first | omega | (simp; omega) | (simp; done) | (dsimp only; omega)) _) | (refine Below.alloc ?_ (by first | omega | (simp; omega) | (simp; done) | (dsimp only; omega)) _) | (refine below_drewN ?_ _) | (refine Below.drew ?_))
  have z0 : w.heap.size + 1 ≤ W.heap.size := by subst hW; simp
  clear hW
  replace h := h.same (Same.of_below hb hh)
  go_wp2_with (first
    | (go_at_call 84; go_loud (refine (l01New_any A c lo hi bs _ h (by omega) hbs).mono ?_; rintro e w1 ⟨g, rfl, hg, hc, hb1⟩; (have z1 := hb1.size); (have lc := hc.lt); (replace R := R.below hb1 (by omega)); (replace hb := hb.trans (hb1.mono (by omega)))))
    | (go_at_call 169; go_loud (refine (l8Close_any g _ hc).mono ?_; rintro e w2 ⟨xs, ys, A2, B2, c2, d2, rfl, o2, u2, hx, hy, hnm, _, hch⟩; (have z2 := hch.size); (replace R := R.chg hch (by omega)); (replace hb := hb.trans (hch.below (B := w.heap.size) (by omega) (by omega))); (have f0 := R.free 0); (have f1 := R.free 1); (have q0 := R.cell (i := 0) rfl); (have q1 := R.cell (i := 1) rfl); (have lR := R.lt))))
  have RR := (R.set 0 (.slice A2 xs.length c2)).set 1 (.slice B2 ys.length d2)
  exact bodyPost_ret (v := .agg #[.slice A2 xs.length c2, .slice B2 ys.length d2]) (by simp [results, Try.results82, go_sem, RR.cell (i := 0) rfl, RR.cell (i := 1) rfl]) rfl ⟨xs, ys, A2, B2, c2, d2, rfl, (o2.same (by (with_reducible repeat' first | exact Same.refl _ _ _ | assumption | (refine Same.setCell ?_ (by first | omega | (simp; omega) | (simp; done) | (dsimp only; omega)) _) | (refine Same.alloc ?_ (by first | omega | (simp; omega) | (simp; done) | (dsimp only; omega)) _) | (refine Same.drewN ?_ _) | (refine Same.drew ?_)))).mono (by first | omega | (simp; omega) | (simp; done) | (dsimp only; omega)) (by first | omega | (simp; omega) | (simp; done) | (dsimp only; omega)), (u2.same (by (with_reducible repeat' first | exact Same.refl _ _ _ | assumption | (refine Same.setCell ?_ (by first | omega | (simp; omega) | (simp; done) | (dsimp only; omega)) _) | (refine Same.alloc ?_ (by first | omega | (simp; omega) | (simp; done) | (dsimp only; omega)) _) | (refine Same.drewN ?_ _) | (refine Same.drew ?_)))).mono (by first | omega | (simp; omega) | (simp; done) | (dsimp only; omega)) (by first | omega | (simp; omega) | (simp; done) | (dsimp only; omega)), hx, hy, hnm, by (with_reducible repeat' first | exact Below.refl _ _ | assumption | (refine Below.setCell ?_ (by first | omega | (simp; omega) | (simp; done) | (dsimp only; omega)) _) | (refine Below.alloc ?_ (by first | omega | (simp; omega) | (simp; done) | (dsimp only; omega)) _) | (refine below_drewN ?_ _) | (refine Below.drew ?_) | (refine Below.trans ?_ (hb.mono (by first | omega | (simp; omega) | (simp; done) | (dsimp only; omega)))))⟩

/-- A valid type is returned that the call has made: so many steps at most, a sex of ego that is among some. -/
def RetMadeT (P : Int → Prop) (n : Int) (w : World) (e : Ending) (w' : World) : Prop :=
  ∃ (ego : Int) (zs : List Step) (A : Option Addr) (c : Nat), e = .returned (.agg #[.int .i64 ego, .slice A zs.length c]) ∧ typeOk ⟨ego, zs⟩ = true ∧ P ego ∧ (zs.length : Int) ≤ n ∧ EStep.OS w' w.heap.size w'.heap.size (.slice A zs.length c) zs ∧ Below w.heap.size w w'
set_option maxHeartbeats 2000000 in
theorem makeAnyType_any (A : Option Addr) (c lo hi n : Nat) (bs : List Int) (w : World) (h : EByte.AS w lo hi A bs) (hh : hi ≤ w.heap.size) (hbs : bs.length ≤ 1048576) (hn : 1 ≤ n ∧ n ≤ 8) :
    Calls Try.prog 65 #[.slice A bs.length c, .int .i64 n] w (RetMadeT (fun _ => True) n w) := by
  go_enter Try.func65, Try.ntmps65
  go_upto_region 1 with fail
  generalize hW : w.alloc (.cells #[.int .i64 0, .slice none 0 0] 30) = W
  have R : Blk W w.heap.size 30 #[.int .i64 0, .slice none 0 0] := by subst hW; exact Blk.new _ rfl
  have hb : Below w.heap.size w W := by subst hW; (with_reducible repeat' first | exact Below.refl _ _ | assumption | (refine Below.setCell ?_ (by first | omega | (simp; omega) | (simp; done) | (dsimp only; omega)) _) | (refine Below.alloc ?_ (by first | omega | (simp; omega) | (simp; done) | (dsimp only; omega)) _) | (refine below_drewN ?_ _) | (refine Below.drew ?_))
  have z0 : w.heap.size + 1 ≤ W.heap.size := by subst hW; simp
  clear hW
  replace h := h.same (Same.of_below hb hh)
  have i1 : ¬ (8 : Int) < (n : Int) := by omega
  have i2 : (0 : Int) < (n : Int) := by omega
  have m1 : min (n : Int) 8 = n := by omega
  have m2 : max 0 (n : Int) = n := by omega
  go_wp2_with (first
    | (go_at_call 84; go_loud (refine (l01New_any A c lo hi bs _ h (by omega) hbs).mono ?_; rintro e w1 ⟨g, rfl, hg, hc, hb1⟩; (have z1 := hb1.size); (have lc := hc.lt); (replace R := R.below hb1 (by omega)); (replace hb := hb.trans (hb1.mono (by omega)))))
    | (go_at_call 83; go_loud (refine (l3Draw_any g n _ hc (by omega) (by omega)).mono ?_; rintro e w2 ⟨ego, zs, A2, c2, rfl, ht, hl, o2, _, hch⟩; (have z2 := hch.size); (replace R := R.chg hch (by omega)); (replace hb := hb.trans (hch.below (B := w.heap.size) (by omega) (by omega))); (have f0 := R.free 0); (have f1 := R.free 1); (have q0 := R.cell (i := 0) rfl); (have q1 := R.cell (i := 1) rfl); (have lR := R.lt))))
  have RR := (R.set 0 (.int .i64 ego)).set 1 (.slice A2 zs.length c2)
  exact bodyPost_ret (v := .agg #[.int .i64 ego, .slice A2 zs.length c2]) (by simp [results, Try.results65, go_sem, RR.cell (i := 0) rfl, RR.cell (i := 1) rfl]) rfl ⟨ego, zs, A2, c2, rfl, ht, trivial, hl, (o2.same (by (with_reducible repeat' first | exact Same.refl _ _ _ | assumption | (refine Same.setCell ?_ (by first | omega | (simp; omega) | (simp; done) | (dsimp only; omega)) _) | (refine Same.alloc ?_ (by first | omega | (simp; omega) | (simp; done) | (dsimp only; omega)) _) | (refine Same.drewN ?_ _) | (refine Same.drew ?_)))).mono (by first | omega | (simp; omega) | (simp; done) | (dsimp only; omega)) (by first | omega | (simp; omega) | (simp; done) | (dsimp only; omega)), by (with_reducible repeat' first | exact Below.refl _ _ | assumption | (refine Below.setCell ?_ (by first | omega | (simp; omega) | (simp; done) | (dsimp only; omega)) _) | (refine Below.alloc ?_ (by first | omega | (simp; omega) | (simp; done) | (dsimp only; omega)) _) | (refine below_drewN ?_ _) | (refine Below.drew ?_) | (refine Below.trans ?_ (hb.mono (by first | omega | (simp; omega) | (simp; done) | (dsimp only; omega)))))⟩
set_option maxHeartbeats 4000000 in
theorem makeType_any (A : Option Addr) (c lo hi n : Nat) (bs : List Int) (w : World) (h : EByte.AS w lo hi A bs) (hh : hi ≤ w.heap.size) (hbs : bs.length ≤ 1048576) (hn : 1 ≤ n ∧ n ≤ 8) :
    Calls Try.prog 19 #[.slice A bs.length c, .int .i64 n] w (RetMadeT (fun e => e = 1 ∨ e = 2) n w) := by
  go_enter Try.func19, Try.ntmps19
  go_upto_region 1 with fail
  generalize hW : w.alloc (.cells #[.int .i64 0, .slice none 0 0] 30) = W
  have R : Blk W w.heap.size 30 #[.int .i64 0, .slice none 0 0] := by subst hW; exact Blk.new _ rfl
  have hb : Below w.heap.size w W := by subst hW; (with_reducible repeat' first | exact Below.refl _ _ | assumption | (refine Below.setCell ?_ (by first | omega | (simp; omega) | (simp; done) | (dsimp only; omega)) _) | (refine Below.alloc ?_ (by first | omega | (simp; omega) | (simp; done) | (dsimp only; omega)) _) | (refine below_drewN ?_ _) | (refine Below.drew ?_))
  have z0 : w.heap.size + 1 ≤ W.heap.size := by subst hW; simp
  clear hW
  replace h := h.same (Same.of_below hb hh)
  have i1 : ¬ (8 : Int) < (n : Int) := by omega
  have i2 : (0 : Int) < (n : Int) := by omega
  have m1 : min (n : Int) 8 = n := by omega
  have m2 : max 0 (n : Int) = n := by omega
  go_upto_region 2 with (first
    | (go_at_call 84; go_loud (refine (l01New_any A c lo hi bs _ h (by omega) hbs).mono ?_; rintro e w1 ⟨g, rfl, hg, hc, hb1⟩; (have z1 := hb1.size); (have lc := hc.lt); (replace R := R.below hb1 (by omega)); (replace hb := hb.trans (hb1.mono (by omega)))))
    | (go_at_call 83; go_loud (refine (l3Draw_any g n _ hc (by omega) (by omega)).mono ?_; rintro e w2 ⟨ego, zs, A2, c2, rfl, ht, hl, o2, _, hch⟩; (have z2 := hch.size); (replace R := R.chg hch (by omega)); (replace hb := hb.trans (hch.below (B := w.heap.size) (by omega) (by omega))))))
  generalize hW : w2.alloc (.cells #[.int .i64 ego, .slice A2 zs.length c2] 30) = W2
  obtain ⟨tb, htb⟩ : ∃ m, m = w2.heap.size := ⟨_, rfl⟩
  rw [← htb]
  have T : Blk W2 tb 30 #[.int .i64 ego, .slice A2 zs.length c2] := by subst hW; rw [htb]; exact Blk.new _ rfl
  have R2 : Blk W2 w.heap.size 30 #[.int .i64 0, .slice none 0 0] := by subst hW; exact R.alloc _
  have hb2 : Below w.heap.size w W2 := by subst hW; (with_reducible repeat' first | exact Below.refl _ _ | assumption | (refine Below.setCell ?_ (by first | omega | (simp; omega) | (simp; done) | (dsimp only; omega)) _) | (refine Below.alloc ?_ (by first | omega | (simp; omega) | (simp; done) | (dsimp only; omega)) _) | (refine below_drewN ?_ _) | (refine Below.drew ?_) | (refine Below.trans ?_ (hb.mono (by first | omega | (simp; omega) | (simp; done) | (dsimp only; omega)))))
  have oT : EStep.OS W2 (w.heap.size + 1) tb (.slice A2 zs.length c2) zs := by subst hW; rw [htb]; exact (o2.same (by (with_reducible repeat' first | exact Same.refl _ _ _ | assumption | (refine Same.setCell ?_ (by first | omega | (simp; omega) | (simp; done) | (dsimp only; omega)) _) | (refine Same.alloc ?_ (by first | omega | (simp; omega) | (simp; done) | (dsimp only; omega)) _) | (refine Same.drewN ?_ _) | (refine Same.drew ?_)))).mono (by first | omega | (simp; omega) | (simp; done) | (dsimp only; omega)) (Nat.le_refl _)
  have z2' : w.heap.size + 1 ≤ tb := by rw [htb]; omega
  clear hW htb R hb o2 h hch
  have lT := T.lt
  have t0 := T.cell (i := 0) rfl; have t1 := T.cell (i := 1) rfl; have s0 := T.free 0
  have he := typeOk_ego ht
  simp only at he
  go_upto_if 14 with fail
  go_cut [] from 6 to 20 (fun wc => ∃ e : Int, (e = 1 ∨ e = 2) ∧ typeOk ⟨e, zs⟩ = true ∧ Blk wc tb 30 #[.int .i64 e, .slice A2 zs.length c2] ∧ Below tb W2 wc)
  case first =>
    by_cases h0 : ego = 0
    · subst h0
      have hTT := Lib.hid ht
      clear ht
      go_upto_region 4 with fail
      have T1 := T.set 0 (.int .i64 1)
      have hb3 : Below tb W2 (W2.setCell ⟨tb, 0, none⟩ (.int .i64 1)) := by (with_reducible repeat' first | exact Below.refl _ _ | assumption | (refine Below.setCell ?_ (by first | omega | (simp; omega) | (simp; done) | (dsimp only; omega)) _) | (refine Below.alloc ?_ (by first | omega | (simp; omega) | (simp; done) | (dsimp only; omega)) _) | (refine below_drewN ?_ _) | (refine Below.drew ?_))
      generalize hV : W2.setCell ⟨tb, 0, none⟩ (.int .i64 1) = W3 at *
      clear hV t0 t1 s0
      have t0 := T1.cell (i := 0) rfl; have t1 := T1.cell (i := 1) rfl
      have z3 := hb3.size
      have hI := specIsType_any 1 A2 c2 (w.heap.size + 1) tb zs W3 ((oT.same (Same.of_below hb3 (Nat.le_refl _))).read.as) (by omega)
      cases hok : typeOk ⟨1, zs⟩ with
      | true =>
        rw [hok] at hI
        have HO := Lib.hid hok; clear hok
        go_wp2_with (go_at_call 85; (with_reducible refine hI.mono ?_); rintro e w4 ⟨rfl, hb4⟩)
        go_meet
        exact ⟨1, .inl rfl, HO.out, T1.below hb4 T1.lt, hb3.trans (hb4.mono (by omega))⟩
      | false =>
        rw [hok] at hI
        have HO := Lib.hid hok; clear hok
        have lT1 := T1.lt
        go_wp2_with (go_at_call 85; (with_reducible refine hI.mono ?_); rintro e w4 ⟨rfl, hb4⟩; (have T4 := T1.below hb4 lT1); (have t0 := T4.cell (i := 0) rfl); (have s0 := T4.free 0); (have lT4 := T4.lt))
        go_meet
        exact ⟨2, .inr rfl, make_ego hTT.out HO.out, T4.set 0 _, (hb3.trans (hb4.mono (by omega))).setCell (by simp) _⟩
    · have h0' : (ego == 0) = false := by simpa using h0
      go_wp2
      go_meet
      exact ⟨ego, by omega, ht, T, Below.refl _ _⟩
  case rest =>
    obtain ⟨e, he', hte, T5, hb5⟩ := hcut
    have z5 := hb5.size
    have R5 := R2.below hb5 (by omega)
    have o5 := oT.same (Same.of_below hb5 (Nat.le_refl _))
    have r0 := R5.cell (i := 0) rfl; have r1 := R5.cell (i := 1) rfl; have f0 := R5.free 0; have f1 := R5.free 1
    have q0 := T5.cell (i := 0) rfl; have q1 := T5.cell (i := 1) rfl
    have lT5 := T5.lt
    clear t0 t1 s0
    go_wp2
    have RR := (R5.set 0 (.int .i64 e)).set 1 (.slice A2 zs.length c2)
    have hbx : Below w.heap.size w wc := hb2.trans (hb5.mono (by omega))
    exact bodyPost_ret (v := .agg #[.int .i64 e, .slice A2 zs.length c2]) (by simp [results, Try.results19, go_sem, RR.cell (i := 0) rfl, RR.cell (i := 1) rfl]) rfl ⟨e, zs, A2, c2, rfl, hte, he', hl, (o5.same (by (with_reducible repeat' first | exact Same.refl _ _ _ | assumption | (refine Same.setCell ?_ (by first | omega | (simp; omega) | (simp; done) | (dsimp only; omega)) _) | (refine Same.alloc ?_ (by first | omega | (simp; omega) | (simp; done) | (dsimp only; omega)) _) | (refine Same.drewN ?_ _) | (refine Same.drew ?_)))).mono (by first | omega | (simp; omega) | (simp; done) | (dsimp only; omega)) (by first | omega | (simp; omega) | (simp; done) | (dsimp only; omega)), by (with_reducible repeat' first | exact Below.refl _ _ | assumption | (refine Below.setCell ?_ (by first | omega | (simp; omega) | (simp; done) | (dsimp only; omega)) _) | (refine Below.alloc ?_ (by first | omega | (simp; omega) | (simp; done) | (dsimp only; omega)) _) | (refine below_drewN ?_ _) | (refine Below.drew ?_) | (refine Below.trans ?_ (hbx.mono (by first | omega | (simp; omega) | (simp; done) | (dsimp only; omega)))))⟩

/-- A family that is not empty is returned, which the call has made. -/
def RetSomeFam (w : World) (e : Ending) (w' : World) : Prop := ∃ (xs : List Person) (ys : List Union) (A B : Option Addr) (c d : Nat), e = .returned (.agg #[.slice A xs.length c, .slice B ys.length d]) ∧ EPerson.OS w' w.heap.size w'.heap.size (.slice A xs.length c) xs ∧ EUnion.OS w' w.heap.size w'.heap.size (.slice B ys.length d) ys ∧
      1 ≤ xs.length ∧ xs.length ≤ 40 ∧ ys.length ≤ 1000 ∧ (∀ x ∈ xs, x.name.size = 2) ∧ Below w.heap.size w w'
def RetAny (w : World) (e : Ending) (w' : World) : Prop := ∃ x : Int, e = .returned (.int .i64 x) ∧ w = w'
theorem at_free (A : Option Addr) (c lo hi : Nat) (bs : List Int) (i : Int) (w : World) (h : EByte.AS w lo hi A bs) (hbs : bs.length ≤ 1048576) (h0 : 0 ≤ i) (h1 : i ≤ 1000) :
    Calls Try.prog 81 #[.slice A bs.length c, .int .i64 i] w (RetAny w) := by
  by_cases hlt : i.toNat < bs.length
  · obtain ⟨b, off, x, rfl, _, _, _, hx, hc⟩ := AByte.at_ h hlt
    clear hx
    have i1 : i < (bs.length : Int) := by omega
    go_enter Try.func81, Try.ntmps81
    go_wp2
    go_ret
    exact ⟨_, rfl, rfl⟩
  · have i1 : ¬ i < (bs.length : Int) := by omega
    go_enter Try.func81, Try.ntmps81
    go_wp2
    go_ret
    exact ⟨_, rfl, rfl⟩
set_option maxHeartbeats 4000000 in
theorem crowd_free (A : Option Addr) (c lo hi n : Nat) (bs : List Int) (w : World) (h : EByte.AS w lo hi A bs) (hh : hi ≤ w.heap.size) (hbs : bs.length ≤ 1048576) (hn : 1 ≤ n ∧ n ≤ 40) :
    Calls Try.prog 18 #[.slice A bs.length c, .int .i64 n] w (RetSomeFam w) := by
  go_enter Try.func18, Try.ntmps18
  go_upto_region 1 with fail
  generalize hW : w.alloc (.cells #[.slice none 0 0, .slice none 0 0] 26) = W
  have R : Blk W w.heap.size 26 #[.slice none 0 0, .slice none 0 0] := by subst hW; exact Blk.new _ rfl
  have hb : Below w.heap.size w W := by subst hW; (with_reducible repeat' first | exact Below.refl _ _ | assumption | (refine Below.setCell ?_ (by first | omega | (simp; omega) | (simp; done) | (dsimp only; omega)) _) | (refine Below.alloc ?_ (by first | omega | (simp; omega) | (simp; done) | (dsimp only; omega)) _) | (refine below_drewN ?_ _) | (refine Below.drew ?_))
  have z0 : w.heap.size + 1 ≤ W.heap.size := by subst hW; simp
  clear hW
  replace h := h.same (Same.of_below hb hh)
  have H := makeFamily_any A c lo hi n bs W h (by omega) hbs hn
  go_upto_region 2 with (go_at_call 80; (with_reducible refine H.mono ?_); rintro e w1 ⟨xs, ys, A1, B1, c1, d1, rfl, o1, u1, hx, hy, hnm, hb1⟩)
  generalize hW : w1.alloc (.cells #[.slice A1 xs.length c1, .slice B1 ys.length d1] 26) = W1
  obtain ⟨fb, hfb⟩ : ∃ m, m = w1.heap.size := ⟨_, rfl⟩
  rw [← hfb]
  have z1 := hb1.size
  have FB : Blk W1 fb 26 #[.slice A1 xs.length c1, .slice B1 ys.length d1] := by subst hW; rw [hfb]; exact Blk.new _ rfl
  have hb2 : Below W.heap.size W W1 := by subst hW; (with_reducible repeat' first | exact Below.refl _ _ | assumption | (refine Below.setCell ?_ (by first | omega | (simp; omega) | (simp; done) | (dsimp only; omega)) _) | (refine Below.alloc ?_ (by first | omega | (simp; omega) | (simp; done) | (dsimp only; omega)) _) | (refine below_drewN ?_ _) | (refine Below.drew ?_) | (refine Below.trans ?_ (hb1.mono (by first | omega | (simp; omega) | (simp; done) | (dsimp only; omega)))))
  have o2 : EPerson.OS W1 W.heap.size W1.heap.size (.slice A1 xs.length c1) xs := by subst hW; exact (o1.same (by (with_reducible repeat' first | exact Same.refl _ _ _ | assumption | (refine Same.setCell ?_ (by first | omega | (simp; omega) | (simp; done) | (dsimp only; omega)) _) | (refine Same.alloc ?_ (by first | omega | (simp; omega) | (simp; done) | (dsimp only; omega)) _) | (refine Same.drewN ?_ _) | (refine Same.drew ?_)))).mono (Nat.le_refl _) (by simp)
  have u2 : EUnion.OS W1 W.heap.size W1.heap.size (.slice B1 ys.length d1) ys := by subst hW; exact (u1.same (by (with_reducible repeat' first | exact Same.refl _ _ _ | assumption | (refine Same.setCell ?_ (by first | omega | (simp; omega) | (simp; done) | (dsimp only; omega)) _) | (refine Same.alloc ?_ (by first | omega | (simp; omega) | (simp; done) | (dsimp only; omega)) _) | (refine Same.drewN ?_ _) | (refine Same.drew ?_)))).mono (Nat.le_refl _) (by simp)
  have zfb : W.heap.size ≤ fb := by rw [hfb]; exact z1
  clear hW hfb o1 u1 hb1 H
  have h1 := h.same (Same.of_below hb2 (by omega))
  have z2 := hb2.size
  have lfb := FB.lt
  go_upto_if 12 with (go_at_call 81; refine (at_free A c lo hi bs 9 _ h1 hbs (by omega) (by omega)).mono ?_; rintro e w2 ⟨x, rfl, rfl⟩)
  go_cut [] (fun wc => ∃ (xs : List Person) (ys : List Union) (A1 B1 : Option Addr) (c1 d1 : Nat), Blk wc fb 26 #[.slice A1 xs.length c1, .slice B1 ys.length d1] ∧ EPerson.OS wc W.heap.size wc.heap.size (.slice A1 xs.length c1) xs ∧ EUnion.OS wc W.heap.size wc.heap.size (.slice B1 ys.length d1) ys ∧ xs.length ≤ 40 ∧ ys.length ≤ 1000 ∧ (∀ x ∈ xs, x.name.size = 2) ∧ Below W.heap.size W wc)
  case first =>
    by_cases hx4 : x.tmod 4 = 0
    · have h4 : (x.tmod 4 == 0) = true := by simpa using hx4
      have H := makeClose_any A c lo hi bs W1 h1 (by omega) hbs
      have HN := Lib.hid hnm; clear hnm
      go_wp2_with (go_at_call 82; (with_reducible refine H.mono ?_); rintro e w3 ⟨xs3, ys3, A3, B3, c3, d3, rfl, o3, u3, hx3, hy3, hnm3, hb3⟩; (have F3 := FB.below hb3 lfb); (have q0 := F3.cell (i := 0) rfl); (have q1 := F3.cell (i := 1) rfl); (have f0 := F3.free 0); (have f1 := F3.free 1); (have lF3 := F3.lt))
      go_meet
      have z3 := hb3.size
      have k1 := flatPerson.far (i := 0) (u := .slice A3 xs3.length c3) o3 F3 (by decide)
      have k2 := flatPerson.far (i := 1) (u := .slice B3 ys3.length d3) k1 (F3.set 0 (.slice A3 xs3.length c3)) (by decide)
      have l1 := flatUnion.far (i := 0) (u := .slice A3 xs3.length c3) u3 F3 (by decide)
      have l2 := flatUnion.far (i := 1) (u := .slice B3 ys3.length d3) l1 (F3.set 0 (.slice A3 xs3.length c3)) (by decide)
      have hbx : Below W.heap.size W w3 := hb2.trans (hb3.mono z2)
      exact ⟨xs3, ys3, A3, B3, c3, d3, (F3.set 0 _).set 1 _, k2.mono z2 (by simp [World.setCell]), l2.mono z2 (by simp [World.setCell]), by omega, hy3, hnm3, by (with_reducible repeat' first | exact Below.refl _ _ | assumption | (refine Below.setCell ?_ (by first | omega | (simp; omega) | (simp; done) | (dsimp only; omega)) _) | (refine Below.alloc ?_ (by first | omega | (simp; omega) | (simp; done) | (dsimp only; omega)) _) | (refine below_drewN ?_ _) | (refine Below.drew ?_) | (refine Below.trans ?_ (hbx.mono (by first | omega | (simp; omega) | (simp; done) | (dsimp only; omega)))))⟩
    · have h4 : (x.tmod 4 == 0) = false := by simpa using hx4
      have HN := Lib.hid hnm; clear hnm
      go_wp2
      go_meet
      exact ⟨xs, ys, A1, B1, c1, d1, FB, o2, u2, by omega, hy, HN.out, hb2⟩
  case rest =>
    obtain ⟨xs3, ys3, A3, B3, c3, d3, F3, o3, u3, hx3, hy3, hnm3, hb3⟩ := hcut
    clear FB o2 u2 hnm hx hy hb2 h1 z2
    have z3 := hb3.size
    have HN := Lib.hid hnm3; clear hnm3
    have R3 := R.below hb3 (by omega)
    have q0 := F3.cell (i := 0) rfl; have q1 := F3.cell (i := 1) rfl; have f0 := F3.free 0
    have lF3 := F3.lt
    have r0 := R3.cell (i := 0) rfl; have r1 := R3.cell (i := 1) rfl; have s0 := R3.free 0; have s1 := R3.free 1
    have lR3 := R3.lt
    have hbx : Below w.heap.size w wc := hb.trans (hb3.mono (by omega))
    by_cases h0 : xs3.length = 0
    · have hn0 : ((xs3.length : Int) == 0) = true := by simp [h0]
      have H0 := Lib.hid h0
      go_upto_region 6 with fail
      generalize hV : World.alloc (wc.setCell ⟨fb, 0, none⟩ (.slice (some ⟨wc.heap.size, 0, none⟩) 1 1)) (.cells #[.string ⟨#[97, 97]⟩, .int .i64 1, .int .i64 (-1), .int .i64 (-1), .int .i64 0, .int .i64 (-1)] 99) = W5
      have hone := one_person (wc.setCell ⟨fb, 0, none⟩ (.slice (some ⟨wc.heap.size, 0, none⟩) 1 1)) ⟨⟨#[97, 97]⟩, 1, -1, -1, 0, -1⟩
      have F5 : Blk W5 fb 26 #[(.slice (some ⟨wc.heap.size, 0, none⟩) 1 1), .slice B3 ys3.length d3] := by
        have := (F3.set 0 (.slice (some ⟨wc.heap.size, 0, none⟩) 1 1)).alloc (.cells #[.string ⟨#[97, 97]⟩, .int .i64 1, .int .i64 (-1), .int .i64 (-1), .int .i64 0, .int .i64 (-1)] 99)
        subst hV; simpa using this
      have R5 : Blk W5 w.heap.size 26 #[.slice none 0 0, .slice none 0 0] := by subst hV; exact (R3.far (by simp; omega) _).alloc _
      have o5 : EPerson.OS W5 wc.heap.size W5.heap.size (.slice (some ⟨wc.heap.size, 0, none⟩) ([(⟨⟨#[97, 97]⟩, 1, -1, -1, 0, -1⟩ : Person)] : List Person).length 1) [⟨⟨#[97, 97]⟩, 1, -1, -1, 0, -1⟩] := by
        subst hV
        simpa [World.setCell, vsPerson] using hone
      have u5 : EUnion.OS W5 W.heap.size W5.heap.size (.slice B3 ys3.length d3) ys3 := by
        subst hV
        have := (flatUnion.far (i := 0) (u := (.slice (some ⟨wc.heap.size, 0, none⟩) 1 1)) u3 F3 (by decide)).same (Same.alloc (Same.refl W.heap.size wc.heap.size (wc.setCell ⟨fb, 0, none⟩ (.slice (some ⟨wc.heap.size, 0, none⟩) 1 1))) (by simp [World.setCell]) (.cells #[.string ⟨#[97, 97]⟩, .int .i64 1, .int .i64 (-1), .int .i64 (-1), .int .i64 0, .int .i64 (-1)] 99))
        exact this.mono (Nat.le_refl _) (by simp [World.setCell])
      have hb5 : Below w.heap.size w W5 := by subst hV; (with_reducible repeat' first | exact Below.refl _ _ | assumption | (refine Below.setCell ?_ (by first | omega | (simp; omega) | (simp; done) | (dsimp only; omega)) _) | (refine Below.alloc ?_ (by first | omega | (simp; omega) | (simp; done) | (dsimp only; omega)) _) | (refine below_drewN ?_ _) | (refine Below.drew ?_) | (refine Below.trans ?_ (hbx.mono (by first | omega | (simp; omega) | (simp; done) | (dsimp only; omega)))))
      have z5 : wc.heap.size ≤ W5.heap.size := by subst hV; simp [World.setCell]
      clear hV q0 q1 f0 r0 r1 s0 s1 F3 R3 o3 u3 hone
      have q0 := F5.cell (i := 0) rfl; have q1 := F5.cell (i := 1) rfl
      have r0 := R5.cell (i := 0) rfl; have r1 := R5.cell (i := 1) rfl; have s0 := R5.free 0; have s1 := R5.free 1
      have lR5 := R5.lt; have lF5 := F5.lt
      go_wp2
      have RR := (R5.set 0 (.slice (some ⟨wc.heap.size, 0, none⟩) 1 1)).set 1 (.slice B3 ys3.length d3)
      exact bodyPost_ret (v := .agg #[.slice (some ⟨wc.heap.size, 0, none⟩) 1 1, .slice B3 ys3.length d3]) (by simp [results, Try.results18, go_sem, RR.cell (i := 0) rfl, RR.cell (i := 1) rfl]) rfl ⟨([⟨⟨#[97, 97]⟩, 1, -1, -1, 0, -1⟩] : List Person), ys3, some ⟨wc.heap.size, 0, none⟩, B3, 1, d3, rfl, (o5.same (by (with_reducible repeat' first | exact Same.refl _ _ _ | assumption | (refine Same.setCell ?_ (by first | omega | (simp; omega) | (simp; done) | (dsimp only; omega)) _) | (refine Same.alloc ?_ (by first | omega | (simp; omega) | (simp; done) | (dsimp only; omega)) _) | (refine Same.drewN ?_ _) | (refine Same.drew ?_)))).mono (by omega) (by simp [World.setCell]), (u5.same (by (with_reducible repeat' first | exact Same.refl _ _ _ | assumption | (refine Same.setCell ?_ (by first | omega | (simp; omega) | (simp; done) | (dsimp only; omega)) _) | (refine Same.alloc ?_ (by first | omega | (simp; omega) | (simp; done) | (dsimp only; omega)) _) | (refine Same.drewN ?_ _) | (refine Same.drew ?_)))).mono (by omega) (by simp [World.setCell]), by simp, by simp, hy3, fun x hx => (by simp at hx; subst hx; rfl), by (with_reducible repeat' first | exact Below.refl _ _ | assumption | (refine Below.setCell ?_ (by first | omega | (simp; omega) | (simp; done) | (dsimp only; omega)) _) | (refine Below.alloc ?_ (by first | omega | (simp; omega) | (simp; done) | (dsimp only; omega)) _) | (refine below_drewN ?_ _) | (refine Below.drew ?_) | (refine Below.trans ?_ (hb5.mono (by first | omega | (simp; omega) | (simp; done) | (dsimp only; omega)))))⟩
    · have hn0 : ((xs3.length : Int) == 0) = false := by rw [beq_eq_false_iff_ne]; omega
      have H0 := Lib.hid h0
      go_wp2
      have RR := (R3.set 0 (.slice A3 xs3.length c3)).set 1 (.slice B3 ys3.length d3)
      have H1 := H0.out
      exact bodyPost_ret (v := .agg #[.slice A3 xs3.length c3, .slice B3 ys3.length d3]) (by simp [results, Try.results18, go_sem, RR.cell (i := 0) rfl, RR.cell (i := 1) rfl]) rfl ⟨xs3, ys3, A3, B3, c3, d3, rfl, (o3.same (by (with_reducible repeat' first | exact Same.refl _ _ _ | assumption | (refine Same.setCell ?_ (by first | omega | (simp; omega) | (simp; done) | (dsimp only; omega)) _) | (refine Same.alloc ?_ (by first | omega | (simp; omega) | (simp; done) | (dsimp only; omega)) _) | (refine Same.drewN ?_ _) | (refine Same.drew ?_)))).mono (by omega) (by simp [World.setCell]), (u3.same (by (with_reducible repeat' first | exact Same.refl _ _ _ | assumption | (refine Same.setCell ?_ (by first | omega | (simp; omega) | (simp; done) | (dsimp only; omega)) _) | (refine Same.alloc ?_ (by first | omega | (simp; omega) | (simp; done) | (dsimp only; omega)) _) | (refine Same.drewN ?_ _) | (refine Same.drew ?_)))).mono (by omega) (by simp [World.setCell]), by omega, hx3, hy3, HN.out, by (with_reducible repeat' first | exact Below.refl _ _ | assumption | (refine Below.setCell ?_ (by first | omega | (simp; omega) | (simp; done) | (dsimp only; omega)) _) | (refine Below.alloc ?_ (by first | omega | (simp; omega) | (simp; done) | (dsimp only; omega)) _) | (refine below_drewN ?_ _) | (refine Below.drew ?_) | (refine Below.trans ?_ (hbx.mono (by first | omega | (simp; omega) | (simp; done) | (dsimp only; omega)))))⟩
end Go.Proofs.Ytnnjilkjjdiblaa
