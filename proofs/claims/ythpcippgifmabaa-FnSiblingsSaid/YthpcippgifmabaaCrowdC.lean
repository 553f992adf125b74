/-
  Unions drawn from bytes for a family: what they leave, not who marries.
-/
import Derived.Test.YthpcippgifmabaaCrowdB
import Derived.Test.YthpcippgifmabaaGFamS
import Derived.Lib.Bytealg
import Derived.Lib.Slices
import Derived.Lib.Strings
import Derived.Lib.Walk
namespace Go.Proofs.Ythpcippgifmabaa
set_option maxRecDepth 100000
open Go.RowKit

theorem Chg.cell1 {w w' : World} {lo hi : Nat} {p : Addr} {u : Value} (h : Chg lo hi w w') (hp : p.block < w.heap.size) (hd : p.block < lo ∨ hi ≤ p.block) (hc : w.cell? p = some u) : w'.cell? p = some u := (World.cell?_of_block (h.block _ hp hd)).trans hc
theorem Blk.grown' {w w' : World} {o : Obj} {g t : Nat} {cs : Array Value} {row : Option Nat} (h : Blk w g t cs) (hg : (w.alloc o).grownBy w' row) (hne : some g ≠ row) : Blk w' g t cs := (h.alloc o).grown hg hne
theorem Chg.of_below' {w w' : World} {lo hi : Nat} (h : Below w.heap.size w w') : Chg lo hi w w' := Chg.of_below h
theorem ints_lit (W : World) (l : List Int) (hl : l.length ≤ BIG) : EInt.OS (W.alloc (.cells (l.map fun n => Value.int .i64 n).toArray 3)) W.heap.size (W.heap.size + 1) (.slice (some ⟨W.heap.size, 0, none⟩) l.length l.length) l := by
  have hf : Fill (W.alloc (.cells (l.map fun n => Value.int .i64 n).toArray 3)) W.heap.size 3 l.length (ints l) l.length := ⟨_, heap_alloc_new W _, by simp, fun i _ => by rw [ints_at]; simp⟩
  have h := hf.own (n := l.length) (sz := 1) (lo := W.heap.size) (by omega) (ints_len l) (Nat.le_refl _) hl
  exact EInt_os.2 (by simpa using h)
theorem totP_two {xs : List Person} (h : ∀ x ∈ xs, x.name.size = 2) : totP xs = 2 * xs.length := by
  induction xs with
  | nil => rfl
  | cons x r ih => rw [totP, ih fun y hy => h y (List.mem_cons_of_mem _ hy), h x (List.mem_cons_self ..), List.length_cons]; omega
/-- A family with the same persons and some unions more is returned. -/
def RetWed (g lo : Nat) (xs : List Person) (n : Nat) (w : World) (e : Ending) (w' : World) : Prop :=
  ∃ (ys : List Union) (A B : Option Addr) (c d : Nat), e = .returned (.agg #[.slice A xs.length c, .slice B ys.length d]) ∧ EPerson.OS w' lo w'.heap.size (.slice A xs.length c) xs ∧ EUnion.OS w' lo w'.heap.size (.slice B ys.length d) ys ∧ ys.length ≤ n ∧ Cur w' g ∧ Chg g (g + 1) w w'
structure WedW (g lo : Nat) (w : World) (xs : List Person) (ds : List Int) (D : Option Addr) (lo2 hi2 : Nat) (ys : List Union) (A B : Option Addr) (c d : Nat) (wr : World) : Prop where
  fam : Blk wr w.heap.size 26 #[.slice A xs.length c, .slice B ys.length d]
  res : Blk wr (w.heap.size + 1) 26 #[.slice none 0 0, .slice none 0 0]
  own : EPerson.OS wr lo wr.heap.size (.slice A xs.length c) xs
  uni : EUnion.OS wr lo wr.heap.size (.slice B ys.length d) ys
  dep : EInt.AS wr lo2 hi2 D ds
  cur : Cur wr g
  chg : Chg g (g + 1) w wr
  size : w.heap.size + 2 ≤ wr.heap.size
  dlo : w.heap.size + 2 ≤ lo2 ∧ hi2 ≤ wr.heap.size
  glt : g < lo ∧ lo ≤ w.heap.size
section
variable {g lo lo2 hi2 c d : Nat} {w wr wq : World} {xs : List Person} {ds : List Int} {ys : List Union} {A B D : Option Addr}
theorem WedW.next (h : WedW g lo w xs ds D lo2 hi2 ys A B c d wr) (hc : Chg g (g + 1) wr wq) (hcur : Cur wq g) : WedW g lo w xs ds D lo2 hi2 ys A B c d wq := by
  have h1 := h.size; have h2 := h.dlo; have h3 := h.glt; have hz := hc.size
  exact { fam := h.fam.chg hc (by omega), res := h.res.chg hc (by omega), own := (h.own.same (Same.of_chg hc (Nat.le_refl _) (.inr (by omega)))).mono (Nat.le_refl _) hz, uni := (h.uni.same (Same.of_chg hc (Nat.le_refl _) (.inr (by omega)))).mono (Nat.le_refl _) hz, dep := h.dep.same (Same.of_chg hc h2.2 (.inr (by omega))), cur := hcur, chg := h.chg.trans hc, size := by omega, dlo := ⟨h2.1, by omega⟩, glt := h3 }
end
def WedLoop (g lo : Nat) (w : World) (xs : List Person) (ds : List Int) (D : Option Addr) (lo2 hi2 n : Nat) (i : Value) (wr : World) : Prop :=
  ∃ (k : Nat) (ys : List Union) (A B : Option Addr) (c d : Nat), i = .int .i64 k ∧ ys.length + k ≤ n ∧ WedW g lo w xs ds D lo2 hi2 ys A B c d wr
set_option maxHeartbeats 8000000 in
theorem l1Wed_any (g : Nat) (A B : Option Addr) (c d lo hi : Nat) (xs : List Person) (ys : List Union) (w : World) (hc : Cur w g) (h : EPerson.OS w lo hi (.slice A xs.length c) xs) (h' : EUnion.OS w lo hi (.slice B ys.length d) ys) (hh : hi ≤ w.heap.size) (hlo : lo ≤ w.heap.size) (hgl : g < lo)
    (hn : xs.length ≤ 40) (hB : Before xs) (hs : ∀ x ∈ xs, x.name.size = 2) (hy : ys.length ≤ 100) :
    Calls Try.prog 72 #[.pointer (some ⟨g, 0, none⟩), .agg #[.slice A xs.length c, .slice B ys.length d]] w (RetWed g lo xs (ys.length + 20) w) := by
  have htp := totP_two hs
  go_enter Try.func72, Try.ntmps72
  go_upto_region 1 with fail
  generalize hW : (w.alloc (.cells #[.slice A xs.length c, .slice B ys.length d] 26)).alloc (.cells #[.slice none 0 0, .slice none 0 0] 26) = W
  have F : Blk W w.heap.size 26 #[.slice A xs.length c, .slice B ys.length d] := by subst hW; exact (Blk.new _ rfl).alloc _
  have R : Blk W (w.heap.size + 1) 26 #[.slice none 0 0, .slice none 0 0] := by subst hW; exact Blk.new _ (by simp)
  have hb : Below w.heap.size w W := by subst hW; (with_reducible repeat' first | exact Below.refl _ _ | assumption | (refine Below.setCell ?_ (by first | omega | (simp; omega) | (simp; done) | (dsimp only; omega)) _) | (refine Below.alloc ?_ (by first | omega | (simp; omega) | (simp; done) | (dsimp only; omega)) _) | (refine below_drewN ?_ _) | (refine Below.drew ?_))
  have z0 : w.heap.size + 2 ≤ W.heap.size := by subst hW; simp
  clear hW
  have e0 := F.cell (i := 0) rfl; have e1 := F.cell (i := 1) rfl
  have hr := h.read.as.same (Same.of_below hb hh)
  go_upto_region 2 with (go_at_call 67; go_loud (refine (l1Depths_any A B c d lo hi xs ys _ hr (by omega) hn hB).mono ?_; rintro e w1 ⟨D, cd, rfl, od, hb1⟩))
  have hdl := depL_len xs xs.length
  rw [hdl] at od
  have z1 := hb1.size
  have hb2 := hb.trans (hb1.mono (by omega))
  have Q1 : WedW g lo w xs (depL xs xs.length) D W.heap.size w1.heap.size ys A B c d w1 :=
    { fam := F.below hb1 (by omega), res := R.below hb1 (by omega), own := (h.same (Same.of_below hb2 hh)).mono (Nat.le_refl _) (by omega), uni := (h'.same (Same.of_below hb2 hh)).mono (Nat.le_refl _) (by omega), dep := od.read.as, cur := hc.below hb2 (by omega), chg := (Chg.refl _ _ _).then_below hb2 (Nat.le_refl _), size := by omega, dlo := ⟨by omega, Nat.le_refl _⟩, glt := ⟨hgl, hlo⟩ }
  have HD := Lib.hid hdl
  generalize hds : depL xs xs.length = ds at *
  clear hds od hb1 hb2 hb F R hr e0 e1 h h'
  have e0 := Q1.fam.cell (i := 0) rfl; have e1 := Q1.fam.cell (i := 1) rfl
  have hk := l01Below_any g ((xs.length : Int) / 2 + 1) w1 Q1.cur (by omega) (by omega)
  go_upto_region 3 with (go_at_call 66; (with_reducible refine hk.mono ?_); rintro e w2 ⟨k0, hk0, hk1, rfl, hc2, hch2, hs2⟩)
  clear hk
  obtain ⟨k0, rfl⟩ := Int.eq_ofNat_of_zero_le hk0
  have Q2 := Q1.next hch2 hc2
  clear Q1 hch2 hc2 hs2 hc e0 e1
  go_loopw [6] (fun i wr => WedLoop g lo w xs ds D W.heap.size w1.heap.size (ys.length + 20) i wr) (fun i _ => (intOf i).toNat)
  case atStart => exact ⟨k0, ys, A, B, c, d, rfl, by omega, Q2⟩
  case round =>
    obtain ⟨k, zs, A3, B3, c3, d3, rfl, hk, Q⟩ := hrel
    clear Q2
    have zd := Q.dlo; have zz := Q.size
    by_cases hk0 : 0 < k
    · have i1 : (0 : Int) < (k : Int) := by omega
      have e0 := Q.fam.cell (i := 0) rfl; have e1 := Q.fam.cell (i := 1) rfl
      go_upto_region 6 with (go_at_call 70; go_loud (refine (l1Some_any g A3 B3 D c3 d3 cd lo wr.heap.size W.heap.size w1.heap.size xs zs ds 1 wr Q.cur Q.own.read.as (Nat.le_refl _) Q.dep zd.2 (.inr (by omega)) (.inr (by omega)) HD.out hn).mono ?_; rintro e w5 ⟨a, ha0, ha1, rfl, hc5, hch5⟩))
      have Q5 := Q.next hch5 hc5
      have zz5 := Q5.size; have zd5 := Q5.dlo
      clear e0 e1 hch5 hc5 Q
      have e0 := Q5.fam.cell (i := 0) rfl; have e1 := Q5.fam.cell (i := 1) rfl
      go_upto_region 7 with (go_at_call 70; go_loud (refine (l1Some_any g A3 B3 D c3 d3 cd lo w5.heap.size W.heap.size w1.heap.size xs zs ds 2 w5 Q5.cur Q5.own.read.as (Nat.le_refl _) Q5.dep zd5.2 (.inr (by omega)) (.inr (by omega)) HD.out hn).mono ?_; rintro e w6 ⟨b, hb0, hb1, rfl, hc6, hch6⟩))
      have Q6 := Q5.next hch6 hc6
      have zz6 := Q6.size; have zd6 := Q6.dlo
      clear e0 e1 hch6 hc6 Q5
      by_cases han : a < 0
      · go_wp2
        exact ⟨⟨k - 1, zs, A3, B3, c3, d3, by congr 1; omega, by omega, Q6⟩, by simp [intOf]; omega⟩
      · by_cases hbn : b < 0
        · go_wp2
          exact ⟨⟨k - 1, zs, A3, B3, c3, d3, by congr 1; omega, by omega, Q6⟩, by simp [intOf]; omega⟩
        · obtain ⟨a, rfl⟩ := Int.eq_ofNat_of_zero_le (by omega : 0 ≤ a)
          obtain ⟨b, rfl⟩ := Int.eq_ofNat_of_zero_le (by omega : 0 ≤ b)
          go_upto_region 8 with fail
          go_cut [9] from 20 to 77 (fun v wc => ∃ (ub : Nat) (fr : Int), v = .pointer (some ⟨ub, 0, none⟩) ∧ w6.heap.size ≤ ub ∧ Blk wc ub 73 #[.int .i64 a, .int .i64 b, .int .i64 fr, .int .i64 (-1)] ∧ Cur wc g ∧ Chg g (g + 1) w6 wc)
          case first =>
            have ho := Q6.own.read.as
            obtain ⟨pb, po, ⟨x0, x1, x2, x3, ba, x5⟩, rfl, g1, g2, _, _, _, _, _, _, ca, _⟩ := APerson.at_ ho (k := a) (by omega)
            obtain ⟨pb', po', ⟨y0, y1, y2, y3, bb, y5⟩, he, _, _, _, _, _, _, _, _, cb, _⟩ := APerson.at_ ho (k := b) (by omega)
            injection he with he; injection he with he1 he2 _; subst he1; subst he2
            simp only at ca cb
            have c0 := Q6.fam.cell (i := 0) rfl
            have lF : w.heap.size < w6.drew.heap.size := Q6.fam.lt
            have gF : w.heap.size < g ∨ g + 1 ≤ w.heap.size := .inr (by omega)
            have lP : pb < w6.drew.heap.size := g2
            have gP : pb < g ∨ g + 1 ≤ pb := .inr (by omega)
            have hch0 : Chg g (g + 1) w6.drew w6.drew := Chg.refl _ _ _
            have hcu0 : Cur w6.drew g := Q6.cur.drew
            have w6c := Q6.cur
            have j1 : (a : Int) < (xs.length : Int) := by omega
            have j2 : (b : Int) < (xs.length : Int) := by omega
            clear ho Q6
            refine wp_region_held_drew (S := fun w' => w'.cell? ⟨w.heap.size, 0, none⟩ = some (.slice (some ⟨pb, po, none⟩) xs.length c3) ∧ w'.cell? ⟨pb, po + a * 6 + 4, none⟩ = some (.int .i64 ba) ∧ w'.cell? ⟨pb, po + b * 6 + 4, none⟩ = some (.int .i64 bb)) (by kernel_rfl) ⟨c0, ca, cb⟩ (fun hHeld => ?_)
            refine wpAnyH_take (i := 0) (oi := { dst := some 38, op := _, type := _, pos := _, after := _, guard := _ }) (v := ?_) rfl (by kernel_rfl) (by kernel_rfl) (by kernel_rfl) (fun _ _ _ h => h) (Or.inl ⟨by rfl, ?_⟩) (by assumption) ?_; rotate_left; (intro w hSw; (try dsimp only at hSw); go_simp); (try with_reducible rfl); (try simp only [Act.put, List.setIfInBounds_toArray, List.set_cons_zero, List.set_cons_succ])
            refine wpAnyH_take (i := 1) (oi := { dst := some 39, op := _, type := _, pos := _, after := _, guard := _ }) (v := ?_) rfl (by kernel_rfl) (by kernel_rfl) (by kernel_rfl) (fun _ _ _ h => h) (Or.inl ⟨by rfl, ?_⟩) (by assumption) ?_; rotate_left; (intro w hSw; (try dsimp only at hSw); go_simp); (try with_reducible rfl); (try simp only [Act.put, List.setIfInBounds_toArray, List.set_cons_zero, List.set_cons_succ])
            refine wpAnyH_take (i := 2) (oi := { dst := some 40, op := _, type := _, pos := _, after := _, guard := _ }) (v := ?_) rfl (by kernel_rfl) (by kernel_rfl) (by kernel_rfl) (fun _ _ _ h => h) (Or.inl ⟨by rfl, ?_⟩) (by assumption) ?_; rotate_left; (intro w hSw; (try dsimp only at hSw); go_simp); (try with_reducible rfl); (try simp only [Act.put, List.setIfInBounds_toArray, List.set_cons_zero, List.set_cons_succ])
            refine wpAnyH_take (i := 3) (oi := { dst := some 41, op := _, type := _, pos := _, after := _, guard := _ }) (v := ?_) rfl (by kernel_rfl) (by kernel_rfl) (by kernel_rfl) (fun _ _ _ h => h) (Or.inl ⟨by rfl, ?_⟩) (by assumption) ?_; rotate_left; (intro w hSw; (try dsimp only at hSw); go_simp); (try with_reducible rfl); (try simp only [Act.put, List.setIfInBounds_toArray, List.set_cons_zero, List.set_cons_succ])
            refine wpAnyH_take (i := 4) (oi := { dst := some 42, op := _, type := _, pos := _, after := _, guard := _ }) (v := ?_) rfl (by kernel_rfl) (by kernel_rfl) (by kernel_rfl) (fun _ _ _ h => h) (Or.inl ⟨by rfl, ?_⟩) (by assumption) ?_; rotate_left; (intro w hSw; (try dsimp only at hSw); go_simp); (try with_reducible rfl); (try simp only [Act.put, List.setIfInBounds_toArray, List.set_cons_zero, List.set_cons_succ])
            refine wpAnyH_take (i := 5) (oi := { dst := some 43, op := _, type := _, pos := _, after := _, guard := _ }) (v := ?_) rfl (by kernel_rfl) (by kernel_rfl) (by kernel_rfl) (fun _ _ _ h => h) (Or.inl ⟨by rfl, ?_⟩) (by assumption) ?_; rotate_left; (intro w hSw; (try dsimp only at hSw); go_simp); (try with_reducible rfl); (try simp only [Act.put, List.setIfInBounds_toArray, List.set_cons_zero, List.set_cons_succ])
            refine wpAnyH_take (i := 6) (oi := { dst := some 44, op := _, type := _, pos := _, after := _, guard := _ }) (v := ?_) rfl (by kernel_rfl) (by kernel_rfl) (by kernel_rfl) (fun _ _ _ h => h) (Or.inl ⟨by rfl, ?_⟩) (by assumption) ?_; rotate_left; (intro w hSw; (try dsimp only at hSw); go_simp); (try with_reducible rfl); (try simp only [Act.put, List.setIfInBounds_toArray, List.set_cons_zero, List.set_cons_succ])
            refine wpAnyH_take (i := 7) (oi := { dst := some 45, op := _, type := _, pos := _, after := _, guard := _ }) (v := ?_) rfl (by kernel_rfl) (by kernel_rfl) (by kernel_rfl) (fun _ _ _ h => h) (Or.inl ⟨by rfl, ?_⟩) (by assumption) ?_; rotate_left; (intro w hSw; (try dsimp only at hSw); go_simp); (try with_reducible rfl); (try simp only [Act.put, List.setIfInBounds_toArray, List.set_cons_zero, List.set_cons_succ])
            refine wpAnyH_take (i := 8) (oi := { dst := some 46, op := _, type := _, pos := _, after := _, guard := _ }) (v := ?_) rfl (by kernel_rfl) (by kernel_rfl) (by kernel_rfl) (fun _ _ _ h => h) (Or.inl ⟨by rfl, ?_⟩) (by assumption) ?_; rotate_left; (intro w hSw; (try dsimp only at hSw); go_simp); (try with_reducible rfl); (try simp only [Act.put, List.setIfInBounds_toArray, List.set_cons_zero, List.set_cons_succ])
            refine wpAnyH_take (i := 9) (oi := { dst := some 47, op := _, type := _, pos := _, after := _, guard := _ }) (v := ?_) rfl (by kernel_rfl) (by kernel_rfl) (by kernel_rfl) (fun _ _ _ h => h) (Or.inl ⟨by rfl, ?_⟩) (by assumption) ?_; rotate_left; (intro w hSw; (try dsimp only at hSw); go_simp); (try with_reducible rfl); (try simp only [Act.put, List.setIfInBounds_toArray, List.set_cons_zero, List.set_cons_succ])
            refine wpAnyH_take (i := 10) (oi := { dst := some 48, op := _, type := _, pos := _, after := _, guard := _ }) (v := ?_) rfl (by kernel_rfl) (by kernel_rfl) (by kernel_rfl) (fun _ _ _ h => h) (Or.inl ⟨by rfl, ?_⟩) (by assumption) ?_; rotate_left; (intro w hSw; (try dsimp only at hSw); go_simp); (try with_reducible rfl); (try simp only [Act.put, List.setIfInBounds_toArray, List.set_cons_zero, List.set_cons_succ])
            refine wpAnyH_take (i := 11) (oi := { dst := some 49, op := _, type := _, pos := _, after := _, guard := _ }) (v := ?_) rfl (by kernel_rfl) (by kernel_rfl) (by kernel_rfl) (fun _ _ _ h => h) (Or.inl ⟨by rfl, ?_⟩) (by assumption) ?_; rotate_left; (intro w hSw; (try dsimp only at hSw); go_simp); (try with_reducible rfl); (try simp only [Act.put, List.setIfInBounds_toArray, List.set_cons_zero, List.set_cons_succ])
            refine wpAnyH_take (i := 12) (oi := { dst := some 50, op := _, type := _, pos := _, after := _, guard := _ }) (v := ?_) rfl (by kernel_rfl) (by kernel_rfl) (by kernel_rfl) (fun _ _ _ h => h) (Or.inl ⟨by rfl, ?_⟩) (by assumption) ?_; rotate_left; (intro w hSw; (try dsimp only at hSw); go_simp); (try with_reducible rfl); (try simp only [Act.put, List.setIfInBounds_toArray, List.set_cons_zero, List.set_cons_succ])
            refine wpAnyH_take (i := 13) (oi := { dst := some 51, op := _, type := _, pos := _, after := _, guard := _ }) (v := ?_) rfl (by kernel_rfl) (by kernel_rfl) (by kernel_rfl) (fun _ _ _ h => h) (Or.inl ⟨by rfl, ?_⟩) (by assumption) ?_; rotate_left; (intro w hSw; (try dsimp only at hSw); go_simp); (try with_reducible rfl); (try simp only [Act.put, List.setIfInBounds_toArray, List.set_cons_zero, List.set_cons_succ])
            refine wpAnyH_take (i := 14) (oi := { dst := some 52, op := _, type := _, pos := _, after := _, guard := _ }) (v := ?_) rfl (by kernel_rfl) (by kernel_rfl) (by kernel_rfl) (fun _ _ _ h => h) (Or.inl ⟨by rfl, ?_⟩) (by assumption) ?_; rotate_left; (intro w hSw; (try dsimp only at hSw); go_simp); (try with_reducible rfl); (try simp only [Act.put, List.setIfInBounds_toArray, List.set_cons_zero, List.set_cons_succ])
            refine wpAnyH_take (i := 15) (oi := { dst := some 53, op := _, type := _, pos := _, after := _, guard := _ }) (v := ?_) rfl (by kernel_rfl) (by kernel_rfl) (by kernel_rfl) (fun _ _ _ h => h) (Or.inl ⟨by rfl, ?_⟩) (by assumption) ?_; rotate_left; (intro w hSw; (try dsimp only at hSw); go_simp); (try with_reducible rfl); (try simp only [Act.put, List.setIfInBounds_toArray, List.set_cons_zero, List.set_cons_succ])
            refine wpAnyH_ready (rs := [16, 20]) (by kernel_rfl) (by simp) ?_
            refine AllReadyH.cons (o := { dst := some 54, op := _, type := _, pos := _, after := _, guard := _ }) rfl (fun K hK => ?_) (AllReadyH.cons (o := { dst := some 9, op := _, type := _, pos := _, after := _, guard := _ }) rfl (fun K hK => ?_) (AllReadyH.nil))
            ·
              go_simp
              refine hK.out _ _ ⟨(hch0.alloc _).cell1 lF gF c0, (hch0.alloc _).cell1 lP gP ca, (hch0.alloc _).cell1 lP gP cb⟩ (fun hHeld => ?_)
              clear hK K; (try simp only [Act.put, List.setIfInBounds_toArray, List.set_cons_zero, List.set_cons_succ])
              generalize hV : (World.alloc w6 (.cells #[.int .i64 0, .int .i64 1, .int .i64 16, .int .i64 20, .int .i64 30] 3)).drew = v1
              have hch1 : Chg g (g + 1) w6.drew v1 := by subst hV; exact hch0.alloc _
              have hcu1 : Cur v1 g := by subst hV; exact hcu0.below ((Below.refl _ _).alloc (Nat.le_refl _) _) hcu0.lt
              have BS : EInt.AS v1 w6.heap.size (w6.heap.size + 1) (some ⟨w6.heap.size, 0, none⟩) [0, 1, 16, 20, 30] := by subst hV; exact (ints_lit w6.drew [0, 1, 16, 20, 30] (by decide)).read.as
              obtain ⟨lbs0, hlbs⟩ : ∃ m, m = w6.heap.size := ⟨_, rfl⟩
              have lbs : lbs0 < v1.heap.size := by subst hV; rw [hlbs]; simp
              have gbs : g + 1 ≤ lbs0 := by rw [hlbs]; exact hcu0.lt
              rw [← hlbs] at BS ⊢
              clear hV hlbs hch0 hcu0
              refine wpAnyH_ready (rs := [17, 20]) (by kernel_rfl) (by simp) ?_
              refine AllReadyH.cons (o := { dst := some 55, op := _, type := _, pos := _, after := _, guard := _ }) rfl (fun K hK => ?_) (AllReadyH.cons (o := { dst := some 9, op := _, type := _, pos := _, after := _, guard := _ }) rfl (fun K hK => ?_) (AllReadyH.nil))
              ·
                go_simp
                (go_at_call 65; refine (l01Int_any g (some ⟨lbs0, 0, none⟩) 5 lbs0 (lbs0 + 1) [0, 1, 16, 20, 30] _ hcu1 BS (by omega) (.inr gbs) (by decide) (by decide)).mono ?_; rintro e v2 ⟨yy, hyy, rfl, hcu2, hchq, hsq⟩)
                have hch2 := hch1.trans hchq
                try go_wp2_with fail
                refine hK.out _ _ ⟨hch2.cell1 lF gF c0, hch2.cell1 lP gP ca, hch2.cell1 lP gP cb⟩ (fun hHeld => ?_)
                clear hK K; (try simp only [Act.put, List.setIfInBounds_toArray, List.set_cons_zero, List.set_cons_succ])
                clear hchq hsq hch1 hcu1 BS
                refine wpAnyH_take (i := 18) (oi := { dst := some 56, op := _, type := _, pos := _, after := _, guard := _ }) (v := ?_) rfl (by kernel_rfl) (by kernel_rfl) (by kernel_rfl) (fun _ _ _ h => h) (Or.inl ⟨by rfl, ?_⟩) (by assumption) ?_; rotate_left; (intro w hSw; (try dsimp only at hSw); go_simp); (try with_reducible rfl); (try simp only [Act.put, List.setIfInBounds_toArray, List.set_cons_zero, List.set_cons_succ])
                refine wpAnyH_take (i := 19) (oi := { dst := some 57, op := _, type := _, pos := _, after := _, guard := _ }) (v := ?_) rfl (by kernel_rfl) (by kernel_rfl) (by kernel_rfl) (fun _ _ _ h => h) (Or.inl ⟨by rfl, ?_⟩) (by assumption) ?_; rotate_left; (intro w hSw; (try dsimp only at hSw); go_simp); (try with_reducible rfl); (try simp only [Act.put, List.setIfInBounds_toArray, List.set_cons_zero, List.set_cons_succ])
                refine wpAnyH_ready (rs := [20]) (by kernel_rfl) (by simp) ?_
                refine AllReadyH.cons (o := { dst := some 9, op := _, type := _, pos := _, after := _, guard := _ }) rfl (fun K hK => ?_) (AllReadyH.nil)
                go_simp
                refine hK.out _ _ ⟨(hch2.alloc _).cell1 lF gF c0, (hch2.alloc _).cell1 lP gP ca, (hch2.alloc _).cell1 lP gP cb⟩ (fun hHeld => ?_)
                clear hK K; (try simp only [Act.put, List.setIfInBounds_toArray, List.set_cons_zero, List.set_cons_succ])
                generalize hV : World.alloc v2 (.cells #[.int .i64 0, .int .i64 0, .int .i64 0, .int .i64 0] 73) = v3
                have hch3 : Chg g (g + 1) w6.drew v3 := by subst hV; exact hch2.alloc _
                have hcu3 : Cur v3 g := by subst hV; exact hcu2.below ((Below.refl _ _).alloc (Nat.le_refl _) _) hcu2.lt
                have U : Blk v3 v2.heap.size 73 #[.int .i64 0, .int .i64 0, .int .i64 0, .int .i64 0] := by subst hV; exact Blk.new _ rfl
                have zu : w6.heap.size ≤ v2.heap.size := hch2.size
                clear hV hch2 hcu2
                refine wpAnyH_ready (rs := [21]) (by kernel_rfl) (by simp) ?_
                refine AllReadyH.cons (o := { dst := none, op := _, type := _, pos := _, after := _, guard := _ }) rfl (fun K hK => ?_) (AllReadyH.nil)
                have u0 := U.cell (i := 0) rfl; have f0 := U.free 0; have u1 := U.cell (i := 1) rfl; have f1 := U.free 1; have u2 := U.cell (i := 2) rfl; have f2 := U.free 2; have u3 := U.cell (i := 3) rfl; have f3 := U.free 3; have lU := U.lt
                go_simp
                refine hK.out _ _ ⟨(hch3.then_below (by (with_reducible repeat' first | exact Below.refl _ _ | assumption | (refine Below.setCell ?_ (by first | omega | (simp; omega) | (simp; done) | (dsimp only; omega)) _) | (refine Below.alloc ?_ (by first | omega | (simp; omega) | (simp; done) | (dsimp only; omega)) _) | (refine below_drewN ?_ _) | (refine Below.drew ?_)) : Below w6.heap.size v3 _) (Nat.le_refl _)).cell1 lF gF c0, (hch3.then_below (by (with_reducible repeat' first | exact Below.refl _ _ | assumption | (refine Below.setCell ?_ (by first | omega | (simp; omega) | (simp; done) | (dsimp only; omega)) _) | (refine Below.alloc ?_ (by first | omega | (simp; omega) | (simp; done) | (dsimp only; omega)) _) | (refine below_drewN ?_ _) | (refine Below.drew ?_)) : Below w6.heap.size v3 _) (Nat.le_refl _)).cell1 lP gP ca, (hch3.then_below (by (with_reducible repeat' first | exact Below.refl _ _ | assumption | (refine Below.setCell ?_ (by first | omega | (simp; omega) | (simp; done) | (dsimp only; omega)) _) | (refine Below.alloc ?_ (by first | omega | (simp; omega) | (simp; done) | (dsimp only; omega)) _) | (refine below_drewN ?_ _) | (refine Below.drew ?_)) : Below w6.heap.size v3 _) (Nat.le_refl _)).cell1 lP gP cb⟩ (fun hHeld => ?_)
                clear hK K; (try simp only [Act.put, List.setIfInBounds_toArray, List.set_cons_zero, List.set_cons_succ])
                refine wpAnyH_done (by kernel_rfl) ?_ _
                go_wp2_with fail
                go_meet
                exact ⟨_, _, rfl, zu, ((((U.set 0 _).set 1 _).set 2 _).set 3 _), hcu3.below (by (with_reducible repeat' first | exact Below.refl _ _ | assumption | (refine Below.setCell ?_ (by first | omega | (simp; omega) | (simp; done) | (dsimp only; omega)) _) | (refine Below.alloc ?_ (by first | omega | (simp; omega) | (simp; done) | (dsimp only; omega)) _) | (refine below_drewN ?_ _) | (refine Below.drew ?_)) : Below w6.heap.size v3 _) (by have := w6c.lt; omega), (undrewT hch3).then_below (by (with_reducible repeat' first | exact Below.refl _ _ | assumption | (refine Below.setCell ?_ (by first | omega | (simp; omega) | (simp; done) | (dsimp only; omega)) _) | (refine Below.alloc ?_ (by first | omega | (simp; omega) | (simp; done) | (dsimp only; omega)) _) | (refine below_drewN ?_ _) | (refine Below.drew ?_)) : Below w6.heap.size v3 _) (Nat.le_refl _)⟩
              ·
                go_simp
                refine hK.out _ _ ⟨(hch1.alloc _).cell1 lF gF c0, (hch1.alloc _).cell1 lP gP ca, (hch1.alloc _).cell1 lP gP cb⟩ (fun hHeld => ?_)
                clear hK K; (try simp only [Act.put, List.setIfInBounds_toArray, List.set_cons_zero, List.set_cons_succ])
                generalize hV : World.alloc v1 (.cells #[.int .i64 0, .int .i64 0, .int .i64 0, .int .i64 0] 73) = v2
                have hch2 : Chg g (g + 1) w6.drew v2 := by subst hV; exact hch1.alloc _
                have hcu2 : Cur v2 g := by subst hV; exact hcu1.below ((Below.refl _ _).alloc (Nat.le_refl _) _) hcu1.lt
                have U : Blk v2 v1.heap.size 73 #[.int .i64 0, .int .i64 0, .int .i64 0, .int .i64 0] := by subst hV; exact Blk.new _ rfl
                have zu : w6.heap.size ≤ v1.heap.size := hch1.size
                replace BS : EInt.AS v2 lbs0 (lbs0 + 1) (some ⟨lbs0, 0, none⟩) [0, 1, 16, 20, 30] := by subst hV; exact BS.same (Same.alloc (Same.refl _ _ _) (by omega) _)
                have lbs1 : lbs0 < v2.heap.size := by subst hV; simp; omega
                clear hV hch1 hcu1
                refine wpAnyH_ready (rs := [17]) (by kernel_rfl) (by simp) ?_
                refine AllReadyH.cons (o := { dst := some 55, op := _, type := _, pos := _, after := _, guard := _ }) rfl (fun K hK => ?_) (AllReadyH.nil)
                go_simp
                (go_at_call 65; refine (l01Int_any g (some ⟨lbs0, 0, none⟩) 5 lbs0 (lbs0 + 1) [0, 1, 16, 20, 30] _ hcu2 BS (by omega) (.inr gbs) (by decide) (by decide)).mono ?_; rintro e v3 ⟨yy, hyy, rfl, hcu3, hchq, hsq⟩)
                have hch3 := hch2.trans hchq
                replace U := U.chg hchq (.inr (by have := hcu2.lt; omega))
                try go_wp2_with fail
                refine hK.out _ _ ⟨hch3.cell1 lF gF c0, hch3.cell1 lP gP ca, hch3.cell1 lP gP cb⟩ (fun hHeld => ?_)
                clear hK K; (try simp only [Act.put, List.setIfInBounds_toArray, List.set_cons_zero, List.set_cons_succ])
                clear hchq hsq hch2 hcu2 BS
                refine wpAnyH_take (i := 18) (oi := { dst := some 56, op := _, type := _, pos := _, after := _, guard := _ }) (v := ?_) rfl (by kernel_rfl) (by kernel_rfl) (by kernel_rfl) (fun _ _ _ h => h) (Or.inl ⟨by rfl, ?_⟩) (by assumption) ?_; rotate_left; (intro w hSw; (try dsimp only at hSw); go_simp); (try with_reducible rfl); (try simp only [Act.put, List.setIfInBounds_toArray, List.set_cons_zero, List.set_cons_succ])
                refine wpAnyH_take (i := 19) (oi := { dst := some 57, op := _, type := _, pos := _, after := _, guard := _ }) (v := ?_) rfl (by kernel_rfl) (by kernel_rfl) (by kernel_rfl) (fun _ _ _ h => h) (Or.inl ⟨by rfl, ?_⟩) (by assumption) ?_; rotate_left; (intro w hSw; (try dsimp only at hSw); go_simp); (try with_reducible rfl); (try simp only [Act.put, List.setIfInBounds_toArray, List.set_cons_zero, List.set_cons_succ])
                refine wpAnyH_ready (rs := [21]) (by kernel_rfl) (by simp) ?_
                refine AllReadyH.cons (o := { dst := none, op := _, type := _, pos := _, after := _, guard := _ }) rfl (fun K hK => ?_) (AllReadyH.nil)
                have u0 := U.cell (i := 0) rfl; have f0 := U.free 0; have u1 := U.cell (i := 1) rfl; have f1 := U.free 1; have u2 := U.cell (i := 2) rfl; have f2 := U.free 2; have u3 := U.cell (i := 3) rfl; have f3 := U.free 3; have lU := U.lt
                go_simp
                refine hK.out _ _ ⟨(hch3.then_below (by (with_reducible repeat' first | exact Below.refl _ _ | assumption | (refine Below.setCell ?_ (by first | omega | (simp; omega) | (simp; done) | (dsimp only; omega)) _) | (refine Below.alloc ?_ (by first | omega | (simp; omega) | (simp; done) | (dsimp only; omega)) _) | (refine below_drewN ?_ _) | (refine Below.drew ?_)) : Below w6.heap.size v3 _) (Nat.le_refl _)).cell1 lF gF c0, (hch3.then_below (by (with_reducible repeat' first | exact Below.refl _ _ | assumption | (refine Below.setCell ?_ (by first | omega | (simp; omega) | (simp; done) | (dsimp only; omega)) _) | (refine Below.alloc ?_ (by first | omega | (simp; omega) | (simp; done) | (dsimp only; omega)) _) | (refine below_drewN ?_ _) | (refine Below.drew ?_)) : Below w6.heap.size v3 _) (Nat.le_refl _)).cell1 lP gP ca, (hch3.then_below (by (with_reducible repeat' first | exact Below.refl _ _ | assumption | (refine Below.setCell ?_ (by first | omega | (simp; omega) | (simp; done) | (dsimp only; omega)) _) | (refine Below.alloc ?_ (by first | omega | (simp; omega) | (simp; done) | (dsimp only; omega)) _) | (refine below_drewN ?_ _) | (refine Below.drew ?_)) : Below w6.heap.size v3 _) (Nat.le_refl _)).cell1 lP gP cb⟩ (fun hHeld => ?_)
                clear hK K; (try simp only [Act.put, List.setIfInBounds_toArray, List.set_cons_zero, List.set_cons_succ])
                refine wpAnyH_done (by kernel_rfl) ?_ _
                go_wp2_with fail
                go_meet
                exact ⟨_, _, rfl, zu, ((((U.set 0 _).set 1 _).set 2 _).set 3 _), hcu3.below (by (with_reducible repeat' first | exact Below.refl _ _ | assumption | (refine Below.setCell ?_ (by first | omega | (simp; omega) | (simp; done) | (dsimp only; omega)) _) | (refine Below.alloc ?_ (by first | omega | (simp; omega) | (simp; done) | (dsimp only; omega)) _) | (refine below_drewN ?_ _) | (refine Below.drew ?_)) : Below w6.heap.size v3 _) (by have := w6c.lt; omega), (undrewT hch3).then_below (by (with_reducible repeat' first | exact Below.refl _ _ | assumption | (refine Below.setCell ?_ (by first | omega | (simp; omega) | (simp; done) | (dsimp only; omega)) _) | (refine Below.alloc ?_ (by first | omega | (simp; omega) | (simp; done) | (dsimp only; omega)) _) | (refine below_drewN ?_ _) | (refine Below.drew ?_)) : Below w6.heap.size v3 _) (Nat.le_refl _)⟩
            ·
              go_simp
              refine hK.out _ _ ⟨(hch0.alloc _).cell1 lF gF c0, (hch0.alloc _).cell1 lP gP ca, (hch0.alloc _).cell1 lP gP cb⟩ (fun hHeld => ?_)
              clear hK K; (try simp only [Act.put, List.setIfInBounds_toArray, List.set_cons_zero, List.set_cons_succ])
              generalize hV : (World.alloc w6 (.cells #[.int .i64 0, .int .i64 0, .int .i64 0, .int .i64 0] 73)).drew = v1
              have hch1 : Chg g (g + 1) w6.drew v1 := by subst hV; exact hch0.alloc _
              have hcu1 : Cur v1 g := by subst hV; exact hcu0.below ((Below.refl _ _).alloc (Nat.le_refl _) _) hcu0.lt
              have U : Blk v1 w6.heap.size 73 #[.int .i64 0, .int .i64 0, .int .i64 0, .int .i64 0] := by subst hV; exact Blk.new _ rfl
              have zu : w6.heap.size ≤ w6.heap.size := hch0.size
              clear hV hch0 hcu0
              refine wpAnyH_ready (rs := [16]) (by kernel_rfl) (by simp) ?_
              refine AllReadyH.cons (o := { dst := some 54, op := _, type := _, pos := _, after := _, guard := _ }) rfl (fun K hK => ?_) (AllReadyH.nil)
              go_simp
              refine hK.out _ _ ⟨(hch1.alloc _).cell1 lF gF c0, (hch1.alloc _).cell1 lP gP ca, (hch1.alloc _).cell1 lP gP cb⟩ (fun hHeld => ?_)
              clear hK K; (try simp only [Act.put, List.setIfInBounds_toArray, List.set_cons_zero, List.set_cons_succ])
              generalize hV : World.alloc v1 (.cells #[.int .i64 0, .int .i64 1, .int .i64 16, .int .i64 20, .int .i64 30] 3) = v2
              have hch2 : Chg g (g + 1) w6.drew v2 := by subst hV; exact hch1.alloc _
              have hcu2 : Cur v2 g := by subst hV; exact hcu1.below ((Below.refl _ _).alloc (Nat.le_refl _) _) hcu1.lt
              have BS : EInt.AS v2 v1.heap.size (v1.heap.size + 1) (some ⟨v1.heap.size, 0, none⟩) [0, 1, 16, 20, 30] := by subst hV; exact (ints_lit v1 [0, 1, 16, 20, 30] (by decide)).read.as
              obtain ⟨lbs0, hlbs⟩ : ∃ m, m = v1.heap.size := ⟨_, rfl⟩
              have lbs : lbs0 < v2.heap.size := by subst hV; rw [hlbs]; simp
              have gbs : g + 1 ≤ lbs0 := by rw [hlbs]; exact hcu1.lt
              rw [← hlbs] at BS ⊢
              replace U := (show Blk v2 _ _ _ by subst hV; exact U.alloc _)
              clear hV hlbs hch1 hcu1
              refine wpAnyH_ready (rs := [17]) (by kernel_rfl) (by simp) ?_
              refine AllReadyH.cons (o := { dst := some 55, op := _, type := _, pos := _, after := _, guard := _ }) rfl (fun K hK => ?_) (AllReadyH.nil)
              go_simp
              (go_at_call 65; refine (l01Int_any g (some ⟨lbs0, 0, none⟩) 5 lbs0 (lbs0 + 1) [0, 1, 16, 20, 30] _ hcu2 BS (by omega) (.inr gbs) (by decide) (by decide)).mono ?_; rintro e v3 ⟨yy, hyy, rfl, hcu3, hchq, hsq⟩)
              have hch3 := hch2.trans hchq
              replace U := U.chg hchq (.inr (by have := hcu2.lt; omega))
              try go_wp2_with fail
              refine hK.out _ _ ⟨hch3.cell1 lF gF c0, hch3.cell1 lP gP ca, hch3.cell1 lP gP cb⟩ (fun hHeld => ?_)
              clear hK K; (try simp only [Act.put, List.setIfInBounds_toArray, List.set_cons_zero, List.set_cons_succ])
              clear hchq hsq hch2 hcu2 BS
              refine wpAnyH_take (i := 18) (oi := { dst := some 56, op := _, type := _, pos := _, after := _, guard := _ }) (v := ?_) rfl (by kernel_rfl) (by kernel_rfl) (by kernel_rfl) (fun _ _ _ h => h) (Or.inl ⟨by rfl, ?_⟩) (by assumption) ?_; rotate_left; (intro w hSw; (try dsimp only at hSw); go_simp); (try with_reducible rfl); (try simp only [Act.put, List.setIfInBounds_toArray, List.set_cons_zero, List.set_cons_succ])
              refine wpAnyH_take (i := 19) (oi := { dst := some 57, op := _, type := _, pos := _, after := _, guard := _ }) (v := ?_) rfl (by kernel_rfl) (by kernel_rfl) (by kernel_rfl) (fun _ _ _ h => h) (Or.inl ⟨by rfl, ?_⟩) (by assumption) ?_; rotate_left; (intro w hSw; (try dsimp only at hSw); go_simp); (try with_reducible rfl); (try simp only [Act.put, List.setIfInBounds_toArray, List.set_cons_zero, List.set_cons_succ])
              refine wpAnyH_ready (rs := [21]) (by kernel_rfl) (by simp) ?_
              refine AllReadyH.cons (o := { dst := none, op := _, type := _, pos := _, after := _, guard := _ }) rfl (fun K hK => ?_) (AllReadyH.nil)
              have u0 := U.cell (i := 0) rfl; have f0 := U.free 0; have u1 := U.cell (i := 1) rfl; have f1 := U.free 1; have u2 := U.cell (i := 2) rfl; have f2 := U.free 2; have u3 := U.cell (i := 3) rfl; have f3 := U.free 3; have lU := U.lt
              go_simp
              refine hK.out _ _ ⟨(hch3.then_below (by (with_reducible repeat' first | exact Below.refl _ _ | assumption | (refine Below.setCell ?_ (by first | omega | (simp; omega) | (simp; done) | (dsimp only; omega)) _) | (refine Below.alloc ?_ (by first | omega | (simp; omega) | (simp; done) | (dsimp only; omega)) _) | (refine below_drewN ?_ _) | (refine Below.drew ?_)) : Below w6.heap.size v3 _) (Nat.le_refl _)).cell1 lF gF c0, (hch3.then_below (by (with_reducible repeat' first | exact Below.refl _ _ | assumption | (refine Below.setCell ?_ (by first | omega | (simp; omega) | (simp; done) | (dsimp only; omega)) _) | (refine Below.alloc ?_ (by first | omega | (simp; omega) | (simp; done) | (dsimp only; omega)) _) | (refine below_drewN ?_ _) | (refine Below.drew ?_)) : Below w6.heap.size v3 _) (Nat.le_refl _)).cell1 lP gP ca, (hch3.then_below (by (with_reducible repeat' first | exact Below.refl _ _ | assumption | (refine Below.setCell ?_ (by first | omega | (simp; omega) | (simp; done) | (dsimp only; omega)) _) | (refine Below.alloc ?_ (by first | omega | (simp; omega) | (simp; done) | (dsimp only; omega)) _) | (refine below_drewN ?_ _) | (refine Below.drew ?_)) : Below w6.heap.size v3 _) (Nat.le_refl _)).cell1 lP gP cb⟩ (fun hHeld => ?_)
              clear hK K; (try simp only [Act.put, List.setIfInBounds_toArray, List.set_cons_zero, List.set_cons_succ])
              refine wpAnyH_done (by kernel_rfl) ?_ _
              go_wp2_with fail
              go_meet
              exact ⟨_, _, rfl, zu, ((((U.set 0 _).set 1 _).set 2 _).set 3 _), hcu3.below (by (with_reducible repeat' first | exact Below.refl _ _ | assumption | (refine Below.setCell ?_ (by first | omega | (simp; omega) | (simp; done) | (dsimp only; omega)) _) | (refine Below.alloc ?_ (by first | omega | (simp; omega) | (simp; done) | (dsimp only; omega)) _) | (refine below_drewN ?_ _) | (refine Below.drew ?_)) : Below w6.heap.size v3 _) (by have := w6c.lt; omega), (undrewT hch3).then_below (by (with_reducible repeat' first | exact Below.refl _ _ | assumption | (refine Below.setCell ?_ (by first | omega | (simp; omega) | (simp; done) | (dsimp only; omega)) _) | (refine Below.alloc ?_ (by first | omega | (simp; omega) | (simp; done) | (dsimp only; omega)) _) | (refine below_drewN ?_ _) | (refine Below.drew ?_)) : Below w6.heap.size v3 _) (Nat.le_refl _)⟩
          case rest =>
            obtain ⟨ub, fr, rfl, hub, U, hcu, hch⟩ := hcut
            have h69 := hch
            go_upto_if 59 with (go_at_call 69; refine (l01Once_any g 4 _ hcu (by omega) (by omega)).mono ?_; rintro e w9 ⟨x, rfl, hcu9, hchq, hsq⟩)
            have U9 := U.chg hchq (.inr (by have := hcu.lt; omega))
            replace h69 := h69.trans hchq
            clear hchq hch hcu U hsq
            go_cut [] from 20 to 77 (fun wc => ∃ (f t : Int), Blk wc ub 73 #[.int .i64 a, .int .i64 b, .int .i64 f, .int .i64 t] ∧ Cur wc g ∧ Chg g (g + 1) w6 wc)
            case first =>
              cases x with
              | false =>
                go_wp2
                go_meet
                exact ⟨_, _, U9, hcu9, h69⟩
              | true =>
                go_upto_region 10 with fail
                have cu := U9.cell (i := 2) rfl
                have lU : ub < w9.drew.heap.size := U9.lt
                have gU : ub < g ∨ g + 1 ≤ ub := .inr (by have := Q6.cur.lt; omega)
                have hch0 : Chg g (g + 1) w9.drew w9.drew := Chg.refl _ _ _
                have hcu0 : Cur w9.drew g := hcu9.drew
                refine wp_region_held_drew (S := fun w' => w'.cell? ⟨ub, 2, none⟩ = some (.int .i64 fr)) (by kernel_rfl) cu (fun hHeld => ?_)
                refine wpAnyH_take (i := 0) (oi := { dst := some 60, op := _, type := _, pos := _, after := _, guard := _ }) (v := ?_) rfl (by kernel_rfl) (by kernel_rfl) (by kernel_rfl) (fun _ _ _ h => h) (Or.inl ⟨by rfl, ?_⟩) (by assumption) ?_; rotate_left; (intro w hSw; (try dsimp only at hSw); go_simp); (try with_reducible rfl); (try simp only [Act.put, List.setIfInBounds_toArray, List.set_cons_zero, List.set_cons_succ])
                refine wpAnyH_take (i := 1) (oi := { dst := some 61, op := _, type := _, pos := _, after := _, guard := _ }) (v := ?_) rfl (by kernel_rfl) (by kernel_rfl) (by kernel_rfl) (fun _ _ _ h => h) (Or.inl ⟨by rfl, ?_⟩) (by assumption) ?_; rotate_left; (intro w hSw; (try dsimp only at hSw); go_simp); (try with_reducible rfl); (try simp only [Act.put, List.setIfInBounds_toArray, List.set_cons_zero, List.set_cons_succ])
                refine wpAnyH_take (i := 2) (oi := { dst := some 62, op := _, type := _, pos := _, after := _, guard := _ }) (v := ?_) rfl (by kernel_rfl) (by kernel_rfl) (by kernel_rfl) (fun _ _ _ h => h) (Or.inl ⟨by rfl, ?_⟩) (by assumption) ?_; rotate_left; (intro w hSw; (try dsimp only at hSw); go_simp); (try with_reducible rfl); (try simp only [Act.put, List.setIfInBounds_toArray, List.set_cons_zero, List.set_cons_succ])
                refine wpAnyH_ready (rs := [3]) (by kernel_rfl) (by simp) ?_
                refine AllReadyH.cons (o := { dst := some 63, op := _, type := _, pos := _, after := _, guard := _ }) rfl (fun K hK => ?_) (AllReadyH.nil)
                go_simp
                refine hK.out _ _ ((hch0.alloc _).cell1 lU gU cu) (fun hHeld => ?_)
                clear hK K; (try simp only [Act.put, List.setIfInBounds_toArray, List.set_cons_zero, List.set_cons_succ])
                generalize hV : (World.alloc w9 (.cells #[.int .i64 0, .int .i64 1, .int .i64 9] 3)).drew = v1
                have hch1 : Chg g (g + 1) w9.drew v1 := by subst hV; exact hch0.alloc _
                have hcu1 : Cur v1 g := by subst hV; exact hcu0.below ((Below.refl _ _).alloc (Nat.le_refl _) _) hcu0.lt
                have BS : EInt.AS v1 w9.heap.size (w9.heap.size + 1) (some ⟨w9.heap.size, 0, none⟩) [0, 1, 9] := by subst hV; exact (ints_lit w9.drew [0, 1, 9] (by decide)).read.as
                obtain ⟨lbs0, hlbs⟩ : ∃ m, m = w9.heap.size := ⟨_, rfl⟩
                have lbs : lbs0 < v1.heap.size := by subst hV; rw [hlbs]; simp
                have gbs : g + 1 ≤ lbs0 := by rw [hlbs]; exact hcu0.lt
                rw [← hlbs] at BS ⊢
                clear hV hch0 hcu0 hlbs
                refine wpAnyH_ready (rs := [4]) (by kernel_rfl) (by simp) ?_
                refine AllReadyH.cons (o := { dst := some 64, op := _, type := _, pos := _, after := _, guard := _ }) rfl (fun K hK => ?_) (AllReadyH.nil)
                go_simp
                (go_at_call 65; refine (l01Int_any g (some ⟨lbs0, 0, none⟩) 3 lbs0 (lbs0 + 1) [0, 1, 9] _ hcu1 BS (by omega) (.inr gbs) (by decide) (by decide)).mono ?_; rintro e v2 ⟨yy, hyy, rfl, hcu2, hchq, hsq⟩)
                have hch2 := hch1.trans hchq
                try go_wp2_with fail
                refine hK.out _ _ (hch2.cell1 lU gU cu) (fun hHeld => ?_)
                clear hK K; (try simp only [Act.put, List.setIfInBounds_toArray, List.set_cons_zero, List.set_cons_succ])
                clear hchq hsq hch1 hcu1 BS
                refine wpAnyH_take (i := 5) (oi := { dst := some 65, op := _, type := _, pos := _, after := _, guard := _ }) (v := ?_) rfl (by kernel_rfl) (by kernel_rfl) (by kernel_rfl) (fun _ _ _ h => h) (Or.inl ⟨by rfl, ?_⟩) (by assumption) ?_; rotate_left; (intro w hSw; (try dsimp only at hSw); go_simp); (try with_reducible rfl); (try simp only [Act.put, List.setIfInBounds_toArray, List.set_cons_zero, List.set_cons_succ])
                refine wpAnyH_take (i := 6) (oi := { dst := some 66, op := _, type := _, pos := _, after := _, guard := _ }) (v := ?_) rfl (by kernel_rfl) (by kernel_rfl) (by kernel_rfl) (fun _ _ _ h => h) (Or.inl ⟨by rfl, ?_⟩) (by assumption) ?_; rotate_left; (intro w hSw; (try dsimp only at hSw); go_simp); (try with_reducible rfl); (try simp only [Act.put, List.setIfInBounds_toArray, List.set_cons_zero, List.set_cons_succ])
                refine wpAnyH_ready (rs := [7]) (by kernel_rfl) (by simp) ?_
                refine AllReadyH.cons (o := { dst := none, op := _, type := _, pos := _, after := _, guard := _ }) rfl (fun K hK => ?_) (AllReadyH.nil)
                have U2 := U9.drew.chg hch2 gU
                have u3 := U2.cell (i := 3) rfl; have f3 := U2.free 3; have lU2 := U2.lt
                go_simp
                refine hK.out _ _ ((World.cell?_setCell_other _ _ _ _ (by simp)).trans (hch2.cell1 lU gU cu)) (fun hHeld => ?_)
                clear hK K; (try simp only [Act.put, List.setIfInBounds_toArray, List.set_cons_zero, List.set_cons_succ])
                refine wpAnyH_done (by kernel_rfl) ?_ _
                go_wp2_with fail
                go_meet
                exact ⟨_, _, U2.set 3 _, hcu2.below (by (with_reducible repeat' first | exact Below.refl _ _ | assumption | (refine Below.setCell ?_ (by first | omega | (simp; omega) | (simp; done) | (dsimp only; omega)) _) | (refine Below.alloc ?_ (by first | omega | (simp; omega) | (simp; done) | (dsimp only; omega)) _) | (refine below_drewN ?_ _) | (refine Below.drew ?_)) : Below w6.heap.size v2 _) (by omega), (h69.trans (undrewT hch2)).then_below (by (with_reducible repeat' first | exact Below.refl _ _ | assumption | (refine Below.setCell ?_ (by first | omega | (simp; omega) | (simp; done) | (dsimp only; omega)) _) | (refine Below.alloc ?_ (by first | omega | (simp; omega) | (simp; done) | (dsimp only; omega)) _) | (refine below_drewN ?_ _) | (refine Below.drew ?_)) : Below w6.heap.size v2 _) (Nat.le_refl _)⟩
            case rest =>
              obtain ⟨f, t, U10, hcu10, hch10⟩ := hcut
              have Q10 := Q6.next hch10 hcu10
              clear Q6 U9 hcu9 h69 hch10 hcu10
              have e0 := Q10.fam.cell (i := 0) rfl; have e1 := Q10.fam.cell (i := 1) rfl
              have zz10 := Q10.size; have zd10 := Q10.dlo
              have lub := U10.lt
              have hzl : zs.length ≤ 120 := by omega
              have hcopy := l1Copy_any A3 B3 c3 d3 lo wc.heap.size xs zs wc Q10.own.read.as Q10.uni.read.as (Nat.le_refl _) (by omega) (by omega)
              go_upto_region 12 with (go_at_call 85; (with_reducible refine hcopy.mono ?_); rintro e w11 ⟨A4, c4, B4, d4, rfl, o4, u4, hb11⟩)
              generalize hV : World.alloc w11 (.cells #[.slice A4 xs.length c4, .slice B4 zs.length d4] 26) = W11
              have z11 := hb11.size
              have G : Blk W11 w11.heap.size 26 #[.slice A4 xs.length c4, .slice B4 zs.length d4] := by subst hV; exact Blk.new _ rfl
              have hbV : Below wc.heap.size wc W11 := by subst hV; exact hb11.alloc z11 _
              have o4' : EPerson.OS W11 wc.heap.size w11.heap.size (.slice A4 xs.length c4) xs := by subst hV; exact o4.same (by (with_reducible repeat' first | exact Same.refl _ _ _ | assumption | (refine Same.setCell ?_ (by first | omega | (simp; omega) | (simp; done) | (dsimp only; omega)) _) | (refine Same.alloc ?_ (by first | omega | (simp; omega) | (simp; done) | (dsimp only; omega)) _) | (refine Same.drewN ?_ _) | (refine Same.drew ?_)))
              have u4' : EUnion.OS W11 wc.heap.size w11.heap.size (.slice B4 zs.length d4) zs := by subst hV; exact u4.same (by (with_reducible repeat' first | exact Same.refl _ _ _ | assumption | (refine Same.setCell ?_ (by first | omega | (simp; omega) | (simp; done) | (dsimp only; omega)) _) | (refine Same.alloc ?_ (by first | omega | (simp; omega) | (simp; done) | (dsimp only; omega)) _) | (refine Same.drewN ?_ _) | (refine Same.drew ?_)))
              have zV : w11.heap.size < W11.heap.size := by subst hV; simp
              clear hV hcopy o4 u4 hb11 e0 e1
              have UV := U10.below hbV lub
              have g0 := G.cell (i := 0) rfl; have g1 := G.cell (i := 1) rfl; have k1 := G.free 1
              have u0 := UV.cell (i := 0) rfl; have u1 := UV.cell (i := 1) rfl; have u2 := UV.cell (i := 2) rfl; have u3 := UV.cell (i := 3) rfl
              have lUV := UV.lt
              go_upto_region 13 with (at_builtin; refine wpList_app1 tyUnionS B4 zs ⟨a, b, f, t⟩ (vsUnion ⟨a, b, f, t⟩) ⟨W11.heap.size, 0, none⟩ 1 (lo := wc.heap.size) (hi := w11.heap.size) (u4'.same (by (with_reducible repeat' first | exact Same.refl _ _ _ | assumption | (refine Same.setCell ?_ (by first | omega | (simp; omega) | (simp; done) | (dsimp only; omega)) _) | (refine Same.alloc ?_ (by first | omega | (simp; omega) | (simp; done) | (dsimp only; omega)) _) | (refine Same.drewN ?_ _) | (refine Same.drew ?_)))) rfl (by (first | omega | (simp; omega) | (simp; done) | (dsimp only; omega))) z11 (rfl : vsUnion _ = _) _ _ rfl rfl rfl rfl (cell_row_at _ _ _ _ (by simp)) (flatUnion.one _) (by omega) (by decide) (fun A' c' w12 ou hg12 hc12 hm12 => ?_); have lG := G.grown' hg12 (fun e => by have := (u4'.blkv _ e.symm).2; omega); replace g0 := lG.cell (i := 0) rfl; replace g1 := lG.cell (i := 1) rfl; replace k1 := lG.free 1)
              generalize hV : w12.setCell ⟨w11.heap.size, 1, none⟩ (.slice A' (zs.length + 1) c') = W12
              have z12 := hg12.size
              simp only [szs] at z12
              have hb12 : Below wc.heap.size W11 w12 := Below.grown (w := World.alloc _ _) ((Below.refl _ _).alloc (by omega) _) hg12 (by simp; omega) (fun k hk => (u4'.blkv k hk).1)
              have hbW : Below wc.heap.size wc W12 := by subst hV; exact (hbV.trans hb12).setCell (by simp; omega) _
              have oW : EPerson.OS W12 wc.heap.size w11.heap.size (.slice A4 xs.length c4) xs := by
                have h1 : EPerson.OS w12 wc.heap.size w11.heap.size (.slice A4 xs.length c4) xs := flat_os.2 ((flat_os.1 o4').loc fun k hk => (hg12.block k (by have := (o4'.blkv k hk).2; simp; omega) (fun e => OSl.ne_type (flat_os.1 u4') (flat_os.1 o4') (by decide) e.symm hk)).trans (Below.heap_alloc _ _ _ (by have := (o4'.blkv k hk).2; omega)))
                subst hV; exact h1.same (by (with_reducible repeat' first | exact Same.refl _ _ _ | assumption | (refine Same.setCell ?_ (by first | omega | (simp; omega) | (simp; done) | (dsimp only; omega)) _) | (refine Same.alloc ?_ (by first | omega | (simp; omega) | (simp; done) | (dsimp only; omega)) _) | (refine Same.drewN ?_ _) | (refine Same.drew ?_)))
              have uW : EUnion.OS W12 wc.heap.size W12.heap.size (.slice A' (zs ++ [(⟨a, b, f, t⟩ : Union)]).length c') (zs ++ [⟨a, b, f, t⟩]) := by
                have h1 := flatUnion.far (i := 1) (u := .slice A' (zs.length + 1) c') ou lG (by decide)
                subst hV; simpa [World.setCell] using h1
              have GW : Blk W12 w11.heap.size 26 #[.slice A4 xs.length c4, .slice A' (zs ++ [(⟨a, b, f, t⟩ : Union)]).length c'] := by
                have h1 := lG.set 1 (.slice A' (zs.length + 1) c')
                subst hV; simpa using h1
              have zW12 : w12.heap.size = W12.heap.size := by subst hV; simp [World.setCell]
              clear hV hg12 lG g0 g1 k1 o4' u4' ou G hb12 UV u0 u1 u2 u3 hbV
              have QW := Q10.next (Chg.of_below' hbW) (Q10.cur.below hbW (by omega))
              obtain ⟨zl, hzl'⟩ : ∃ zl : List Union, zl = zs ++ [⟨a, b, f, t⟩] := ⟨_, rfl⟩
              rw [← hzl'] at uW GW
              have hzn : zl.length = zs.length + 1 := by rw [hzl']; simp
              clear hzl' zW12 Q10
              have HZ := Lib.hid hzn; clear hzn
              have g0 := GW.cell (i := 0) rfl; have g1 := GW.cell (i := 1) rfl
              have zzW := QW.size; have zdW := QW.dlo
              have lGW := GW.lt
              have hfam := specIsFamily_any A4 A' c4 c' wc.heap.size W12.heap.size xs zl W12 ((oW.mono (Nat.le_refl _) (by omega)).read.as) uW.read.as (Nat.le_refl _) (by omega)
              generalize famOk xs zl = ok at hfam
              go_upto_if 76 with (go_at_call 57; (with_reducible refine hfam.mono ?_); rintro e w13 ⟨rfl, hb13⟩)
              have z13 := hb13.size
              have Q13 := QW.next (Chg.of_below hb13) (QW.cur.below hb13 QW.cur.lt)
              cases ok with
              | false =>
                go_wp2
                exact ⟨⟨k - 1, zs, A3, B3, c3, d3, by congr 1; omega, by omega, Q13⟩, by simp [intOf]; omega⟩
              | true =>
                have G13 := GW.below hb13 lGW
                replace g0 := G13.cell (i := 0) rfl; replace g1 := G13.cell (i := 1) rfl
                have s0 := Q13.fam.cell (i := 0) rfl; have s1 := Q13.fam.cell (i := 1) rfl; have t0 := Q13.fam.free 0; have t1 := Q13.fam.free 1
                have lF := Q13.fam.lt
                have o13 := oW.same (Same.of_below hb13 (by omega))
                have u13 := uW.same (Same.of_below hb13 (Nat.le_refl _))
                clear hfam
                go_wp2
                have hzn := HZ.out
                have hsm : ∀ v1 v2 : Value, Same (w.heap.size + 1) (w13.heap.size + 1) w13 ((w13.setCell ⟨w.heap.size, 0, none⟩ v1).setCell ⟨w.heap.size, 1, none⟩ v2) := fun v1 v2 => by (with_reducible repeat' first | exact Same.refl _ _ _ | assumption | (refine Same.setCell ?_ (by first | omega | (simp; omega) | (simp; done) | (dsimp only; omega)) _) | (refine Same.alloc ?_ (by first | omega | (simp; omega) | (simp; done) | (dsimp only; omega)) _) | (refine Same.drewN ?_ _) | (refine Same.drew ?_))
                have hbl : ∀ v1 v2 : Value, Below w.heap.size w13 ((w13.setCell ⟨w.heap.size, 0, none⟩ v1).setCell ⟨w.heap.size, 1, none⟩ v2) := fun v1 v2 => by (with_reducible repeat' first | exact Below.refl _ _ | assumption | (refine Below.setCell ?_ (by first | omega | (simp; omega) | (simp; done) | (dsimp only; omega)) _) | (refine Below.alloc ?_ (by first | omega | (simp; omega) | (simp; done) | (dsimp only; omega)) _) | (refine below_drewN ?_ _) | (refine Below.drew ?_))
                have hsz : ∀ v1 v2 : Value, ((w13.setCell ⟨w.heap.size, 0, none⟩ v1).setCell ⟨w.heap.size, 1, none⟩ v2).heap.size = w13.heap.size := fun v1 v2 => by simp [World.setCell]
                refine ⟨⟨k - 1, zl, A4, A', c4, c', by congr 1; omega, by omega, { fam := (Q13.fam.set 0 _).set 1 _, res := ?_, own := ?_, uni := ?_, dep := ?_, cur := ?_, chg := Q13.chg.then_below (hbl _ _) (Nat.le_refl _), size := ?_, dlo := ⟨QW.dlo.1, ?_⟩, glt := Q13.glt }⟩, by simp [intOf]; omega⟩
                · exact (Q13.res.far (by simp) _).far (by simp) _
                · exact (o13.same ((hsm _ _).mono (by omega) (by omega))).mono (by omega) (by rw [hsz]; omega)
                · exact (u13.same ((hsm _ _).mono (by omega) (by omega))).mono (by omega) (by rw [hsz]; omega)
                · exact Q13.dep.same ((hsm _ _).mono (by omega) (by omega))
                · exact Q13.cur.below (hbl _ _) (by omega)
                · rw [hsz]; omega
                · rw [hsz]; omega
    · have i1 : ¬ (0 : Int) < (k : Int) := by omega
      have e0 := Q.fam.cell (i := 0) rfl; have e1 := Q.fam.cell (i := 1) rfl
      have r0 := Q.res.cell (i := 0) rfl; have r1 := Q.res.cell (i := 1) rfl; have s0 := Q.res.free 0; have s1 := Q.res.free 1
      have lR := Q.res.lt
      go_wp2
      have RR := (Q.res.set 0 (.slice A3 xs.length c3)).set 1 (.slice B3 zs.length d3)
      have hbl : Below w.heap.size wr ((wr.setCell ⟨w.heap.size + 1, 0, none⟩ (.slice A3 xs.length c3)).setCell ⟨w.heap.size + 1, 1, none⟩ (.slice B3 zs.length d3)) := by (with_reducible repeat' first | exact Below.refl _ _ | assumption | (refine Below.setCell ?_ (by first | omega | (simp; omega) | (simp; done) | (dsimp only; omega)) _) | (refine Below.alloc ?_ (by first | omega | (simp; omega) | (simp; done) | (dsimp only; omega)) _) | (refine below_drewN ?_ _) | (refine Below.drew ?_))
      have hsz : ((wr.setCell ⟨w.heap.size + 1, 0, none⟩ (.slice A3 xs.length c3)).setCell ⟨w.heap.size + 1, 1, none⟩ (.slice B3 zs.length d3)).heap.size = wr.heap.size := by simp [World.setCell]
      have o1 := flatPerson.far (i := 1) (u := .slice B3 zs.length d3) (flatPerson.far (i := 0) (u := .slice A3 xs.length c3) Q.own Q.res (by decide)) (Q.res.set 0 (.slice A3 xs.length c3)) (by decide)
      have o2 := flatUnion.far (i := 1) (u := .slice B3 zs.length d3) (flatUnion.far (i := 0) (u := .slice A3 xs.length c3) Q.uni Q.res (by decide)) (Q.res.set 0 (.slice A3 xs.length c3)) (by decide)
      exact bodyPost_ret (v := .agg #[.slice A3 xs.length c3, .slice B3 zs.length d3]) (by simp [results, Try.results72, go_sem, RR.cell (i := 0) rfl, RR.cell (i := 1) rfl]) rfl ⟨zs, A3, B3, c3, d3, rfl, by rw [hsz]; exact o1, by rw [hsz]; exact o2, by omega, Q.cur.below hbl (by omega), Q.chg.then_below hbl (Nat.le_refl _)⟩
end Go.Proofs.Ythpcippgifmabaa
