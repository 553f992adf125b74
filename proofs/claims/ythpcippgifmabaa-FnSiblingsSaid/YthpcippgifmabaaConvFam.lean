/-
  Families: sizes, copies, equality, marks.
-/
import Derived.Test.YthpcippgifmabaaConvPerson
import Derived.Test.YthpcippgifmabaaConvUnion
namespace Go.Proofs.Ythpcippgifmabaa
set_option maxRecDepth 100000
open Go.RowKit

structure Family where
  people : List Person
  unions : List Union
  deriving DecidableEq

theorem own_narrow {w : World} {lo hi e sz n : Nat} {v : Value} {vs : List Value} (h : OSl w lo hi e sz v n vs) : (v = .slice none 0 0 ∧ n = 0) ∨ ∃ g, v.ownBlock = some g ∧ lo ≤ g ∧ g < hi ∧ OSl w g (g + 1) e sz v n vs := by
  obtain ⟨⟨hl, ho⟩, hh, hb⟩ := h
  rcases ho with ⟨h1, h2⟩ | ⟨g, cap, cur, rfl, hg, r⟩
  · exact .inl ⟨h1, h2⟩
  · exact .inr ⟨g, rfl, hg, hh g rfl, ⟨hl, .inr ⟨g, cap, cur, rfl, Nat.le_refl _, r⟩⟩, fun k hk => by simp [Value.ownBlock] at hk; omega, hb⟩
theorem Chg.only {w w' : World} {g : Nat} {v : Value} (h : Chg g (g + 1) w w') (hv : v.ownBlock = some g) : Only (fun b => v.ownBlock = some b) w w' :=
  ⟨h.os, h.tape, h.output, h.size, fun k hk hp => h.block k hk (by
    by_cases e : k = g
    · subst e; exact absurd hv hp
    · omega)⟩
theorem Chg.only0 {w w' : World} {p : Nat → Prop} (h : Chg 0 0 w w') : Only p w w' := ⟨h.os, h.tape, h.output, h.size, fun k hk _ => h.block k hk (.inr (Nat.zero_le _))⟩

theorem markPersonS_own (A : Option Addr) (c lo hi : Nat) (xs : List Person) (k : Int) (w : World) (h : EPerson.OS w lo hi (.slice A xs.length c) xs) (hh : hi ≤ w.heap.size) (h0 : 0 < k) (h1 : k + 6 * xs.length ≤ 4611686018427387904) :
    Calls Try.prog 45 #[.slice A xs.length c, .int .i64 k] w fun e w' => e = .returned (.int .i64 (k + 6 * xs.length)) ∧ EPerson.OS w' lo hi (.slice A xs.length c) (mkTo (markPerson k) xs.length) ∧
      Only (fun b => (Value.slice A xs.length c).ownBlock = some b) w w' := by
  rcases own_narrow (flat_os.1 h) with ⟨hv, hn⟩ | ⟨g, hv, g1, g2, hg⟩
  · have hx : xs = [] := List.eq_nil_of_length_eq_zero hn
    subst hx
    have hv' := hv
    injection hv with hA _ hc
    subst hA
    simp only [List.length_nil] at hv' ⊢
    rw [hv']
    refine (markPersonS_any none 0 0 0 [] k w Elem.OS.nil (Nat.zero_le _) h0 h1).mono ?_
    rintro e w' ⟨rfl, _, h3⟩
    exact ⟨rfl, Elem.OS.nil, h3.only0⟩
  · have hlt : g < w.heap.size := by omega
    refine (markPersonS_any A c g (g + 1) xs k w (flat_os.2 hg) hlt h0 h1).mono ?_
    rintro e w' ⟨rfl, h2, h3⟩
    exact ⟨rfl, h2.mono g1 g2, h3.only hv⟩

theorem szFamily_any (A B : Option Addr) (c d lo hi : Nat) (xs : List Person) (ys : List Union) (left : Int) (w : World) (h : EPerson.AS w lo hi A xs) (h' : EUnion.AS w lo hi B ys) (h0 : 0 ≤ left) (h1 : left ≤ 1048576) (hh : hi ≤ w.heap.size) (hs : ∀ x ∈ xs, x.name.size ≤ 4000000000000000000) :
    Calls Try.prog 16 #[.agg #[.slice A xs.length c, .slice B ys.length d], .int .i64 left] w fun e w' => ∃ r, e = .returned (.int .i64 r) ∧ Below w.heap.size w w' ∧ Sz r left (xs.length + totP xs + ys.length) := by
  go_enter Try.func16, Try.ntmps16
  go_wp2_with fail
  refine (szPersonS_any A c lo hi xs left _ (h.same (by (with_reducible repeat' first | exact Same.refl _ _ _ | assumption | (refine Same.setCell ?_ (by first | omega | (simp; omega) | (simp; done) | (dsimp only; omega)) _) | (refine Same.alloc ?_ (by first | omega | (simp; omega) | (simp; done) | (dsimp only; omega)) _) | (refine Same.drewN ?_ _) | (refine Same.drew ?_)))) h0 h1 (by first | omega | (simp; omega) | (simp; done) | (dsimp only; omega)) hs).mono ?_
  rintro e w1 ⟨r1, rfl, hb1, hs1⟩
  have hb2 : Below w.heap.size w w1 := by (with_reducible repeat' first | exact Below.refl _ _ | assumption | (refine Below.setCell ?_ (by first | omega | (simp; omega) | (simp; done) | (dsimp only; omega)) _) | (refine Below.alloc ?_ (by first | omega | (simp; omega) | (simp; done) | (dsimp only; omega)) _) | (refine below_drewN ?_ _) | (refine Below.drew ?_) | (refine Below.trans ?_ (hb1.mono (by first | omega | (simp; omega) | (simp; done) | (dsimp only; omega)))))
  have a1 : w1.cell? ⟨w.heap.size, 1, none⟩ = some (.slice B ys.length d) := by rw [hb1.cell (p := ⟨w.heap.size, 1, none⟩) (by simp)]; simp [go_sem]
  clear hb1
  have z1 := hb2.size
  go_wp2_with fail
  · go_ret
    refine ⟨_, rfl, hb2, .inl ⟨rfl, ?_⟩⟩
    rcases hs1 with ⟨_, hs1⟩ | ⟨hs1, _⟩ <;> omega
  have hr1 : 0 ≤ r1 ∧ r1 ≤ 1048576 := by rcases hs1 with ⟨hs1, _⟩ | ⟨_, hs1⟩ <;> omega
  refine (szUnionS_any B d ys r1 w1 h'.le hr1.1 hr1.2).mono ?_
  rintro e w2 ⟨r2, rfl, rfl, hs2⟩
  go_wp2_with fail
  · go_ret
    refine ⟨_, rfl, hb2, .inl ⟨rfl, ?_⟩⟩
    rcases hs1 with ⟨_, hs1⟩ | ⟨_, hs1⟩ <;> rcases hs2 with ⟨_, hs2⟩ | ⟨_, hs2⟩ <;> omega
  · go_ret
    refine ⟨_, rfl, hb2, ?_⟩
    rcases hs1 with ⟨_, hs1⟩ | ⟨_, hs1⟩ <;> rcases hs2 with ⟨_, hs2⟩ | ⟨_, hs2⟩ <;> first | exact .inr ⟨by omega, by omega⟩ | (exfalso; omega)

theorem toFamily_any (A B : Option Addr) (c d lo hi : Nat) (xs : List Person) (ys : List Union) (w : World) (h : EPerson.AS w lo hi A xs) (h' : EUnion.AS w lo hi B ys) (hh : hi ≤ w.heap.size) (hs : xs.length ≤ 1048576) (hs' : ys.length ≤ 1048576) :
    Calls Try.prog 17 #[.agg #[.slice A xs.length c, .slice B ys.length d]] w fun e w' => ∃ A' c' B' d', e = .returned (.agg #[.slice A' xs.length c', .slice B' ys.length d']) ∧
      EPerson.OS w' w.heap.size w'.heap.size (.slice A' xs.length c') xs ∧ EUnion.OS w' w.heap.size w'.heap.size (.slice B' ys.length d') ys ∧ Below w.heap.size w w' := by
  go_enter Try.func17, Try.ntmps17
  go_wp2_with fail
  generalize hW : ((w.alloc (.cells #[.slice A xs.length c, .slice B ys.length d] 37)).alloc (.cells #[.slice none 0 0, .slice none 0 0] 26)).alloc (.cells #[.slice none 0 0, .slice none 0 0] 26) = W
  have a1 : W.cell? ⟨w.heap.size, 1, none⟩ = some (.slice B ys.length d) := by subst hW; simp [go_sem]
  have R : Blk W (w.heap.size + 1) 26 #[.slice none 0 0, .slice none 0 0] := by subst hW; exact (Blk.new _ (by simp)).alloc _
  have O : Blk W (w.heap.size + 1 + 1) 26 #[.slice none 0 0, .slice none 0 0] := by subst hW; exact Blk.new _ (by simp)
  have hb : Below w.heap.size w W := by subst hW; (with_reducible repeat' first | exact Below.refl _ _ | assumption | (refine Below.setCell ?_ (by first | omega | (simp; omega) | (simp; done) | (dsimp only; omega)) _) | (refine Below.alloc ?_ (by first | omega | (simp; omega) | (simp; done) | (dsimp only; omega)) _) | (refine below_drewN ?_ _) | (refine Below.drew ?_))
  have z : w.heap.size + 1 + 1 + 1 = W.heap.size := by subst hW; simp
  clear hW
  replace h := h.same (Same.of_below hb hh); replace h' := h'.same (Same.of_below hb hh)
  refine (toPersonS_any A c lo hi xs _ h (by first | omega | (simp; omega) | (simp; done) | (dsimp only; omega)) hs).mono ?_
  rintro e w1 ⟨A1, c1, rfl, o1, hb1⟩
  have z1 := hb1.size
  replace a1 := (hb1.cell (p := ⟨w.heap.size, 1, none⟩) (by first | omega | (simp; omega) | (simp; done) | (dsimp only; omega))).trans a1
  replace R := R.below hb1 (by first | omega | (simp; omega) | (simp; done) | (dsimp only; omega)); replace O := O.below hb1 (by first | omega | (simp; omega) | (simp; done) | (dsimp only; omega))
  replace h' := h'.same (Same.of_below hb1 (by first | omega | (simp; omega) | (simp; done) | (dsimp only; omega)))
  replace hb := hb.trans (hb1.mono (by first | omega | (simp; omega) | (simp; done) | (dsimp only; omega)))
  have e0 := O.cell (i := 0) rfl; have f0 := O.free 0
  clear hb1
  go_wp2_with fail
  generalize hW1 : w1.setCell ⟨w.heap.size + 1 + 1, 0, none⟩ (.slice A1 xs.length c1) = W1
  have zs1 : w1.heap.size = W1.heap.size := by subst hW1; simp [World.setCell]
  have O1 : Blk W1 (w.heap.size + 1 + 1) 26 #[.slice A1 xs.length c1, .slice none 0 0] := by subst hW1; exact O.set 0 _
  replace R : Blk W1 (w.heap.size + 1) 26 #[.slice none 0 0, .slice none 0 0] := by subst hW1; exact R.far (by first | omega | (simp; omega) | (simp; done) | (dsimp only; omega)) _
  replace o1 : EPerson.OS W1 W.heap.size w1.heap.size (.slice A1 xs.length c1) xs := by subst hW1; exact o1.same (by (with_reducible repeat' first | exact Same.refl _ _ _ | assumption | (refine Same.setCell ?_ (by first | omega | (simp; omega) | (simp; done) | (dsimp only; omega)) _) | (refine Same.alloc ?_ (by first | omega | (simp; omega) | (simp; done) | (dsimp only; omega)) _) | (refine Same.drewN ?_ _) | (refine Same.drew ?_)))
  replace h' : EUnion.AS W1 lo hi B ys := by subst hW1; exact h'.same (by (with_reducible repeat' first | exact Same.refl _ _ _ | assumption | (refine Same.setCell ?_ (by first | omega | (simp; omega) | (simp; done) | (dsimp only; omega)) _) | (refine Same.alloc ?_ (by first | omega | (simp; omega) | (simp; done) | (dsimp only; omega)) _) | (refine Same.drewN ?_ _) | (refine Same.drew ?_)))
  replace hb : Below w.heap.size w W1 := by subst hW1; (with_reducible repeat' first | exact Below.refl _ _ | assumption | (refine Below.setCell ?_ (by first | omega | (simp; omega) | (simp; done) | (dsimp only; omega)) _) | (refine Below.alloc ?_ (by first | omega | (simp; omega) | (simp; done) | (dsimp only; omega)) _) | (refine below_drewN ?_ _) | (refine Below.drew ?_) | (refine Below.trans ?_ (hb.mono (by first | omega | (simp; omega) | (simp; done) | (dsimp only; omega)))))
  clear hW1 e0 f0 O a1
  refine (toUnionS_any B d lo hi ys _ h' (by first | omega | (simp; omega) | (simp; done) | (dsimp only; omega)) hs').mono ?_
  rintro e w2 ⟨A2, c2, rfl, o2, hb2⟩
  have z2 := hb2.size
  replace R := R.below hb2 (by first | omega | (simp; omega) | (simp; done) | (dsimp only; omega)); replace O1 := O1.below hb2 (by first | omega | (simp; omega) | (simp; done) | (dsimp only; omega))
  replace o1 := o1.same (Same.of_below hb2 (by first | omega | (simp; omega) | (simp; done) | (dsimp only; omega)))
  replace hb := hb.trans (hb2.mono (by first | omega | (simp; omega) | (simp; done) | (dsimp only; omega)))
  have e0 := O1.cell (i := 0) rfl; have e1 := O1.cell (i := 1) rfl; have f1 := O1.free 1
  have r0 := R.cell (i := 0) rfl; have r1 := R.cell (i := 1) rfl; have g0 := R.free 0; have g1 := R.free 1
  clear hb2
  go_wp2_with fail
  have RR := ((R.far (p := ⟨w.heap.size + 1 + 1, 1, none⟩) (by first | omega | (simp; omega) | (simp; done) | (dsimp only; omega)) (.slice A2 ys.length c2)).set 0 (.slice A1 xs.length c1)).set 1 (.slice A2 ys.length c2)
  exact bodyPost_ret (v := .agg #[.slice A1 xs.length c1, .slice A2 ys.length c2]) (by simp [results, Try.results17, go_sem, RR.cell (i := 0) rfl, RR.cell (i := 1) rfl]) rfl ⟨A1, c1, A2, c2, rfl, (o1.same (by (with_reducible repeat' first | exact Same.refl _ _ _ | assumption | (refine Same.setCell ?_ (by first | omega | (simp; omega) | (simp; done) | (dsimp only; omega)) _) | (refine Same.alloc ?_ (by first | omega | (simp; omega) | (simp; done) | (dsimp only; omega)) _) | (refine Same.drewN ?_ _) | (refine Same.drew ?_)))).mono (by first | omega | (simp; omega) | (simp; done) | (dsimp only; omega)) (by first | omega | (simp; omega) | (simp; done) | (dsimp only; omega)), (o2.same (by (with_reducible repeat' first | exact Same.refl _ _ _ | assumption | (refine Same.setCell ?_ (by first | omega | (simp; omega) | (simp; done) | (dsimp only; omega)) _) | (refine Same.alloc ?_ (by first | omega | (simp; omega) | (simp; done) | (dsimp only; omega)) _) | (refine Same.drewN ?_ _) | (refine Same.drew ?_)))).mono (by first | omega | (simp; omega) | (simp; done) | (dsimp only; omega)) (by first | omega | (simp; omega) | (simp; done) | (dsimp only; omega)), by (with_reducible repeat' first | exact Below.refl _ _ | assumption | (refine Below.setCell ?_ (by first | omega | (simp; omega) | (simp; done) | (dsimp only; omega)) _) | (refine Below.alloc ?_ (by first | omega | (simp; omega) | (simp; done) | (dsimp only; omega)) _) | (refine below_drewN ?_ _) | (refine Below.drew ?_) | (refine Below.trans ?_ (hb.mono (by first | omega | (simp; omega) | (simp; done) | (dsimp only; omega)))))⟩

theorem eqFamily_any (A B A' B' : Option Addr) (c d c' d' lo hi lo' hi' : Nat) (xs : List Person) (ys : List Union) (xs' : List Person) (ys' : List Union) (w : World) (h : EPerson.AS w lo hi A xs) (h' : EUnion.AS w lo hi B ys) (h2 : EPerson.AS w lo' hi' A' xs') (h2' : EUnion.AS w lo' hi' B' ys') (hh : hi ≤ w.heap.size) (hh' : hi' ≤ w.heap.size) :
    Calls Try.prog 19 #[.agg #[.slice A xs.length c, .slice B ys.length d], .agg #[.slice A' xs'.length c', .slice B' ys'.length d']] w fun e w' => e = .returned (.bool (eqB (⟨xs, ys⟩ : Family) ⟨xs', ys'⟩)) ∧ Below w.heap.size w w' := by
  cases hp : eqB xs xs' <;> cases hu : eqB ys ys'
  all_goals
    have HP := Lib.hid hp; have HU := Lib.hid hu
    have HE := Lib.hid (show eqB (⟨xs, ys⟩ : Family) ⟨xs', ys'⟩ = (eqB xs xs' && eqB ys ys') by simp [eqB])
    clear hp hu
    go_enter Try.func19, Try.ntmps19
    go_wp2_with (first
      | (go_at_call 43; (with_reducible refine (eqPersonS_any A A' c c' lo hi lo' hi' xs xs' _ (h.same (by (with_reducible repeat' first | exact Same.refl _ _ _ | assumption | (refine Same.setCell ?_ (by first | omega | (simp; omega) | (simp; done) | (dsimp only; omega)) _) | (refine Same.alloc ?_ (by first | omega | (simp; omega) | (simp; done) | (dsimp only; omega)) _) | (refine Same.drewN ?_ _) | (refine Same.drew ?_)))) (h2.same (by (with_reducible repeat' first | exact Same.refl _ _ _ | assumption | (refine Same.setCell ?_ (by first | omega | (simp; omega) | (simp; done) | (dsimp only; omega)) _) | (refine Same.alloc ?_ (by first | omega | (simp; omega) | (simp; done) | (dsimp only; omega)) _) | (refine Same.drewN ?_ _) | (refine Same.drew ?_)))) (by first | omega | (simp; omega) | (simp; done) | (dsimp only; omega)) (by first | omega | (simp; omega) | (simp; done) | (dsimp only; omega))).mono ?_); rintro e w1 ⟨rfl, hb1⟩; simp only [HP.out]; (obtain ⟨hb1c, hb1f⟩ := bcell hb1); (have hb1z := hb1.size); (try simp only [szs] at hb1c hb1f hb1z); (have lt1 : w.heap.size + 1 < w1.heap.size := (by omega)))
      | (go_at_call 44; (with_reducible refine (eqUnionS_any B B' d d' lo hi lo' hi' ys ys' _ (h'.same (by (with_reducible repeat' first | exact Same.refl _ _ _ | assumption | (refine Same.setCell ?_ (by first | omega | (simp; omega) | (simp; done) | (dsimp only; omega)) _) | (refine Same.alloc ?_ (by first | omega | (simp; omega) | (simp; done) | (dsimp only; omega)) _) | (refine Same.drewN ?_ _) | (refine Same.drew ?_) | (refine Same.trans ?_ (Same.of_below hb1 (by first | omega | (simp; omega) | (simp; done) | (dsimp only; omega))))))) (h2'.same (by (with_reducible repeat' first | exact Same.refl _ _ _ | assumption | (refine Same.setCell ?_ (by first | omega | (simp; omega) | (simp; done) | (dsimp only; omega)) _) | (refine Same.alloc ?_ (by first | omega | (simp; omega) | (simp; done) | (dsimp only; omega)) _) | (refine Same.drewN ?_ _) | (refine Same.drew ?_) | (refine Same.trans ?_ (Same.of_below hb1 (by first | omega | (simp; omega) | (simp; done) | (dsimp only; omega))))))) (by first | omega | (simp; omega) | (simp; done) | (dsimp only; omega)) (by first | omega | (simp; omega) | (simp; done) | (dsimp only; omega))).mono ?_); rintro e w2 ⟨rfl, hb2⟩; simp only [HU.out]))
    go_ret
    first
      | exact ⟨ret_bool (by rw [HE.out, HP.out, HU.out]; rfl), by (with_reducible repeat' first | exact Below.refl _ _ | assumption | (refine Below.setCell ?_ (by first | omega | (simp; omega) | (simp; done) | (dsimp only; omega)) _) | (refine Below.alloc ?_ (by first | omega | (simp; omega) | (simp; done) | (dsimp only; omega)) _) | (refine below_drewN ?_ _) | (refine Below.drew ?_) | (refine Below.trans ?_ (hb2.mono (by first | omega | (simp; omega) | (simp; done) | (dsimp only; omega)))) | (refine Below.trans ?_ (hb1.mono (by first | omega | (simp; omega) | (simp; done) | (dsimp only; omega)))))⟩
      | exact ⟨ret_bool (by rw [HE.out, HP.out, HU.out]; rfl), by (with_reducible repeat' first | exact Below.refl _ _ | assumption | (refine Below.setCell ?_ (by first | omega | (simp; omega) | (simp; done) | (dsimp only; omega)) _) | (refine Below.alloc ?_ (by first | omega | (simp; omega) | (simp; done) | (dsimp only; omega)) _) | (refine below_drewN ?_ _) | (refine Below.drew ?_) | (refine Below.trans ?_ (hb1.mono (by first | omega | (simp; omega) | (simp; done) | (dsimp only; omega)))))⟩

theorem markFamily_any (A B : Option Addr) (c d lo hi : Nat) (xs : List Person) (ys : List Union) (k : Int) (w : World) (h : EPerson.OS w lo hi (.slice A xs.length c) xs) (h' : EUnion.OS w lo hi (.slice B ys.length d) ys) (hh : hi ≤ w.heap.size) (h0 : 0 < k) (h1 : k + 6 * xs.length + 4 * ys.length ≤ 4611686018427387904) :
    Calls Try.prog 20 #[.agg #[.slice A xs.length c, .slice B ys.length d], .int .i64 k] w fun e w' => e = .returned (.int .i64 (k + 6 * xs.length + 4 * ys.length)) ∧
      EPerson.OS w' lo hi (.slice A xs.length c) (mkTo (markPerson k) xs.length) ∧ EUnion.OS w' lo hi (.slice B ys.length d) (mkTo (markUnion (k + 6 * xs.length)) ys.length) ∧ Chg lo hi w w' := by
  have k1 : 0 ≤ k + 6 * (xs.length : Int) := by omega
  go_enter Try.func20, Try.ntmps20
  go_wp2_with fail
  generalize hW : w.alloc (.cells #[.slice A xs.length c, .slice B ys.length d] 26) = W
  have a1 : W.cell? ⟨w.heap.size, 1, none⟩ = some (.slice B ys.length d) := by subst hW; simp [go_sem]
  have hb : Chg lo hi w W := by subst hW; exact (Chg.refl _ _ _).alloc _
  have z : w.heap.size + 1 = W.heap.size := by subst hW; simp
  replace h : EPerson.OS W lo hi (.slice A xs.length c) xs := by subst hW; exact h.same (by (with_reducible repeat' first | exact Same.refl _ _ _ | assumption | (refine Same.setCell ?_ (by first | omega | (simp; omega) | (simp; done) | (dsimp only; omega)) _) | (refine Same.alloc ?_ (by first | omega | (simp; omega) | (simp; done) | (dsimp only; omega)) _) | (refine Same.drewN ?_ _) | (refine Same.drew ?_)))
  replace h' : EUnion.OS W lo hi (.slice B ys.length d) ys := by subst hW; exact h'.same (by (with_reducible repeat' first | exact Same.refl _ _ _ | assumption | (refine Same.setCell ?_ (by first | omega | (simp; omega) | (simp; done) | (dsimp only; omega)) _) | (refine Same.alloc ?_ (by first | omega | (simp; omega) | (simp; done) | (dsimp only; omega)) _) | (refine Same.drewN ?_ _) | (refine Same.drew ?_)))
  clear hW
  refine (markPersonS_own A c lo hi xs k W h (by first | omega | (simp; omega) | (simp; done) | (dsimp only; omega)) h0 (by omega)).mono ?_
  rintro e w1 ⟨rfl, o1, hc1⟩
  have hne : ∀ b, (Value.slice B ys.length d).ownBlock = some b → (Value.slice A xs.length c).ownBlock ≠ some b := fun b hb' => OSl.ne_type (flat_os.1 h') (flat_os.1 h) (by decide) hb'
  replace h' : EUnion.OS w1 lo hi (.slice B ys.length d) ys := flat_os.2 ((flat_os.1 h').loc fun b hb' => hc1.block b (by have := (h'.blkv b hb').2; omega) (hne b hb'))
  replace a1 : w1.cell? ⟨w.heap.size, 1, none⟩ = some (.slice B ys.length d) := (World.cell?_of_block (hc1.block w.heap.size (by omega) (fun e => by have := (h.blkv _ e).2; omega))).trans a1
  have hb1 := hb.trans (hc1.chg fun b hb' => h.blkv b hb')
  have z1 := hc1.size
  go_wp2_with fail
  refine (markUnionS_own B d lo hi ys (k + 6 * xs.length) w1 h' (by first | omega | (simp; omega) | (simp; done) | (dsimp only; omega)) k1 (by omega)).mono ?_
  rintro e w2 ⟨rfl, o2, hc2, hs2⟩
  have o1' : EPerson.OS w2 lo hi (.slice A xs.length c) (mkTo (markPerson k) xs.length) := by
    have hl := (flat_os.1 o1)
    refine flat_os.2 (hl.loc fun b hb' => hc2.block b (by have := (o1.blkv b hb').2; omega) (fun e => hne b e hb'))
  go_wp2_with fail
  go_ret
  exact ⟨rfl, o1', o2, hb1.trans (hc2.chg fun b hb' => h'.blkv b hb')⟩

end Go.Proofs.Ythpcippgifmabaa
