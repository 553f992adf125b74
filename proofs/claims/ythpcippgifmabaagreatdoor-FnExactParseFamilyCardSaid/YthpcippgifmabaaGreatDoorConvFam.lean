/-
  Families: sizes, copies, equality, marks.
-/
import Derived.Test.YthpcippgifmabaaGreatDoorConvPerson
import Derived.Test.YthpcippgifmabaaGreatDoorConvUnion
namespace Go.Proofs.YthpcippgifmabaaGreatDoor
set_option maxRecDepth 100000
open Go.RowKit

structure Family where
  people : List Person
  unions : List Union
  deriving DecidableEq

theorem own_narrow {w : World} {lo hi e sz n : Nat} {v : Value} {vs : List Value} (h : OSl w lo hi e sz v n vs) : (v = .slice none 0 0 ∧ n = 0) ∨ ∃ g, v.ownBlock = some g ∧ lo ≤ g ∧ g < hi ∧ OSl w g (g + 1) e sz v n vs := by
  obtain ⟨⟨hl, ho⟩, hh, hb⟩ := h
  rcases ho with ⟨h1, h2⟩ | ⟨g, cap, cur, rfl, hg, r⟩
  · exact .inl ⟨h1, h2⟩
  · exact .inr ⟨g, rfl, hg, hh g rfl, ⟨hl, .inr ⟨g, cap, cur, rfl, Nat.le_refl _, r⟩⟩, fun k hk => by simp [Value.ownBlock] at hk; omega, hb⟩
theorem Chg.only {w w' : World} {g : Nat} {v : Value} (h : Chg g (g + 1) w w') (hv : v.ownBlock = some g) : Only (fun b => v.ownBlock = some b) w w' :=
  ⟨h.os, h.tape, h.output, h.size, fun k hk hp => h.block k hk (by
    by_cases e : k = g
    · subst e; exact absurd hv hp
    · omega)⟩
theorem Chg.only0 {w w' : World} {p : Nat → Prop} (h : Chg 0 0 w w') : Only p w w' := ⟨h.os, h.tape, h.output, h.size, fun k hk _ => h.block k hk (.inr (Nat.zero_le _))⟩

theorem markPersonS_own (A : Option Addr) (c lo hi : Nat) (xs : List Person) (k : Int) (w : World) (h : EPerson.OS w lo hi (.slice A xs.length c) xs) (hh : hi ≤ w.heap.size) (h0 : 0 < k) (h1 : k + 6 * xs.length ≤ 4611686018427387904) :
    Calls Tryz.prog 19 #[.slice A xs.length c, .int .i64 k] w fun e w' => e = .returned (.int .i64 (k + 6 * xs.length)) ∧ EPerson.OS w' lo hi (.slice A xs.length c) (mkTo (markPerson k) xs.length) ∧
      Only (fun b => (Value.slice A xs.length c).ownBlock = some b) w w' := by
  rcases own_narrow (flat_os.1 h) with ⟨hv, hn⟩ | ⟨g, hv, g1, g2, hg⟩
  · have hx : xs = [] := List.eq_nil_of_length_eq_zero hn
    subst hx
    have hv' := hv
    injection hv with hA _ hc
    subst hA
    simp only [List.length_nil] at hv' ⊢
    rw [hv']
    refine (markPersonS_any none 0 0 0 [] k w Elem.OS.nil (Nat.zero_le _) h0 h1).mono ?_
    rintro e w' ⟨rfl, _, h3⟩
    exact ⟨rfl, Elem.OS.nil, h3.only0⟩
  · have hlt : g < w.heap.size := by omega
    refine (markPersonS_any A c g (g + 1) xs k w (flat_os.2 hg) hlt h0 h1).mono ?_
    rintro e w' ⟨rfl, h2, h3⟩
    exact ⟨rfl, h2.mono g1 g2, h3.only hv⟩

theorem eqFamily_any (A B A' B' : Option Addr) (c d c' d' lo hi lo' hi' : Nat) (xs : List Person) (ys : List Union) (xs' : List Person) (ys' : List Union) (w : World) (h : EPerson.AS w lo hi A xs) (h' : EUnion.AS w lo hi B ys) (h2 : EPerson.AS w lo' hi' A' xs') (h2' : EUnion.AS w lo' hi' B' ys') (hh : hi ≤ w.heap.size) (hh' : hi' ≤ w.heap.size) :
    Calls Tryz.prog 6 #[.agg #[.slice A xs.length c, .slice B ys.length d], .agg #[.slice A' xs'.length c', .slice B' ys'.length d']] w fun e w' => e = .returned (.bool (eqB (⟨xs, ys⟩ : Family) ⟨xs', ys'⟩)) ∧ Below w.heap.size w w' := by
  cases hp : eqB xs xs' <;> cases hu : eqB ys ys'
  all_goals
    have HP := Lib.hid hp; have HU := Lib.hid hu
    have HE := Lib.hid (show eqB (⟨xs, ys⟩ : Family) ⟨xs', ys'⟩ = (eqB xs xs' && eqB ys ys') by simp [eqB])
    clear hp hu
    go_enter Tryz.func6, Tryz.ntmps6
    go_wp2_with (first
      | (go_at_call 17; (with_reducible refine (eqPersonS_any A A' c c' lo hi lo' hi' xs xs' _ (h.same (by (with_reducible repeat' first | exact Same.refl _ _ _ | assumption | (refine Same.setCell ?_ (by first | omega | (simp; omega) | (simp; done) | (dsimp only; omega)) _) | (refine Same.alloc ?_ (by first | omega | (simp; omega) | (simp; done) | (dsimp only; omega)) _) | (refine Same.drewN ?_ _) | (refine Same.drew ?_)))) (h2.same (by (with_reducible repeat' first | exact Same.refl _ _ _ | assumption | (refine Same.setCell ?_ (by first | omega | (simp; omega) | (simp; done) | (dsimp only; omega)) _) | (refine Same.alloc ?_ (by first | omega | (simp; omega) | (simp; done) | (dsimp only; omega)) _) | (refine Same.drewN ?_ _) | (refine Same.drew ?_)))) (by first | omega | (simp; omega) | (simp; done) | (dsimp only; omega)) (by first | omega | (simp; omega) | (simp; done) | (dsimp only; omega))).mono ?_); rintro e w1 ⟨rfl, hb1⟩; simp only [HP.out]; (obtain ⟨hb1c, hb1f⟩ := bcell hb1); (have hb1z := hb1.size); (try simp only [szs] at hb1c hb1f hb1z); (have lt1 : w.heap.size + 1 < w1.heap.size := (by omega)))
      | (go_at_call 18; (with_reducible refine (eqUnionS_any B B' d d' lo hi lo' hi' ys ys' _ (h'.same (by (with_reducible repeat' first | exact Same.refl _ _ _ | assumption | (refine Same.setCell ?_ (by first | omega | (simp; omega) | (simp; done) | (dsimp only; omega)) _) | (refine Same.alloc ?_ (by first | omega | (simp; omega) | (simp; done) | (dsimp only; omega)) _) | (refine Same.drewN ?_ _) | (refine Same.drew ?_) | (refine Same.trans ?_ (Same.of_below hb1 (by first | omega | (simp; omega) | (simp; done) | (dsimp only; omega))))))) (h2'.same (by (with_reducible repeat' first | exact Same.refl _ _ _ | assumption | (refine Same.setCell ?_ (by first | omega | (simp; omega) | (simp; done) | (dsimp only; omega)) _) | (refine Same.alloc ?_ (by first | omega | (simp; omega) | (simp; done) | (dsimp only; omega)) _) | (refine Same.drewN ?_ _) | (refine Same.drew ?_) | (refine Same.trans ?_ (Same.of_below hb1 (by first | omega | (simp; omega) | (simp; done) | (dsimp only; omega))))))) (by first | omega | (simp; omega) | (simp; done) | (dsimp only; omega)) (by first | omega | (simp; omega) | (simp; done) | (dsimp only; omega))).mono ?_); rintro e w2 ⟨rfl, hb2⟩; simp only [HU.out]))
    go_ret
    first
      | exact ⟨ret_bool (by rw [HE.out, HP.out, HU.out]; rfl), by (with_reducible repeat' first | exact Below.refl _ _ | assumption | (refine Below.setCell ?_ (by first | omega | (simp; omega) | (simp; done) | (dsimp only; omega)) _) | (refine Below.alloc ?_ (by first | omega | (simp; omega) | (simp; done) | (dsimp only; omega)) _) | (refine below_drewN ?_ _) | (refine Below.drew ?_) | (refine Below.trans ?_ (hb2.mono (by first | omega | (simp; omega) | (simp; done) | (dsimp only; omega)))) | (refine Below.trans ?_ (hb1.mono (by first | omega | (simp; omega) | (simp; done) | (dsimp only; omega)))))⟩
      | exact ⟨ret_bool (by rw [HE.out, HP.out, HU.out]; rfl), by (with_reducible repeat' first | exact Below.refl _ _ | assumption | (refine Below.setCell ?_ (by first | omega | (simp; omega) | (simp; done) | (dsimp only; omega)) _) | (refine Below.alloc ?_ (by first | omega | (simp; omega) | (simp; done) | (dsimp only; omega)) _) | (refine below_drewN ?_ _) | (refine Below.drew ?_) | (refine Below.trans ?_ (hb1.mono (by first | omega | (simp; omega) | (simp; done) | (dsimp only; omega)))))⟩

theorem markFamily_any (A B : Option Addr) (c d lo hi : Nat) (xs : List Person) (ys : List Union) (k : Int) (w : World) (h : EPerson.OS w lo hi (.slice A xs.length c) xs) (h' : EUnion.OS w lo hi (.slice B ys.length d) ys) (hh : hi ≤ w.heap.size) (h0 : 0 < k) (h1 : k + 6 * xs.length + 4 * ys.length ≤ 4611686018427387904) :
    Calls Tryz.prog 7 #[.agg #[.slice A xs.length c, .slice B ys.length d], .int .i64 k] w fun e w' => e = .returned (.int .i64 (k + 6 * xs.length + 4 * ys.length)) ∧
      EPerson.OS w' lo hi (.slice A xs.length c) (mkTo (markPerson k) xs.length) ∧ EUnion.OS w' lo hi (.slice B ys.length d) (mkTo (markUnion (k + 6 * xs.length)) ys.length) ∧ Chg lo hi w w' := by
  have k1 : 0 ≤ k + 6 * (xs.length : Int) := by omega
  go_enter Tryz.func7, Tryz.ntmps7
  go_wp2_with fail
  generalize hW : w.alloc (.cells #[.slice A xs.length c, .slice B ys.length d] 25) = W
  have a1 : W.cell? ⟨w.heap.size, 1, none⟩ = some (.slice B ys.length d) := by subst hW; simp [go_sem]
  have hb : Chg lo hi w W := by subst hW; exact (Chg.refl _ _ _).alloc _
  have z : w.heap.size + 1 = W.heap.size := by subst hW; simp
  replace h : EPerson.OS W lo hi (.slice A xs.length c) xs := by subst hW; exact h.same (by (with_reducible repeat' first | exact Same.refl _ _ _ | assumption | (refine Same.setCell ?_ (by first | omega | (simp; omega) | (simp; done) | (dsimp only; omega)) _) | (refine Same.alloc ?_ (by first | omega | (simp; omega) | (simp; done) | (dsimp only; omega)) _) | (refine Same.drewN ?_ _) | (refine Same.drew ?_)))
  replace h' : EUnion.OS W lo hi (.slice B ys.length d) ys := by subst hW; exact h'.same (by (with_reducible repeat' first | exact Same.refl _ _ _ | assumption | (refine Same.setCell ?_ (by first | omega | (simp; omega) | (simp; done) | (dsimp only; omega)) _) | (refine Same.alloc ?_ (by first | omega | (simp; omega) | (simp; done) | (dsimp only; omega)) _) | (refine Same.drewN ?_ _) | (refine Same.drew ?_)))
  clear hW
  refine (markPersonS_own A c lo hi xs k W h (by first | omega | (simp; omega) | (simp; done) | (dsimp only; omega)) h0 (by omega)).mono ?_
  rintro e w1 ⟨rfl, o1, hc1⟩
  have hne : ∀ b, (Value.slice B ys.length d).ownBlock = some b → (Value.slice A xs.length c).ownBlock ≠ some b := fun b hb' => OSl.ne_type (flat_os.1 h') (flat_os.1 h) (by decide) hb'
  replace h' : EUnion.OS w1 lo hi (.slice B ys.length d) ys := flat_os.2 ((flat_os.1 h').loc fun b hb' => hc1.block b (by have := (h'.blkv b hb').2; omega) (hne b hb'))
  replace a1 : w1.cell? ⟨w.heap.size, 1, none⟩ = some (.slice B ys.length d) := (World.cell?_of_block (hc1.block w.heap.size (by omega) (fun e => by have := (h.blkv _ e).2; omega))).trans a1
  have hb1 := hb.trans (hc1.chg fun b hb' => h.blkv b hb')
  have z1 := hc1.size
  go_wp2_with fail
  refine (markUnionS_own B d lo hi ys (k + 6 * xs.length) w1 h' (by first | omega | (simp; omega) | (simp; done) | (dsimp only; omega)) k1 (by omega)).mono ?_
  rintro e w2 ⟨rfl, o2, hc2, hs2⟩
  have o1' : EPerson.OS w2 lo hi (.slice A xs.length c) (mkTo (markPerson k) xs.length) := by
    have hl := (flat_os.1 o1)
    refine flat_os.2 (hl.loc fun b hb' => hc2.block b (by have := (o1.blkv b hb').2; omega) (fun e => hne b e hb'))
  go_wp2_with fail
  go_ret
  exact ⟨rfl, o1', o2, hb1.trans (hc2.chg fun b hb' => h'.blkv b hb')⟩

theorem heldFamily_any (A B : Option Addr) (c d lo hi : Nat) (xs : List Person) (ys : List Union) (k : Int) (w : World) (h : EPerson.AS w lo hi A (mkTo (markPerson k) xs.length)) (h' : EUnion.AS w lo hi B (mkTo (markUnion (k + 6 * xs.length)) ys.length)) (hh : hi ≤ w.heap.size) (h0 : 0 < k) (h1 : k + 6 * xs.length + 4 * ys.length ≤ 4611686018427387904) :
    Calls Tryz.prog 8 #[.agg #[.slice A xs.length c, .slice B ys.length d], .int .i64 k] w fun e w' => e = .returned (.int .i64 (k + 6 * xs.length + 4 * ys.length)) ∧ Below w.heap.size w w' := by
  have k1 : 0 ≤ k + 6 * (xs.length : Int) := by omega
  go_enter Tryz.func8, Tryz.ntmps8
  go_wp2_with (first
    | (go_at_call 21; (with_reducible refine (heldPersonS_any A c lo hi xs k _ (h.same (by (with_reducible repeat' first | exact Same.refl _ _ _ | assumption | (refine Same.setCell ?_ (by first | omega | (simp; omega) | (simp; done) | (dsimp only; omega)) _) | (refine Same.alloc ?_ (by first | omega | (simp; omega) | (simp; done) | (dsimp only; omega)) _) | (refine Same.drewN ?_ _) | (refine Same.drew ?_)))) (by first | omega | (simp; omega) | (simp; done) | (dsimp only; omega)) h0 (by omega)).mono ?_); rintro e w1 ⟨rfl, hb1⟩; (obtain ⟨hb1c, hb1f⟩ := bcell hb1); (have hb1z := hb1.size); (try simp only [szs] at hb1c hb1f hb1z); (have lt1 : w.heap.size < w1.heap.size := (by omega)))
    | (go_at_call 22; (with_reducible refine (heldUnionS_any B d lo hi ys _ _ (h'.same (by (with_reducible repeat' first | exact Same.refl _ _ _ | assumption | (refine Same.setCell ?_ (by first | omega | (simp; omega) | (simp; done) | (dsimp only; omega)) _) | (refine Same.alloc ?_ (by first | omega | (simp; omega) | (simp; done) | (dsimp only; omega)) _) | (refine Same.drewN ?_ _) | (refine Same.drew ?_) | (refine Same.trans ?_ (Same.of_below hb1 (by first | omega | (simp; omega) | (simp; done) | (dsimp only; omega))))))) k1 (by omega)).mono ?_); rintro e w2 ⟨rfl, rfl⟩))
  go_ret
  exact ⟨rfl, by (with_reducible repeat' first | exact Below.refl _ _ | assumption | (refine Below.setCell ?_ (by first | omega | (simp; omega) | (simp; done) | (dsimp only; omega)) _) | (refine Below.alloc ?_ (by first | omega | (simp; omega) | (simp; done) | (dsimp only; omega)) _) | (refine below_drewN ?_ _) | (refine Below.drew ?_) | (refine Below.trans ?_ (hb1.mono (by first | omega | (simp; omega) | (simp; done) | (dsimp only; omega)))))⟩
end Go.Proofs.YthpcippgifmabaaGreatDoor
