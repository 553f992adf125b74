/-
  The depths of persons whose parents stand before them.
-/
import Derived.Test.YtnanlbglgflecaaConvFam
namespace Go.Proofs.Ytnanlbglgflecaa
set_option maxRecDepth 100000
open Go.RowKit

theorem int_info : (Try.prog.info? 3).map (fun i => (i.zero, i.size, i.bytes)) = some (some (.int .i64 0), 1, 8) := by kernel_rfl
theorem tyIntS : SlTy EInt 88 8 := SlTy.mk' Try.underlying88 int_info rfl (by decide)
/-- A list that grows in a loop. -/
def AccRel {α : Type} (E : Elem α) (P : Nat → List α) (n : Nat) (W : World) (v i : Value) (wr : World) : Prop :=
  ∃ (k : Nat) (A : Option Addr) (c : Nat), k ≤ n ∧ i = .int .i64 k ∧ v = .slice A (P k).length c ∧ E.OS wr W.heap.size wr.heap.size (.slice A (P k).length c) (P k) ∧ Below W.heap.size W wr

def upTo (p : List Int) (q : Int) : Int := if 0 ≤ q then p.getD q.toNat 0 + 1 else 0
def depOf (x : Person) (p : List Int) : Int := max (upTo p x.father) (upTo p x.mother)
def depL (xs : List Person) : Nat → List Int
  | 0 => []
  | k + 1 => depL xs k ++ [depOf (xs.getD k ⟨⟨#[]⟩, 0, 0, 0, 0, 0⟩) (depL xs k)]
theorem depL_len (xs : List Person) : ∀ k, (depL xs k).length = k := by
  intro k
  induction k with
  | zero => rfl
  | succ k ih => simp [depL, ih]
theorem depL_succ {xs : List Person} {k : Nat} {x : Person} (h : xs[k]? = some x) : depL xs (k + 1) = depL xs k ++ [depOf x (depL xs k)] := by simp [depL, List.getD, h]
theorem depL_bound (xs : List Person) : ∀ (k i : Nat) (d : Int), (depL xs k)[i]? = some d → 0 ≤ d ∧ d ≤ k := by
  intro k
  induction k with
  | zero => intro i d h; simp [depL] at h
  | succ k ih =>
    intro i d h
    rw [depL] at h
    by_cases hi : i < k
    · rw [List.getElem?_append_left (by rw [depL_len]; exact hi)] at h
      have := ih i d h; omega
    · by_cases hik : i = k
      · subst hik
        rw [List.getElem?_append_right (by rw [depL_len]; exact Nat.le_refl _), depL_len] at h
        simp at h
        have hu : ∀ q, 0 ≤ upTo (depL xs i) q ∧ upTo (depL xs i) q ≤ i + 1 := by
          intro q
          unfold upTo
          split
          · rw [List.getD_eq_getElem?_getD]
            cases hq : (depL xs i)[q.toNat]? with
            | none => simp; omega
            | some y => have := ih _ _ hq; simp; omega
          · omega
        have h1 := hu (xs.getD i ⟨⟨#[]⟩, 0, 0, 0, 0, 0⟩).father
        have h2 := hu (xs.getD i ⟨⟨#[]⟩, 0, 0, 0, 0, 0⟩).mother
        have hd : d = depOf (xs.getD i ⟨⟨#[]⟩, 0, 0, 0, 0, 0⟩) (depL xs i) := by rw [← h]; simp [List.getD]
        rw [hd, depOf]
        omega
      · rw [List.getElem?_eq_none (by simp [depL_len]; omega)] at h; cases h
/-- All parents stand before. -/
def Before (xs : List Person) : Prop := ∀ (k : Nat) (x : Person), xs[k]? = some x → x.father < k ∧ x.mother < k
def RetIntS (w : World) (m : List Int) (e : Ending) (w' : World) : Prop :=
  ∃ (A : Option Addr) (c : Nat), e = .returned (.slice A m.length c) ∧ EInt.OS w' w.heap.size w'.heap.size (.slice A m.length c) m ∧ Below w.heap.size w w'

set_option maxHeartbeats 2000000 in
theorem l1Depths_any (A B : Option Addr) (c d lo hi : Nat) (xs : List Person) (ys : List Union) (w : World) (h : EPerson.AS w lo hi A xs) (hh : hi ≤ w.heap.size) (hn : xs.length ≤ 40) (hB : Before xs) :
    Calls Try.prog 197 #[.agg #[.slice A xs.length c, .slice B ys.length d]] w (RetIntS w (depL xs xs.length)) := by
  go_enter Try.func197, Try.ntmps197
  go_wp2
  generalize hW : (w.alloc (.cells #[.slice A xs.length c, .slice B ys.length d] 66)) = W
  have hb : Below w.heap.size w W := by subst hW; (with_reducible repeat' first | exact Below.refl _ _ | assumption | (refine Below.setCell ?_ (by first | omega | (simp; omega) | (simp; done) | (dsimp only; omega)) _) | (refine Below.alloc ?_ (by first | omega | (simp; omega) | (simp; done) | (dsimp only; omega)) _) | (refine below_drewN ?_ _) | (refine Below.drew ?_))
  have hW1 : W.heap.size = w.heap.size + 1 := by rw [← hW]; simp
  clear hW
  replace h := h.same (Same.of_below hb hh)
  have zW := hb.size
  go_loopw [3, 11] (fun v i wr => AccRel EInt (depL xs) xs.length W v i wr) (fun _ i _ => xs.length - (intOf i).toNat)
  case atStart =>
    rw [← hW1]
    exact ⟨0, _, _, Nat.zero_le _, rfl, rfl, Elem.OS.made0 _, by (with_reducible repeat' first | exact Below.refl _ _ | assumption | (refine Below.setCell ?_ (by first | omega | (simp; omega) | (simp; done) | (dsimp only; omega)) _) | (refine Below.alloc ?_ (by first | omega | (simp; omega) | (simp; done) | (dsimp only; omega)) _) | (refine below_drewN ?_ _) | (refine Below.drew ?_))⟩
  case round =>
    obtain ⟨k, A1, c1, hk, rfl, rfl, ho, hbk⟩ := hrel
    have hz := hbk.size
    have hl := Lib.hid (depL_len xs k)
    by_cases hlt : k < xs.length
    · obtain ⟨b, off, ⟨x0, x1, x2, x3, x4, x5⟩, rfl, g1, g2, _, hxk, hc0, hc1, hc2, hc3, hc4, hc5⟩ := APerson.at_ (h.same (Same.of_below hbk (by omega))) hlt
      obtain ⟨hf, hm⟩ := hB k _ hxk
      have HS := Lib.hid (depL_succ hxk); clear hxk
      simp only at hc0 hc1 hc2 hc3 hc4 hc5 hf hm
      have hread := ho.read.as
      have get : ∀ q : Int, 0 ≤ q → q < k → ∃ (b' off' : Nat) (e : Int), A1 = some ⟨b', off', none⟩ ∧ b' < wr.heap.size ∧ wr.cell? ⟨b', off' + q.toNat, none⟩ = some (.int .i64 e) ∧ 0 ≤ e ∧ e ≤ 40 ∧ upTo (depL xs k) q = e + 1 := by
        intro q q0 q1
        obtain ⟨q, rfl⟩ := Int.eq_ofNat_of_zero_le q0
        obtain ⟨b', off', e, rfl, _, k2, _, k3, k4⟩ := AInt.at_ (k := q) hread (by rw [hl.out]; omega)
        have hb' := depL_bound xs k q e k3
        refine ⟨b', off', e, rfl, k2, k4, hb'.1, by omega, ?_⟩
        rw [upTo, if_pos (by omega), List.getD_eq_getElem?_getD, Int.toNat_natCast, k3]; rfl
      have none_ : ∀ q : Int, q < 0 → upTo (depL xs k) q = 0 := fun q hq => by rw [upTo, if_neg (by omega)]
      have HN := Lib.hid none_; clear none_
      have HG := Lib.hid get; clear get hread
      have lb : b < wr.heap.size := by omega
      have HL := Lib.hid hl.out
      by_cases f0 : 0 ≤ x2
      · obtain ⟨b1, o1, e1, rfl, l1, m1, p1, p2, u1⟩ := HG.out x2 f0 hf
        have U1 := Lib.hid u1; clear u1
        obtain ⟨f, rfl⟩ := Int.eq_ofNat_of_zero_le f0
        rw [Int.toNat_natCast] at m1
        have hfl : (f : Int) < ((depL xs k).length : Int) := by rw [hl.out]; omega
        by_cases m0 : 0 ≤ x3
        · obtain ⟨b2, o2, e2, he, _, m2, p3, p4, u2⟩ := HG.out x3 m0 hm
          injection he with he; injection he with he1 he2 _; subst he1; subst he2
          have U2 := Lib.hid u2; clear u2
          obtain ⟨m, rfl⟩ := Int.eq_ofNat_of_zero_le m0
          rw [Int.toNat_natCast] at m2
          have hml : (m : Int) < ((depL xs k).length : Int) := by rw [hl.out]; omega
          have HD := Lib.hid (show depOf ⟨x0, x1, f, m, x4, x5⟩ (depL xs k) = max (e1 + 1) (e2 + 1) by rw [depOf, U1.out, U2.out])
          clear HG HN
          go_wp2_with (at_builtin; refine wpList_app1 tyIntS _ (depL xs k) _ [.int .i64 _] ⟨wr.heap.size + 1, 0, none⟩ 1 (lo := W.heap.size) (hi := wr.heap.size) (ho.same (by (with_reducible repeat' first | exact Same.refl _ _ _ | assumption | (refine Same.setCell ?_ (by first | omega | (simp; omega) | (simp; done) | (dsimp only; omega)) _) | (refine Same.alloc ?_ (by first | omega | (simp; omega) | (simp; done) | (dsimp only; omega)) _) | (refine Same.drewN ?_ _) | (refine Same.drew ?_)))) rfl (by (first | omega | (simp; omega) | (simp; done) | (dsimp only; omega))) hz rfl _ _ rfl rfl rfl rfl (cell_one_at _ _ _ _ (by simp)) (by first | rfl | (simp; done) | (simp; rfl)) (by simp only [HL.out]; omega) (by decide) (fun A' c' w1 ho1 hg1 hc1' hm1 => ?_))
          all_goals
            refine ⟨⟨k + 1, A', c', by omega, by go_num, by rw [HS.out]; simp, ?_, ?_⟩, by simp [intOf]; omega⟩
            · rw [HS.out, HD.out]
              have hmx : ∀ a b : Int, a = b → EInt.OS w1 W.heap.size w1.heap.size (.slice A' ((depL xs k).length + 1) c') (depL xs k ++ [b]) → EInt.OS w1 W.heap.size w1.heap.size (.slice A' (depL xs k ++ [a]).length c') (depL xs k ++ [a]) := fun a b e h => by subst e; simpa using h
              exact hmx _ _ (by omega) ho1
            · exact Below.grown (w := wr.alloc _ |>.alloc _) (by (with_reducible repeat' first | exact Below.refl _ _ | assumption | (refine Below.setCell ?_ (by first | omega | (simp; omega) | (simp; done) | (dsimp only; omega)) _) | (refine Below.alloc ?_ (by first | omega | (simp; omega) | (simp; done) | (dsimp only; omega)) _) | (refine below_drewN ?_ _) | (refine Below.drew ?_))) hg1 (by simp; omega) (fun k hk => (ho.blkv k hk).1)
        · have HD := Lib.hid (show depOf ⟨x0, x1, f, x3, x4, x5⟩ (depL xs k) = max (e1 + 1) 0 by rw [depOf, U1.out]; exact congrArg _ (HN.out x3 (by omega)))
          clear HG HN
          go_wp2_with (at_builtin; refine wpList_app1 tyIntS _ (depL xs k) _ [.int .i64 _] ⟨wr.heap.size + 1, 0, none⟩ 1 (lo := W.heap.size) (hi := wr.heap.size) (ho.same (by (with_reducible repeat' first | exact Same.refl _ _ _ | assumption | (refine Same.setCell ?_ (by first | omega | (simp; omega) | (simp; done) | (dsimp only; omega)) _) | (refine Same.alloc ?_ (by first | omega | (simp; omega) | (simp; done) | (dsimp only; omega)) _) | (refine Same.drewN ?_ _) | (refine Same.drew ?_)))) rfl (by (first | omega | (simp; omega) | (simp; done) | (dsimp only; omega))) hz rfl _ _ rfl rfl rfl rfl (cell_one_at _ _ _ _ (by simp)) (by first | rfl | (simp; done) | (simp; rfl)) (by simp only [HL.out]; omega) (by decide) (fun A' c' w1 ho1 hg1 hc1' hm1 => ?_))
          all_goals
            refine ⟨⟨k + 1, A', c', by omega, by go_num, by rw [HS.out]; simp, ?_, ?_⟩, by simp [intOf]; omega⟩
            · rw [HS.out, HD.out]
              have hmx : ∀ a b : Int, a = b → EInt.OS w1 W.heap.size w1.heap.size (.slice A' ((depL xs k).length + 1) c') (depL xs k ++ [b]) → EInt.OS w1 W.heap.size w1.heap.size (.slice A' (depL xs k ++ [a]).length c') (depL xs k ++ [a]) := fun a b e h => by subst e; simpa using h
              exact hmx _ _ (by omega) ho1
            · exact Below.grown (w := wr.alloc _ |>.alloc _) (by (with_reducible repeat' first | exact Below.refl _ _ | assumption | (refine Below.setCell ?_ (by first | omega | (simp; omega) | (simp; done) | (dsimp only; omega)) _) | (refine Below.alloc ?_ (by first | omega | (simp; omega) | (simp; done) | (dsimp only; omega)) _) | (refine below_drewN ?_ _) | (refine Below.drew ?_))) hg1 (by simp; omega) (fun k hk => (ho.blkv k hk).1)
      · by_cases m0 : 0 ≤ x3
        · obtain ⟨b1, o1, e2, rfl, l1, m2, p3, p4, u2⟩ := HG.out x3 m0 hm
          have U2 := Lib.hid u2; clear u2
          obtain ⟨m, rfl⟩ := Int.eq_ofNat_of_zero_le m0
          rw [Int.toNat_natCast] at m2
          have hml : (m : Int) < ((depL xs k).length : Int) := by rw [hl.out]; omega
          have HD := Lib.hid (show depOf ⟨x0, x1, x2, m, x4, x5⟩ (depL xs k) = max 0 (e2 + 1) by rw [depOf, U2.out]; exact congrArg (fun a => max a _) (HN.out x2 (by omega)))
          clear HG HN
          go_wp2_with (at_builtin; refine wpList_app1 tyIntS _ (depL xs k) _ [.int .i64 _] ⟨wr.heap.size + 1, 0, none⟩ 1 (lo := W.heap.size) (hi := wr.heap.size) (ho.same (by (with_reducible repeat' first | exact Same.refl _ _ _ | assumption | (refine Same.setCell ?_ (by first | omega | (simp; omega) | (simp; done) | (dsimp only; omega)) _) | (refine Same.alloc ?_ (by first | omega | (simp; omega) | (simp; done) | (dsimp only; omega)) _) | (refine Same.drewN ?_ _) | (refine Same.drew ?_)))) rfl (by (first | omega | (simp; omega) | (simp; done) | (dsimp only; omega))) hz rfl _ _ rfl rfl rfl rfl (cell_one_at _ _ _ _ (by simp)) (by first | rfl | (simp; done) | (simp; rfl)) (by simp only [HL.out]; omega) (by decide) (fun A' c' w1 ho1 hg1 hc1' hm1 => ?_))
          all_goals
            refine ⟨⟨k + 1, A', c', by omega, by go_num, by rw [HS.out]; simp, ?_, ?_⟩, by simp [intOf]; omega⟩
            · rw [HS.out, HD.out]
              have hmx : ∀ a b : Int, a = b → EInt.OS w1 W.heap.size w1.heap.size (.slice A' ((depL xs k).length + 1) c') (depL xs k ++ [b]) → EInt.OS w1 W.heap.size w1.heap.size (.slice A' (depL xs k ++ [a]).length c') (depL xs k ++ [a]) := fun a b e h => by subst e; simpa using h
              exact hmx _ _ (by omega) ho1
            · exact Below.grown (w := wr.alloc _ |>.alloc _) (by (with_reducible repeat' first | exact Below.refl _ _ | assumption | (refine Below.setCell ?_ (by first | omega | (simp; omega) | (simp; done) | (dsimp only; omega)) _) | (refine Below.alloc ?_ (by first | omega | (simp; omega) | (simp; done) | (dsimp only; omega)) _) | (refine below_drewN ?_ _) | (refine Below.drew ?_))) hg1 (by simp; omega) (fun k hk => (ho.blkv k hk).1)
        · have HD := Lib.hid (show depOf ⟨x0, x1, x2, x3, x4, x5⟩ (depL xs k) = max 0 0 by unfold depOf; exact congr (congrArg _ (HN.out x2 (by omega))) (HN.out x3 (by omega)))
          clear HG HN
          go_wp2_with (at_builtin; refine wpList_app1 tyIntS _ (depL xs k) _ [.int .i64 _] ⟨wr.heap.size + 1, 0, none⟩ 1 (lo := W.heap.size) (hi := wr.heap.size) (ho.same (by (with_reducible repeat' first | exact Same.refl _ _ _ | assumption | (refine Same.setCell ?_ (by first | omega | (simp; omega) | (simp; done) | (dsimp only; omega)) _) | (refine Same.alloc ?_ (by first | omega | (simp; omega) | (simp; done) | (dsimp only; omega)) _) | (refine Same.drewN ?_ _) | (refine Same.drew ?_)))) rfl (by (first | omega | (simp; omega) | (simp; done) | (dsimp only; omega))) hz rfl _ _ rfl rfl rfl rfl (cell_one_at _ _ _ _ (by simp)) (by first | rfl | (simp; done) | (simp; rfl)) (by simp only [HL.out]; omega) (by decide) (fun A' c' w1 ho1 hg1 hc1' hm1 => ?_))
          all_goals
            refine ⟨⟨k + 1, A', c', by omega, by go_num, by rw [HS.out]; simp, ?_, ?_⟩, by simp [intOf]; omega⟩
            · rw [HS.out, HD.out]
              have hmx : ∀ a b : Int, a = b → EInt.OS w1 W.heap.size w1.heap.size (.slice A' ((depL xs k).length + 1) c') (depL xs k ++ [b]) → EInt.OS w1 W.heap.size w1.heap.size (.slice A' (depL xs k ++ [a]).length c') (depL xs k ++ [a]) := fun a b e h => by subst e; simpa using h
              exact hmx _ _ (by omega) ho1
            · exact Below.grown (w := wr.alloc _ |>.alloc _) (by (with_reducible repeat' first | exact Below.refl _ _ | assumption | (refine Below.setCell ?_ (by first | omega | (simp; omega) | (simp; done) | (dsimp only; omega)) _) | (refine Below.alloc ?_ (by first | omega | (simp; omega) | (simp; done) | (dsimp only; omega)) _) | (refine below_drewN ?_ _) | (refine Below.drew ?_))) hg1 (by simp; omega) (fun k hk => (ho.blkv k hk).1)
    · obtain rfl : k = xs.length := by omega
      go_wp2
      go_ret
      exact ⟨_, _, rfl, ho.mono zW (Nat.le_refl _), by (with_reducible repeat' first | exact Below.refl _ _ | assumption | (refine Below.setCell ?_ (by first | omega | (simp; omega) | (simp; done) | (dsimp only; omega)) _) | (refine Below.alloc ?_ (by first | omega | (simp; omega) | (simp; done) | (dsimp only; omega)) _) | (refine below_drewN ?_ _) | (refine Below.drew ?_) | (refine Below.trans ?_ (hbk.mono (by first | omega | (simp; omega) | (simp; done) | (dsimp only; omega)))) | (refine Below.trans ?_ (hb.mono (by first | omega | (simp; omega) | (simp; done) | (dsimp only; omega)))))⟩
end Go.Proofs.Ytnanlbglgflecaa
