/-
  Whether a parent of a person is right, in the program and in the reference.
  The depths of persons whose parents stand before them.
  What makes a family valid: models.
  What makes a family valid: the model.
  Models of what is asked of a family.
  Partners, parents, the end of a union: models.
-/
import Derived.Test.YthpcippgifmabaaConvFam
import Derived.Test.YthpcippgifmabaaGRel
import Derived.Test.YthpcippgifmabaaSmall
import Derived.Test.YthpcippgifmabaaUnions

/-! ## Parent -/
namespace Go.Proofs.Ythpcippgifmabaa
set_option maxRecDepth 100000
open Go.RowKit

def parentIs (x y : Person) (sex late : Int) : Bool := (x.sex == sex) && decide (x.born < y.born) && ((x.died == -1) || decide (y.born ≤ x.died + late))
def parentOk (xs : List Person) (k : Nat) (q sex late : Int) : Bool :=
  if q = -1 then true else if q < 0 ∨ (k : Int) ≤ q then false else match xs[q.toNat]?, xs[k]? with
    | some x, some y => parentIs x y sex late
    | _, _ => false
theorem parentOk_none (xs : List Person) (k : Nat) (sex late : Int) : parentOk xs k (-1) sex late = true := if_pos rfl
theorem parentOk_out {xs : List Person} {k : Nat} {q sex late : Int} (h : q ≠ -1) (h' : q < 0 ∨ (k : Int) ≤ q) : parentOk xs k q sex late = false := by rw [parentOk, if_neg h, if_pos h']
theorem parentOk_in {xs : List Person} {k q : Nat} {sex late : Int} {x y : Person} (h : q < k) (hx : xs[q]? = some x) (hy : xs[k]? = some y) : parentOk xs k q sex late = parentIs x y sex late := by
  rw [parentOk, if_neg (by omega), if_neg (by omega)]
  simp [hx, hy]

set_option maxHeartbeats 2000000 in
theorem parentFits_any (A : Option Addr) (c lo hi : Nat) (xs : List Person) (k : Nat) (q sex late : Int) (w : World) (h : EPerson.AS w lo hi A xs) (hh : hi ≤ w.heap.size) (hk : k < xs.length) (hl : 0 ≤ late ∧ late ≤ 1) (hd : ∀ (i : Nat) (x : Person), i < k → xs[i]? = some x → -1 ≤ x.died ∧ x.died ≤ 9999) :
    Calls Try.prog 74 #[.slice A xs.length c, .int .i64 k, .int .i64 q, .int .i64 sex, .int .i64 late] w fun e w' => e = .returned (.bool (parentOk xs k q sex late)) ∧ Below w.heap.size w w' := by
  have hx := h.le
  unfold BIG at hx
  by_cases q1 : q = -1
  · subst q1
    go_enter Try.func74, Try.ntmps74
    go_wp2
    go_ret
    exact ⟨ret_bool (parentOk_none _ _ _ _).symm, Below.refl _ _⟩
  · by_cases q2 : q < 0 ∨ (k : Int) ≤ q
    · have HP := Lib.hid (parentOk_out (xs := xs) (sex := sex) (late := late) q1 q2)
      have n1 : (q == -1) = false := by simp [q1]
      rcases q2 with q2 | q2
      all_goals
        go_enter Try.func74, Try.ntmps74
        go_wp2
        all_goals first
          | (go_ret; exact ⟨ret_bool HP.out.symm, Below.refl _ _⟩)
          | (exfalso; omega)
    · obtain ⟨q, rfl⟩ := Int.eq_ofNat_of_zero_le (by omega : 0 ≤ q)
      have hqk : q < k := by omega
      obtain ⟨b, off, ⟨x0, x1, x2, x3, x4, x5⟩, rfl, g1, g2, _, hxk, hc0, hc1, hc2, hc3, hc4, hc5⟩ := APerson.at_ (k := q) h (by omega)
      obtain ⟨b', off', ⟨y0, y1, y2, y3, y4, y5⟩, he, _, _, _, hyk, _, _, _, _, hd4, _⟩ := APerson.at_ h hk
      injection he with he
      injection he with he1 he2 _
      subst he1; subst he2
      have hdx := hd q _ hqk hxk
      simp only at hc0 hc1 hc2 hc3 hc4 hc5 hd4 hdx
      have HP := Lib.hid (parentOk_in (sex := sex) (late := late) hqk hxk hyk)
      clear hxk hyk hd
      have n1 : ((q : Int) == -1) = false := by first | (simp; done) | (simp; omega)
      have lb : b < w.heap.size := by omega
      have i1 : (0 : Int) ≤ (q : Int) ∧ (q : Int) < (xs.length : Int) := by omega
      have i2 : (0 : Int) ≤ (k : Int) ∧ (k : Int) < (xs.length : Int) := by omega
      cases s1 : (x1 == sex) <;> cases s2 : decide (x4 < y4) <;> cases s3 : (x5 == -1)
      all_goals
        have S1 := Lib.hid s1; have S2 := Lib.hid s2; have S3 := Lib.hid s3
        go_enter Try.func74, Try.ntmps74
        go_wp2
        go_quiet (fail)
        go_wp2
        go_ret
        exact ⟨ret_bool (by rw [HP.out, parentIs, S1.out, S2.out, S3.out]; simp), by (with_reducible repeat' first | exact Below.refl _ _ | assumption | (refine Below.setCell ?_ (by first | omega | (simp; omega) | (simp; done) | (dsimp only; omega)) _) | (refine Below.alloc ?_ (by first | omega | (simp; omega) | (simp; done) | (dsimp only; omega)) _) | (refine below_drewN ?_ _) | (refine Below.drew ?_))⟩

set_option maxHeartbeats 2000000 in
theorem l1Parent_any (A B : Option Addr) (c d lo hi : Nat) (xs : List Person) (ys : List Union) (k : Nat) (q sex late : Int) (w : World) (h : EPerson.AS w lo hi A xs) (hh : hi ≤ w.heap.size) (hk : k < xs.length) (hl : 0 ≤ late ∧ late ≤ 1) (hd : ∀ (i : Nat) (x : Person), i < k → xs[i]? = some x → -1 ≤ x.died ∧ x.died ≤ 9999) :
    Calls Try.prog 107 #[.agg #[.slice A xs.length c, .slice B ys.length d], .int .i64 k, .int .i64 q, .int .i64 sex, .int .i64 late] w fun e w' => e = .returned (.bool (parentOk xs k q sex late)) ∧ Below w.heap.size w w' := by
  have hx := h.le
  unfold BIG at hx
  by_cases q1 : q = -1
  · subst q1
    go_enter Try.func107, Try.ntmps107
    go_wp2
    go_ret
    exact ⟨ret_bool (parentOk_none _ _ _ _).symm, by (with_reducible repeat' first | exact Below.refl _ _ | assumption | (refine Below.setCell ?_ (by first | omega | (simp; omega) | (simp; done) | (dsimp only; omega)) _) | (refine Below.alloc ?_ (by first | omega | (simp; omega) | (simp; done) | (dsimp only; omega)) _) | (refine below_drewN ?_ _) | (refine Below.drew ?_))⟩
  · by_cases q2 : q < 0 ∨ (k : Int) ≤ q
    · have HP := Lib.hid (parentOk_out (xs := xs) (sex := sex) (late := late) q1 q2)
      have n1 : (q == -1) = false := by simp [q1]
      rcases q2 with q2 | q2
      all_goals
        go_enter Try.func107, Try.ntmps107
        go_wp2
        all_goals first
          | (go_ret; exact ⟨ret_bool HP.out.symm, by (with_reducible repeat' first | exact Below.refl _ _ | assumption | (refine Below.setCell ?_ (by first | omega | (simp; omega) | (simp; done) | (dsimp only; omega)) _) | (refine Below.alloc ?_ (by first | omega | (simp; omega) | (simp; done) | (dsimp only; omega)) _) | (refine below_drewN ?_ _) | (refine Below.drew ?_))⟩)
          | (exfalso; omega)
    · obtain ⟨q, rfl⟩ := Int.eq_ofNat_of_zero_le (by omega : 0 ≤ q)
      have hqk : q < k := by omega
      obtain ⟨b, off, ⟨x0, x1, x2, x3, x4, x5⟩, rfl, g1, g2, _, hxk, hc0, hc1, hc2, hc3, hc4, hc5⟩ := APerson.at_ (k := q) h (by omega)
      obtain ⟨b', off', ⟨y0, y1, y2, y3, y4, y5⟩, he, _, _, _, hyk, _, _, _, _, hd4, _⟩ := APerson.at_ h hk
      injection he with he
      injection he with he1 he2 _
      subst he1; subst he2
      have hdx := hd q _ hqk hxk
      simp only at hc0 hc1 hc2 hc3 hc4 hc5 hd4 hdx
      have HP := Lib.hid (parentOk_in (sex := sex) (late := late) hqk hxk hyk)
      clear hxk hyk hd
      have n1 : ((q : Int) == -1) = false := by first | (simp; done) | (simp; omega)
      have lb : b < w.heap.size := by omega
      have i1 : (0 : Int) ≤ (q : Int) ∧ (q : Int) < (xs.length : Int) := by omega
      have i2 : (0 : Int) ≤ (k : Int) ∧ (k : Int) < (xs.length : Int) := by omega
      cases s1 : (x1 == sex) <;> cases s2 : decide (x4 < y4) <;> cases s3 : (x5 == -1)
      all_goals
        have S1 := Lib.hid s1; have S2 := Lib.hid s2; have S3 := Lib.hid s3
        have s1' : (x1 != sex) = !(x1 == sex) := rfl
        rw [s1] at s1'
        go_enter Try.func107, Try.ntmps107
        go_wp2
        go_ret
        exact ⟨ret_bool (by rw [HP.out, parentIs, S1.out, S2.out, S3.out]; simp), by (with_reducible repeat' first | exact Below.refl _ _ | assumption | (refine Below.setCell ?_ (by first | omega | (simp; omega) | (simp; done) | (dsimp only; omega)) _) | (refine Below.alloc ?_ (by first | omega | (simp; omega) | (simp; done) | (dsimp only; omega)) _) | (refine below_drewN ?_ _) | (refine Below.drew ?_))⟩
end Go.Proofs.Ythpcippgifmabaa

/-! ## Depths -/
namespace Go.Proofs.Ythpcippgifmabaa
set_option maxRecDepth 100000
open Go.RowKit

/-- A list that grows in a loop. -/
def AccRel {α : Type} (E : Elem α) (P : Nat → List α) (n : Nat) (W : World) (v i : Value) (wr : World) : Prop :=
  ∃ (k : Nat) (A : Option Addr) (c : Nat), k ≤ n ∧ i = .int .i64 k ∧ v = .slice A (P k).length c ∧ E.OS wr W.heap.size wr.heap.size (.slice A (P k).length c) (P k) ∧ Below W.heap.size W wr

def upTo (p : List Int) (q : Int) : Int := if 0 ≤ q then p.getD q.toNat 0 + 1 else 0
def depOf (x : Person) (p : List Int) : Int := max (upTo p x.father) (upTo p x.mother)
def depL (xs : List Person) : Nat → List Int
  | 0 => []
  | k + 1 => depL xs k ++ [depOf (xs.getD k ⟨⟨#[]⟩, 0, 0, 0, 0, 0⟩) (depL xs k)]
theorem depL_len (xs : List Person) : ∀ k, (depL xs k).length = k := by
  intro k
  induction k with
  | zero => rfl
  | succ k ih => simp [depL, ih]
theorem depL_succ {xs : List Person} {k : Nat} {x : Person} (h : xs[k]? = some x) : depL xs (k + 1) = depL xs k ++ [depOf x (depL xs k)] := by simp [depL, List.getD, h]
theorem depL_bound (xs : List Person) : ∀ (k i : Nat) (d : Int), (depL xs k)[i]? = some d → 0 ≤ d ∧ d ≤ k := by
  intro k
  induction k with
  | zero => intro i d h; simp [depL] at h
  | succ k ih =>
    intro i d h
    rw [depL] at h
    by_cases hi : i < k
    · rw [List.getElem?_append_left (by rw [depL_len]; exact hi)] at h
      have := ih i d h; omega
    · by_cases hik : i = k
      · subst hik
        rw [List.getElem?_append_right (by rw [depL_len]; exact Nat.le_refl _), depL_len] at h
        simp at h
        have hu : ∀ q, 0 ≤ upTo (depL xs i) q ∧ upTo (depL xs i) q ≤ i + 1 := by
          intro q
          unfold upTo
          split
          · rw [List.getD_eq_getElem?_getD]
            cases hq : (depL xs i)[q.toNat]? with
            | none => simp; omega
            | some y => have := ih _ _ hq; simp; omega
          · omega
        have h1 := hu (xs.getD i ⟨⟨#[]⟩, 0, 0, 0, 0, 0⟩).father
        have h2 := hu (xs.getD i ⟨⟨#[]⟩, 0, 0, 0, 0, 0⟩).mother
        have hd : d = depOf (xs.getD i ⟨⟨#[]⟩, 0, 0, 0, 0, 0⟩) (depL xs i) := by rw [← h]; simp [List.getD]
        rw [hd, depOf]
        omega
      · rw [List.getElem?_eq_none (by simp [depL_len]; omega)] at h; cases h
/-- All parents stand before. -/
def Before (xs : List Person) : Prop := ∀ (k : Nat) (x : Person), xs[k]? = some x → x.father < k ∧ x.mother < k
def RetIntS (w : World) (m : List Int) (e : Ending) (w' : World) : Prop :=
  ∃ (A : Option Addr) (c : Nat), e = .returned (.slice A m.length c) ∧ EInt.OS w' w.heap.size w'.heap.size (.slice A m.length c) m ∧ Below w.heap.size w w'

set_option maxHeartbeats 2000000 in
theorem l1Depths_any (A B : Option Addr) (c d lo hi : Nat) (xs : List Person) (ys : List Union) (w : World) (h : EPerson.AS w lo hi A xs) (hh : hi ≤ w.heap.size) (hn : xs.length ≤ 40) (hB : Before xs) :
    Calls Try.prog 67 #[.agg #[.slice A xs.length c, .slice B ys.length d]] w (RetIntS w (depL xs xs.length)) := by
  go_enter Try.func67, Try.ntmps67
  go_wp2
  generalize hW : (w.alloc (.cells #[.slice A xs.length c, .slice B ys.length d] 26)) = W
  have hb : Below w.heap.size w W := by subst hW; (with_reducible repeat' first | exact Below.refl _ _ | assumption | (refine Below.setCell ?_ (by first | omega | (simp; omega) | (simp; done) | (dsimp only; omega)) _) | (refine Below.alloc ?_ (by first | omega | (simp; omega) | (simp; done) | (dsimp only; omega)) _) | (refine below_drewN ?_ _) | (refine Below.drew ?_))
  have hW1 : W.heap.size = w.heap.size + 1 := by rw [← hW]; simp
  clear hW
  replace h := h.same (Same.of_below hb hh)
  have zW := hb.size
  go_loopw [3, 11] (fun v i wr => AccRel EInt (depL xs) xs.length W v i wr) (fun _ i _ => xs.length - (intOf i).toNat)
  case atStart =>
    rw [← hW1]
    exact ⟨0, _, _, Nat.zero_le _, rfl, rfl, Elem.OS.made0 _, by (with_reducible repeat' first | exact Below.refl _ _ | assumption | (refine Below.setCell ?_ (by first | omega | (simp; omega) | (simp; done) | (dsimp only; omega)) _) | (refine Below.alloc ?_ (by first | omega | (simp; omega) | (simp; done) | (dsimp only; omega)) _) | (refine below_drewN ?_ _) | (refine Below.drew ?_))⟩
  case round =>
    obtain ⟨k, A1, c1, hk, rfl, rfl, ho, hbk⟩ := hrel
    have hz := hbk.size
    have hl := Lib.hid (depL_len xs k)
    by_cases hlt : k < xs.length
    · obtain ⟨b, off, ⟨x0, x1, x2, x3, x4, x5⟩, rfl, g1, g2, _, hxk, hc0, hc1, hc2, hc3, hc4, hc5⟩ := APerson.at_ (h.same (Same.of_below hbk (by omega))) hlt
      obtain ⟨hf, hm⟩ := hB k _ hxk
      have HS := Lib.hid (depL_succ hxk); clear hxk
      simp only at hc0 hc1 hc2 hc3 hc4 hc5 hf hm
      have hread := ho.read.as
      have get : ∀ q : Int, 0 ≤ q → q < k → ∃ (b' off' : Nat) (e : Int), A1 = some ⟨b', off', none⟩ ∧ b' < wr.heap.size ∧ wr.cell? ⟨b', off' + q.toNat, none⟩ = some (.int .i64 e) ∧ 0 ≤ e ∧ e ≤ 40 ∧ upTo (depL xs k) q = e + 1 := by
        intro q q0 q1
        obtain ⟨q, rfl⟩ := Int.eq_ofNat_of_zero_le q0
        obtain ⟨b', off', e, rfl, _, k2, _, k3, k4⟩ := AInt.at_ (k := q) hread (by rw [hl.out]; omega)
        have hb' := depL_bound xs k q e k3
        refine ⟨b', off', e, rfl, k2, k4, hb'.1, by omega, ?_⟩
        rw [upTo, if_pos (by omega), List.getD_eq_getElem?_getD, Int.toNat_natCast, k3]; rfl
      have none_ : ∀ q : Int, q < 0 → upTo (depL xs k) q = 0 := fun q hq => by rw [upTo, if_neg (by omega)]
      have HN := Lib.hid none_; clear none_
      have HG := Lib.hid get; clear get hread
      have lb : b < wr.heap.size := by omega
      have HL := Lib.hid hl.out
      by_cases f0 : 0 ≤ x2
      · obtain ⟨b1, o1, e1, rfl, l1, m1, p1, p2, u1⟩ := HG.out x2 f0 hf
        have U1 := Lib.hid u1; clear u1
        obtain ⟨f, rfl⟩ := Int.eq_ofNat_of_zero_le f0
        rw [Int.toNat_natCast] at m1
        have hfl : (f : Int) < ((depL xs k).length : Int) := by rw [hl.out]; omega
        by_cases m0 : 0 ≤ x3
        · obtain ⟨b2, o2, e2, he, _, m2, p3, p4, u2⟩ := HG.out x3 m0 hm
          injection he with he; injection he with he1 he2 _; subst he1; subst he2
          have U2 := Lib.hid u2; clear u2
          obtain ⟨m, rfl⟩ := Int.eq_ofNat_of_zero_le m0
          rw [Int.toNat_natCast] at m2
          have hml : (m : Int) < ((depL xs k).length : Int) := by rw [hl.out]; omega
          have HD := Lib.hid (show depOf ⟨x0, x1, f, m, x4, x5⟩ (depL xs k) = max (e1 + 1) (e2 + 1) by rw [depOf, U1.out, U2.out])
          clear HG HN
          go_wp2_with (at_builtin; refine wpList_app1 tyIntS _ (depL xs k) _ [.int .i64 _] ⟨wr.heap.size + 1, 0, none⟩ 1 (lo := W.heap.size) (hi := wr.heap.size) (ho.same (by (with_reducible repeat' first | exact Same.refl _ _ _ | assumption | (refine Same.setCell ?_ (by first | omega | (simp; omega) | (simp; done) | (dsimp only; omega)) _) | (refine Same.alloc ?_ (by first | omega | (simp; omega) | (simp; done) | (dsimp only; omega)) _) | (refine Same.drewN ?_ _) | (refine Same.drew ?_)))) rfl (by (first | omega | (simp; omega) | (simp; done) | (dsimp only; omega))) hz rfl _ _ rfl rfl rfl rfl (cell_one_at _ _ _ _ (by simp)) (by first | rfl | (simp; done) | (simp; rfl)) (by simp only [HL.out]; omega) (by decide) (fun A' c' w1 ho1 hg1 hc1' hm1 => ?_))
          all_goals
            refine ⟨⟨k + 1, A', c', by omega, by go_num, by rw [HS.out]; simp, ?_, ?_⟩, by simp [intOf]; omega⟩
            · rw [HS.out, HD.out]
              have hmx : ∀ a b : Int, a = b → EInt.OS w1 W.heap.size w1.heap.size (.slice A' ((depL xs k).length + 1) c') (depL xs k ++ [b]) → EInt.OS w1 W.heap.size w1.heap.size (.slice A' (depL xs k ++ [a]).length c') (depL xs k ++ [a]) := fun a b e h => by subst e; simpa using h
              exact hmx _ _ (by omega) ho1
            · exact Below.grown (w := wr.alloc _ |>.alloc _) (by (with_reducible repeat' first | exact Below.refl _ _ | assumption | (refine Below.setCell ?_ (by first | omega | (simp; omega) | (simp; done) | (dsimp only; omega)) _) | (refine Below.alloc ?_ (by first | omega | (simp; omega) | (simp; done) | (dsimp only; omega)) _) | (refine below_drewN ?_ _) | (refine Below.drew ?_))) hg1 (by simp; omega) (fun k hk => (ho.blkv k hk).1)
        · have HD := Lib.hid (show depOf ⟨x0, x1, f, x3, x4, x5⟩ (depL xs k) = max (e1 + 1) 0 by rw [depOf, U1.out]; exact congrArg _ (HN.out x3 (by omega)))
          clear HG HN
          go_wp2_with (at_builtin; refine wpList_app1 tyIntS _ (depL xs k) _ [.int .i64 _] ⟨wr.heap.size + 1, 0, none⟩ 1 (lo := W.heap.size) (hi := wr.heap.size) (ho.same (by (with_reducible repeat' first | exact Same.refl _ _ _ | assumption | (refine Same.setCell ?_ (by first | omega | (simp; omega) | (simp; done) | (dsimp only; omega)) _) | (refine Same.alloc ?_ (by first | omega | (simp; omega) | (simp; done) | (dsimp only; omega)) _) | (refine Same.drewN ?_ _) | (refine Same.drew ?_)))) rfl (by (first | omega | (simp; omega) | (simp; done) | (dsimp only; omega))) hz rfl _ _ rfl rfl rfl rfl (cell_one_at _ _ _ _ (by simp)) (by first | rfl | (simp; done) | (simp; rfl)) (by simp only [HL.out]; omega) (by decide) (fun A' c' w1 ho1 hg1 hc1' hm1 => ?_))
          all_goals
            refine ⟨⟨k + 1, A', c', by omega, by go_num, by rw [HS.out]; simp, ?_, ?_⟩, by simp [intOf]; omega⟩
            · rw [HS.out, HD.out]
              have hmx : ∀ a b : Int, a = b → EInt.OS w1 W.heap.size w1.heap.size (.slice A' ((depL xs k).length + 1) c') (depL xs k ++ [b]) → EInt.OS w1 W.heap.size w1.heap.size (.slice A' (depL xs k ++ [a]).length c') (depL xs k ++ [a]) := fun a b e h => by subst e; simpa using h
              exact hmx _ _ (by omega) ho1
            · exact Below.grown (w := wr.alloc _ |>.alloc _) (by (with_reducible repeat' first | exact Below.refl _ _ | assumption | (refine Below.setCell ?_ (by first | omega | (simp; omega) | (simp; done) | (dsimp only; omega)) _) | (refine Below.alloc ?_ (by first | omega | (simp; omega) | (simp; done) | (dsimp only; omega)) _) | (refine below_drewN ?_ _) | (refine Below.drew ?_))) hg1 (by simp; omega) (fun k hk => (ho.blkv k hk).1)
      · by_cases m0 : 0 ≤ x3
        · obtain ⟨b1, o1, e2, rfl, l1, m2, p3, p4, u2⟩ := HG.out x3 m0 hm
          have U2 := Lib.hid u2; clear u2
          obtain ⟨m, rfl⟩ := Int.eq_ofNat_of_zero_le m0
          rw [Int.toNat_natCast] at m2
          have hml : (m : Int) < ((depL xs k).length : Int) := by rw [hl.out]; omega
          have HD := Lib.hid (show depOf ⟨x0, x1, x2, m, x4, x5⟩ (depL xs k) = max 0 (e2 + 1) by rw [depOf, U2.out]; exact congrArg (fun a => max a _) (HN.out x2 (by omega)))
          clear HG HN
          go_wp2_with (at_builtin; refine wpList_app1 tyIntS _ (depL xs k) _ [.int .i64 _] ⟨wr.heap.size + 1, 0, none⟩ 1 (lo := W.heap.size) (hi := wr.heap.size) (ho.same (by (with_reducible repeat' first | exact Same.refl _ _ _ | assumption | (refine Same.setCell ?_ (by first | omega | (simp; omega) | (simp; done) | (dsimp only; omega)) _) | (refine Same.alloc ?_ (by first | omega | (simp; omega) | (simp; done) | (dsimp only; omega)) _) | (refine Same.drewN ?_ _) | (refine Same.drew ?_)))) rfl (by (first | omega | (simp; omega) | (simp; done) | (dsimp only; omega))) hz rfl _ _ rfl rfl rfl rfl (cell_one_at _ _ _ _ (by simp)) (by first | rfl | (simp; done) | (simp; rfl)) (by simp only [HL.out]; omega) (by decide) (fun A' c' w1 ho1 hg1 hc1' hm1 => ?_))
          all_goals
            refine ⟨⟨k + 1, A', c', by omega, by go_num, by rw [HS.out]; simp, ?_, ?_⟩, by simp [intOf]; omega⟩
            · rw [HS.out, HD.out]
              have hmx : ∀ a b : Int, a = b → EInt.OS w1 W.heap.size w1.heap.size (.slice A' ((depL xs k).length + 1) c') (depL xs k ++ [b]) → EInt.OS w1 W.heap.size w1.heap.size (.slice A' (depL xs k ++ [a]).length c') (depL xs k ++ [a]) := fun a b e h => by subst e; simpa using h
              exact hmx _ _ (by omega) ho1
            · exact Below.grown (w := wr.alloc _ |>.alloc _) (by (with_reducible repeat' first | exact Below.refl _ _ | assumption | (refine Below.setCell ?_ (by first | omega | (simp; omega) | (simp; done) | (dsimp only; omega)) _) | (refine Below.alloc ?_ (by first | omega | (simp; omega) | (simp; done) | (dsimp only; omega)) _) | (refine below_drewN ?_ _) | (refine Below.drew ?_))) hg1 (by simp; omega) (fun k hk => (ho.blkv k hk).1)
        · have HD := Lib.hid (show depOf ⟨x0, x1, x2, x3, x4, x5⟩ (depL xs k) = max 0 0 by unfold depOf; exact congr (congrArg _ (HN.out x2 (by omega))) (HN.out x3 (by omega)))
          clear HG HN
          go_wp2_with (at_builtin; refine wpList_app1 tyIntS _ (depL xs k) _ [.int .i64 _] ⟨wr.heap.size + 1, 0, none⟩ 1 (lo := W.heap.size) (hi := wr.heap.size) (ho.same (by (with_reducible repeat' first | exact Same.refl _ _ _ | assumption | (refine Same.setCell ?_ (by first | omega | (simp; omega) | (simp; done) | (dsimp only; omega)) _) | (refine Same.alloc ?_ (by first | omega | (simp; omega) | (simp; done) | (dsimp only; omega)) _) | (refine Same.drewN ?_ _) | (refine Same.drew ?_)))) rfl (by (first | omega | (simp; omega) | (simp; done) | (dsimp only; omega))) hz rfl _ _ rfl rfl rfl rfl (cell_one_at _ _ _ _ (by simp)) (by first | rfl | (simp; done) | (simp; rfl)) (by simp only [HL.out]; omega) (by decide) (fun A' c' w1 ho1 hg1 hc1' hm1 => ?_))
          all_goals
            refine ⟨⟨k + 1, A', c', by omega, by go_num, by rw [HS.out]; simp, ?_, ?_⟩, by simp [intOf]; omega⟩
            · rw [HS.out, HD.out]
              have hmx : ∀ a b : Int, a = b → EInt.OS w1 W.heap.size w1.heap.size (.slice A' ((depL xs k).length + 1) c') (depL xs k ++ [b]) → EInt.OS w1 W.heap.size w1.heap.size (.slice A' (depL xs k ++ [a]).length c') (depL xs k ++ [a]) := fun a b e h => by subst e; simpa using h
              exact hmx _ _ (by omega) ho1
            · exact Below.grown (w := wr.alloc _ |>.alloc _) (by (with_reducible repeat' first | exact Below.refl _ _ | assumption | (refine Below.setCell ?_ (by first | omega | (simp; omega) | (simp; done) | (dsimp only; omega)) _) | (refine Below.alloc ?_ (by first | omega | (simp; omega) | (simp; done) | (dsimp only; omega)) _) | (refine below_drewN ?_ _) | (refine Below.drew ?_))) hg1 (by simp; omega) (fun k hk => (ho.blkv k hk).1)
    · obtain rfl : k = xs.length := by omega
      go_wp2
      go_ret
      exact ⟨_, _, rfl, ho.mono zW (Nat.le_refl _), by (with_reducible repeat' first | exact Below.refl _ _ | assumption | (refine Below.setCell ?_ (by first | omega | (simp; omega) | (simp; done) | (dsimp only; omega)) _) | (refine Below.alloc ?_ (by first | omega | (simp; omega) | (simp; done) | (dsimp only; omega)) _) | (refine below_drewN ?_ _) | (refine Below.drew ?_) | (refine Below.trans ?_ (hbk.mono (by first | omega | (simp; omega) | (simp; done) | (dsimp only; omega)))) | (refine Below.trans ?_ (hb.mono (by first | omega | (simp; omega) | (simp; done) | (dsimp only; omega)))))⟩
end Go.Proofs.Ythpcippgifmabaa

/-! ## People -/
namespace Go.Proofs.Ythpcippgifmabaa
set_option maxRecDepth 100000
open Go.RowKit

def aliveOk (x : Person) : Bool := decide ((x.sex = 1 ∨ x.sex = 2) ∧ 0 ≤ x.born ∧ x.born ≤ 9999 ∧ (x.died = -1 ∨ x.born ≤ x.died ∧ x.died ≤ 9999))
def newName (xs : List Person) (k : Nat) (s : ByteArray) : Bool := (xs.take k).all fun y => !(eqB y.name s)
def personOf (xs : List Person) (k : Nat) (x : Person) : Bool := nameOk x.name && aliveOk x && newName xs k x.name && parentOk xs k x.father 1 1 && parentOk xs k x.mother 2 0
def personOk (xs : List Person) (k : Nat) : Bool := match xs[k]? with
  | none => false
  | some x => personOf xs k x
theorem personOk_of {xs : List Person} {k : Nat} {x : Person} (h : xs[k]? = some x) : personOk xs k = personOf xs k x := by rw [personOk, h]
def peopleOk (xs : List Person) (k : Nat) : Bool := (List.range k).all (personOk xs)
theorem peopleOk_zero (xs : List Person) : peopleOk xs 0 = true := rfl
theorem peopleOk_succ (xs : List Person) (k : Nat) : peopleOk xs (k + 1) = (peopleOk xs k && personOk xs k) := by simp [peopleOk, List.range_succ]
theorem peopleOk_get {xs : List Person} {k i : Nat} (h : peopleOk xs k = true) (hi : i < k) : personOk xs i = true := by
  rw [peopleOk, List.all_eq_true] at h
  exact h i (List.mem_range.2 hi)
theorem peopleOk_bad {xs : List Person} {k n : Nat} (h : personOk xs k = false) (hk : k < n) : peopleOk xs n = false := by
  rw [Bool.eq_false_iff]; intro h'
  have := peopleOk_get h' hk
  rw [h] at this; cases this
theorem personOf_parts {xs : List Person} {k : Nat} {x : Person} (h : personOf xs k x = true) : nameOk x.name = true ∧ aliveOk x = true ∧ newName xs k x.name = true ∧ parentOk xs k x.father 1 1 = true ∧ parentOk xs k x.mother 2 0 = true := by
  simp only [personOf, Bool.and_eq_true] at h
  exact ⟨h.1.1.1.1, h.1.1.1.2, h.1.1.2, h.1.2, h.2⟩
theorem aliveOk_parts {x : Person} (h : aliveOk x = true) : (x.sex = 1 ∨ x.sex = 2) ∧ 0 ≤ x.born ∧ x.born ≤ 9999 ∧ (x.died = -1 ∨ x.born ≤ x.died ∧ x.died ≤ 9999) := by simpa [aliveOk] using h
theorem peopleOk_died {xs : List Person} {k : Nat} (h : peopleOk xs k = true) : ∀ (i : Nat) (x : Person), i < k → xs[i]? = some x → -1 ≤ x.died ∧ x.died ≤ 9999 := by
  intro i x hi hx
  have h1 := peopleOk_get h hi
  rw [personOk_of hx] at h1
  have := aliveOk_parts (personOf_parts h1).2.1
  omega
theorem parentOk_lt {xs : List Person} {k : Nat} {q sex late : Int} (h : parentOk xs k q sex late = true) : q < k := by
  by_cases h1 : q = -1
  · omega
  · by_cases h2 : q < 0 ∨ (k : Int) ≤ q
    · rw [parentOk_out h1 h2] at h; cases h
    · omega
theorem peopleOk_before {xs : List Person} (h : peopleOk xs xs.length = true) : Before xs := by
  intro k x hx
  have h1 := peopleOk_get h (List.getElem?_eq_some_iff.1 hx).1
  rw [personOk_of hx] at h1
  obtain ⟨_, _, _, h2, h3⟩ := personOf_parts h1
  exact ⟨parentOk_lt h2, parentOk_lt h3⟩
theorem newName_zero (xs : List Person) (s : ByteArray) : newName xs 0 s = true := rfl
theorem newName_succ {xs : List Person} {k : Nat} {y : Person} (h : xs[k]? = some y) (s : ByteArray) : newName xs (k + 1) s = (newName xs k s && !(eqB y.name s)) := by
  simp only [newName]
  rw [List.take_add_one, h, List.all_append]; simp
theorem newName_old {xs : List Person} {k i : Nat} {y : Person} {s : ByteArray} (h : xs[i]? = some y) (hi : i < k) (hs : y.name = s) : newName xs k s = false := by
  rw [newName, List.all_eq_false]
  exact ⟨y, List.mem_of_getElem? (i := i) (by rw [List.getElem?_take, if_pos hi, h]), by simp [eqB, hs]⟩
/-- No line of the family is too deep. -/
def flatOk (ds : List Int) (k : Nat) : Bool := (ds.take k).all fun d => decide (d ≤ 10)
theorem flatOk_succ {ds : List Int} {k : Nat} {d : Int} (h : ds[k]? = some d) : flatOk ds (k + 1) = (flatOk ds k && decide (d ≤ 10)) := by
  simp only [flatOk]
  rw [List.take_add_one, h, List.all_append]; simp
theorem flatOk_bad {ds : List Int} {k n : Nat} {d : Int} (h : ds[k]? = some d) (hk : k < n) (hd : 10 < d) : flatOk ds n = false := by
  rw [flatOk, List.all_eq_false]
  exact ⟨d, List.mem_of_getElem? (i := k) (by rw [List.getElem?_take, if_pos hk, h]), by simp; omega⟩
end Go.Proofs.Ythpcippgifmabaa

/-! ## FamOk -/
namespace Go.Proofs.Ythpcippgifmabaa
set_option maxRecDepth 100000
open Go.RowKit

def unionsOk (xs : List Person) (ys : List Union) (k : Nat) : Bool := (List.range k).all (unionOk xs ys)
theorem unionsOk_succ (xs : List Person) (ys : List Union) (k : Nat) : unionsOk xs ys (k + 1) = (unionsOk xs ys k && unionOk xs ys k) := by simp [unionsOk, List.range_succ]
theorem unionsOk_bad {xs : List Person} {ys : List Union} {k n : Nat} (h : unionOk xs ys k = false) (hk : k < n) : unionsOk xs ys n = false := by
  rw [unionsOk, List.all_eq_false]
  exact ⟨k, List.mem_range.2 hk, by rw [h]; simp⟩
def famOk (xs : List Person) (ys : List Union) : Bool := decide (xs.length ≤ 40 ∧ ys.length ≤ 60) && peopleOk xs xs.length && flatOk (depL xs xs.length) xs.length && unionsOk xs ys ys.length
theorem famOk_len {xs : List Person} {ys : List Union} (h : ¬ (xs.length ≤ 40 ∧ ys.length ≤ 60)) : famOk xs ys = false := by rw [famOk, decide_eq_false h]; rfl
theorem famOk_in {xs : List Person} {ys : List Union} (h : xs.length ≤ 40 ∧ ys.length ≤ 60) : famOk xs ys = (peopleOk xs xs.length && flatOk (depL xs xs.length) xs.length && unionsOk xs ys ys.length) := by rw [famOk, decide_eq_true h]; rfl
theorem totP_mem {xs : List Person} (h : totP xs ≤ 1048576) : ∀ x ∈ xs, x.name.size ≤ 1048576 := by
  induction xs with
  | nil => intro x hx; cases hx
  | cons y r ih =>
    intro x hx
    simp only [totP] at h
    rcases List.mem_cons.1 hx with rfl | hx
    · omega
    · exact ih (by omega) x hx
theorem OS_cap {α : Type} {E : Elem α} {w : World} {lo hi n c : Nat} {A : Option Addr} {xs : List α} (h : E.OS w lo hi (.slice A n c) xs) : n ≤ c ∧ c ≤ maxLen := by
  obtain ⟨A', c', he, h1, h2, _⟩ := h.read
  injection he with e1 e2 e3
  subst e1; subst e3
  exact ⟨by omega, h2⟩
/-- A loop that asks one after the other. -/
def AskRel (P : Nat → Bool) (n : Nat) (w : World) (i : Value) (wr : World) : Prop :=
  ∃ k : Nat, k ≤ n ∧ i = .int .i64 k ∧ Below w.heap.size w wr ∧ P k = true

end Go.Proofs.Ythpcippgifmabaa

/-! ## Has -/
namespace Go.Proofs.Ythpcippgifmabaa
set_option maxRecDepth 100000
open Go.RowKit

def inP (xs : List Person) (p : Int) : Bool := decide (0 ≤ p ∧ p < (xs.length : Int))
def hasOk (xs : List Person) (ys : List Union) (p : Int) : Bool := inP xs p && famOk xs ys
theorem inP_iff {xs : List Person} {p : Int} : inP xs p = true ↔ 0 ≤ p ∧ p < (xs.length : Int) := by simp [inP]
theorem hasOk_fam {xs : List Person} {ys : List Union} {p : Int} (h : hasOk xs ys p = true) : famOk xs ys = true ∧ 0 ≤ p ∧ p < (xs.length : Int) := by
  simp only [hasOk, Bool.and_eq_true] at h
  exact ⟨h.2, inP_iff.1 h.1⟩
theorem famOk_parts {xs : List Person} {ys : List Union} (h : famOk xs ys = true) : xs.length ≤ 40 ∧ ys.length ≤ 60 ∧ peopleOk xs xs.length = true ∧ unionsOk xs ys ys.length = true := by
  simp only [famOk, Bool.and_eq_true, decide_eq_true_eq] at h
  exact ⟨h.1.1.1.1, h.1.1.1.2, h.1.1.2, h.2⟩
def aliveM (x : Person) (y : Int) : Bool := decide (x.born ≤ y) && (decide (x.died = -1) || decide (y < x.died))
def aliveAt (xs : List Person) (p : Nat) (y : Int) : Bool := match xs[p]? with
  | some x => aliveM x y
  | none => false
theorem aliveAt_of {xs : List Person} {p : Nat} {x : Person} {y : Int} (h : xs[p]? = some x) : aliveAt xs p y = aliveM x y := by rw [aliveAt, h]
def isAliveM (xs : List Person) (ys : List Union) (p y : Int) : Bool := hasOk xs ys p && aliveAt xs p.toNat y
def elderAt (xs : List Person) (a b : Nat) : Bool := match xs[a]?, xs[b]? with
  | some x, some y => decide (x.born < y.born) || (decide (x.born = y.born) && decide (a < b))
  | _, _ => false
theorem elderAt_of {xs : List Person} {a b : Nat} {x y : Person} (h : xs[a]? = some x) (h' : xs[b]? = some y) : elderAt xs a b = (decide (x.born < y.born) || (decide (x.born = y.born) && decide (a < b))) := by rw [elderAt, h, h']
def isElderM (xs : List Person) (ys : List Union) (a b : Int) : Bool := hasOk xs ys a && hasOk xs ys b && elderAt xs a.toNat b.toNat
def depthM (xs : List Person) (ys : List Union) (p : Int) : Int := if hasOk xs ys p = true then (depL xs xs.length).getD p.toNat 0 else 0
/-- The first person of a name, from the k-th on. -/
def findFrom (s : ByteArray) : List Person → Nat → Int × Bool
  | [], _ => (0, false)
  | x :: r, k => if x.name = s then ((k : Int), true) else findFrom s r (k + 1)
theorem findFrom_hit {s : ByteArray} {x : Person} {xs r : List Person} {k : Nat} (h : xs.drop k = x :: r) (hx : x.name = s) : findFrom s (xs.drop k) k = ((k : Int), true) := by rw [h, findFrom, if_pos hx]
theorem findFrom_miss {s : ByteArray} {x : Person} {xs : List Person} {k : Nat} (h : xs.drop k = x :: xs.drop (k + 1)) (hx : x.name ≠ s) : findFrom s (xs.drop k) k = findFrom s (xs.drop (k + 1)) (k + 1) := by rw [h, findFrom, if_neg hx]
theorem findFrom_end {s : ByteArray} {xs : List Person} {k : Nat} (h : xs.length ≤ k) : findFrom s (xs.drop k) k = (0, false) := by rw [List.drop_eq_nil_of_le h]; rfl
def RetIntB (w : World) (m : Int × Bool) (e : Ending) (w' : World) : Prop := e = .returned (.tuple #[.int .i64 m.1, .bool m.2]) ∧ Below w.heap.size w w'
def FindRel (s : ByteArray) (xs : List Person) (w : World) (i : Value) (wr : World) : Prop :=
  ∃ k : Nat, k ≤ xs.length ∧ i = .int .i64 k ∧ Below w.heap.size w wr ∧ findFrom s xs 0 = findFrom s (xs.drop k) k
@[irreducible] def findM (xs : List Person) (ys : List Union) (s : ByteArray) : Int × Bool := if famOk xs ys = true then findFrom s xs 0 else (0, false)
end Go.Proofs.Ythpcippgifmabaa

/-! ## Kin -/
namespace Go.Proofs.Ythpcippgifmabaa
set_option maxRecDepth 100000
open Go.RowKit

def parentsL (x : Person) : List Int := (if 0 ≤ x.father then [x.father] else []) ++ (if 0 ≤ x.mother then [x.mother] else [])
def parentsAt (xs : List Person) (p : Nat) : List Int := match xs[p]? with
  | some x => parentsL x
  | none => []
theorem parentsAt_of {xs : List Person} {p : Nat} {x : Person} (h : xs[p]? = some x) : parentsAt xs p = parentsL x := by rw [parentsAt, h]
def parentsM (xs : List Person) (ys : List Union) (p : Int) : List Int := if hasOk xs ys p = true then parentsAt xs p.toNat else []
def otherM (u : Union) (p : Int) : Option Int := if u.man = p then some u.woman else if u.woman = p then some u.man else none
def otherS (u : Union) (p : Int) : Int × Bool := if u.man = p then (u.woman, true) else (u.man, decide (u.woman = p))
def otherI (u : Union) (p : Int) : Int := if u.man = p then u.woman else if u.woman = p then u.man else -1
def partL (ys : List Union) (p : Int) (k : Nat) : List Int := (ys.take k).filterMap fun u => otherM u p
theorem partL_succ {ys : List Union} {p : Int} {k : Nat} {u : Union} (h : ys[k]? = some u) : partL ys p (k + 1) = partL ys p k ++ (otherM u p).toList := by
  simp only [partL]
  rw [List.take_add_one, h, List.filterMap_append]
  cases ho : otherM u p <;> simp [ho]
theorem partL_len (ys : List Union) (p : Int) (k : Nat) : (partL ys p k).length ≤ k := by
  refine Nat.le_trans (List.length_filterMap_le _ _) ?_
  simp only [List.length_take]; omega
def partnersM (xs : List Person) (ys : List Union) (p : Int) : List Int := if hasOk xs ys p = true then partL ys p ys.length else []
def endM (a b : Person) (u : Union) : Int × Bool :=
  if u.till ≠ -1 then (u.till, true) else if a.died = -1 then (if b.died = -1 then (0, false) else (b.died, true)) else if b.died = -1 then (a.died, true) else (min a.died b.died, true)
def endAt (xs : List Person) (u : Union) : Int × Bool := match xs[u.man.toNat]?, xs[u.woman.toNat]? with
  | some a, some b => endM a b u
  | _, _ => (0, false)
theorem endAt_of {xs : List Person} {u : Union} {m f : Nat} {a b : Person} (hm : u.man = m) (hf : u.woman = f) (h : xs[m]? = some a) (h' : xs[f]? = some b) : endAt xs u = endM a b u := by
  rw [endAt, hm, hf, Int.toNat_natCast, Int.toNat_natCast, h, h']
def unionEndM (xs : List Person) (ys : List Union) (k : Int) : Int × Bool := if 0 ≤ k ∧ k < ys.length ∧ famOk xs ys = true then (match ys[k.toNat]? with
  | some u => endAt xs u
  | none => (0, false)) else (0, false)
def marOf (xs : List Person) (p y : Int) (u : Union) : Option Int := if u.since ≤ y ∧ ((endAt xs u).2 = false ∨ y < (endAt xs u).1) then otherM u p else none
def marL (xs : List Person) (ys : List Union) (p y : Int) (k : Nat) : List Int := (ys.take k).filterMap (marOf xs p y)
theorem marL_succ {xs : List Person} {ys : List Union} {p y : Int} {k : Nat} {u : Union} (h : ys[k]? = some u) : marL xs ys p y (k + 1) = marL xs ys p y k ++ (marOf xs p y u).toList := by
  simp only [marL]
  rw [List.take_add_one, h, List.filterMap_append]
  cases ho : marOf xs p y u <;> simp [ho]
theorem marL_len (xs : List Person) (ys : List Union) (p y : Int) (k : Nat) : (marL xs ys p y k).length ≤ k := by
  refine Nat.le_trans (List.length_filterMap_le _ _) ?_
  simp only [List.length_take]; omega
def marriedM (xs : List Person) (ys : List Union) (p y : Int) : List Int := if hasOk xs ys p = true then marL xs ys p y ys.length else []
theorem parentsL_len (x : Person) : (parentsL x).length ≤ 2 := by
  unfold parentsL
  split <;> split <;> simp
theorem parentsM_len (xs : List Person) (ys : List Union) (p : Int) : (parentsM xs ys p).length ≤ 2 := by
  unfold parentsM
  split
  · unfold parentsAt
    split
    · exact parentsL_len _
    · simp
  · simp
theorem partnersM_len (xs : List Person) (ys : List Union) (p : Int) : (partnersM xs ys p).length ≤ 60 := by
  by_cases h : hasOk xs ys p = true
  · rw [partnersM, if_pos h]
    exact Nat.le_trans (partL_len _ _ _) (famOk_parts (hasOk_fam h).1).2.1
  · rw [partnersM, if_neg h]; simp
theorem marriedM_len (xs : List Person) (ys : List Union) (p y : Int) : (marriedM xs ys p y).length ≤ 60 := by
  by_cases h : hasOk xs ys p = true
  · rw [marriedM, if_pos h]
    exact Nat.le_trans (marL_len _ _ _ _ _) (famOk_parts (hasOk_fam h).1).2.1
  · rw [marriedM, if_neg h]; simp
/-- What a valid family says of a union. -/
theorem famOk_union {xs : List Person} {ys : List Union} {k : Nat} {u : Union} (h : famOk xs ys = true) (hk : ys[k]? = some u) :
    ∃ (m f : Nat) (a b : Person), u.man = m ∧ u.woman = f ∧ m < xs.length ∧ f < xs.length ∧ xs[m]? = some a ∧ xs[f]? = some b ∧ 0 ≤ u.since ∧ u.since ≤ 9999 ∧ (u.till = -1 ∨ 0 ≤ u.till ∧ u.till ≤ 9999) ∧ -1 ≤ a.died ∧ a.died ≤ 9999 ∧ -1 ≤ b.died ∧ b.died ≤ 9999 := by
  obtain ⟨_, _, h1, h2⟩ := famOk_parts h
  have hu : unionOk xs ys k = true := by
    rw [unionsOk, List.all_eq_true] at h2
    exact h2 k (List.mem_range.2 (List.getElem?_eq_some_iff.1 hk).1)
  rw [unionOk_of hk] at hu
  by_cases hr : 0 ≤ u.man ∧ u.man < xs.length ∧ 0 ≤ u.woman ∧ u.woman < xs.length
  · obtain ⟨r1, r2, r3, r4⟩ := hr
    obtain ⟨m, hm⟩ := Int.eq_ofNat_of_zero_le r1
    obtain ⟨f, hf⟩ := Int.eq_ofNat_of_zero_le r3
    have hml : m < xs.length := by omega
    have hfl : f < xs.length := by omega
    have ha := List.getElem?_eq_getElem hml
    have hb := List.getElem?_eq_getElem hfl
    rw [unionOf_in hm hf ha hb] at hu
    simp only [Bool.and_eq_true, decide_eq_true_eq, yearsOk, liveOk, Bool.or_eq_true] at hu
    obtain ⟨⟨⟨⟨_, hy⟩, hla⟩, _⟩, _⟩ := hu
    have hd1 := peopleOk_died h1 m _ hml ha
    have hd2 := peopleOk_died h1 f _ hfl hb
    have hp := peopleOk_get h1 hml
    rw [personOk_of ha] at hp
    have hal := aliveOk_parts (personOf_parts hp).2.1
    refine ⟨m, f, _, _, hm, hf, hml, hfl, ha, hb, by omega, by omega, by omega, hd1.1, hd1.2, hd2.1, hd2.2⟩
  · rw [unionOf_out hr] at hu; cases hu
end Go.Proofs.Ythpcippgifmabaa
