/-
  Rules: sizes, copies, equality.
-/
import Derived.Test.YtnanlbglgflecaaConvTyp
namespace Go.Proofs.Ytnanlbglgflecaa
set_option maxRecDepth 100000
open Go.RowKit

structure Rule where
  name : ByteArray
  sex : Int
  place : Int
  src : List Step
  dst : List Step
  deriving DecidableEq
theorem str_eqR {a b : ByteArray} : a.toList = b.toList ↔ a = b := by
  constructor
  · intro h; rw [ByteArray.toList_eq, ByteArray.toList_eq] at h; exact ByteArray.ext (Array.toList_inj.1 h)
  · rintro rfl; rfl

def vsRule (x : Rule) (v1 v2 : Value) : List Value := [.string x.name, .int .i64 x.sex, .int .i64 x.place, v1, v2]
theorem blocks_rule {x : Rule} {v1 v2 : Value} {b : Nat} : b ∈ blocks (vsRule x v1 v2) ↔ v1.ownBlock = some b ∨ v2.ownBlock = some b := by
  simp only [blocks, vsRule, List.mem_filterMap, List.mem_cons, List.not_mem_nil, or_false]
  constructor
  · rintro ⟨a, rfl | rfl | rfl | rfl | rfl, h⟩
    · simp [Value.ownBlock] at h
    · simp [Value.ownBlock] at h
    · simp [Value.ownBlock] at h
    · exact .inl h
    · exact .inr h
  · rintro (h | h)
    · exact ⟨v1, by simp, h⟩
    · exact ⟨v2, by simp, h⟩
def ERule : Elem Rule where
  e := 51
  sz := 5
  O := fun w lo hi cs x => ∃ v1 v2, cs = vsRule x v1 v2 ∧ EStep.OS w lo hi v1 x.src ∧ EStep.OS w lo hi v2 x.dst ∧ (∀ b, v1.ownBlock = some b → v2.ownBlock ≠ some b) ∧ x.name.size ≤ 140737488355328
  R := fun w lo hi cs x => ∃ v1 v2, cs = vsRule x v1 v2 ∧ EStep.RS w lo hi v1 x.src ∧ EStep.RS w lo hi v2 x.dst ∧ x.name.size ≤ 140737488355328
  len := fun ⟨_, _, h, _⟩ => by rw [h]; rfl
  read := fun ⟨v1, v2, h, a, b, _, d⟩ => ⟨v1, v2, h, a.read, b.read, d⟩
  sameO := fun ⟨v1, v2, h, a, b, c, d⟩ s => ⟨v1, v2, h, a.same s, b.same s, c, d⟩
  sameR := fun ⟨v1, v2, h, a, b, d⟩ s => ⟨v1, v2, h, a.same s, b.same s, d⟩
  monoO := fun ⟨v1, v2, h, a, b, c, d⟩ p q => ⟨v1, v2, h, a.mono p q, b.mono p q, c, d⟩
  monoR := fun ⟨v1, v2, h, a, b, d⟩ p q => ⟨v1, v2, h, a.mono p q, b.mono p q, d⟩
  blk := fun ⟨v1, v2, h, a, b, _, _⟩ k hk => by
    rw [h] at hk
    rcases blocks_rule.1 hk with hk | hk
    · exact a.blkv _ hk
    · exact b.blkv _ hk
  loc := fun {w w' lo hi cs x} ⟨v1, v2, h, a, b, c, d⟩ hb => by
    refine ⟨v1, v2, h, a.loc (fun k hk => hb k ?_) (fun h => h), b.loc (fun k hk => hb k ?_) (fun h => h), c, d⟩
    · rw [h]; exact blocks_rule.2 (.inl hk)
    · rw [h]; exact blocks_rule.2 (.inr hk)
section
variable {w : World} {lo hi : Nat} {A : Option Addr} {k : Nat}
theorem ARule.at_ {xs : List Rule} (h : ERule.AS w lo hi A xs) (hk : k < xs.length) : ∃ b off x A1 c1 A2 c2, A = some ⟨b, off, none⟩ ∧ lo ≤ b ∧ b < hi ∧ xs.drop k = x :: xs.drop (k + 1) ∧ xs[k]? = some x ∧
    w.cell? ⟨b, off + k * 5, none⟩ = some (.string x.name) ∧ w.cell? ⟨b, off + k * 5 + 1, none⟩ = some (.int .i64 x.sex) ∧ w.cell? ⟨b, off + k * 5 + 2, none⟩ = some (.int .i64 x.place) ∧
    w.cell? ⟨b, off + k * 5 + 3, none⟩ = some (.slice A1 x.src.length c1) ∧ w.cell? ⟨b, off + k * 5 + 4, none⟩ = some (.slice A2 x.dst.length c2) ∧ EStep.AS w lo hi A1 x.src ∧ EStep.AS w lo hi A2 x.dst ∧ x.name.size ≤ 140737488355328 := by
  obtain ⟨b, off, x, cs, rfl, h1, h2, h3, h4, ⟨v1, v2, rfl, ⟨A1, c1, rfl, _, _, q1⟩, ⟨A2, c2, rfl, _, _, q2⟩, q3⟩, hc⟩ := h.at_ hk
  exact ⟨b, off, x, A1, c1, A2, c2, rfl, h1, h2, h3, h4, by simpa [ERule, Nat.add_assoc] using hc 0 _ rfl, by simpa [ERule, Nat.add_assoc] using hc 1 _ rfl, by simpa [ERule, Nat.add_assoc] using hc 2 _ rfl, by simpa [ERule, Nat.add_assoc] using hc 3 _ rfl, by simpa [ERule, Nat.add_assoc] using hc 4 _ rfl, q1, q2, q3⟩
end

theorem szRule_any (x0 : ByteArray) (x1 x2 : Int) (A B : Option Addr) (c d lo hi : Nat) (xs ys : List Step) (left : Int) (w : World) (h : EStep.AS w lo hi A xs) (h' : EStep.AS w lo hi B ys) (h0 : 0 ≤ left) (h1 : left ≤ 1048576) (_hh : hi ≤ w.heap.size) (hs : x0.size ≤ 140737488355328) :
    Calls Try.prog 101 #[.agg #[.string x0, .int .i64 x1, .int .i64 x2, .slice A xs.length c, .slice B ys.length d], .int .i64 left] w fun e w' => ∃ r, e = .returned (.int .i64 r) ∧ Below w.heap.size w w' ∧ Sz r left (x0.size + xs.length + ys.length) := by
  go_enter Try.func101, Try.ntmps101
  go_wp2_with fail
  · go_ret; exact ⟨_, rfl, by (with_reducible repeat' first | exact Below.refl _ _ | assumption | (refine Below.setCell ?_ (by first | omega | (simp; omega) | (simp; done) | (dsimp only; omega)) _) | (refine Below.alloc ?_ (by first | omega | (simp; omega) | (simp; done) | (dsimp only; omega)) _) | (refine below_drewN ?_ _) | (refine Below.drew ?_)), .inl ⟨rfl, by omega⟩⟩
  refine (szStepS_any A c xs (left - x0.size) _ h.le (by omega) (by omega)).mono ?_
  rintro e w1 ⟨r1, rfl, rfl, hs1⟩
  go_wp2_with fail
  · go_ret
    refine ⟨_, rfl, by (with_reducible repeat' first | exact Below.refl _ _ | assumption | (refine Below.setCell ?_ (by first | omega | (simp; omega) | (simp; done) | (dsimp only; omega)) _) | (refine Below.alloc ?_ (by first | omega | (simp; omega) | (simp; done) | (dsimp only; omega)) _) | (refine below_drewN ?_ _) | (refine Below.drew ?_)), .inl ⟨rfl, ?_⟩⟩
    rcases hs1 with ⟨_, hs1⟩ | ⟨hs1, _⟩ <;> omega
  have hr1 : 0 ≤ r1 ∧ r1 ≤ 1048576 := by rcases hs1 with ⟨hs1, _⟩ | ⟨_, hs1⟩ <;> omega
  refine (szStepS_any B d ys r1 _ h'.le hr1.1 hr1.2).mono ?_
  rintro e w2 ⟨r2, rfl, rfl, hs2⟩
  go_wp2_with fail
  · go_ret
    refine ⟨_, rfl, by (with_reducible repeat' first | exact Below.refl _ _ | assumption | (refine Below.setCell ?_ (by first | omega | (simp; omega) | (simp; done) | (dsimp only; omega)) _) | (refine Below.alloc ?_ (by first | omega | (simp; omega) | (simp; done) | (dsimp only; omega)) _) | (refine below_drewN ?_ _) | (refine Below.drew ?_)), .inl ⟨rfl, ?_⟩⟩
    rcases hs1 with ⟨_, hs1⟩ | ⟨_, hs1⟩ <;> rcases hs2 with ⟨_, hs2⟩ | ⟨_, hs2⟩ <;> omega
  · go_ret
    refine ⟨_, rfl, by (with_reducible repeat' first | exact Below.refl _ _ | assumption | (refine Below.setCell ?_ (by first | omega | (simp; omega) | (simp; done) | (dsimp only; omega)) _) | (refine Below.alloc ?_ (by first | omega | (simp; omega) | (simp; done) | (dsimp only; omega)) _) | (refine below_drewN ?_ _) | (refine Below.drew ?_)), ?_⟩
    rcases hs1 with ⟨_, hs1⟩ | ⟨_, hs1⟩ <;> rcases hs2 with ⟨_, hs2⟩ | ⟨_, hs2⟩ <;> first | exact .inr ⟨by omega, by omega⟩ | (exfalso; omega)

theorem toRule_own (x0 : ByteArray) (x1 x2 : Int) (A B : Option Addr) (c d lo hi : Nat) (xs ys : List Step) (w : World) (h : EStep.AS w lo hi A xs) (h' : EStep.AS w lo hi B ys) (hh : hi ≤ w.heap.size) (hs : xs.length ≤ 1048576) (hs' : ys.length ≤ 1048576) :
    Calls Try.prog 105 #[.agg #[.string x0, .int .i64 x1, .int .i64 x2, .slice A xs.length c, .slice B ys.length d]] w fun e w' => ∃ A' c' B' d', e = .returned (.agg #[.string x0, .int .i64 x1, .int .i64 x2, .slice A' xs.length c', .slice B' ys.length d']) ∧
      EStep.OS w' w.heap.size w'.heap.size (.slice A' xs.length c') xs ∧ EStep.OS w' w.heap.size w'.heap.size (.slice B' ys.length d') ys ∧ (∀ b, (Value.slice A' xs.length c').ownBlock = some b → (Value.slice B' ys.length d').ownBlock ≠ some b) ∧ Below w.heap.size w w' := by
  go_enter Try.func105, Try.ntmps105
  go_wp2_with fail
  generalize hW : ((w.alloc (.cells #[.string x0, .int .i64 x1, .int .i64 x2, .slice A xs.length c, .slice B ys.length d] 124)).alloc (.cells #[.string ⟨#[]⟩, .int .i64 0, .int .i64 0, .slice none 0 0, .slice none 0 0] 51)).alloc (.cells #[.string x0, .int .i64 x1, .int .i64 x2, .slice none 0 0, .slice none 0 0] 51) = W
  have a1 : W.cell? ⟨w.heap.size, 4, none⟩ = some (.slice B ys.length d) := by subst hW; simp [go_sem]
  have R : Blk W (w.heap.size + 1) 51 #[.string ⟨#[]⟩, .int .i64 0, .int .i64 0, .slice none 0 0, .slice none 0 0] := by
    subst hW; exact (Blk.new _ (by simp)).alloc _
  have O : Blk W (w.heap.size + 1 + 1) 51 #[.string x0, .int .i64 x1, .int .i64 x2, .slice none 0 0, .slice none 0 0] := by
    subst hW; exact Blk.new _ (by simp)
  have hb : Below w.heap.size w W := by subst hW; (with_reducible repeat' first | exact Below.refl _ _ | assumption | (refine Below.setCell ?_ (by first | omega | (simp; omega) | (simp; done) | (dsimp only; omega)) _) | (refine Below.alloc ?_ (by first | omega | (simp; omega) | (simp; done) | (dsimp only; omega)) _) | (refine below_drewN ?_ _) | (refine Below.drew ?_))
  have z : w.heap.size + 1 + 1 + 1 = W.heap.size := by subst hW; simp
  clear hW
  replace h := h.same (Same.of_below hb hh); replace h' := h'.same (Same.of_below hb hh)
  refine (toStepS_any A c lo hi xs _ h (by first | omega | (simp; omega) | (simp; done) | (dsimp only; omega)) hs).mono ?_
  rintro e w1 ⟨A1, c1, rfl, o1, hb1⟩
  have z1 := hb1.size
  replace a1 := (hb1.cell (p := ⟨w.heap.size, 4, none⟩) (by first | omega | (simp; omega) | (simp; done) | (dsimp only; omega))).trans a1
  replace R := R.below hb1 (by first | omega | (simp; omega) | (simp; done) | (dsimp only; omega)); replace O := O.below hb1 (by first | omega | (simp; omega) | (simp; done) | (dsimp only; omega))
  replace h' := h'.same (Same.of_below hb1 (by first | omega | (simp; omega) | (simp; done) | (dsimp only; omega)))
  replace hb := hb.trans (hb1.mono (by first | omega | (simp; omega) | (simp; done) | (dsimp only; omega)))
  have e0 := O.cell (i := 3) rfl; have f0 := O.free 3
  clear hb1
  go_wp2_with fail
  generalize hW1 : w1.setCell ⟨w.heap.size + 1 + 1, 3, none⟩ (.slice A1 xs.length c1) = W1
  have zs1 : w1.heap.size = W1.heap.size := by subst hW1; simp [World.setCell]
  have O1 : Blk W1 (w.heap.size + 1 + 1) 51 #[.string x0, .int .i64 x1, .int .i64 x2, .slice A1 xs.length c1, .slice none 0 0] := by subst hW1; exact O.set 3 _
  replace R : Blk W1 (w.heap.size + 1) 51 #[.string ⟨#[]⟩, .int .i64 0, .int .i64 0, .slice none 0 0, .slice none 0 0] := by subst hW1; exact R.far (by first | omega | (simp; omega) | (simp; done) | (dsimp only; omega)) _
  replace o1 : EStep.OS W1 W.heap.size w1.heap.size (.slice A1 xs.length c1) xs := by subst hW1; exact o1.same (by (with_reducible repeat' first | exact Same.refl _ _ _ | assumption | (refine Same.setCell ?_ (by first | omega | (simp; omega) | (simp; done) | (dsimp only; omega)) _) | (refine Same.alloc ?_ (by first | omega | (simp; omega) | (simp; done) | (dsimp only; omega)) _) | (refine Same.drewN ?_ _) | (refine Same.drew ?_)))
  replace h' : EStep.AS W1 lo hi B ys := by subst hW1; exact h'.same (by (with_reducible repeat' first | exact Same.refl _ _ _ | assumption | (refine Same.setCell ?_ (by first | omega | (simp; omega) | (simp; done) | (dsimp only; omega)) _) | (refine Same.alloc ?_ (by first | omega | (simp; omega) | (simp; done) | (dsimp only; omega)) _) | (refine Same.drewN ?_ _) | (refine Same.drew ?_)))
  replace hb : Below w.heap.size w W1 := by subst hW1; (with_reducible repeat' first | exact Below.refl _ _ | assumption | (refine Below.setCell ?_ (by first | omega | (simp; omega) | (simp; done) | (dsimp only; omega)) _) | (refine Below.alloc ?_ (by first | omega | (simp; omega) | (simp; done) | (dsimp only; omega)) _) | (refine below_drewN ?_ _) | (refine Below.drew ?_) | (refine Below.trans ?_ (hb.mono (by first | omega | (simp; omega) | (simp; done) | (dsimp only; omega)))))
  clear hW1 e0 f0 O a1
  refine (toStepS_any B d lo hi ys _ h' (by first | omega | (simp; omega) | (simp; done) | (dsimp only; omega)) hs').mono ?_
  rintro e w2 ⟨A2, c2, rfl, o2, hb2⟩
  have z2 := hb2.size
  replace R := R.below hb2 (by first | omega | (simp; omega) | (simp; done) | (dsimp only; omega)); replace O1 := O1.below hb2 (by first | omega | (simp; omega) | (simp; done) | (dsimp only; omega))
  replace o1 := o1.same (Same.of_below hb2 (by first | omega | (simp; omega) | (simp; done) | (dsimp only; omega)))
  replace hb := hb.trans (hb2.mono (by first | omega | (simp; omega) | (simp; done) | (dsimp only; omega)))
  have e0 := O1.cell (i := 0) rfl; have e1 := O1.cell (i := 1) rfl; have e2 := O1.cell (i := 2) rfl; have e3 := O1.cell (i := 3) rfl; have e4 := O1.cell (i := 4) rfl; have f4 := O1.free 4
  have r0 := R.cell (i := 0) rfl; have r1 := R.cell (i := 1) rfl; have r2 := R.cell (i := 2) rfl; have r3 := R.cell (i := 3) rfl; have r4 := R.cell (i := 4) rfl
  have g0 := R.free 0; have g1 := R.free 1; have g2 := R.free 2; have g3 := R.free 3; have g4 := R.free 4
  clear hb2
  have hne : ∀ b, (Value.slice A1 xs.length c1).ownBlock = some b → (Value.slice A2 ys.length c2).ownBlock ≠ some b := fun b hb1 hb2 => by
    have := (o1.blkv b hb1).2; have := (o2.blkv b hb2).1; omega
  have HN := Lib.hid hne; clear hne
  go_wp2_with fail
  have RR := (((((R.far (p := ⟨w.heap.size + 1 + 1, 4, none⟩) (by first | omega | (simp; omega) | (simp; done) | (dsimp only; omega)) (.slice A2 ys.length c2)).set 0 (.string x0)).set 1 (.int .i64 x1)).set 2 (.int .i64 x2)).set 3 (.slice A1 xs.length c1)).set 4 (.slice A2 ys.length c2)
  exact bodyPost_ret (v := .agg #[.string x0, .int .i64 x1, .int .i64 x2, .slice A1 xs.length c1, .slice A2 ys.length c2]) (by simp [results, Try.results105, go_sem, RR.cell (i := 0) rfl, RR.cell (i := 1) rfl, RR.cell (i := 2) rfl, RR.cell (i := 3) rfl, RR.cell (i := 4) rfl]) rfl ⟨A1, c1, A2, c2, rfl, (o1.same (by (with_reducible repeat' first | exact Same.refl _ _ _ | assumption | (refine Same.setCell ?_ (by first | omega | (simp; omega) | (simp; done) | (dsimp only; omega)) _) | (refine Same.alloc ?_ (by first | omega | (simp; omega) | (simp; done) | (dsimp only; omega)) _) | (refine Same.drewN ?_ _) | (refine Same.drew ?_)))).mono (by first | omega | (simp; omega) | (simp; done) | (dsimp only; omega)) (by first | omega | (simp; omega) | (simp; done) | (dsimp only; omega)), (o2.same (by (with_reducible repeat' first | exact Same.refl _ _ _ | assumption | (refine Same.setCell ?_ (by first | omega | (simp; omega) | (simp; done) | (dsimp only; omega)) _) | (refine Same.alloc ?_ (by first | omega | (simp; omega) | (simp; done) | (dsimp only; omega)) _) | (refine Same.drewN ?_ _) | (refine Same.drew ?_)))).mono (by first | omega | (simp; omega) | (simp; done) | (dsimp only; omega)) (by first | omega | (simp; omega) | (simp; done) | (dsimp only; omega)), HN.out, by (with_reducible repeat' first | exact Below.refl _ _ | assumption | (refine Below.setCell ?_ (by first | omega | (simp; omega) | (simp; done) | (dsimp only; omega)) _) | (refine Below.alloc ?_ (by first | omega | (simp; omega) | (simp; done) | (dsimp only; omega)) _) | (refine below_drewN ?_ _) | (refine Below.drew ?_) | (refine Below.trans ?_ (hb.mono (by first | omega | (simp; omega) | (simp; done) | (dsimp only; omega)))))⟩
theorem toRule_any (x0 : ByteArray) (x1 x2 : Int) (A B : Option Addr) (c d lo hi : Nat) (xs ys : List Step) (w : World) (h : EStep.AS w lo hi A xs) (h' : EStep.AS w lo hi B ys) (hh : hi ≤ w.heap.size) (hs : xs.length ≤ 1048576) (hs' : ys.length ≤ 1048576) :
    Calls Try.prog 105 #[.agg #[.string x0, .int .i64 x1, .int .i64 x2, .slice A xs.length c, .slice B ys.length d]] w fun e w' => ∃ A' c' B' d', e = .returned (.agg #[.string x0, .int .i64 x1, .int .i64 x2, .slice A' xs.length c', .slice B' ys.length d']) ∧
      EStep.OS w' w.heap.size w'.heap.size (.slice A' xs.length c') xs ∧ EStep.OS w' w.heap.size w'.heap.size (.slice B' ys.length d') ys ∧ Below w.heap.size w w' := by
  refine (toRule_own x0 x1 x2 A B c d lo hi xs ys w h h' hh hs hs').mono ?_
  rintro e w' ⟨A1, c1, A2, c2, h1, h2, h3, _, h4⟩
  exact ⟨A1, c1, A2, c2, h1, h2, h3, h4⟩

theorem eqRule_any (x0 y0 : ByteArray) (x1 x2 y1 y2 : Int) (A B A' B' : Option Addr) (c d c' d' lo hi lo' hi' : Nat) (xs ys xs' ys' : List Step) (w : World) (h : EStep.AS w lo hi A xs) (h' : EStep.AS w lo hi B ys) (h2 : EStep.AS w lo' hi' A' xs') (h2' : EStep.AS w lo' hi' B' ys') (hh : hi ≤ w.heap.size) (hh' : hi' ≤ w.heap.size) :
    Calls Try.prog 39 #[.agg #[.string x0, .int .i64 x1, .int .i64 x2, .slice A xs.length c, .slice B ys.length d], .agg #[.string y0, .int .i64 y1, .int .i64 y2, .slice A' xs'.length c', .slice B' ys'.length d']] w fun e w' => e = .returned (.bool (eqB (⟨x0, x1, x2, xs, ys⟩ : Rule) ⟨y0, y1, y2, xs', ys'⟩)) ∧ Below w.heap.size w w' := by
  cases hp : eqB xs xs' <;> cases hu : eqB ys ys'
  all_goals
    have HP := Lib.hid hp; have HU := Lib.hid hu
    clear hp hu
    go_enter Try.func39, Try.ntmps39
    go_wp2_with (first
      | (go_at_call 100; (with_reducible refine (eqStepS_any A A' c c' lo hi lo' hi' xs xs' _ (h.same (by (with_reducible repeat' first | exact Same.refl _ _ _ | assumption | (refine Same.setCell ?_ (by first | omega | (simp; omega) | (simp; done) | (dsimp only; omega)) _) | (refine Same.alloc ?_ (by first | omega | (simp; omega) | (simp; done) | (dsimp only; omega)) _) | (refine Same.drewN ?_ _) | (refine Same.drew ?_)))) (h2.same (by (with_reducible repeat' first | exact Same.refl _ _ _ | assumption | (refine Same.setCell ?_ (by first | omega | (simp; omega) | (simp; done) | (dsimp only; omega)) _) | (refine Same.alloc ?_ (by first | omega | (simp; omega) | (simp; done) | (dsimp only; omega)) _) | (refine Same.drewN ?_ _) | (refine Same.drew ?_)))) (by first | omega | (simp; omega) | (simp; done) | (dsimp only; omega)) (by first | omega | (simp; omega) | (simp; done) | (dsimp only; omega))).mono ?_); rintro e w1 ⟨rfl, hb1⟩; simp only [HP.out]; (obtain ⟨hb1c, hb1f⟩ := bcell hb1); (have hb1z := hb1.size); (try simp only [szs] at hb1c hb1f hb1z); (have lt1 : w.heap.size + 1 < w1.heap.size := (by omega)); (have lt2 : w.heap.size < w1.heap.size := (by omega)))
      | (go_at_call 100; (with_reducible refine (eqStepS_any B B' d d' lo hi lo' hi' ys ys' _ (h'.same (by (with_reducible repeat' first | exact Same.refl _ _ _ | assumption | (refine Same.setCell ?_ (by first | omega | (simp; omega) | (simp; done) | (dsimp only; omega)) _) | (refine Same.alloc ?_ (by first | omega | (simp; omega) | (simp; done) | (dsimp only; omega)) _) | (refine Same.drewN ?_ _) | (refine Same.drew ?_) | (refine Same.trans ?_ (Same.of_below hb1 (by first | omega | (simp; omega) | (simp; done) | (dsimp only; omega))))))) (h2'.same (by (with_reducible repeat' first | exact Same.refl _ _ _ | assumption | (refine Same.setCell ?_ (by first | omega | (simp; omega) | (simp; done) | (dsimp only; omega)) _) | (refine Same.alloc ?_ (by first | omega | (simp; omega) | (simp; done) | (dsimp only; omega)) _) | (refine Same.drewN ?_ _) | (refine Same.drew ?_) | (refine Same.trans ?_ (Same.of_below hb1 (by first | omega | (simp; omega) | (simp; done) | (dsimp only; omega))))))) (by first | omega | (simp; omega) | (simp; done) | (dsimp only; omega)) (by first | omega | (simp; omega) | (simp; done) | (dsimp only; omega))).mono ?_); rintro e w2 ⟨rfl, hb2⟩; simp only [HU.out]))
    all_goals
      go_ret
      have hp := HP.out; have hu := HU.out
      first
        | exact ⟨ret_bool (by simp_all [eqB, str_eqR]), by (with_reducible repeat' first | exact Below.refl _ _ | assumption | (refine Below.setCell ?_ (by first | omega | (simp; omega) | (simp; done) | (dsimp only; omega)) _) | (refine Below.alloc ?_ (by first | omega | (simp; omega) | (simp; done) | (dsimp only; omega)) _) | (refine below_drewN ?_ _) | (refine Below.drew ?_) | (refine Below.trans ?_ (hb2.mono (by first | omega | (simp; omega) | (simp; done) | (dsimp only; omega)))) | (refine Below.trans ?_ (hb1.mono (by first | omega | (simp; omega) | (simp; done) | (dsimp only; omega)))))⟩
        | exact ⟨ret_bool (by simp_all [eqB, str_eqR]), by (with_reducible repeat' first | exact Below.refl _ _ | assumption | (refine Below.setCell ?_ (by first | omega | (simp; omega) | (simp; done) | (dsimp only; omega)) _) | (refine Below.alloc ?_ (by first | omega | (simp; omega) | (simp; done) | (dsimp only; omega)) _) | (refine below_drewN ?_ _) | (refine Below.drew ?_) | (refine Below.trans ?_ (hb1.mono (by first | omega | (simp; omega) | (simp; done) | (dsimp only; omega)))))⟩
        | exact ⟨ret_bool (by simp_all [eqB, str_eqR]), by (with_reducible repeat' first | exact Below.refl _ _ | assumption | (refine Below.setCell ?_ (by first | omega | (simp; omega) | (simp; done) | (dsimp only; omega)) _) | (refine Below.alloc ?_ (by first | omega | (simp; omega) | (simp; done) | (dsimp only; omega)) _) | (refine below_drewN ?_ _) | (refine Below.drew ?_))⟩
end Go.Proofs.Ytnanlbglgflecaa
