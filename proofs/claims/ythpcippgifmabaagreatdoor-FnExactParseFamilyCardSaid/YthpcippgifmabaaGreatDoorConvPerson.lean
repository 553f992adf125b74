/-
  Persons: sizes, copies, equality, marks.
-/
import Derived.Test.YthpcippgifmabaaGreatDoorFlat
import Derived.Test.YthpcippgifmabaaGreatDoorMarkText
namespace Go.Proofs.YthpcippgifmabaaGreatDoor
set_option maxRecDepth 100000
open Go.RowKit

structure Person where
  name : ByteArray
  sex : Int
  father : Int
  mother : Int
  born : Int
  died : Int
  deriving DecidableEq
def EPerson : Elem Person := .flat 50 6 (fun s => [.string s.name, .int .i64 s.sex, .int .i64 s.father, .int .i64 s.mother, .int .i64 s.born, .int .i64 s.died]) (fun _ => rfl) (fun _ => rfl)
def vsPerson (s : Person) : List Value := [.string s.name, .int .i64 s.sex, .int .i64 s.father, .int .i64 s.mother, .int .i64 s.born, .int .i64 s.died]
theorem EPerson_O (w : World) (lo hi : Nat) (cs : List Value) (x : Person) : EPerson.O w lo hi cs x ↔ cs = vsPerson x := Iff.rfl
section
variable {w : World} {lo hi : Nat} {A : Option Addr} {k : Nat}
theorem APerson.at_ {xs : List Person} (h : EPerson.AS w lo hi A xs) (hk : k < xs.length) : ∃ b off x, A = some ⟨b, off, none⟩ ∧ lo ≤ b ∧ b < hi ∧ xs.drop k = x :: xs.drop (k + 1) ∧ xs[k]? = some x ∧
    w.cell? ⟨b, off + k * 6, none⟩ = some (.string x.name) ∧ w.cell? ⟨b, off + k * 6 + 1, none⟩ = some (.int .i64 x.sex) ∧ w.cell? ⟨b, off + k * 6 + 2, none⟩ = some (.int .i64 x.father) ∧ w.cell? ⟨b, off + k * 6 + 3, none⟩ = some (.int .i64 x.mother) ∧ w.cell? ⟨b, off + k * 6 + 4, none⟩ = some (.int .i64 x.born) ∧ w.cell? ⟨b, off + k * 6 + 5, none⟩ = some (.int .i64 x.died) := by
  obtain ⟨b, off, x, cs, rfl, h1, h2, h3, h4, rfl, hc⟩ := h.at_ hk
  exact ⟨b, off, x, rfl, h1, h2, h3, h4, by simpa [EPerson, Elem.flat, Nat.add_assoc] using hc 0 _ rfl, by simpa [EPerson, Elem.flat, Nat.add_assoc] using hc 1 _ rfl, by simpa [EPerson, Elem.flat, Nat.add_assoc] using hc 2 _ rfl, by simpa [EPerson, Elem.flat, Nat.add_assoc] using hc 3 _ rfl, by simpa [EPerson, Elem.flat, Nat.add_assoc] using hc 4 _ rfl, by simpa [EPerson, Elem.flat, Nat.add_assoc] using hc 5 _ rfl⟩
end

def totP : List Person → Nat
  | [] => 0
  | x :: r => x.name.size + totP r
def SzPRel (xs : List Person) (left : Int) (w : World) (l i : Value) (wr : World) : Prop :=
  ∃ (k : Nat) (r : Int), k ≤ xs.length ∧ i = .int .i64 k ∧ l = .int .i64 r ∧ Below w.heap.size w wr ∧ 0 ≤ r ∧ r = left - xs.length - totP (xs.take k)
theorem totP_take {xs : List Person} : ∀ {k : Nat} {x : Person}, xs[k]? = some x → totP (xs.take (k + 1)) = totP (xs.take k) + x.name.size := by
  induction xs with
  | nil => intro k x h; simp at h
  | cons y r ih =>
    intro k x h
    cases k with
    | zero => simp at h; subst h; simp [totP]
    | succ k => simp at h; simp only [List.take_succ_cons, totP, ih h]; omega
theorem totP_le (xs : List Person) : ∀ k, totP (xs.take k) ≤ totP xs := by
  induction xs with
  | nil => intro k; simp [totP]
  | cons y r ih => intro k; cases k with
    | zero => simp [totP]
    | succ k => simp only [List.take_succ_cons, totP]; have := ih k; omega
theorem str_eq {a b : ByteArray} : a.toList = b.toList ↔ a = b := by
  constructor
  · intro h; rw [ByteArray.toList_eq, ByteArray.toList_eq] at h; exact ByteArray.ext (Array.toList_inj.1 h)
  · rintro rfl; rfl
theorem eqPerson_any (x0 : ByteArray) (x1 : Int) (x2 : Int) (x3 : Int) (x4 : Int) (x5 : Int) (y0 : ByteArray) (y1 : Int) (y2 : Int) (y3 : Int) (y4 : Int) (y5 : Int) (w : World) :
    Calls Tryz.prog 49 #[.agg #[.string x0, .int .i64 x1, .int .i64 x2, .int .i64 x3, .int .i64 x4, .int .i64 x5], .agg #[.string y0, .int .i64 y1, .int .i64 y2, .int .i64 y3, .int .i64 y4, .int .i64 y5]] w fun e w' => e = .returned (.bool (eqB (⟨x0, x1, x2, x3, x4, x5⟩ : Person) ⟨y0, y1, y2, y3, y4, y5⟩)) ∧ Below w.heap.size w w' := by
  go_enter Tryz.func49, Tryz.ntmps49
  go_wp2
  all_goals (go_ret; exact ⟨ret_bool (by simp_all [eqB, str_eq]), by (with_reducible repeat' first | exact Below.refl _ _ | assumption | (refine Below.setCell ?_ (by first | omega | (simp; omega) | (simp; done) | (dsimp only; omega)) _) | (refine Below.alloc ?_ (by first | omega | (simp; omega) | (simp; done) | (dsimp only; omega)) _) | (refine below_drewN ?_ _) | (refine Below.drew ?_))⟩)

theorem person_info : (Tryz.prog.info? 50).map (fun i => (i.zero, i.size, i.bytes)) = some (some (.agg #[.string ByteArray.empty, .int .i64 0, .int .i64 0, .int .i64 0, .int .i64 0, .int .i64 0]), 6, 56) := by kernel_rfl

theorem person_fill {k n g e : Nat} {css : List (List Value)} {w1 : World} {a0 a1 a2 a3 a4 a5 : Value} (hf : Fill w1 g e (n * 6) css.flatten (k * 6)) (hl : css.flatten.length = k * 6) (hk : k < n) :
    Fill (((((((w1).setCell ⟨g, k * 6, none⟩ a0).setCell ⟨g, k * 6 + 1, none⟩ a1).setCell ⟨g, k * 6 + 2, none⟩ a2).setCell ⟨g, k * 6 + 3, none⟩ a3).setCell ⟨g, k * 6 + 4, none⟩ a4).setCell ⟨g, k * 6 + 5, none⟩ a5) g e (n * 6) (css.flatten ++ [a0, a1, a2, a3, a4, a5]) ((k + 1) * 6) := by
  have h := (((((hf.push (o := k * 6) (u := a0) hl (by omega) rfl).push (o := k * 6 + 1) (u := a1) (by simp [hl]) (by omega) rfl).push (o := k * 6 + 2) (u := a2) (by simp [hl]) (by omega) rfl).push (o := k * 6 + 3) (u := a3) (by simp [hl]) (by omega) rfl).push (o := k * 6 + 4) (u := a4) (by simp [hl]) (by omega) rfl).push (o := k * 6 + 5) (u := a5) (by simp [hl]) (by omega) rfl
  simpa [Nat.succ_mul] using h
set_option maxHeartbeats 4000000 in
theorem eqPersonS_any (A B : Option Addr) (c d lo hi lo' hi' : Nat) (xs ys : List Person) (w : World) (h : EPerson.AS w lo hi A xs) (h' : EPerson.AS w lo' hi' B ys) (hh : hi ≤ w.heap.size) (hh' : hi' ≤ w.heap.size) :
    Calls Tryz.prog 17 #[.slice A xs.length c, .slice B ys.length d] w fun e w' => e = .returned (.bool (eqB xs ys)) ∧ Below w.heap.size w w' := by
  have hx := h.le
  unfold BIG at hx
  by_cases hn : xs.length = ys.length
  · have n1 : xs.length ≤ ys.length := by omega
    have n2 : ys.length ≤ xs.length := by omega
    clear hn
    have nb : ((xs.length : Int) != (ys.length : Int)) = false := by simp; omega
    go_enter Tryz.func17, Tryz.ntmps17
    go_wp2
    go_loopw [5] (fun i wr => EqRelB xs ys w i wr) (fun i _ => xs.length - (intOf i).toNat)
    case atStart => exact ⟨0, Nat.zero_le _, rfl, Below.refl _ _, by simp⟩
    case round =>
      obtain ⟨k, hk, rfl, hw, he⟩ := hrel
      have HE := Lib.hid he; clear he
      have h := h.same (Same.of_below hw hh); have h' := h'.same (Same.of_below hw hh')
      have hz := hw.size
      by_cases hlt : k < xs.length
      · obtain ⟨b1, o1, ⟨x0, x1, x2, x3, x4, x5⟩, rfl, l1, m1, hd1', _, hc0, hc1, hc2, hc3, hc4, hc5⟩ := APerson.at_ h hlt
        obtain ⟨b2, o2, ⟨y0, y1, y2, y3, y4, y5⟩, rfl, l2, m2, hd2', _, hd0, hd1, hd2, hd3, hd4, hd5⟩ := APerson.at_ h' (by omega : k < ys.length)
        have HD1 := Lib.hid hd1'; have HD2 := Lib.hid hd2'; clear hd1' hd2'
        have q1 : (0 : Int) ≤ (k : Int) := by omega
        have q2 : (k : Int) < (xs.length : Int) := by omega
        have q3 : (k : Int) < (ys.length : Int) := by omega
        go_wp2
        go_region_held3 (fun w' => w'.cell? ⟨b1, o1 + k * 6, none⟩ = some (.string x0) ∧ w'.cell? ⟨b1, o1 + k * 6 + 1, none⟩ = some (.int .i64 x1) ∧ w'.cell? ⟨b1, o1 + k * 6 + 2, none⟩ = some (.int .i64 x2) ∧ w'.cell? ⟨b1, o1 + k * 6 + 3, none⟩ = some (.int .i64 x3) ∧ w'.cell? ⟨b1, o1 + k * 6 + 4, none⟩ = some (.int .i64 x4) ∧ w'.cell? ⟨b1, o1 + k * 6 + 5, none⟩ = some (.int .i64 x5) ∧ w'.cell? ⟨b2, o2 + k * 6, none⟩ = some (.string y0) ∧ w'.cell? ⟨b2, o2 + k * 6 + 1, none⟩ = some (.int .i64 y1) ∧ w'.cell? ⟨b2, o2 + k * 6 + 2, none⟩ = some (.int .i64 y2) ∧ w'.cell? ⟨b2, o2 + k * 6 + 3, none⟩ = some (.int .i64 y3) ∧ w'.cell? ⟨b2, o2 + k * 6 + 4, none⟩ = some (.int .i64 y4) ∧ w'.cell? ⟨b2, o2 + k * 6 + 5, none⟩ = some (.int .i64 y5)) (first | exact ⟨hc0, hc1, hc2, hc3, hc4, hc5, hd0, hd1, hd2, hd3, hd4, hd5⟩ | exact ⟨(hb1.cell (by simp; omega)).trans hc0, (hb1.cell (by simp; omega)).trans hc1, (hb1.cell (by simp; omega)).trans hc2, (hb1.cell (by simp; omega)).trans hc3, (hb1.cell (by simp; omega)).trans hc4, (hb1.cell (by simp; omega)).trans hc5, (hb1.cell (by simp; omega)).trans hd0, (hb1.cell (by simp; omega)).trans hd1, (hb1.cell (by simp; omega)).trans hd2, (hb1.cell (by simp; omega)).trans hd3, (hb1.cell (by simp; omega)).trans hd4, (hb1.cell (by simp; omega)).trans hd5⟩)
          (first | (go_at_call 49; refine (eqPerson_any x0 x1 x2 x3 x4 x5 y0 y1 y2 y3 y4 y5 _).mono ?_; rintro e w1 ⟨rfl, hb1⟩))
        have hw1 := hw.trans (((Below.refl _ _).drew.trans hb1).mono hz)
        go_wp2
        · have hxy : (!eqB (⟨x0, x1, x2, x3, x4, x5⟩ : Person) ⟨y0, y1, y2, y3, y4, y5⟩) = true := by assumption
          go_ret
          exact ⟨ret_bool (eqB_no HE.out HD1.out HD2.out (not_true hxy)), hw1⟩
        · have hxy : (!eqB (⟨x0, x1, x2, x3, x4, x5⟩ : Person) ⟨y0, y1, y2, y3, y4, y5⟩) = false := by assumption
          exact ⟨⟨k + 1, by omega, by go_num, hw1, eqB_yes HE.out HD1.out HD2.out (not_false hxy)⟩, by simp [intOf]; omega⟩
      · go_wp2
        go_ret
        exact ⟨ret_bool (eqB_end HE.out (by omega) (by omega)), hw⟩
  · go_enter Tryz.func17, Tryz.ntmps17
    go_wp2
    go_ret
    exact ⟨ret_bool (eqB_len hn).symm, Below.refl _ _⟩

def markPerson (k : Int) (i : Nat) : Person := ⟨markT (k + 6 * i), k + 6 * i + 1, k + 6 * i + 1 + 1, k + 6 * i + 1 + 1 + 1, k + 6 * i + 1 + 1 + 1 + 1, k + 6 * i + 1 + 1 + 1 + 1 + 1⟩
def MarkPRel (w : World) (lo hi : Nat) (v : Value) (xs : List Person) (k : Int) (kk i : Value) (wr : World) : Prop :=
  ∃ j : Nat, j ≤ xs.length ∧ i = .int .i64 j ∧ kk = .int .i64 (k + 6 * j) ∧ EPerson.OS wr lo hi v (mkTo (markPerson k) j ++ xs.drop j) ∧ Chg lo hi w wr ∧ hi ≤ wr.heap.size
set_option maxHeartbeats 8000000 in
theorem markPersonS_any (A : Option Addr) (c lo hi : Nat) (xs : List Person) (k : Int) (w : World) (h : EPerson.OS w lo hi (.slice A xs.length c) xs) (hh : hi ≤ w.heap.size) (h0 : 0 < k) (h1 : k + 6 * xs.length ≤ 4611686018427387904) :
    Calls Tryz.prog 19 #[.slice A xs.length c, .int .i64 k] w fun e w' => e = .returned (.int .i64 (k + 6 * xs.length)) ∧ EPerson.OS w' lo hi (.slice A xs.length c) (mkTo (markPerson k) xs.length) ∧ Chg lo hi w w' := by
  have hx := h.read.as.le
  unfold BIG at hx
  go_enter Tryz.func19, Tryz.ntmps19
  go_wp2
  go_loopw [1, 5] (fun kk i wr => MarkPRel w lo hi (.slice A xs.length c) xs k kk i wr) (fun _ i _ => xs.length - (intOf i).toNat)
  case atStart => exact ⟨0, Nat.zero_le _, rfl, by simp, by simpa [mkTo] using h, Chg.refl _ _ _, hh⟩
  case round =>
    obtain ⟨j, hj, rfl, rfl, ho, hch, hhr⟩ := hrel
    by_cases hlt : j < xs.length
    · obtain ⟨⟨y0, y1, y2, y3, y4, y5⟩, hxj⟩ : ∃ x, xs[j]? = some (x : Person) := ⟨_, List.getElem?_eq_getElem hlt⟩
      have hl0 := mkTo_mlen (m := markPerson k) hj
      have hxm := mkTo_at (m := markPerson k) hxj
      obtain ⟨g, c1, hv, g1, g2, g3, hc, _⟩ := flat_put EPerson_O ho hhr hxm
      rw [hl0] at hv
      injection hv with hv _ hcc
      subst hv; subst hcc
      have HL := Lib.hid hl0; have HX := Lib.hid hxm; clear hxm hxj hl0 hc
      have p0 := ho
      go_wp2_with (go_at_call 51; go_loud ((with_reducible refine (markText_any _ _ (by omega) (by omega)).mono ?_); rintro e w1 ⟨rfl, hb1⟩; (have z1 := hb1.size); (have ho1 := ho.same (Same.of_below hb1 hhr)); (obtain ⟨g0', c0', hv0, _, _, g3', hc, hs0⟩ := flat_put EPerson_O ho1 (by omega) HX.out); (injection hv0 with hv0 hv1 hv2; clear hv1 hv2; injection hv0 with hv0; injection hv0 with hv0 _ _; subst hv0); (have e0 := hc 0 _ rfl); (have e1 := hc 1 _ rfl); (have e2 := hc 2 _ rfl); (have e3 := hc 3 _ rfl); (have e4 := hc 4 _ rfl); (have e5 := hc 5 _ rfl); clear hc; (obtain ⟨e0, f0⟩ := e0); (obtain ⟨e1, f1⟩ := e1); (obtain ⟨e2, f2⟩ := e2); (obtain ⟨e3, f3⟩ := e3); (obtain ⟨e4, f4⟩ := e4); (obtain ⟨e5, f5⟩ := e5); simp only [EPerson, Elem.flat, Nat.add_zero] at e0 f0 e1 f1 e2 f2 e3 f3 e4 f4 e5 f5; clear hs0 ho1))
      have ho1 := ho.same (Same.of_below hb1 hhr)
      obtain ⟨g0', c0', hv0, _, _, _, _, hs0⟩ := flat_put EPerson_O ho1 (by omega) HX.out
      injection hv0 with hv0; injection hv0 with hv0; injection hv0 with hv0; subst hv0
      have hhr1 : hi ≤ w1.heap.size := by omega
      have hch1 := hch.trans (Chg.of_below (lo := lo) (hi := hi) hb1)
      clear p0
      have p0 := ho1
      have p1 := hs0 0 (.string (markT (k + 6 * (j : Int)))) _ ⟨markT (k + 6 * (j : Int)), y1, y2, y3, y4, y5⟩ rfl rfl rfl
      obtain ⟨g1', c1', hv1, _, _, _, _, hs1⟩ := flat_put EPerson_O p1 (by simpa [World.setCell] using hhr1) (getElem_set_self' (by (try simp only [List.length_set]); rw [HL.out]; exact hlt))
      injection hv1 with hv1; injection hv1 with hv1; injection hv1 with hv1; subst hv1
      have p2 := hs1 1 (.int .i64 (k + 6 * (j : Int) + 1)) _ ⟨markT (k + 6 * (j : Int)), k + 6 * (j : Int) + 1, y2, y3, y4, y5⟩ rfl rfl rfl
      rw [List.set_set] at p2
      obtain ⟨g2', c2', hv2, _, _, _, _, hs2⟩ := flat_put EPerson_O p2 (by simpa [World.setCell] using hhr1) (getElem_set_self' (by (try simp only [List.length_set]); rw [HL.out]; exact hlt))
      injection hv2 with hv2; injection hv2 with hv2; injection hv2 with hv2; subst hv2
      have p3 := hs2 2 (.int .i64 (k + 6 * (j : Int) + 1 + 1)) _ ⟨markT (k + 6 * (j : Int)), k + 6 * (j : Int) + 1, k + 6 * (j : Int) + 1 + 1, y3, y4, y5⟩ rfl rfl rfl
      rw [List.set_set] at p3
      obtain ⟨g3', c3', hv3, _, _, _, _, hs3⟩ := flat_put EPerson_O p3 (by simpa [World.setCell] using hhr1) (getElem_set_self' (by (try simp only [List.length_set]); rw [HL.out]; exact hlt))
      injection hv3 with hv3; injection hv3 with hv3; injection hv3 with hv3; subst hv3
      have p4 := hs3 3 (.int .i64 (k + 6 * (j : Int) + 1 + 1 + 1)) _ ⟨markT (k + 6 * (j : Int)), k + 6 * (j : Int) + 1, k + 6 * (j : Int) + 1 + 1, k + 6 * (j : Int) + 1 + 1 + 1, y4, y5⟩ rfl rfl rfl
      rw [List.set_set] at p4
      obtain ⟨g4', c4', hv4, _, _, _, _, hs4⟩ := flat_put EPerson_O p4 (by simpa [World.setCell] using hhr1) (getElem_set_self' (by (try simp only [List.length_set]); rw [HL.out]; exact hlt))
      injection hv4 with hv4; injection hv4 with hv4; injection hv4 with hv4; subst hv4
      have p5 := hs4 4 (.int .i64 (k + 6 * (j : Int) + 1 + 1 + 1 + 1)) _ ⟨markT (k + 6 * (j : Int)), k + 6 * (j : Int) + 1, k + 6 * (j : Int) + 1 + 1, k + 6 * (j : Int) + 1 + 1 + 1, k + 6 * (j : Int) + 1 + 1 + 1 + 1, y5⟩ rfl rfl rfl
      rw [List.set_set] at p5
      obtain ⟨g5', c5', hv5, _, _, _, _, hs5⟩ := flat_put EPerson_O p5 (by simpa [World.setCell] using hhr1) (getElem_set_self' (by (try simp only [List.length_set]); rw [HL.out]; exact hlt))
      injection hv5 with hv5; injection hv5 with hv5; injection hv5 with hv5; subst hv5
      have p6 := hs5 5 (.int .i64 (k + 6 * (j : Int) + 1 + 1 + 1 + 1 + 1)) _ ⟨markT (k + 6 * (j : Int)), k + 6 * (j : Int) + 1, k + 6 * (j : Int) + 1 + 1, k + 6 * (j : Int) + 1 + 1 + 1, k + 6 * (j : Int) + 1 + 1 + 1 + 1, k + 6 * (j : Int) + 1 + 1 + 1 + 1 + 1⟩ rfl rfl rfl
      rw [List.set_set] at p6
      clear p1 p2 p3 p4 p5 hs0 hs1 hs2 hs3 hs4 hs5 p0
      rw [show (⟨markT (k + 6 * (j : Int)), k + 6 * (j : Int) + 1, k + 6 * (j : Int) + 1 + 1, k + 6 * (j : Int) + 1 + 1 + 1, k + 6 * (j : Int) + 1 + 1 + 1 + 1, k + 6 * (j : Int) + 1 + 1 + 1 + 1 + 1⟩ : Person) = markPerson k j from rfl, mkTo_mid hlt] at p6
      simp only [EPerson, Elem.flat, Nat.add_zero] at p6
      exact ⟨⟨j + 1, by omega, by go_num, by first | go_num | (simp; omega), by first | exact p6 | simpa using p6, ((((((hch1.setCell (p := ⟨g, j * 6, none⟩) ⟨g1, g2⟩ _).setCell (p := ⟨g, j * 6 + 1, none⟩) ⟨g1, g2⟩ _).setCell (p := ⟨g, j * 6 + 2, none⟩) ⟨g1, g2⟩ _).setCell (p := ⟨g, j * 6 + 3, none⟩) ⟨g1, g2⟩ _).setCell (p := ⟨g, j * 6 + 4, none⟩) ⟨g1, g2⟩ _).setCell (p := ⟨g, j * 6 + 5, none⟩) ⟨g1, g2⟩ _), by simpa [World.setCell] using hhr1⟩, by simp [intOf]; omega⟩
    · obtain rfl : j = xs.length := by omega
      go_wp2
      go_ret
      exact ⟨rfl, by simpa using ho, hch⟩
def HeldPRel (n : Nat) (k : Int) (w : World) (kk i : Value) (wr : World) : Prop := ∃ j : Nat, j ≤ n ∧ i = .int .i64 j ∧ kk = .int .i64 (k + 6 * j) ∧ Below w.heap.size w wr
set_option maxHeartbeats 8000000 in
theorem heldPersonS_any (A : Option Addr) (c lo hi : Nat) (xs : List Person) (k : Int) (w : World) (h : EPerson.AS w lo hi A (mkTo (markPerson k) xs.length)) (hh : hi ≤ w.heap.size) (h0 : 0 < k) (h1 : k + 6 * xs.length ≤ 4611686018427387904) :
    Calls Tryz.prog 21 #[.slice A xs.length c, .int .i64 k] w fun e w' => e = .returned (.int .i64 (k + 6 * xs.length)) ∧ Below w.heap.size w w' := by
  have hx := h.le
  rw [mkTo_len] at hx
  unfold BIG at hx
  go_enter Tryz.func21, Tryz.ntmps21
  go_wp2
  go_loopw [1, 5] (fun kk i wr => HeldPRel xs.length k w kk i wr) (fun _ i _ => xs.length - (intOf i).toNat)
  case atStart => exact ⟨0, Nat.zero_le _, rfl, by simp, Below.refl _ _⟩
  case round =>
    obtain ⟨j, hj, rfl, rfl, hb⟩ := hrel
    have hz := hb.size
    by_cases hlt : j < xs.length
    · obtain ⟨b, off, x, rfl, hb1, hb2, _, hxk, hc0, hc1, hc2, hc3, hc4, hc5⟩ := APerson.at_ (h.same (Same.of_below hb hh)) (by rw [mkTo_len]; exact hlt)
      rw [mkTo_get hlt] at hxk
      injection hxk with hxk
      subst hxk
      simp only [markPerson] at hc0 hc1 hc2 hc3 hc4 hc5
      have i1 : (0 : Int) ≤ (j : Int) ∧ (j : Int) < (xs.length : Int) := by omega
      go_wp2
      go_region_held3 (fun w' => w'.cell? ⟨b, off + j * 6, none⟩ = some (.string (markT (k + 6 * (j : Int))))) (first | exact hc0 | exact (hb1'.cell (by simp; omega)).trans hc0)
        (first | (go_at_call 51; (with_reducible refine (markText_any _ _ (by omega) (by omega)).mono ?_); rintro e w1 ⟨rfl, hb1'⟩))
      have hb1'' := undrew hb1'
      have z1 := hb1''.size
      replace hc1 := (hb1''.cell (p := ⟨b, off + j * 6 + 1, none⟩) (by simp; omega)).trans hc1
      replace hc2 := (hb1''.cell (p := ⟨b, off + j * 6 + 2, none⟩) (by simp; omega)).trans hc2
      replace hc3 := (hb1''.cell (p := ⟨b, off + j * 6 + 3, none⟩) (by simp; omega)).trans hc3
      replace hc4 := (hb1''.cell (p := ⟨b, off + j * 6 + 4, none⟩) (by simp; omega)).trans hc4
      replace hc5 := (hb1''.cell (p := ⟨b, off + j * 6 + 5, none⟩) (by simp; omega)).trans hc5
      go_wp2
      exact ⟨⟨j + 1, by omega, by go_num, by first | go_num | (simp; omega), hb.trans (hb1''.mono (by omega))⟩, by simp [intOf]; omega⟩
    · obtain rfl : j = xs.length := by omega
      go_wp2
      go_ret
      exact ⟨rfl, hb⟩
end Go.Proofs.YthpcippgifmabaaGreatDoor
