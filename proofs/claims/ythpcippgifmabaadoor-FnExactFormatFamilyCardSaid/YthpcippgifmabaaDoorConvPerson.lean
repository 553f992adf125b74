/-
  Persons: sizes, copies, equality, marks.
-/
import Derived.Test.YthpcippgifmabaaDoorFlat
import Derived.Test.YthpcippgifmabaaDoorMarkText
namespace Go.Proofs.YthpcippgifmabaaDoor
set_option maxRecDepth 100000
open Go.RowKit

structure Person where
  name : ByteArray
  sex : Int
  father : Int
  mother : Int
  born : Int
  died : Int
  deriving DecidableEq
def EPerson : Elem Person := .flat 39 6 (fun s => [.string s.name, .int .i64 s.sex, .int .i64 s.father, .int .i64 s.mother, .int .i64 s.born, .int .i64 s.died]) (fun _ => rfl) (fun _ => rfl)
def vsPerson (s : Person) : List Value := [.string s.name, .int .i64 s.sex, .int .i64 s.father, .int .i64 s.mother, .int .i64 s.born, .int .i64 s.died]
theorem EPerson_O (w : World) (lo hi : Nat) (cs : List Value) (x : Person) : EPerson.O w lo hi cs x ↔ cs = vsPerson x := Iff.rfl
section
variable {w : World} {lo hi : Nat} {A : Option Addr} {k : Nat}
theorem APerson.at_ {xs : List Person} (h : EPerson.AS w lo hi A xs) (hk : k < xs.length) : ∃ b off x, A = some ⟨b, off, none⟩ ∧ lo ≤ b ∧ b < hi ∧ xs.drop k = x :: xs.drop (k + 1) ∧ xs[k]? = some x ∧
    w.cell? ⟨b, off + k * 6, none⟩ = some (.string x.name) ∧ w.cell? ⟨b, off + k * 6 + 1, none⟩ = some (.int .i64 x.sex) ∧ w.cell? ⟨b, off + k * 6 + 2, none⟩ = some (.int .i64 x.father) ∧ w.cell? ⟨b, off + k * 6 + 3, none⟩ = some (.int .i64 x.mother) ∧ w.cell? ⟨b, off + k * 6 + 4, none⟩ = some (.int .i64 x.born) ∧ w.cell? ⟨b, off + k * 6 + 5, none⟩ = some (.int .i64 x.died) := by
  obtain ⟨b, off, x, cs, rfl, h1, h2, h3, h4, rfl, hc⟩ := h.at_ hk
  exact ⟨b, off, x, rfl, h1, h2, h3, h4, by simpa [EPerson, Elem.flat, Nat.add_assoc] using hc 0 _ rfl, by simpa [EPerson, Elem.flat, Nat.add_assoc] using hc 1 _ rfl, by simpa [EPerson, Elem.flat, Nat.add_assoc] using hc 2 _ rfl, by simpa [EPerson, Elem.flat, Nat.add_assoc] using hc 3 _ rfl, by simpa [EPerson, Elem.flat, Nat.add_assoc] using hc 4 _ rfl, by simpa [EPerson, Elem.flat, Nat.add_assoc] using hc 5 _ rfl⟩
end

def totP : List Person → Nat
  | [] => 0
  | x :: r => x.name.size + totP r
theorem szPerson_any (x0 : ByteArray) (x1 x2 x3 x4 x5 : Int) (left : Int) (w : World) (h0 : 0 ≤ left) (h1 : left ≤ 1048576) (hs : x0.size ≤ 4000000000000000000) :
    Calls Tryd.prog 26 #[.agg #[.string x0, .int .i64 x1, .int .i64 x2, .int .i64 x3, .int .i64 x4, .int .i64 x5], .int .i64 left] w fun e w' => ∃ r, e = .returned (.int .i64 r) ∧ Below w.heap.size w w' ∧ Sz r left x0.size := by
  go_enter Tryd.func26, Tryd.ntmps26
  go_wp2
  · go_ret; exact ⟨_, rfl, by (with_reducible repeat' first | exact Below.refl _ _ | assumption | (refine Below.setCell ?_ (by first | omega | (simp; omega) | (simp; done) | (dsimp only; omega)) _) | (refine Below.alloc ?_ (by first | omega | (simp; omega) | (simp; done) | (dsimp only; omega)) _) | (refine below_drewN ?_ _) | (refine Below.drew ?_)), .inl ⟨rfl, by omega⟩⟩
  · go_ret; exact ⟨_, rfl, by (with_reducible repeat' first | exact Below.refl _ _ | assumption | (refine Below.setCell ?_ (by first | omega | (simp; omega) | (simp; done) | (dsimp only; omega)) _) | (refine Below.alloc ?_ (by first | omega | (simp; omega) | (simp; done) | (dsimp only; omega)) _) | (refine below_drewN ?_ _) | (refine Below.drew ?_)), .inr ⟨by omega, rfl⟩⟩

def SzPRel (xs : List Person) (left : Int) (w : World) (l i : Value) (wr : World) : Prop :=
  ∃ (k : Nat) (r : Int), k ≤ xs.length ∧ i = .int .i64 k ∧ l = .int .i64 r ∧ Below w.heap.size w wr ∧ 0 ≤ r ∧ r = left - xs.length - totP (xs.take k)
theorem totP_take {xs : List Person} : ∀ {k : Nat} {x : Person}, xs[k]? = some x → totP (xs.take (k + 1)) = totP (xs.take k) + x.name.size := by
  induction xs with
  | nil => intro k x h; simp at h
  | cons y r ih =>
    intro k x h
    cases k with
    | zero => simp at h; subst h; simp [totP]
    | succ k => simp at h; simp only [List.take_succ_cons, totP, ih h]; omega
theorem totP_le (xs : List Person) : ∀ k, totP (xs.take k) ≤ totP xs := by
  induction xs with
  | nil => intro k; simp [totP]
  | cons y r ih => intro k; cases k with
    | zero => simp [totP]
    | succ k => simp only [List.take_succ_cons, totP]; have := ih k; omega
set_option maxHeartbeats 1000000 in
theorem szPersonS_any (A : Option Addr) (c lo hi : Nat) (xs : List Person) (left : Int) (w : World) (h : EPerson.AS w lo hi A xs) (h0 : 0 ≤ left) (h1 : left ≤ 1048576) (hh : hi ≤ w.heap.size) (hs : ∀ x ∈ xs, x.name.size ≤ 4000000000000000000) :
    Calls Tryd.prog 9 #[.slice A xs.length c, .int .i64 left] w fun e w' => ∃ r, e = .returned (.int .i64 r) ∧ Below w.heap.size w w' ∧ Sz r left (xs.length + totP xs) := by
  have hx := h.le
  unfold BIG at hx
  go_enter Tryd.func9, Tryd.ntmps9
  go_wp2
  · go_ret; exact ⟨_, rfl, Below.refl _ _, .inl ⟨rfl, by omega⟩⟩
  go_loopw [1, 5] (fun l i wr => SzPRel xs left w l i wr) (fun _ i _ => xs.length - (intOf i).toNat)
  case atStart => exact ⟨0, _, Nat.zero_le _, rfl, rfl, Below.refl _ _, by omega, by simp [totP]⟩
  case round =>
    obtain ⟨k, r, hk, rfl, rfl, hb, hr0, hr⟩ := hrel
    have hz := hb.size
    have ht := totP_le xs k
    have hr1 : r ≤ 1048576 := by omega
    have HR := Lib.hid hr; clear hr
    by_cases hlt : k < xs.length
    · obtain ⟨b, off, ⟨x0, x1, x2, x3, x4, x5⟩, rfl, hb1, hb2, hdr, hxk, hc0, hc1, hc2, hc3, hc4, hc5⟩ := APerson.at_ (h.same (Same.of_below hb hh)) hlt
      have hsx := hs _ (List.mem_of_getElem? hxk)
      have HT := Lib.hid (totP_take hxk); have HL := Lib.hid (totP_le xs (k + 1)); clear hxk hdr
      simp only at hc0 hc1 hc2 hc3 hc4 hc5 hsx
      go_wp2_with (go_at_call 26; go_loud (refine (szPerson_any x0 x1 x2 x3 x4 x5 _ _ hr0 hr1 hsx).mono ?_; rintro e w1 ⟨r1, rfl, hb1', hs1⟩; have hz1 := hb1'.size))
      · go_ret
        refine ⟨_, rfl, by (with_reducible repeat' first | exact Below.refl _ _ | assumption | (refine Below.setCell ?_ (by first | omega | (simp; omega) | (simp; done) | (dsimp only; omega)) _) | (refine Below.alloc ?_ (by first | omega | (simp; omega) | (simp; done) | (dsimp only; omega)) _) | (refine below_drewN ?_ _) | (refine Below.drew ?_) | (refine Below.trans ?_ (hb1'.mono (by first | omega | (simp; omega) | (simp; done) | (dsimp only; omega)))) | (refine Below.trans ?_ (hb.mono (by first | omega | (simp; omega) | (simp; done) | (dsimp only; omega))))), .inl ⟨rfl, ?_⟩⟩
        have h2 := HT.out; have h3 := HL.out; have h4 := HR.out
        rcases hs1 with ⟨_, hs1⟩ | ⟨hs1, _⟩ <;> omega
      · refine ⟨⟨k + 1, r1, by omega, by go_num, rfl, by (with_reducible repeat' first | exact Below.refl _ _ | assumption | (refine Below.setCell ?_ (by first | omega | (simp; omega) | (simp; done) | (dsimp only; omega)) _) | (refine Below.alloc ?_ (by first | omega | (simp; omega) | (simp; done) | (dsimp only; omega)) _) | (refine below_drewN ?_ _) | (refine Below.drew ?_) | (refine Below.trans ?_ (hb1'.mono (by first | omega | (simp; omega) | (simp; done) | (dsimp only; omega)))) | (refine Below.trans ?_ (hb.mono (by first | omega | (simp; omega) | (simp; done) | (dsimp only; omega))))), by omega, ?_⟩, by simp [intOf]; omega⟩
        have h2 := HT.out; have h4 := HR.out
        rcases hs1 with ⟨hs1, _⟩ | ⟨_, hs1⟩ <;> omega
    · have hr := HR.out
      obtain rfl : k = xs.length := by omega
      rw [List.take_length] at hr
      go_wp2
      go_ret
      exact ⟨_, rfl, hb, .inr ⟨hr0, by omega⟩⟩

theorem str_eq {a b : ByteArray} : a.toList = b.toList ↔ a = b := by
  constructor
  · intro h; rw [ByteArray.toList_eq, ByteArray.toList_eq] at h; exact ByteArray.ext (Array.toList_inj.1 h)
  · rintro rfl; rfl
theorem toPerson_any (x0 : ByteArray) (x1 : Int) (x2 : Int) (x3 : Int) (x4 : Int) (x5 : Int) (w : World) :
    Calls Tryd.prog 30 #[.agg #[.string x0, .int .i64 x1, .int .i64 x2, .int .i64 x3, .int .i64 x4, .int .i64 x5]] w fun e w' => e = .returned (.agg #[.string x0, .int .i64 x1, .int .i64 x2, .int .i64 x3, .int .i64 x4, .int .i64 x5]) ∧ Below w.heap.size w w' := by
  go_enter Tryd.func30, Tryd.ntmps30
  go_wp2
  exact bodyPost_ret (v := .agg #[.string x0, .int .i64 x1, .int .i64 x2, .int .i64 x3, .int .i64 x4, .int .i64 x5]) (by simp [results, Tryd.results30, go_sem]) rfl ⟨rfl, by (with_reducible repeat' first | exact Below.refl _ _ | assumption | (refine Below.setCell ?_ (by first | omega | (simp; omega) | (simp; done) | (dsimp only; omega)) _) | (refine Below.alloc ?_ (by first | omega | (simp; omega) | (simp; done) | (dsimp only; omega)) _) | (refine below_drewN ?_ _) | (refine Below.drew ?_))⟩

theorem eqPerson_any (x0 : ByteArray) (x1 : Int) (x2 : Int) (x3 : Int) (x4 : Int) (x5 : Int) (y0 : ByteArray) (y1 : Int) (y2 : Int) (y3 : Int) (y4 : Int) (y5 : Int) (w : World) :
    Calls Tryd.prog 39 #[.agg #[.string x0, .int .i64 x1, .int .i64 x2, .int .i64 x3, .int .i64 x4, .int .i64 x5], .agg #[.string y0, .int .i64 y1, .int .i64 y2, .int .i64 y3, .int .i64 y4, .int .i64 y5]] w fun e w' => e = .returned (.bool (eqB (⟨x0, x1, x2, x3, x4, x5⟩ : Person) ⟨y0, y1, y2, y3, y4, y5⟩)) ∧ Below w.heap.size w w' := by
  go_enter Tryd.func39, Tryd.ntmps39
  go_wp2
  all_goals (go_ret; exact ⟨ret_bool (by simp_all [eqB, str_eq]), by (with_reducible repeat' first | exact Below.refl _ _ | assumption | (refine Below.setCell ?_ (by first | omega | (simp; omega) | (simp; done) | (dsimp only; omega)) _) | (refine Below.alloc ?_ (by first | omega | (simp; omega) | (simp; done) | (dsimp only; omega)) _) | (refine below_drewN ?_ _) | (refine Below.drew ?_))⟩)

theorem person_info : (Tryd.prog.info? 39).map (fun i => (i.zero, i.size, i.bytes)) = some (some (.agg #[.string ByteArray.empty, .int .i64 0, .int .i64 0, .int .i64 0, .int .i64 0, .int .i64 0]), 6, 56) := by kernel_rfl

theorem person_fill {k n g e : Nat} {css : List (List Value)} {w1 : World} {a0 a1 a2 a3 a4 a5 : Value} (hf : Fill w1 g e (n * 6) css.flatten (k * 6)) (hl : css.flatten.length = k * 6) (hk : k < n) :
    Fill (((((((w1).setCell ⟨g, k * 6, none⟩ a0).setCell ⟨g, k * 6 + 1, none⟩ a1).setCell ⟨g, k * 6 + 2, none⟩ a2).setCell ⟨g, k * 6 + 3, none⟩ a3).setCell ⟨g, k * 6 + 4, none⟩ a4).setCell ⟨g, k * 6 + 5, none⟩ a5) g e (n * 6) (css.flatten ++ [a0, a1, a2, a3, a4, a5]) ((k + 1) * 6) := by
  have h := (((((hf.push (o := k * 6) (u := a0) hl (by omega) rfl).push (o := k * 6 + 1) (u := a1) (by simp [hl]) (by omega) rfl).push (o := k * 6 + 2) (u := a2) (by simp [hl]) (by omega) rfl).push (o := k * 6 + 3) (u := a3) (by simp [hl]) (by omega) rfl).push (o := k * 6 + 4) (u := a4) (by simp [hl]) (by omega) rfl).push (o := k * 6 + 5) (u := a5) (by simp [hl]) (by omega) rfl
  simpa [Nat.succ_mul] using h
theorem toPersonS_any (A : Option Addr) (c lo hi : Nat) (xs : List Person) (w : World) (h : EPerson.AS w lo hi A xs) (hh : hi ≤ w.heap.size) (hs : xs.length ≤ 1048576) :
    Calls Tryd.prog 15 #[.slice A xs.length c] w fun e w' => ∃ A' c', e = .returned (.slice A' xs.length c') ∧ EPerson.OS w' w.heap.size w'.heap.size (.slice A' xs.length c') xs ∧ Below w.heap.size w w' := by
  obtain ⟨i0, hi0, hz0, hz1, hz2⟩ := info_parts person_info
  have hx := h.le
  have hmk := run_mk (P := Tryd.prog) 28 39 i0 _ 6 56 Tryd.underlying28 hi0 hz0 hz1 hz2 xs.length (by omega) hx
  clear hi0 hz0 hz1 hz2
  unfold BIG at hx
  go_enter Tryd.func15, Tryd.ntmps15
  go_wp2
  go_loopw [4] (fun i wr => ToRel EPerson w xs i wr) (fun i _ => xs.length - (intOf i).toNat)
  case atStart => exact ToRel.start (E := EPerson) _ (by simp [size_madeCells, EPerson, Elem.flat])
  case round =>
    have hrel' := hrel
    obtain ⟨k, css, hk, rfl, hb, hsz, hf, ho⟩ := hrel
    clear hmk
    have hl := Lib.hid (ToRel.flen ho hk)
    by_cases hlt : k < xs.length
    · obtain ⟨b, off, ⟨x0, x1, x2, x3, x4, x5⟩, rfl, hb1, hb2, hdr, hxk, hc0, hc1, hc2, hc3, hc4, hc5⟩ := APerson.at_ (h.same (Same.of_below hb hh)) hlt
      have HX := Lib.hid hxk; clear hxk hrel' hdr
      have hh' : hi ≤ wr.heap.size := by omega
      go_wp2_with (go_at_call 30; refine (toPerson_any x0 x1 x2 x3 x4 x5 wr).mono ?_; rintro e w1 ⟨rfl, hb1'⟩; (have hz1 := hb1'.size); (have hf1 := hf.same (lo := 0) (Same.of_below hb1' (Nat.le_refl _)) (Nat.zero_le _) (by omega)); (obtain ⟨u0, hu0⟩ := hf1.next (i := k * 6) (by simp [EPerson, Elem.flat]; omega)); (have hfz0 := hf1.free (k * 6)); (obtain ⟨u1, hu1⟩ := hf1.next (i := k * 6 + 1) (by simp [EPerson, Elem.flat]; omega)); (have hfz1 := hf1.free (k * 6 + 1)); (obtain ⟨u2, hu2⟩ := hf1.next (i := k * 6 + 2) (by simp [EPerson, Elem.flat]; omega)); (have hfz2 := hf1.free (k * 6 + 2)); (obtain ⟨u3, hu3⟩ := hf1.next (i := k * 6 + 3) (by simp [EPerson, Elem.flat]; omega)); (have hfz3 := hf1.free (k * 6 + 3)); (obtain ⟨u4, hu4⟩ := hf1.next (i := k * 6 + 4) (by simp [EPerson, Elem.flat]; omega)); (have hfz4 := hf1.free (k * 6 + 4)); (obtain ⟨u5, hu5⟩ := hf1.next (i := k * 6 + 5) (by simp [EPerson, Elem.flat]; omega)); (have hfz5 := hf1.free (k * 6 + 5)))
      exact ⟨ToRel.step hlt HX.out (by (with_reducible repeat' first | exact Below.refl _ _ | assumption | (refine Below.setCell ?_ (by first | omega | (simp; omega) | (simp; done) | (dsimp only; omega)) _) | (refine Below.alloc ?_ (by first | omega | (simp; omega) | (simp; done) | (dsimp only; omega)) _) | (refine below_drewN ?_ _) | (refine Below.drew ?_) | (refine Below.trans ?_ (hb1'.mono (by first | omega | (simp; omega) | (simp; done) | (dsimp only; omega)))))) hsz (person_fill hf1 hl.out hlt) ho (by (with_reducible repeat' first | exact Same.refl _ _ _ | assumption | (refine Same.setCell ?_ (by first | omega | (simp; omega) | (simp; done) | (dsimp only; omega)) _) | (refine Same.alloc ?_ (by first | omega | (simp; omega) | (simp; done) | (dsimp only; omega)) _) | (refine Same.drewN ?_ _) | (refine Same.drew ?_) | (refine Same.trans ?_ (Same.of_below hb1' (by first | omega | (simp; omega) | (simp; done) | (dsimp only; omega)))))) rfl, by simp [intOf]; omega⟩
    · have hd := hrel'.done hlt h.le
      clear hrel'
      go_wp2
      go_ret
      exact ⟨_, _, rfl, hd⟩

set_option maxHeartbeats 4000000 in
theorem eqPersonS_any (A B : Option Addr) (c d lo hi lo' hi' : Nat) (xs ys : List Person) (w : World) (h : EPerson.AS w lo hi A xs) (h' : EPerson.AS w lo' hi' B ys) (hh : hi ≤ w.heap.size) (hh' : hi' ≤ w.heap.size) :
    Calls Tryd.prog 24 #[.slice A xs.length c, .slice B ys.length d] w fun e w' => e = .returned (.bool (eqB xs ys)) ∧ Below w.heap.size w w' := by
  have hx := h.le
  unfold BIG at hx
  by_cases hn : xs.length = ys.length
  · have n1 : xs.length ≤ ys.length := by omega
    have n2 : ys.length ≤ xs.length := by omega
    clear hn
    have nb : ((xs.length : Int) != (ys.length : Int)) = false := by simp; omega
    go_enter Tryd.func24, Tryd.ntmps24
    go_wp2
    go_loopw [5] (fun i wr => EqRelB xs ys w i wr) (fun i _ => xs.length - (intOf i).toNat)
    case atStart => exact ⟨0, Nat.zero_le _, rfl, Below.refl _ _, by simp⟩
    case round =>
      obtain ⟨k, hk, rfl, hw, he⟩ := hrel
      have HE := Lib.hid he; clear he
      have h := h.same (Same.of_below hw hh); have h' := h'.same (Same.of_below hw hh')
      have hz := hw.size
      by_cases hlt : k < xs.length
      · obtain ⟨b1, o1, ⟨x0, x1, x2, x3, x4, x5⟩, rfl, l1, m1, hd1', _, hc0, hc1, hc2, hc3, hc4, hc5⟩ := APerson.at_ h hlt
        obtain ⟨b2, o2, ⟨y0, y1, y2, y3, y4, y5⟩, rfl, l2, m2, hd2', _, hd0, hd1, hd2, hd3, hd4, hd5⟩ := APerson.at_ h' (by omega : k < ys.length)
        have HD1 := Lib.hid hd1'; have HD2 := Lib.hid hd2'; clear hd1' hd2'
        have q1 : (0 : Int) ≤ (k : Int) := by omega
        have q2 : (k : Int) < (xs.length : Int) := by omega
        have q3 : (k : Int) < (ys.length : Int) := by omega
        go_wp2
        go_region_held3 (fun w' => w'.cell? ⟨b1, o1 + k * 6, none⟩ = some (.string x0) ∧ w'.cell? ⟨b1, o1 + k * 6 + 1, none⟩ = some (.int .i64 x1) ∧ w'.cell? ⟨b1, o1 + k * 6 + 2, none⟩ = some (.int .i64 x2) ∧ w'.cell? ⟨b1, o1 + k * 6 + 3, none⟩ = some (.int .i64 x3) ∧ w'.cell? ⟨b1, o1 + k * 6 + 4, none⟩ = some (.int .i64 x4) ∧ w'.cell? ⟨b1, o1 + k * 6 + 5, none⟩ = some (.int .i64 x5) ∧ w'.cell? ⟨b2, o2 + k * 6, none⟩ = some (.string y0) ∧ w'.cell? ⟨b2, o2 + k * 6 + 1, none⟩ = some (.int .i64 y1) ∧ w'.cell? ⟨b2, o2 + k * 6 + 2, none⟩ = some (.int .i64 y2) ∧ w'.cell? ⟨b2, o2 + k * 6 + 3, none⟩ = some (.int .i64 y3) ∧ w'.cell? ⟨b2, o2 + k * 6 + 4, none⟩ = some (.int .i64 y4) ∧ w'.cell? ⟨b2, o2 + k * 6 + 5, none⟩ = some (.int .i64 y5)) (first | exact ⟨hc0, hc1, hc2, hc3, hc4, hc5, hd0, hd1, hd2, hd3, hd4, hd5⟩ | exact ⟨(hb1.cell (by simp; omega)).trans hc0, (hb1.cell (by simp; omega)).trans hc1, (hb1.cell (by simp; omega)).trans hc2, (hb1.cell (by simp; omega)).trans hc3, (hb1.cell (by simp; omega)).trans hc4, (hb1.cell (by simp; omega)).trans hc5, (hb1.cell (by simp; omega)).trans hd0, (hb1.cell (by simp; omega)).trans hd1, (hb1.cell (by simp; omega)).trans hd2, (hb1.cell (by simp; omega)).trans hd3, (hb1.cell (by simp; omega)).trans hd4, (hb1.cell (by simp; omega)).trans hd5⟩)
          (first | (go_at_call 39; refine (eqPerson_any x0 x1 x2 x3 x4 x5 y0 y1 y2 y3 y4 y5 _).mono ?_; rintro e w1 ⟨rfl, hb1⟩))
        have hw1 := hw.trans (((Below.refl _ _).drew.trans hb1).mono hz)
        go_wp2
        · have hxy : (!eqB (⟨x0, x1, x2, x3, x4, x5⟩ : Person) ⟨y0, y1, y2, y3, y4, y5⟩) = true := by assumption
          go_ret
          exact ⟨ret_bool (eqB_no HE.out HD1.out HD2.out (not_true hxy)), hw1⟩
        · have hxy : (!eqB (⟨x0, x1, x2, x3, x4, x5⟩ : Person) ⟨y0, y1, y2, y3, y4, y5⟩) = false := by assumption
          exact ⟨⟨k + 1, by omega, by go_num, hw1, eqB_yes HE.out HD1.out HD2.out (not_false hxy)⟩, by simp [intOf]; omega⟩
      · go_wp2
        go_ret
        exact ⟨ret_bool (eqB_end HE.out (by omega) (by omega)), hw⟩
  · go_enter Tryd.func24, Tryd.ntmps24
    go_wp2
    go_ret
    exact ⟨ret_bool (eqB_len hn).symm, Below.refl _ _⟩

def markPerson (k : Int) (i : Nat) : Person := ⟨markT (k + 6 * i), k + 6 * i + 1, k + 6 * i + 1 + 1, k + 6 * i + 1 + 1 + 1, k + 6 * i + 1 + 1 + 1 + 1, k + 6 * i + 1 + 1 + 1 + 1 + 1⟩
def MarkPRel (w : World) (lo hi : Nat) (v : Value) (xs : List Person) (k : Int) (kk i : Value) (wr : World) : Prop :=
  ∃ j : Nat, j ≤ xs.length ∧ i = .int .i64 j ∧ kk = .int .i64 (k + 6 * j) ∧ EPerson.OS wr lo hi v (mkTo (markPerson k) j ++ xs.drop j) ∧ Chg lo hi w wr ∧ hi ≤ wr.heap.size
def HeldPRel (n : Nat) (k : Int) (w : World) (kk i : Value) (wr : World) : Prop := ∃ j : Nat, j ≤ n ∧ i = .int .i64 j ∧ kk = .int .i64 (k + 6 * j) ∧ Below w.heap.size w wr
end Go.Proofs.YthpcippgifmabaaDoor
