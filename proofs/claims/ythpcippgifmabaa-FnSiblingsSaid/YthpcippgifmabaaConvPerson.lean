/-
  Persons: sizes, copies, equality, marks.
-/
import Derived.Test.YthpcippgifmabaaFlat
import Derived.Test.YthpcippgifmabaaMarkText
namespace Go.Proofs.Ythpcippgifmabaa
set_option maxRecDepth 100000
open Go.RowKit

structure Person where
  name : ByteArray
  sex : Int
  father : Int
  mother : Int
  born : Int
  died : Int
  deriving DecidableEq
def EPerson : Elem Person := .flat 48 6 (fun s => [.string s.name, .int .i64 s.sex, .int .i64 s.father, .int .i64 s.mother, .int .i64 s.born, .int .i64 s.died]) (fun _ => rfl) (fun _ => rfl)
def vsPerson (s : Person) : List Value := [.string s.name, .int .i64 s.sex, .int .i64 s.father, .int .i64 s.mother, .int .i64 s.born, .int .i64 s.died]
theorem EPerson_O (w : World) (lo hi : Nat) (cs : List Value) (x : Person) : EPerson.O w lo hi cs x ↔ cs = vsPerson x := Iff.rfl
section
variable {w : World} {lo hi : Nat} {A : Option Addr} {k : Nat}
theorem APerson.at_ {xs : List Person} (h : EPerson.AS w lo hi A xs) (hk : k < xs.length) : ∃ b off x, A = some ⟨b, off, none⟩ ∧ lo ≤ b ∧ b < hi ∧ xs.drop k = x :: xs.drop (k + 1) ∧ xs[k]? = some x ∧
    w.cell? ⟨b, off + k * 6, none⟩ = some (.string x.name) ∧ w.cell? ⟨b, off + k * 6 + 1, none⟩ = some (.int .i64 x.sex) ∧ w.cell? ⟨b, off + k * 6 + 2, none⟩ = some (.int .i64 x.father) ∧ w.cell? ⟨b, off + k * 6 + 3, none⟩ = some (.int .i64 x.mother) ∧ w.cell? ⟨b, off + k * 6 + 4, none⟩ = some (.int .i64 x.born) ∧ w.cell? ⟨b, off + k * 6 + 5, none⟩ = some (.int .i64 x.died) := by
  obtain ⟨b, off, x, cs, rfl, h1, h2, h3, h4, rfl, hc⟩ := h.at_ hk
  exact ⟨b, off, x, rfl, h1, h2, h3, h4, by simpa [EPerson, Elem.flat, Nat.add_assoc] using hc 0 _ rfl, by simpa [EPerson, Elem.flat, Nat.add_assoc] using hc 1 _ rfl, by simpa [EPerson, Elem.flat, Nat.add_assoc] using hc 2 _ rfl, by simpa [EPerson, Elem.flat, Nat.add_assoc] using hc 3 _ rfl, by simpa [EPerson, Elem.flat, Nat.add_assoc] using hc 4 _ rfl, by simpa [EPerson, Elem.flat, Nat.add_assoc] using hc 5 _ rfl⟩
end

def totP : List Person → Nat
  | [] => 0
  | x :: r => x.name.size + totP r
theorem szPerson_any (x0 : ByteArray) (x1 x2 x3 x4 x5 : Int) (left : Int) (w : World) (h0 : 0 ≤ left) (h1 : left ≤ 1048576) (hs : x0.size ≤ 4000000000000000000) :
    Calls Try.prog 58 #[.agg #[.string x0, .int .i64 x1, .int .i64 x2, .int .i64 x3, .int .i64 x4, .int .i64 x5], .int .i64 left] w fun e w' => ∃ r, e = .returned (.int .i64 r) ∧ Below w.heap.size w w' ∧ Sz r left x0.size := by
  go_enter Try.func58, Try.ntmps58
  go_wp2
  · go_ret; exact ⟨_, rfl, by (with_reducible repeat' first | exact Below.refl _ _ | assumption | (refine Below.setCell ?_ (by first | omega | (simp; omega) | (simp; done) | (dsimp only; omega)) _) | (refine Below.alloc ?_ (by first | omega | (simp; omega) | (simp; done) | (dsimp only; omega)) _) | (refine below_drewN ?_ _) | (refine Below.drew ?_)), .inl ⟨rfl, by omega⟩⟩
  · go_ret; exact ⟨_, rfl, by (with_reducible repeat' first | exact Below.refl _ _ | assumption | (refine Below.setCell ?_ (by first | omega | (simp; omega) | (simp; done) | (dsimp only; omega)) _) | (refine Below.alloc ?_ (by first | omega | (simp; omega) | (simp; done) | (dsimp only; omega)) _) | (refine below_drewN ?_ _) | (refine Below.drew ?_)), .inr ⟨by omega, rfl⟩⟩

def SzPRel (xs : List Person) (left : Int) (w : World) (l i : Value) (wr : World) : Prop :=
  ∃ (k : Nat) (r : Int), k ≤ xs.length ∧ i = .int .i64 k ∧ l = .int .i64 r ∧ Below w.heap.size w wr ∧ 0 ≤ r ∧ r = left - xs.length - totP (xs.take k)
theorem totP_take {xs : List Person} : ∀ {k : Nat} {x : Person}, xs[k]? = some x → totP (xs.take (k + 1)) = totP (xs.take k) + x.name.size := by
  induction xs with
  | nil => intro k x h; simp at h
  | cons y r ih =>
    intro k x h
    cases k with
    | zero => simp at h; subst h; simp [totP]
    | succ k => simp at h; simp only [List.take_succ_cons, totP, ih h]; omega
theorem totP_le (xs : List Person) : ∀ k, totP (xs.take k) ≤ totP xs := by
  induction xs with
  | nil => intro k; simp [totP]
  | cons y r ih => intro k; cases k with
    | zero => simp [totP]
    | succ k => simp only [List.take_succ_cons, totP]; have := ih k; omega
set_option maxHeartbeats 1000000 in
theorem szPersonS_any (A : Option Addr) (c lo hi : Nat) (xs : List Person) (left : Int) (w : World) (h : EPerson.AS w lo hi A xs) (h0 : 0 ≤ left) (h1 : left ≤ 1048576) (hh : hi ≤ w.heap.size) (hs : ∀ x ∈ xs, x.name.size ≤ 4000000000000000000) :
    Calls Try.prog 39 #[.slice A xs.length c, .int .i64 left] w fun e w' => ∃ r, e = .returned (.int .i64 r) ∧ Below w.heap.size w w' ∧ Sz r left (xs.length + totP xs) := by
  have hx := h.le
  unfold BIG at hx
  go_enter Try.func39, Try.ntmps39
  go_wp2
  · go_ret; exact ⟨_, rfl, Below.refl _ _, .inl ⟨rfl, by omega⟩⟩
  go_loopw [1, 5] (fun l i wr => SzPRel xs left w l i wr) (fun _ i _ => xs.length - (intOf i).toNat)
  case atStart => exact ⟨0, _, Nat.zero_le _, rfl, rfl, Below.refl _ _, by omega, by simp [totP]⟩
  case round =>
    obtain ⟨k, r, hk, rfl, rfl, hb, hr0, hr⟩ := hrel
    have hz := hb.size
    have ht := totP_le xs k
    have hr1 : r ≤ 1048576 := by omega
    have HR := Lib.hid hr; clear hr
    by_cases hlt : k < xs.length
    · obtain ⟨b, off, ⟨x0, x1, x2, x3, x4, x5⟩, rfl, hb1, hb2, hdr, hxk, hc0, hc1, hc2, hc3, hc4, hc5⟩ := APerson.at_ (h.same (Same.of_below hb hh)) hlt
      have hsx := hs _ (List.mem_of_getElem? hxk)
      have HT := Lib.hid (totP_take hxk); have HL := Lib.hid (totP_le xs (k + 1)); clear hxk hdr
      simp only at hc0 hc1 hc2 hc3 hc4 hc5 hsx
      go_wp2_with (go_at_call 58; go_loud (refine (szPerson_any x0 x1 x2 x3 x4 x5 _ _ hr0 hr1 hsx).mono ?_; rintro e w1 ⟨r1, rfl, hb1', hs1⟩; have hz1 := hb1'.size))
      · go_ret
        refine ⟨_, rfl, by (with_reducible repeat' first | exact Below.refl _ _ | assumption | (refine Below.setCell ?_ (by first | omega | (simp; omega) | (simp; done) | (dsimp only; omega)) _) | (refine Below.alloc ?_ (by first | omega | (simp; omega) | (simp; done) | (dsimp only; omega)) _) | (refine below_drewN ?_ _) | (refine Below.drew ?_) | (refine Below.trans ?_ (hb1'.mono (by first | omega | (simp; omega) | (simp; done) | (dsimp only; omega)))) | (refine Below.trans ?_ (hb.mono (by first | omega | (simp; omega) | (simp; done) | (dsimp only; omega))))), .inl ⟨rfl, ?_⟩⟩
        have h2 := HT.out; have h3 := HL.out; have h4 := HR.out
        rcases hs1 with ⟨_, hs1⟩ | ⟨hs1, _⟩ <;> omega
      · refine ⟨⟨k + 1, r1, by omega, by go_num, rfl, by (with_reducible repeat' first | exact Below.refl _ _ | assumption | (refine Below.setCell ?_ (by first | omega | (simp; omega) | (simp; done) | (dsimp only; omega)) _) | (refine Below.alloc ?_ (by first | omega | (simp; omega) | (simp; done) | (dsimp only; omega)) _) | (refine below_drewN ?_ _) | (refine Below.drew ?_) | (refine Below.trans ?_ (hb1'.mono (by first | omega | (simp; omega) | (simp; done) | (dsimp only; omega)))) | (refine Below.trans ?_ (hb.mono (by first | omega | (simp; omega) | (simp; done) | (dsimp only; omega))))), by omega, ?_⟩, by simp [intOf]; omega⟩
        have h2 := HT.out; have h4 := HR.out
        rcases hs1 with ⟨hs1, _⟩ | ⟨_, hs1⟩ <;> omega
    · have hr := HR.out
      obtain rfl : k = xs.length := by omega
      rw [List.take_length] at hr
      go_wp2
      go_ret
      exact ⟨_, rfl, hb, .inr ⟨hr0, by omega⟩⟩

theorem str_eq {a b : ByteArray} : a.toList = b.toList ↔ a = b := by
  constructor
  · intro h; rw [ByteArray.toList_eq, ByteArray.toList_eq] at h; exact ByteArray.ext (Array.toList_inj.1 h)
  · rintro rfl; rfl
theorem toPerson_any (x0 : ByteArray) (x1 : Int) (x2 : Int) (x3 : Int) (x4 : Int) (x5 : Int) (w : World) :
    Calls Try.prog 59 #[.agg #[.string x0, .int .i64 x1, .int .i64 x2, .int .i64 x3, .int .i64 x4, .int .i64 x5]] w fun e w' => e = .returned (.agg #[.string x0, .int .i64 x1, .int .i64 x2, .int .i64 x3, .int .i64 x4, .int .i64 x5]) ∧ Below w.heap.size w w' := by
  go_enter Try.func59, Try.ntmps59
  go_wp2
  exact bodyPost_ret (v := .agg #[.string x0, .int .i64 x1, .int .i64 x2, .int .i64 x3, .int .i64 x4, .int .i64 x5]) (by simp [results, Try.results59, go_sem]) rfl ⟨rfl, by (with_reducible repeat' first | exact Below.refl _ _ | assumption | (refine Below.setCell ?_ (by first | omega | (simp; omega) | (simp; done) | (dsimp only; omega)) _) | (refine Below.alloc ?_ (by first | omega | (simp; omega) | (simp; done) | (dsimp only; omega)) _) | (refine below_drewN ?_ _) | (refine Below.drew ?_))⟩

theorem eqPerson_any (x0 : ByteArray) (x1 : Int) (x2 : Int) (x3 : Int) (x4 : Int) (x5 : Int) (y0 : ByteArray) (y1 : Int) (y2 : Int) (y3 : Int) (y4 : Int) (y5 : Int) (w : World) :
    Calls Try.prog 61 #[.agg #[.string x0, .int .i64 x1, .int .i64 x2, .int .i64 x3, .int .i64 x4, .int .i64 x5], .agg #[.string y0, .int .i64 y1, .int .i64 y2, .int .i64 y3, .int .i64 y4, .int .i64 y5]] w fun e w' => e = .returned (.bool (eqB (⟨x0, x1, x2, x3, x4, x5⟩ : Person) ⟨y0, y1, y2, y3, y4, y5⟩)) ∧ Below w.heap.size w w' := by
  go_enter Try.func61, Try.ntmps61
  go_wp2
  all_goals (go_ret; exact ⟨ret_bool (by simp_all [eqB, str_eq]), by (with_reducible repeat' first | exact Below.refl _ _ | assumption | (refine Below.setCell ?_ (by first | omega | (simp; omega) | (simp; done) | (dsimp only; omega)) _) | (refine Below.alloc ?_ (by first | omega | (simp; omega) | (simp; done) | (dsimp only; omega)) _) | (refine below_drewN ?_ _) | (refine Below.drew ?_))⟩)

theorem person_info : (Try.prog.info? 48).map (fun i => (i.zero, i.size, i.bytes)) = some (some (.agg #[.string ByteArray.empty, .int .i64 0, .int .i64 0, .int .i64 0, .int .i64 0, .int .i64 0]), 6, 56) := by kernel_rfl

theorem person_fill {k n g e : Nat} {css : List (List Value)} {w1 : World} {a0 a1 a2 a3 a4 a5 : Value} (hf : Fill w1 g e (n * 6) css.flatten (k * 6)) (hl : css.flatten.length = k * 6) (hk : k < n) :
    Fill (((((((w1).setCell ⟨g, k * 6, none⟩ a0).setCell ⟨g, k * 6 + 1, none⟩ a1).setCell ⟨g, k * 6 + 2, none⟩ a2).setCell ⟨g, k * 6 + 3, none⟩ a3).setCell ⟨g, k * 6 + 4, none⟩ a4).setCell ⟨g, k * 6 + 5, none⟩ a5) g e (n * 6) (css.flatten ++ [a0, a1, a2, a3, a4, a5]) ((k + 1) * 6) := by
  have h := (((((hf.push (o := k * 6) (u := a0) hl (by omega) rfl).push (o := k * 6 + 1) (u := a1) (by simp [hl]) (by omega) rfl).push (o := k * 6 + 2) (u := a2) (by simp [hl]) (by omega) rfl).push (o := k * 6 + 3) (u := a3) (by simp [hl]) (by omega) rfl).push (o := k * 6 + 4) (u := a4) (by simp [hl]) (by omega) rfl).push (o := k * 6 + 5) (u := a5) (by simp [hl]) (by omega) rfl
  simpa [Nat.succ_mul] using h
theorem toPersonS_any (A : Option Addr) (c lo hi : Nat) (xs : List Person) (w : World) (h : EPerson.AS w lo hi A xs) (hh : hi ≤ w.heap.size) (hs : xs.length ≤ 1048576) :
    Calls Try.prog 41 #[.slice A xs.length c] w fun e w' => ∃ A' c', e = .returned (.slice A' xs.length c') ∧ EPerson.OS w' w.heap.size w'.heap.size (.slice A' xs.length c') xs ∧ Below w.heap.size w w' := by
  obtain ⟨i0, hi0, hz0, hz1, hz2⟩ := info_parts person_info
  have hx := h.le
  have hmk := run_mk (P := Try.prog) 23 48 i0 _ 6 56 Try.underlying23 hi0 hz0 hz1 hz2 xs.length (by omega) hx
  clear hi0 hz0 hz1 hz2
  unfold BIG at hx
  go_enter Try.func41, Try.ntmps41
  go_wp2
  go_loopw [4] (fun i wr => ToRel EPerson w xs i wr) (fun i _ => xs.length - (intOf i).toNat)
  case atStart => exact ToRel.start (E := EPerson) _ (by simp [size_madeCells, EPerson, Elem.flat])
  case round =>
    have hrel' := hrel
    obtain ⟨k, css, hk, rfl, hb, hsz, hf, ho⟩ := hrel
    clear hmk
    have hl := Lib.hid (ToRel.flen ho hk)
    by_cases hlt : k < xs.length
    · obtain ⟨b, off, ⟨x0, x1, x2, x3, x4, x5⟩, rfl, hb1, hb2, hdr, hxk, hc0, hc1, hc2, hc3, hc4, hc5⟩ := APerson.at_ (h.same (Same.of_below hb hh)) hlt
      have HX := Lib.hid hxk; clear hxk hrel' hdr
      have hh' : hi ≤ wr.heap.size := by omega
      go_wp2_with (go_at_call 59; refine (toPerson_any x0 x1 x2 x3 x4 x5 wr).mono ?_; rintro e w1 ⟨rfl, hb1'⟩; (have hz1 := hb1'.size); (have hf1 := hf.same (lo := 0) (Same.of_below hb1' (Nat.le_refl _)) (Nat.zero_le _) (by omega)); (obtain ⟨u0, hu0⟩ := hf1.next (i := k * 6) (by simp [EPerson, Elem.flat]; omega)); (have hfz0 := hf1.free (k * 6)); (obtain ⟨u1, hu1⟩ := hf1.next (i := k * 6 + 1) (by simp [EPerson, Elem.flat]; omega)); (have hfz1 := hf1.free (k * 6 + 1)); (obtain ⟨u2, hu2⟩ := hf1.next (i := k * 6 + 2) (by simp [EPerson, Elem.flat]; omega)); (have hfz2 := hf1.free (k * 6 + 2)); (obtain ⟨u3, hu3⟩ := hf1.next (i := k * 6 + 3) (by simp [EPerson, Elem.flat]; omega)); (have hfz3 := hf1.free (k * 6 + 3)); (obtain ⟨u4, hu4⟩ := hf1.next (i := k * 6 + 4) (by simp [EPerson, Elem.flat]; omega)); (have hfz4 := hf1.free (k * 6 + 4)); (obtain ⟨u5, hu5⟩ := hf1.next (i := k * 6 + 5) (by simp [EPerson, Elem.flat]; omega)); (have hfz5 := hf1.free (k * 6 + 5)))
      exact ⟨ToRel.step hlt HX.out (by (with_reducible repeat' first | exact Below.refl _ _ | assumption | (refine Below.setCell ?_ (by first | omega | (simp; omega) | (simp; done) | (dsimp only; omega)) _) | (refine Below.alloc ?_ (by first | omega | (simp; omega) | (simp; done) | (dsimp only; omega)) _) | (refine below_drewN ?_ _) | (refine Below.drew ?_) | (refine Below.trans ?_ (hb1'.mono (by first | omega | (simp; omega) | (simp; done) | (dsimp only; omega)))))) hsz (person_fill hf1 hl.out hlt) ho (by (with_reducible repeat' first | exact Same.refl _ _ _ | assumption | (refine Same.setCell ?_ (by first | omega | (simp; omega) | (simp; done) | (dsimp only; omega)) _) | (refine Same.alloc ?_ (by first | omega | (simp; omega) | (simp; done) | (dsimp only; omega)) _) | (refine Same.drewN ?_ _) | (refine Same.drew ?_) | (refine Same.trans ?_ (Same.of_below hb1' (by first | omega | (simp; omega) | (simp; done) | (dsimp only; omega)))))) rfl, by simp [intOf]; omega⟩
    · have hd := hrel'.done hlt h.le
      clear hrel'
      go_wp2
      go_ret
      exact ⟨_, _, rfl, hd⟩

set_option maxHeartbeats 4000000 in
theorem eqPersonS_any (A B : Option Addr) (c d lo hi lo' hi' : Nat) (xs ys : List Person) (w : World) (h : EPerson.AS w lo hi A xs) (h' : EPerson.AS w lo' hi' B ys) (hh : hi ≤ w.heap.size) (hh' : hi' ≤ w.heap.size) :
    Calls Try.prog 43 #[.slice A xs.length c, .slice B ys.length d] w fun e w' => e = .returned (.bool (eqB xs ys)) ∧ Below w.heap.size w w' := by
  have hx := h.le
  unfold BIG at hx
  by_cases hn : xs.length = ys.length
  · have n1 : xs.length ≤ ys.length := by omega
    have n2 : ys.length ≤ xs.length := by omega
    clear hn
    have nb : ((xs.length : Int) != (ys.length : Int)) = false := by simp; omega
    go_enter Try.func43, Try.ntmps43
    go_wp2
    go_loopw [5] (fun i wr => EqRelB xs ys w i wr) (fun i _ => xs.length - (intOf i).toNat)
    case atStart => exact ⟨0, Nat.zero_le _, rfl, Below.refl _ _, by simp⟩
    case round =>
      obtain ⟨k, hk, rfl, hw, he⟩ := hrel
      have HE := Lib.hid he; clear he
      have h := h.same (Same.of_below hw hh); have h' := h'.same (Same.of_below hw hh')
      have hz := hw.size
      by_cases hlt : k < xs.length
      · obtain ⟨b1, o1, ⟨x0, x1, x2, x3, x4, x5⟩, rfl, l1, m1, hd1', _, hc0, hc1, hc2, hc3, hc4, hc5⟩ := APerson.at_ h hlt
        obtain ⟨b2, o2, ⟨y0, y1, y2, y3, y4, y5⟩, rfl, l2, m2, hd2', _, hd0, hd1, hd2, hd3, hd4, hd5⟩ := APerson.at_ h' (by omega : k < ys.length)
        have HD1 := Lib.hid hd1'; have HD2 := Lib.hid hd2'; clear hd1' hd2'
        have q1 : (0 : Int) ≤ (k : Int) := by omega
        have q2 : (k : Int) < (xs.length : Int) := by omega
        have q3 : (k : Int) < (ys.length : Int) := by omega
        go_wp2
        go_region_held3 (fun w' => w'.cell? ⟨b1, o1 + k * 6, none⟩ = some (.string x0) ∧ w'.cell? ⟨b1, o1 + k * 6 + 1, none⟩ = some (.int .i64 x1) ∧ w'.cell? ⟨b1, o1 + k * 6 + 2, none⟩ = some (.int .i64 x2) ∧ w'.cell? ⟨b1, o1 + k * 6 + 3, none⟩ = some (.int .i64 x3) ∧ w'.cell? ⟨b1, o1 + k * 6 + 4, none⟩ = some (.int .i64 x4) ∧ w'.cell? ⟨b1, o1 + k * 6 + 5, none⟩ = some (.int .i64 x5) ∧ w'.cell? ⟨b2, o2 + k * 6, none⟩ = some (.string y0) ∧ w'.cell? ⟨b2, o2 + k * 6 + 1, none⟩ = some (.int .i64 y1) ∧ w'.cell? ⟨b2, o2 + k * 6 + 2, none⟩ = some (.int .i64 y2) ∧ w'.cell? ⟨b2, o2 + k * 6 + 3, none⟩ = some (.int .i64 y3) ∧ w'.cell? ⟨b2, o2 + k * 6 + 4, none⟩ = some (.int .i64 y4) ∧ w'.cell? ⟨b2, o2 + k * 6 + 5, none⟩ = some (.int .i64 y5)) (first | exact ⟨hc0, hc1, hc2, hc3, hc4, hc5, hd0, hd1, hd2, hd3, hd4, hd5⟩ | exact ⟨(hb1.cell (by simp; omega)).trans hc0, (hb1.cell (by simp; omega)).trans hc1, (hb1.cell (by simp; omega)).trans hc2, (hb1.cell (by simp; omega)).trans hc3, (hb1.cell (by simp; omega)).trans hc4, (hb1.cell (by simp; omega)).trans hc5, (hb1.cell (by simp; omega)).trans hd0, (hb1.cell (by simp; omega)).trans hd1, (hb1.cell (by simp; omega)).trans hd2, (hb1.cell (by simp; omega)).trans hd3, (hb1.cell (by simp; omega)).trans hd4, (hb1.cell (by simp; omega)).trans hd5⟩)
          (first | (go_at_call 61; refine (eqPerson_any x0 x1 x2 x3 x4 x5 y0 y1 y2 y3 y4 y5 _).mono ?_; rintro e w1 ⟨rfl, hb1⟩))
        have hw1 := hw.trans (((Below.refl _ _).drew.trans hb1).mono hz)
        go_wp2
        · have hxy : (!eqB (⟨x0, x1, x2, x3, x4, x5⟩ : Person) ⟨y0, y1, y2, y3, y4, y5⟩) = true := by assumption
          go_ret
          exact ⟨ret_bool (eqB_no HE.out HD1.out HD2.out (not_true hxy)), hw1⟩
        · have hxy : (!eqB (⟨x0, x1, x2, x3, x4, x5⟩ : Person) ⟨y0, y1, y2, y3, y4, y5⟩) = false := by assumption
          exact ⟨⟨k + 1, by omega, by go_num, hw1, eqB_yes HE.out HD1.out HD2.out (not_false hxy)⟩, by simp [intOf]; omega⟩
      · go_wp2
        go_ret
        exact ⟨ret_bool (eqB_end HE.out (by omega) (by omega)), hw⟩
  · go_enter Try.func43, Try.ntmps43
    go_wp2
    go_ret
    exact ⟨ret_bool (eqB_len hn).symm, Below.refl _ _⟩

def markPerson (k : Int) (i : Nat) : Person := ⟨markT (k + 6 * i), k + 6 * i + 1, k + 6 * i + 1 + 1, k + 6 * i + 1 + 1 + 1, k + 6 * i + 1 + 1 + 1 + 1, k + 6 * i + 1 + 1 + 1 + 1 + 1⟩
def MarkPRel (w : World) (lo hi : Nat) (v : Value) (xs : List Person) (k : Int) (kk i : Value) (wr : World) : Prop :=
  ∃ j : Nat, j ≤ xs.length ∧ i = .int .i64 j ∧ kk = .int .i64 (k + 6 * j) ∧ EPerson.OS wr lo hi v (mkTo (markPerson k) j ++ xs.drop j) ∧ Chg lo hi w wr ∧ hi ≤ wr.heap.size
set_option maxHeartbeats 8000000 in
theorem markPersonS_any (A : Option Addr) (c lo hi : Nat) (xs : List Person) (k : Int) (w : World) (h : EPerson.OS w lo hi (.slice A xs.length c) xs) (hh : hi ≤ w.heap.size) (h0 : 0 < k) (h1 : k + 6 * xs.length ≤ 4611686018427387904) :
    Calls Try.prog 45 #[.slice A xs.length c, .int .i64 k] w fun e w' => e = .returned (.int .i64 (k + 6 * xs.length)) ∧ EPerson.OS w' lo hi (.slice A xs.length c) (mkTo (markPerson k) xs.length) ∧ Chg lo hi w w' := by
  have hx := h.read.as.le
  unfold BIG at hx
  go_enter Try.func45, Try.ntmps45
  go_wp2
  go_loopw [1, 5] (fun kk i wr => MarkPRel w lo hi (.slice A xs.length c) xs k kk i wr) (fun _ i _ => xs.length - (intOf i).toNat)
  case atStart => exact ⟨0, Nat.zero_le _, rfl, by simp, by simpa [mkTo] using h, Chg.refl _ _ _, hh⟩
  case round =>
    obtain ⟨j, hj, rfl, rfl, ho, hch, hhr⟩ := hrel
    by_cases hlt : j < xs.length
    · obtain ⟨⟨y0, y1, y2, y3, y4, y5⟩, hxj⟩ : ∃ x, xs[j]? = some (x : Person) := ⟨_, List.getElem?_eq_getElem hlt⟩
      have hl0 := mkTo_mlen (m := markPerson k) hj
      have hxm := mkTo_at (m := markPerson k) hxj
      obtain ⟨g, c1, hv, g1, g2, g3, hc, _⟩ := flat_put EPerson_O ho hhr hxm
      rw [hl0] at hv
      injection hv with hv _ hcc
      subst hv; subst hcc
      have HL := Lib.hid hl0; have HX := Lib.hid hxm; clear hxm hxj hl0 hc
      have p0 := ho
      go_wp2_with (go_at_call 63; go_loud ((with_reducible refine (markText_any _ _ (by omega) (by omega)).mono ?_); rintro e w1 ⟨rfl, hb1⟩; (have z1 := hb1.size); (have ho1 := ho.same (Same.of_below hb1 hhr)); (obtain ⟨g0', c0', hv0, _, _, g3', hc, hs0⟩ := flat_put EPerson_O ho1 (by omega) HX.out); (injection hv0 with hv0 hv1 hv2; clear hv1 hv2; injection hv0 with hv0; injection hv0 with hv0 _ _; subst hv0); (have e0 := hc 0 _ rfl); (have e1 := hc 1 _ rfl); (have e2 := hc 2 _ rfl); (have e3 := hc 3 _ rfl); (have e4 := hc 4 _ rfl); (have e5 := hc 5 _ rfl); clear hc; (obtain ⟨e0, f0⟩ := e0); (obtain ⟨e1, f1⟩ := e1); (obtain ⟨e2, f2⟩ := e2); (obtain ⟨e3, f3⟩ := e3); (obtain ⟨e4, f4⟩ := e4); (obtain ⟨e5, f5⟩ := e5); simp only [EPerson, Elem.flat, Nat.add_zero] at e0 f0 e1 f1 e2 f2 e3 f3 e4 f4 e5 f5; clear hs0 ho1))
      have ho1 := ho.same (Same.of_below hb1 hhr)
      obtain ⟨g0', c0', hv0, _, _, _, _, hs0⟩ := flat_put EPerson_O ho1 (by omega) HX.out
      injection hv0 with hv0; injection hv0 with hv0; injection hv0 with hv0; subst hv0
      have hhr1 : hi ≤ w1.heap.size := by omega
      have hch1 := hch.trans (Chg.of_below (lo := lo) (hi := hi) hb1)
      clear p0
      have p0 := ho1
      have p1 := hs0 0 (.string (markT (k + 6 * (j : Int)))) _ ⟨markT (k + 6 * (j : Int)), y1, y2, y3, y4, y5⟩ rfl rfl rfl
      obtain ⟨g1', c1', hv1, _, _, _, _, hs1⟩ := flat_put EPerson_O p1 (by simpa [World.setCell] using hhr1) (getElem_set_self' (by (try simp only [List.length_set]); rw [HL.out]; exact hlt))
      injection hv1 with hv1; injection hv1 with hv1; injection hv1 with hv1; subst hv1
      have p2 := hs1 1 (.int .i64 (k + 6 * (j : Int) + 1)) _ ⟨markT (k + 6 * (j : Int)), k + 6 * (j : Int) + 1, y2, y3, y4, y5⟩ rfl rfl rfl
      rw [List.set_set] at p2
      obtain ⟨g2', c2', hv2, _, _, _, _, hs2⟩ := flat_put EPerson_O p2 (by simpa [World.setCell] using hhr1) (getElem_set_self' (by (try simp only [List.length_set]); rw [HL.out]; exact hlt))
      injection hv2 with hv2; injection hv2 with hv2; injection hv2 with hv2; subst hv2
      have p3 := hs2 2 (.int .i64 (k + 6 * (j : Int) + 1 + 1)) _ ⟨markT (k + 6 * (j : Int)), k + 6 * (j : Int) + 1, k + 6 * (j : Int) + 1 + 1, y3, y4, y5⟩ rfl rfl rfl
      rw [List.set_set] at p3
      obtain ⟨g3', c3', hv3, _, _, _, _, hs3⟩ := flat_put EPerson_O p3 (by simpa [World.setCell] using hhr1) (getElem_set_self' (by (try simp only [List.length_set]); rw [HL.out]; exact hlt))
      injection hv3 with hv3; injection hv3 with hv3; injection hv3 with hv3; subst hv3
      have p4 := hs3 3 (.int .i64 (k + 6 * (j : Int) + 1 + 1 + 1)) _ ⟨markT (k + 6 * (j : Int)), k + 6 * (j : Int) + 1, k + 6 * (j : Int) + 1 + 1, k + 6 * (j : Int) + 1 + 1 + 1, y4, y5⟩ rfl rfl rfl
      rw [List.set_set] at p4
      obtain ⟨g4', c4', hv4, _, _, _, _, hs4⟩ := flat_put EPerson_O p4 (by simpa [World.setCell] using hhr1) (getElem_set_self' (by (try simp only [List.length_set]); rw [HL.out]; exact hlt))
      injection hv4 with hv4; injection hv4 with hv4; injection hv4 with hv4; subst hv4
      have p5 := hs4 4 (.int .i64 (k + 6 * (j : Int) + 1 + 1 + 1 + 1)) _ ⟨markT (k + 6 * (j : Int)), k + 6 * (j : Int) + 1, k + 6 * (j : Int) + 1 + 1, k + 6 * (j : Int) + 1 + 1 + 1, k + 6 * (j : Int) + 1 + 1 + 1 + 1, y5⟩ rfl rfl rfl
      rw [List.set_set] at p5
      obtain ⟨g5', c5', hv5, _, _, _, _, hs5⟩ := flat_put EPerson_O p5 (by simpa [World.setCell] using hhr1) (getElem_set_self' (by (try simp only [List.length_set]); rw [HL.out]; exact hlt))
      injection hv5 with hv5; injection hv5 with hv5; injection hv5 with hv5; subst hv5
      have p6 := hs5 5 (.int .i64 (k + 6 * (j : Int) + 1 + 1 + 1 + 1 + 1)) _ ⟨markT (k + 6 * (j : Int)), k + 6 * (j : Int) + 1, k + 6 * (j : Int) + 1 + 1, k + 6 * (j : Int) + 1 + 1 + 1, k + 6 * (j : Int) + 1 + 1 + 1 + 1, k + 6 * (j : Int) + 1 + 1 + 1 + 1 + 1⟩ rfl rfl rfl
      rw [List.set_set] at p6
      clear p1 p2 p3 p4 p5 hs0 hs1 hs2 hs3 hs4 hs5 p0
      rw [show (⟨markT (k + 6 * (j : Int)), k + 6 * (j : Int) + 1, k + 6 * (j : Int) + 1 + 1, k + 6 * (j : Int) + 1 + 1 + 1, k + 6 * (j : Int) + 1 + 1 + 1 + 1, k + 6 * (j : Int) + 1 + 1 + 1 + 1 + 1⟩ : Person) = markPerson k j from rfl, mkTo_mid hlt] at p6
      simp only [EPerson, Elem.flat, Nat.add_zero] at p6
      exact ⟨⟨j + 1, by omega, by go_num, by first | go_num | (simp; omega), by first | exact p6 | simpa using p6, ((((((hch1.setCell (p := ⟨g, j * 6, none⟩) ⟨g1, g2⟩ _).setCell (p := ⟨g, j * 6 + 1, none⟩) ⟨g1, g2⟩ _).setCell (p := ⟨g, j * 6 + 2, none⟩) ⟨g1, g2⟩ _).setCell (p := ⟨g, j * 6 + 3, none⟩) ⟨g1, g2⟩ _).setCell (p := ⟨g, j * 6 + 4, none⟩) ⟨g1, g2⟩ _).setCell (p := ⟨g, j * 6 + 5, none⟩) ⟨g1, g2⟩ _), by simpa [World.setCell] using hhr1⟩, by simp [intOf]; omega⟩
    · obtain rfl : j = xs.length := by omega
      go_wp2
      go_ret
      exact ⟨rfl, by simpa using ho, hch⟩
def HeldPRel (n : Nat) (k : Int) (w : World) (kk i : Value) (wr : World) : Prop := ∃ j : Nat, j ≤ n ∧ i = .int .i64 j ∧ kk = .int .i64 (k + 6 * j) ∧ Below w.heap.size w wr
end Go.Proofs.Ythpcippgifmabaa
