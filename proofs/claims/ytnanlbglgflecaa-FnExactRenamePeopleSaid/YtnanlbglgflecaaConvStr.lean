/-
  Lists of texts: sizes, copies, equality.
-/
import Derived.Test.YtnanlbglgflecaaConvPerson
namespace Go.Proofs.Ytnanlbglgflecaa
set_option maxRecDepth 100000
open Go.RowKit

def EString : Elem ByteArray := .flat 9 1 (fun s => [.string s]) (fun _ => rfl) (fun _ => rfl)
section
variable {w : World} {lo hi : Nat} {A : Option Addr} {k : Nat}
theorem AString.at_ {xs : List ByteArray} (h : EString.AS w lo hi A xs) (hk : k < xs.length) : ∃ b off x, A = some ⟨b, off, none⟩ ∧ lo ≤ b ∧ b < hi ∧ xs.drop k = x :: xs.drop (k + 1) ∧ xs[k]? = some x ∧
    w.cell? ⟨b, off + k, none⟩ = some (.string x) := by
  obtain ⟨b, off, x, cs, rfl, h1, h2, h3, h4, rfl, hc⟩ := h.at_ hk
  exact ⟨b, off, x, rfl, h1, h2, h3, h4, by simpa [EString, Elem.flat] using hc 0 _ rfl⟩
end
def totS : List ByteArray → Nat
  | [] => 0
  | x :: r => x.size + totS r
theorem totS_take {xs : List ByteArray} : ∀ {k : Nat} {x : ByteArray}, xs[k]? = some x → totS (xs.take (k + 1)) = totS (xs.take k) + x.size := by
  induction xs with
  | nil => intro k x h; simp at h
  | cons y r ih =>
    intro k x h
    cases k with
    | zero => simp at h; subst h; simp [totS]
    | succ k => simp at h; simp only [List.take_succ_cons, totS, ih h]; omega
theorem totS_le (xs : List ByteArray) : ∀ k, totS (xs.take k) ≤ totS xs := by
  induction xs with
  | nil => intro k; simp [totS]
  | cons y r ih => intro k; cases k with
    | zero => simp [totS]
    | succ k => simp only [List.take_succ_cons, totS]; have := ih k; omega
theorem totS_mem {xs : List ByteArray} {n : Nat} (h : totS xs ≤ n) : ∀ x ∈ xs, x.size ≤ n := by
  induction xs with
  | nil => intro x hx; cases hx
  | cons y r ih =>
    intro x hx
    simp only [totS] at h
    rcases List.mem_cons.1 hx with rfl | hx
    · omega
    · exact ih (by omega) x hx
def SzSRel (xs : List ByteArray) (left : Int) (w : World) (l i : Value) (wr : World) : Prop :=
  ∃ (k : Nat) (r : Int), k ≤ xs.length ∧ i = .int .i64 k ∧ l = .int .i64 r ∧ w = wr ∧ 0 ≤ r ∧ r = left - xs.length - totS (xs.take k)
set_option maxHeartbeats 1000000 in
theorem szStringS_any (A : Option Addr) (c lo hi : Nat) (xs : List ByteArray) (left : Int) (w : World) (h : EString.AS w lo hi A xs) (h0 : 0 ≤ left) (h1 : left ≤ 1048576) (_hh : hi ≤ w.heap.size) (hs : ∀ x ∈ xs, x.size ≤ 4000000000000000000) :
    Calls Try.prog 43 #[.slice A xs.length c, .int .i64 left] w fun e w' => ∃ r, e = .returned (.int .i64 r) ∧ w = w' ∧ Sz r left (xs.length + totS xs) := by
  have hx := h.le
  unfold BIG at hx
  go_enter Try.func43, Try.ntmps43
  go_wp2
  · go_ret; exact ⟨_, rfl, rfl, .inl ⟨rfl, by omega⟩⟩
  go_loopw [1, 5] (fun l i wr => SzSRel xs left w l i wr) (fun _ i _ => xs.length - (intOf i).toNat)
  case atStart => exact ⟨0, _, Nat.zero_le _, rfl, rfl, rfl, by omega, by simp [totS]⟩
  case round =>
    obtain ⟨k, r, hk, rfl, rfl, rfl, hr0, hr⟩ := hrel
    have ht := totS_le xs k
    have hr1 : r ≤ 1048576 := by omega
    have HR := Lib.hid hr; clear hr
    by_cases hlt : k < xs.length
    · obtain ⟨b, off, x, rfl, hb1, hb2, hdr, hxk, hc0⟩ := AString.at_ h hlt
      have hsx := hs _ (List.mem_of_getElem? hxk)
      have HT := Lib.hid (totS_take hxk); have HL := Lib.hid (totS_le xs (k + 1)); clear hxk hdr
      go_wp2
      · go_ret
        refine ⟨_, rfl, rfl, .inl ⟨rfl, ?_⟩⟩
        have h2 := HT.out; have h3 := HL.out; have h4 := HR.out
        omega
      · refine ⟨⟨k + 1, _, by omega, by go_num, rfl, rfl, by omega, ?_⟩, by simp [intOf]; omega⟩
        have h2 := HT.out; have h4 := HR.out
        omega
    · have hr := HR.out
      obtain rfl : k = xs.length := by omega
      rw [List.take_length] at hr
      go_wp2
      go_ret
      exact ⟨_, rfl, rfl, .inr ⟨hr0, by omega⟩⟩

theorem str_info : (Try.prog.info? 9).map (fun i => (i.zero, i.size, i.bytes)) = some (some (.string ByteArray.empty), 1, 16) := by kernel_rfl
theorem toStringS_any (A : Option Addr) (c lo hi : Nat) (xs : List ByteArray) (w : World) (h : EString.AS w lo hi A xs) (hh : hi ≤ w.heap.size) (hs : xs.length ≤ 1048576) :
    Calls Try.prog 46 #[.slice A xs.length c] w fun e w' => ∃ A' c', e = .returned (.slice A' xs.length c') ∧ EString.OS w' w.heap.size w'.heap.size (.slice A' xs.length c') xs ∧ Below w.heap.size w w' := by
  obtain ⟨i0, hi0, hz0, hz1, hz2⟩ := info_parts str_info
  have hx := h.le
  have hmk := run_mk (P := Try.prog) 60 9 i0 _ 1 16 Try.underlying60 hi0 hz0 hz1 hz2 xs.length (by omega) hx
  clear hi0 hz0 hz1 hz2
  unfold BIG at hx
  go_enter Try.func46, Try.ntmps46
  go_wp2
  go_loopw [4] (fun i wr => ToRel EString w xs i wr) (fun i _ => xs.length - (intOf i).toNat)
  case atStart => exact ToRel.start (E := EString) _ (by simp [size_madeCells, EString, Elem.flat])
  case round =>
    have hrel' := hrel
    obtain ⟨k, css, hk, rfl, hb, hsz, hf, ho⟩ := hrel
    clear hmk
    have hl := Lib.hid (ToRel.flen ho hk)
    by_cases hlt : k < xs.length
    · obtain ⟨b, off, x, rfl, hb1, hb2, _, hxk, hc⟩ := AString.at_ (h.same (Same.of_below hb hh)) hlt
      have HX := Lib.hid hxk; clear hxk
      obtain ⟨u, hu⟩ := hf.next (i := k) (by simpa [EString, Elem.flat] using hlt)
      have hfz := hf.free k
      clear hrel'
      go_wp2
      exact ⟨ToRel.step hlt HX.out (hb.setCell (Nat.le_refl _) _) hsz (ToRel.fill1 hf hl.out hlt) ho ((Same.refl _ _ _).setCell (.inl (by simp)) _) rfl, by simp [intOf]; omega⟩
    · have hd := hrel'.done hlt h.le
      clear hrel'
      go_wp2
      go_ret
      exact ⟨_, _, rfl, hd⟩

theorem eqStringS_any (A B : Option Addr) (c d lo hi lo' hi' : Nat) (xs ys : List ByteArray) (w : World) (h : EString.AS w lo hi A xs) (h' : EString.AS w lo' hi' B ys) :
    Calls Try.prog 49 #[.slice A xs.length c, .slice B ys.length d] w fun e w' => e = .returned (.bool (eqB xs ys)) ∧ Below w.heap.size w w' := by
  have hx := h.le
  unfold BIG at hx
  by_cases hn : xs.length = ys.length
  · have n1 : xs.length ≤ ys.length := by omega
    have n2 : ys.length ≤ xs.length := by omega
    clear hn
    go_enter Try.func49, Try.ntmps49
    go_wp2
    go_loopw [5] (fun i wr => EqRel xs ys w i wr) (fun i _ => xs.length - (intOf i).toNat)
    case atStart => exact ⟨0, 0, Nat.zero_le _, rfl, rfl, by simp⟩
    case round =>
      obtain ⟨k, n, hk, rfl, hw, he⟩ := hrel
      have HE := Lib.hid he; clear he
      have h := hw ▸ h.drewN n; have h' := hw ▸ h'.drewN n
      have HW := Lib.hid hw; clear hw
      by_cases hlt : k < xs.length
      · obtain ⟨b1, o1, x, rfl, _, _, hd1, _, hc1⟩ := AString.at_ h hlt
        obtain ⟨b2, o2, y, rfl, _, _, hd2, _, hc2⟩ := AString.at_ h' (by omega : k < ys.length)
        have HD1 := Lib.hid hd1; have HD2 := Lib.hid hd2; clear hd1 hd2
        have q1 : (0 : Int) ≤ (k : Int) := by omega
        have q2 : (k : Int) < (xs.length : Int) := by omega
        have q3 : (k : Int) < (ys.length : Int) := by omega
        by_cases hxy : x = y
        · have HB := Lib.hid (eqB_of hxy)
          have m1 : (x.toList == y.toList) = true := by simp [hxy]
          have m2 : (x.toList != y.toList) = false := by simp [hxy]
          clear hxy
          go_wp2
          go_quiet (fail)
          go_wp2
          exact ⟨⟨k + 1, _, by omega, by go_num, by rw [HW.out, World.drewN_drewN], eqB_yes HE.out HD1.out HD2.out HB.out⟩, by simp [intOf]; omega⟩
        · have HB := Lib.hid (eqB_ne hxy)
          have m1 : (x.toList == y.toList) = false := by
            rw [Bool.eq_false_iff]; intro e; exact hxy (str_eq.1 (by simpa using e))
          have m2 : (x.toList != y.toList) = true := by simp [bne, m1]
          clear hxy
          go_wp2
          go_quiet (fail)
          go_wp2
          go_ret
          exact ⟨ret_bool (eqB_no HE.out HD1.out HD2.out HB.out), by rw [HW.out, World.drewN_drewN]; exact below_drewN (Below.refl _ _) _⟩
      · go_wp2
        go_ret
        exact ⟨ret_bool (eqB_end HE.out (by omega) (by omega)), by rw [HW.out]; exact below_drewN (Below.refl _ _) _⟩
  · go_enter Try.func49, Try.ntmps49
    go_wp2
    go_ret
    exact ⟨ret_bool (eqB_len hn).symm, Below.refl _ _⟩
end Go.Proofs.Ytnanlbglgflecaa
