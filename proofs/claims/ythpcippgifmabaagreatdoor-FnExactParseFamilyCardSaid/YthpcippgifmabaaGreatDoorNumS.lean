/-
  Numbers, years and names as text, in the reference and in the program.
-/
import Derived.Test.YthpcippgifmabaaGreatDoorFmtLib
import Derived.Laws.IdiomStrings
import Derived.Laws.Concat
namespace Go.Proofs.YthpcippgifmabaaGreatDoor
set_option maxRecDepth 100000
open Go.RowKit

theorem add_runT (a b : ByteArray) (h : a.size ≤ 4000000000000000000) (h' : b.size ≤ 4000000000000000000) (w : World) : (Op.stringOp .add a b).run Tryz.prog w = .ok (.string (a ++ b)) w := run_string_add_sum _ a b (by omega)
/-- A digit, made. -/
def digB (d : Nat) : ByteArray := ⟨#[UInt8.ofNat (48 + d)]⟩
theorem digB_size (d : Nat) : (digB d).size = 1 := rfl
theorem mkT_dig {d : Nat} : mkT [UInt8.ofNat (48 + d)] = digB d := rfl
/-- What is still to be written of u, ahead of what is written. -/
def restD (u : Nat) : List UInt8 := if u = 0 then [] else Lib.decDigits u
theorem restD_ten (u : Nat) : restD (u / 10) ++ [UInt8.ofNat (48 + u % 10)] = Lib.decDigits u := by
  rw [Lib.decDigits]; split
  · rename_i h
    rw [restD, if_pos (by omega), show u % 10 = u by omega]; rfl
  · rw [restD, if_neg (by omega)]
theorem restD_pos {u : Nat} (h : 0 < u) : restD u = restD (u / 10) ++ [UInt8.ofNat (48 + u % 10)] := by rw [restD_ten, restD, if_neg (by omega)]
def NumRel (u0 : Nat) (w : World) (n o : Value) (wr : World) : Prop :=
  ∃ (u : Nat) (out : ByteArray), n = .int .i64 u ∧ o = .string out ∧ u ≤ u0 ∧ mkT (restD u) ++ out = mkT (Lib.decDigits u0) ∧ Below w.heap.size w wr

theorem conv_dig (W : World) (u : Nat) : (convert 63 9 (.slice (some ⟨W.heap.size, 0, none⟩) 1 1)).run Tryz.prog (W.alloc (.cells #[.int .u8 (48 + (u : Int) % 10)] 5)) = .ok (.string (digB (u % 10))) (W.alloc (.cells #[.int .u8 (48 + (u : Int) % 10)] 5)) := by
  have h := run_convert_bytes_back (P := Tryz.prog) (W.alloc (.cells #[.int .u8 (48 + (u : Int) % 10)] 5)) 63 9 5 ⟨W.heap.size, 0, none⟩ 1 [UInt8.ofNat (48 + u % 10)] Tryz.underlying63 Tryz.underlying5 Tryz.underlying9 (fun j hj => by
    rcases (by simp at hj; omega : j = 0) with rfl
    simp [Addr.add]; omega)
  exact h
set_option maxHeartbeats 4000000 in
theorem l1Number_any (u0 : Nat) (w : World) (hu : u0 ≤ 9999) :
    Calls Tryz.prog 30 #[.int .i64 u0] w fun e w' => e = .returned (.string (mkT (Lib.itoa u0))) ∧ Below w.heap.size w w' := by
  have hconv := conv_dig
  rw [Lib.itoa_nonneg]
  obtain ⟨R, hR⟩ : ∃ R, mkT (Lib.decDigits u0) = R := ⟨_, rfl⟩
  have HR := Lib.hid hR
  rw [hR]
  clear hR
  go_enter Tryz.func30, Tryz.ntmps30
  go_wp2
  go_loopw [0, 3] (fun n o wr => NumRel u0 w n o wr) (fun n _ _ => (intOf n).toNat)
  case atStart => exact ⟨u0 / 10, digB (u0 % 10), by go_num, rfl, by omega, by rw [← mkT_dig, ← mkT_app, restD_ten], by (with_reducible repeat' first | exact Below.refl _ _ | assumption | (refine Below.setCell ?_ (by first | omega | (simp; omega) | (simp; done) | (dsimp only; omega)) _) | (refine Below.alloc ?_ (by first | omega | (simp; omega) | (simp; done) | (dsimp only; omega)) _) | (refine below_drewN ?_ _) | (refine Below.drew ?_))⟩
  case round =>
    obtain ⟨u, out, rfl, rfl, hu1, hout, hb⟩ := hrel
    have HO := Lib.hid hout
    have hz : out.size ≤ 4 := by
      have := congrArg ByteArray.size hout
      rw [ByteArray.size_append, mkT_size, mkT_size] at this
      have := decDigits_small (u := u0) (by omega)
      omega
    clear hout
    have hwz := hb.size
    by_cases h0 : 0 < u
    · have i1 : (0 : Int) < (u : Int) := by omega
      have ha := add_runT (digB (u % 10)) out (by rw [digB_size]; omega) (by omega)
      go_wp2
      refine ⟨⟨u / 10, digB (u % 10) ++ out, by go_num, rfl, by omega, ?_, by (with_reducible repeat' first | exact Below.refl _ _ | assumption | (refine Below.setCell ?_ (by first | omega | (simp; omega) | (simp; done) | (dsimp only; omega)) _) | (refine Below.alloc ?_ (by first | omega | (simp; omega) | (simp; done) | (dsimp only; omega)) _) | (refine below_drewN ?_ _) | (refine Below.drew ?_) | (refine Below.trans ?_ (hb.mono (by first | omega | (simp; omega) | (simp; done) | (dsimp only; omega)))))⟩, by simp [intOf]; omega⟩
      rw [← ByteArray.append_assoc, ← mkT_dig, ← mkT_app, ← restD_pos h0]
      exact HO.out
    · have i1 : ¬ (0 : Int) < (u : Int) := by omega
      go_wp2
      go_ret
      refine ⟨?_, hb⟩
      have h1 := HO.out
      rw [restD, if_pos (by omega)] at h1
      rw [← HR.out, ← h1]
      congr 2
theorem l1Year_any (n : Int) (w : World) (hn : n ≤ 9999) :
    Calls Tryz.prog 31 #[.int .i64 n] w fun e w' => e = .returned (.string (yearT n)) ∧ Below w.heap.size w w' := by
  by_cases h : n < 0
  · rw [yearT, if_pos h]
    go_enter Tryz.func31, Tryz.ntmps31
    go_wp2
    go_ret
    exact ⟨rfl, Below.refl _ _⟩
  · rw [yearT, if_neg h]
    obtain ⟨u, rfl⟩ := Int.eq_ofNat_of_zero_le (by omega : 0 ≤ n)
    have hl := l1Number_any u w (by omega)
    rw [mkT] at hl
    generalize Lib.itoa (u : Int) = l at hl ⊢
    go_enter Tryz.func31, Tryz.ntmps31
    go_wp2_with (go_at_call 30; (with_reducible refine hl.mono ?_); rintro e w1 ⟨rfl, hb1⟩)
    go_ret
    exact ⟨rfl, hb1⟩
theorem yearText_any (n : Int) (w : World) (h1 : -1 ≤ n) (hn : n ≤ 9999) (ht : Tab10 w) :
    Calls Tryz.prog 47 #[.int .i64 n] w fun e w' => e = .returned (.string (yearT n)) ∧ Below w.heap.size w w' := by
  by_cases h : n = -1
  · subst h
    rw [yearT, if_pos (by omega)]
    go_enter Tryz.func47, Tryz.ntmps47
    go_wp2
    go_ret
    exact ⟨rfl, Below.refl _ _⟩
  · have i1 : (n == -1) = false := by simpa using h
    rw [yearT, if_neg (by omega)]
    have hl := itoa_any n w (by omega) hn ht
    rw [mkT] at hl
    generalize Lib.itoa n = l at hl ⊢
    go_enter Tryz.func47, Tryz.ntmps47
    go_wp2_with (go_at_call 58; (with_reducible refine hl.mono ?_); rintro e w1 ⟨rfl, hb1⟩)
    go_ret
    exact ⟨rfl, hb1⟩
theorem sexWord_any (s : Int) (w : World) :
    Calls Tryz.prog 45 #[.int .i64 s] w fun e w' => e = .returned (.string (sexT s)) ∧ w = w' := by
  by_cases h : s = 1
  · subst h
    rw [sexT, if_pos rfl]
    go_enter Tryz.func45, Tryz.ntmps45
    go_wp2
    go_ret
    exact ⟨rfl, rfl⟩
  · have i1 : (s == 1) = false := by simpa using h
    rw [sexT, if_neg h]
    go_enter Tryz.func45, Tryz.ntmps45
    go_wp2
    go_ret
    exact ⟨rfl, rfl⟩
/-- An index of somebody, or -1. -/
def PIdx (xs : List Person) (p : Int) : Prop := p < 0 ∨ ∃ (m : Nat) (y : Person), p = m ∧ xs[m]? = some y
theorem personName_of {xs : List Person} {m : Nat} {y : Person} (h : xs[m]? = some y) : personName xs (m : Int) = y.name := by rw [personName, Int.toNat_natCast, h]
theorem l1NameOf_any (A B : Option Addr) (c d lo hi : Nat) (xs : List Person) (ys : List Union) (p : Int) (w : World) (h : EPerson.AS w lo hi A xs) (hh : hi ≤ w.heap.size) (hp : PIdx xs p) :
    Calls Tryz.prog 29 #[.agg #[.slice A xs.length c, .slice B ys.length d], .int .i64 p] w fun e w' => e = .returned (.string (nameT xs p)) ∧ Below w.heap.size w w' := by
  by_cases h0 : p < 0
  · rw [nameT, if_pos h0]
    go_enter Tryz.func29, Tryz.ntmps29
    go_wp2
    go_ret
    exact ⟨rfl, by (with_reducible repeat' first | exact Below.refl _ _ | assumption | (refine Below.setCell ?_ (by first | omega | (simp; omega) | (simp; done) | (dsimp only; omega)) _) | (refine Below.alloc ?_ (by first | omega | (simp; omega) | (simp; done) | (dsimp only; omega)) _) | (refine below_drewN ?_ _) | (refine Below.drew ?_))⟩
  · obtain ⟨m, y, rfl, hy⟩ := hp.resolve_left h0
    rw [nameT, if_neg h0, personName_of hy]
    obtain ⟨b, off, ⟨y0, y1, y2, y3, y4, y5⟩, rfl, g1, g2, _, hyk, hc0, hc1, hc2, hc3, hc4, hc5⟩ := APerson.at_ h (List.getElem?_eq_some_iff.1 hy).1
    obtain rfl := Option.some.inj (hy.symm.trans hyk)
    have hl := (List.getElem?_eq_some_iff.1 hy).1
    have i1 : (0 : Int) ≤ (m : Int) ∧ (m : Int) < (xs.length : Int) := by omega
    have hx := h.le
    unfold BIG at hx
    simp only at hc0
    clear hy hyk hc1 hc2 hc3 hc4 hc5
    have lb : b < w.heap.size := by omega
    go_enter Tryz.func29, Tryz.ntmps29
    go_wp2
    go_ret
    exact ⟨rfl, by (with_reducible repeat' first | exact Below.refl _ _ | assumption | (refine Below.setCell ?_ (by first | omega | (simp; omega) | (simp; done) | (dsimp only; omega)) _) | (refine Below.alloc ?_ (by first | omega | (simp; omega) | (simp; done) | (dsimp only; omega)) _) | (refine below_drewN ?_ _) | (refine Below.drew ?_))⟩
theorem nameText_any (A B : Option Addr) (c d lo hi : Nat) (xs : List Person) (ys : List Union) (p : Int) (w : World) (h : EPerson.AS w lo hi A xs) (hh : hi ≤ w.heap.size) (hp : PIdx xs p) :
    Calls Tryz.prog 46 #[.agg #[.slice A xs.length c, .slice B ys.length d], .int .i64 p] w fun e w' => e = .returned (.string (nameT xs p)) ∧ Below w.heap.size w w' := by
  by_cases h0 : p < 0
  · rw [nameT, if_pos h0]
    go_enter Tryz.func46, Tryz.ntmps46
    go_wp2
    go_ret
    exact ⟨rfl, by (with_reducible repeat' first | exact Below.refl _ _ | assumption | (refine Below.setCell ?_ (by first | omega | (simp; omega) | (simp; done) | (dsimp only; omega)) _) | (refine Below.alloc ?_ (by first | omega | (simp; omega) | (simp; done) | (dsimp only; omega)) _) | (refine below_drewN ?_ _) | (refine Below.drew ?_))⟩
  · obtain ⟨m, y, rfl, hy⟩ := hp.resolve_left h0
    rw [nameT, if_neg h0, personName_of hy]
    obtain ⟨b, off, ⟨y0, y1, y2, y3, y4, y5⟩, rfl, g1, g2, _, hyk, hc0, hc1, hc2, hc3, hc4, hc5⟩ := APerson.at_ h (List.getElem?_eq_some_iff.1 hy).1
    obtain rfl := Option.some.inj (hy.symm.trans hyk)
    have hl := (List.getElem?_eq_some_iff.1 hy).1
    have i1 : (0 : Int) ≤ (m : Int) ∧ (m : Int) < (xs.length : Int) := by omega
    have hx := h.le
    unfold BIG at hx
    simp only at hc0
    clear hy hyk hc1 hc2 hc3 hc4 hc5
    have lb : b < w.heap.size := by omega
    go_enter Tryz.func46, Tryz.ntmps46
    go_wp2
    go_ret
    exact ⟨rfl, by (with_reducible repeat' first | exact Below.refl _ _ | assumption | (refine Below.setCell ?_ (by first | omega | (simp; omega) | (simp; done) | (dsimp only; omega)) _) | (refine Below.alloc ?_ (by first | omega | (simp; omega) | (simp; done) | (dsimp only; omega)) _) | (refine below_drewN ?_ _) | (refine Below.drew ?_))⟩
end Go.Proofs.YthpcippgifmabaaGreatDoor
