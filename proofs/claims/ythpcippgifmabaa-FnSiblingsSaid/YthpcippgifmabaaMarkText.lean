/-
  The text of a mark: the letter m and a number's digits.
-/
import Derived.Test.YthpcippgifmabaaBase
import Derived.Laws.Concat
import Derived.Laws.IdiomStrings
namespace Go.Proofs.Ythpcippgifmabaa
set_option maxRecDepth 100000
open Go.RowKit

theorem add_run' (a b : ByteArray) (h : a.size ≤ 4000000000000000000) (h' : b.size ≤ 4000000000000000000) (w : World) : (Op.stringOp .add a b).run Try.prog w = .ok (.string (a ++ b)) w := run_string_add_sum _ a b (by omega)

def digT (m : Nat) : ByteArray := if _h : m = 0 then ⟨#[]⟩ else digT (m / 10) ++ ⟨#[UInt8.ofNat (48 + m % 10)]⟩
termination_by m
theorem digT_zero : digT 0 = ⟨#[]⟩ := by rw [digT]; simp
theorem digT_pos {m : Nat} (h : 0 < m) : digT m = digT (m / 10) ++ ⟨#[UInt8.ofNat (48 + m % 10)]⟩ := by rw [digT, dif_neg (by omega)]
theorem digT_size : ∀ (d m : Nat), m < 10 ^ d → (digT m).size ≤ d := by
  intro d
  induction d with
  | zero =>
    intro m h
    have hm : m = 0 := by simpa using h
    rw [hm, digT_zero]; exact Nat.le_refl _
  | succ d ih =>
    intro m h
    rcases Nat.eq_zero_or_pos m with rfl | hm
    · rw [digT_zero]; exact Nat.zero_le _
    · rw [digT_pos hm]
      have := ih (m / 10) (by rw [Nat.pow_succ] at h; omega)
      have e : (⟨#[UInt8.ofNat (48 + m % 10)]⟩ : ByteArray).size = 1 := rfl
      rw [ByteArray.size_append, e]; omega
def markT (k : Int) : ByteArray := ⟨#[109]⟩ ++ digT k.toNat
def DigRel (k : Nat) (w : World) (a o : Value) (wr : World) : Prop :=
  ∃ (m : Nat) (acc : ByteArray), m ≤ k ∧ a = .int .i64 m ∧ o = .string acc ∧ digT m ++ acc = digT k ∧ Below w.heap.size w wr

theorem markText_any (k : Int) (w : World) (h0 : 0 < k) (h1 : k ≤ 4611686018427387904) : Calls Try.prog 63 #[.int .i64 k] w fun e w' => e = .returned (.string (markT k)) ∧ Below w.heap.size w w' := by
  obtain ⟨k, rfl⟩ := Int.eq_ofNat_of_zero_le (by omega : 0 ≤ k)
  have hk := digT_size 19 k (by omega)
  go_enter Try.func63, Try.ntmps63
  go_wp2
  go_loopw [0, 3] (fun a o wr => DigRel k w a o wr) (fun a _ _ => (intOf a).toNat)
  case atStart => exact ⟨k, ⟨#[]⟩, Nat.le_refl _, rfl, rfl, by apply ByteArray.ext; simp, Below.refl _ _⟩
  case round =>
    obtain ⟨m, acc, hm, rfl, rfl, he, hb⟩ := hrel
    have hsz : acc.size ≤ 19 := by
      have := congrArg ByteArray.size he
      rw [ByteArray.size_append] at this
      omega
    by_cases hpos : 0 < m
    · have hp : (0 : Int) < (m : Int) := by omega
      obtain ⟨b, hb'⟩ : ∃ b, UInt8.ofNat (48 + m % 10) = b := ⟨_, rfl⟩
      have hbn : (b.toNat : Int) = 48 + (m : Int) % 10 := by
        rw [← hb', UInt8.toNat_ofNat']; omega
      have hconv := run_convert_bytes_back (P := Try.prog) (wr.alloc (.cells #[.int .u8 (48 + (m : Int) % 10)] 5)) 22 9 5 ⟨wr.heap.size, 0, none⟩ 1 [b] Try.underlying22 Try.underlying5 Try.underlying9 (fun j hj => by
        obtain rfl : j = 0 := by simpa using hj
        simp [Addr.add, hbn])
      simp only [List.length_singleton] at hconv
      have hz := hb.size
      have h1s : (⟨[b].toArray⟩ : ByteArray).size = 1 := rfl
      have hr := add_run' ⟨[b].toArray⟩ acc (by omega) (by omega)
      clear h1s
      have he' : digT (m / 10) ++ ((⟨[b].toArray⟩ : ByteArray) ++ acc) = digT k := by
        rw [← he, digT_pos hpos, hb', ByteArray.append_assoc]
      have HE := Lib.hid he'
      clear he he' hbn hb'
      go_wp2
      exact ⟨⟨m / 10, _, by omega, by go_num, rfl, HE.out, by (with_reducible repeat' first | exact Below.refl _ _ | assumption | (refine Below.setCell ?_ (by first | omega | (simp; omega) | (simp; done) | (dsimp only; omega)) _) | (refine Below.alloc ?_ (by first | omega | (simp; omega) | (simp; done) | (dsimp only; omega)) _) | (refine below_drewN ?_ _) | (refine Below.drew ?_))⟩, by simp [intOf]; omega⟩
    · obtain rfl : m = 0 := by omega
      rw [digT_zero] at he
      have he' : acc = digT k := by rw [← he]; apply ByteArray.ext; simp
      have hr := add_run' ⟨#[109]⟩ acc (by decide) (by omega)
      go_wp2
      go_ret
      exact ⟨by rw [he']; rfl, hb⟩
end Go.Proofs.Ythpcippgifmabaa
