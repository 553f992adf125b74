/-
  Lists of texts: sizes, copies, equality.
-/
import Derived.Test.YthpcippgifmabaaGreatDoorConvPerson
namespace Go.Proofs.YthpcippgifmabaaGreatDoor
set_option maxRecDepth 100000
open Go.RowKit

def EString : Elem ByteArray := .flat 9 1 (fun s => [.string s]) (fun _ => rfl) (fun _ => rfl)
section
variable {w : World} {lo hi : Nat} {A : Option Addr} {k : Nat}
theorem AString.at_ {xs : List ByteArray} (h : EString.AS w lo hi A xs) (hk : k < xs.length) : ∃ b off x, A = some ⟨b, off, none⟩ ∧ lo ≤ b ∧ b < hi ∧ xs.drop k = x :: xs.drop (k + 1) ∧ xs[k]? = some x ∧
    w.cell? ⟨b, off + k, none⟩ = some (.string x) := by
  obtain ⟨b, off, x, cs, rfl, h1, h2, h3, h4, rfl, hc⟩ := h.at_ hk
  exact ⟨b, off, x, rfl, h1, h2, h3, h4, by simpa [EString, Elem.flat] using hc 0 _ rfl⟩
end
def totS : List ByteArray → Nat
  | [] => 0
  | x :: r => x.size + totS r
theorem totS_take {xs : List ByteArray} : ∀ {k : Nat} {x : ByteArray}, xs[k]? = some x → totS (xs.take (k + 1)) = totS (xs.take k) + x.size := by
  induction xs with
  | nil => intro k x h; simp at h
  | cons y r ih =>
    intro k x h
    cases k with
    | zero => simp at h; subst h; simp [totS]
    | succ k => simp at h; simp only [List.take_succ_cons, totS, ih h]; omega
theorem totS_le (xs : List ByteArray) : ∀ k, totS (xs.take k) ≤ totS xs := by
  induction xs with
  | nil => intro k; simp [totS]
  | cons y r ih => intro k; cases k with
    | zero => simp [totS]
    | succ k => simp only [List.take_succ_cons, totS]; have := ih k; omega
theorem totS_mem {xs : List ByteArray} {n : Nat} (h : totS xs ≤ n) : ∀ x ∈ xs, x.size ≤ n := by
  induction xs with
  | nil => intro x hx; cases hx
  | cons y r ih =>
    intro x hx
    simp only [totS] at h
    rcases List.mem_cons.1 hx with rfl | hx
    · omega
    · exact ih (by omega) x hx
def SzSRel (xs : List ByteArray) (left : Int) (w : World) (l i : Value) (wr : World) : Prop :=
  ∃ (k : Nat) (r : Int), k ≤ xs.length ∧ i = .int .i64 k ∧ l = .int .i64 r ∧ w = wr ∧ 0 ≤ r ∧ r = left - xs.length - totS (xs.take k)
theorem str_info : (Tryz.prog.info? 9).map (fun i => (i.zero, i.size, i.bytes)) = some (some (.string ByteArray.empty), 1, 16) := by kernel_rfl
end Go.Proofs.YthpcippgifmabaaGreatDoor
