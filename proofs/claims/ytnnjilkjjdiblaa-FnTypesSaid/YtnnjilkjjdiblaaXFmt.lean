/-
  The text of kin types, in the reference and in the program.
-/
import Derived.Test.YtnnjilkjjdiblaaTyp2
import Derived.Laws.DeepStrings4
import Derived.Laws.Concat
namespace Go.Proofs.Ytnnjilkjjdiblaa
set_option maxRecDepth 100000
open Go.RowKit

def ageT (a : Int) : ByteArray := if a = 1 then ⟨#[101]⟩ else if a = 2 then ⟨#[121]⟩ else ⟨#[]⟩
def letters : ByteArray := ⟨#[70, 77, 66, 90, 83, 68, 72, 87]⟩
def kindT (k : Int) : ByteArray := letters.extract (k.toNat - 1) k.toNat
def stepT (x : Step) : ByteArray := ageT x.age ++ kindT x.kind
def stepsT : List Step → ByteArray
  | [] => ⟨#[]⟩
  | x :: r => stepT x ++ stepsT r
def dotT (s : ByteArray) : ByteArray := if s = ⟨#[]⟩ then ⟨#[46]⟩ else s
def preT (e : Int) : ByteArray := if e = 1 then ⟨#[109, 58]⟩ else if e = 2 then ⟨#[119, 58]⟩ else ⟨#[]⟩
def wordT (xs : List Step) : ByteArray := dotT (stepsT xs)
def textT (t : KinType) : ByteArray := if typeOk t = true then preT t.ego ++ wordT t.steps else ⟨#[]⟩

def StepsIn (xs : List Step) : Prop := ∀ (k : Nat) (x : Step), xs[k]? = some x → 1 ≤ x.kind ∧ x.kind ≤ 8 ∧ 0 ≤ x.age ∧ x.age ≤ 2

def TextRel (w : World) (xs : List Step) (o i : Value) (wr : World) : Prop :=
  ∃ (k : Nat) (out : ByteArray), k ≤ xs.length ∧ i = .int .i64 k ∧ o = .string out ∧ Below w.heap.size w wr ∧ out.size ≤ 2 * k ∧ out ++ stepsT (xs.drop k) = stepsT xs

theorem toList_nil {s : ByteArray} (h : s.toList.isEmpty = true) : s = ⟨#[]⟩ := by
  rw [ByteArray.toList_eq] at h
  apply ByteArray.ext; simpa using h
theorem toList_ne {s : ByteArray} (h : s.toList.isEmpty = false) : s ≠ ⟨#[]⟩ := fun e => by
  rw [e, ByteArray.toList_eq] at h; cases h
theorem kindT_size (k : Int) : (kindT k).size ≤ 1 := by
  simp [kindT, ByteArray.size_extract]; omega
theorem ageT_size (k : Int) : (ageT k).size ≤ 1 := by
  unfold ageT; split <;> (try split) <;> decide
theorem bytes_app_nil (a : ByteArray) : a ++ (⟨#[]⟩ : ByteArray) = a := by
  apply ByteArray.ext; simp
theorem bytes_nil_app (a : ByteArray) : (⟨#[]⟩ : ByteArray) ++ a = a := by
  apply ByteArray.ext; simp
theorem text_step {out a b : ByteArray} {x : Step} {xs r : List Step} {k : Nat} (he : out ++ stepsT (xs.drop k) = stepsT xs) (h1 : xs.drop k = x :: r) (ha : ageT x.age = a) (hb : kindT x.kind = b) : (out ++ (a ++ b)) ++ stepsT r = stepsT xs := by
  subst ha hb; rw [← he, h1, stepsT, stepT, ByteArray.append_assoc]
theorem text_size {out a b : ByteArray} {x y : Int} {k : Nat} (h : out.size ≤ 2 * k) (ha : ageT y = a) (hb : kindT x = b) : (out ++ (a ++ b)).size ≤ 2 * (k + 1) := by
  subst ha hb
  have h1 := ageT_size y
  have h2 := kindT_size x
  simp only [ByteArray.size_append]; omega

theorem add_run (a b : ByteArray) (h : a.size ≤ 4000000000000000000) (h' : b.size ≤ 4000000000000000000) (w : World) : (Op.stringOp .add a b).run Try.prog w = .ok (.string (a ++ b)) w := run_string_add_sum _ a b (by omega)

theorem orDot_any (s : ByteArray) (w : World) : Calls Try.prog 150 #[.string s] w fun e w' => e = .returned (.string (dotT s)) ∧ w = w' := by
  go_enter Try.func150, Try.ntmps150
  go_wp2
  · have h0 := toList_nil (by assumption)
    go_ret
    exact ⟨by rw [dotT, if_pos h0]; rfl, rfl⟩
  · have h0 := toList_ne (by assumption)
    go_ret
    exact ⟨by rw [dotT, if_neg h0]; rfl, rfl⟩
theorem egoPrefix_any (e : Int) (w : World) (h : 0 ≤ e ∧ e ≤ 2) : Calls Try.prog 149 #[.int .i64 e] w fun e' w' => e' = .returned (.string (preT e)) ∧ Below w.heap.size w w' := by
  obtain ⟨h1, h2⟩ := h
  have : e = 0 ∨ e = 1 ∨ e = 2 := by omega
  rcases this with rfl | rfl | rfl
  all_goals
    go_enter Try.func149, Try.ntmps149
    go_wp2
    go_ret
    exact ⟨rfl, by (with_reducible repeat' first | exact Below.refl _ _ | assumption | (refine Below.setCell ?_ (by first | omega | (simp; omega) | (simp; done) | (dsimp only; omega)) _) | (refine Below.alloc ?_ (by first | omega | (simp; omega) | (simp; done) | (dsimp only; omega)) _) | (refine below_drewN ?_ _) | (refine Below.drew ?_))⟩

set_option maxHeartbeats 2000000 in
theorem implStepsText_any (A : Option Addr) (c lo hi : Nat) (xs : List Step) (w : World) (h : EStep.AS w lo hi A xs) (hh : hi ≤ w.heap.size) (hin : StepsIn xs) :
    Calls Try.prog 151 #[.slice A xs.length c] w fun e w' => e = .returned (.string (stepsT xs)) ∧ Below w.heap.size w w' := by
  have hx := h.le
  unfold BIG at hx
  go_enter Try.func151, Try.ntmps151
  go_wp2
  go_loopw [3, 8] (fun o i wr => TextRel w xs o i wr) (fun _ i _ => xs.length - (intOf i).toNat)
  case atStart => exact ⟨0, _, Nat.zero_le _, rfl, rfl, by (with_reducible repeat' first | exact Below.refl _ _ | assumption | (refine Below.setCell ?_ (by first | omega | (simp; omega) | (simp; done) | (dsimp only; omega)) _) | (refine Below.alloc ?_ (by first | omega | (simp; omega) | (simp; done) | (dsimp only; omega)) _) | (refine below_drewN ?_ _) | (refine Below.drew ?_)), Nat.le_refl 0, bytes_nil_app _⟩
  case round =>
    obtain ⟨k, out, hk, rfl, rfl, hb, hsz, he⟩ := hrel
    have HE := Lib.hid he; clear he
    by_cases hlt : k < xs.length
    · obtain ⟨b, off, ⟨x, y⟩, rfl, hb0, hb1, hd, hxk, hc1, hc2⟩ := AStep.at_ (h.same (Same.of_below hb hh)) hlt
      obtain ⟨k1, k2, y1, y2⟩ := hin k ⟨x, y⟩ hxk
      simp only at k1 k2 y1 y2
      have hz := hb.size
      have HD := Lib.hid hd; clear hd hxk
      have : y = 0 ∨ y = 1 ∨ y = 2 := by omega
      rcases this with rfl | rfl | rfl
      all_goals
        go_wp2
        go_region
        go_wp2
        exact ⟨⟨k + 1, _, by omega, by go_num, rfl, by (with_reducible repeat' first | exact Below.refl _ _ | assumption | (refine Below.setCell ?_ (by first | omega | (simp; omega) | (simp; done) | (dsimp only; omega)) _) | (refine Below.alloc ?_ (by first | omega | (simp; omega) | (simp; done) | (dsimp only; omega)) _) | (refine below_drewN ?_ _) | (refine Below.drew ?_)), by first | exact text_size hsz (y := 0) (x := x) rfl rfl | exact text_size hsz (y := 1) (x := x) rfl rfl | exact text_size hsz (y := 2) (x := x) rfl rfl, text_step HE.out HD.out rfl rfl⟩, by simp [intOf]; omega⟩
    · go_wp2
      go_ret
      exact ⟨by rw [← HE.out, List.drop_eq_nil_of_le (by omega), stepsT, bytes_app_nil]; rfl, hb⟩

end Go.Proofs.Ytnnjilkjjdiblaa
