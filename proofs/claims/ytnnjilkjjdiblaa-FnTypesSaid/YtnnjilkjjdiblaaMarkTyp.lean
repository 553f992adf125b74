/-
  Marks of steps and of kin types.
-/
import Derived.Test.YtnnjilkjjdiblaaFlat
import Derived.Test.YtnnjilkjjdiblaaConvTyp
namespace Go.Proofs.Ytnnjilkjjdiblaa
set_option maxRecDepth 100000
open Go.RowKit

def vsStep (s : Step) : List Value := [.int .i64 s.kind, .int .i64 s.age]
theorem EStep_O (w : World) (lo hi : Nat) (cs : List Value) (x : Step) : EStep.O w lo hi cs x ↔ cs = vsStep x := Iff.rfl
def markStep (k : Int) (i : Nat) : Step := ⟨k + 2 * i, k + 2 * i + 1⟩
theorem markStepS_own (A : Option Addr) (c lo hi : Nat) (xs : List Step) (k : Int) (w : World) (h : EStep.OS w lo hi (.slice A xs.length c) xs) (hh : hi ≤ w.heap.size) (h0 : 0 ≤ k) (h1 : k + 2 * xs.length ≤ 4611686018427387904) :
    Calls Try.prog 115 #[.slice A xs.length c, .int .i64 k] w fun e w' => e = .returned (.int .i64 (k + 2 * xs.length)) ∧ EStep.OS w' lo hi (.slice A xs.length c) (mkTo (markStep k) xs.length) ∧
      Only (fun b => (Value.slice A xs.length c).ownBlock = some b) w w' ∧ w'.heap.size = w.heap.size := by
  have hx := h.read.as.le
  unfold BIG at hx
  go_enter Try.func115, Try.ntmps115
  go_wp2
  go_loopw [1, 5] (fun kk i wr => MarkToRel EStep (markStep k) 2 w lo hi (.slice A xs.length c) xs k kk i wr) (fun _ i _ => xs.length - (intOf i).toNat)
  case atStart => exact ⟨0, Nat.zero_le _, rfl, by simp, by simpa [mkTo] using h, Only.refl _ _, rfl⟩
  case round =>
    obtain ⟨j, hj, rfl, rfl, ho, hch, hsz⟩ := hrel
    have HS := Lib.hid hsz
    by_cases hlt : j < xs.length
    · obtain ⟨y0, y1, hxj⟩ : ∃ y0 y1, xs[j]? = some (⟨y0, y1⟩ : Step) := ⟨_, _, by rw [List.getElem?_eq_getElem hlt]⟩
      have hl0 := mkTo_mlen (m := markStep k) hj
      have hxm := mkTo_at (m := markStep k) hxj
      obtain ⟨g, c1, hv, g1, g2, g3, hc, hs0⟩ := flat_put EStep_O ho (by omega) hxm
      rw [hl0] at hv
      injection hv with hv _ hcc
      subst hv; subst hcc
      have e0 := hc 0 _ rfl
      have e1 := hc 1 _ rfl
      clear hc
      obtain ⟨e0, f0⟩ := e0; obtain ⟨e1, f1⟩ := e1
      simp only [EStep, Elem.flat, Nat.add_zero] at e0 f0 e1 f1
      have hhr : hi ≤ wr.heap.size := by omega
      have HL := Lib.hid hl0; have HX := Lib.hid hxm; clear hxm hxj hsz hl0
      go_wp2
      have p0 := ho
      have p1 := hs0 0 (.int .i64 (k + 2 * (j : Int))) _ ⟨k + 2 * (j : Int), y1⟩ rfl rfl rfl
      obtain ⟨g1', c1', hv1, _, _, _, _, hs1⟩ := flat_put EStep_O p1 (by simpa [World.setCell] using hhr) (getElem_set_self' (by (try simp only [List.length_set]); rw [HL.out]; exact hlt))
      injection hv1 with hv1; injection hv1 with hv1; injection hv1 with hv1; subst hv1
      have p2 := hs1 1 (.int .i64 (k + 2 * (j : Int) + 1)) _ ⟨k + 2 * (j : Int), k + 2 * (j : Int) + 1⟩ rfl rfl rfl
      rw [List.set_set] at p2
      clear p1 hs0 hs1
      rw [show (⟨k + 2 * (j : Int), k + 2 * (j : Int) + 1⟩ : Step) = markStep k j from rfl, mkTo_mid hlt] at p2
      simp only [EStep, Elem.flat, Nat.add_zero] at p2
      exact ⟨⟨j + 1, by omega, by go_num, by first | go_num | (simp; omega), by first | exact p2 | simpa using p2, ((hch.setCell (a := ⟨g, j * 2, none⟩) rfl _).setCell (a := ⟨g, j * 2 + 1, none⟩) rfl _), by simp [World.setCell, HS.out]⟩, by simp [intOf]; omega⟩
    · obtain rfl : j = xs.length := by omega
      go_wp2
      go_ret
      exact ⟨rfl, by simpa using ho, hch, HS.out⟩
theorem heldStepS_own (A : Option Addr) (c lo hi n : Nat) (k : Int) (w : World) (h : EStep.AS w lo hi A (mkTo (markStep k) n)) (h0 : 0 ≤ k) (h1 : k + 2 * n ≤ 4611686018427387904) :
    Calls Try.prog 116 #[.slice A n c, .int .i64 k] w fun e w' => e = .returned (.int .i64 (k + 2 * n)) ∧ w = w' := by
  have hx := h.le
  rw [mkTo_len] at hx
  unfold BIG at hx
  go_enter Try.func116, Try.ntmps116
  go_wp2
  go_loop [1, 5] (fun kk i => HeldToRel 2 n k kk i) (fun _ i => n - (intOf i).toNat)
  case atStart => exact ⟨0, Nat.zero_le _, rfl, by simp⟩
  case round =>
    obtain ⟨j, hj, rfl, rfl⟩ := hrel
    by_cases hlt : j < n
    · obtain ⟨b, off, x, rfl, _, _, _, hxk, hc0, hc1⟩ := AStep.at_ h (by rw [mkTo_len]; exact hlt)
      rw [mkTo_get hlt] at hxk
      injection hxk with hxk
      subst hxk
      simp only [markStep] at hc0 hc1
      go_wp2
      exact ⟨⟨j + 1, by omega, by go_num, by first | go_num | (simp; omega)⟩, by simp [intOf]; omega⟩
    · obtain rfl : j = n := by omega
      go_wp2
      go_ret
      exact ⟨rfl, rfl⟩
theorem markStepS_any (A : Option Addr) (c lo hi : Nat) (xs : List Step) (k : Int) (w : World) (h : EStep.OS w lo hi (.slice A xs.length c) xs) (hh : hi ≤ w.heap.size) (h0 : 0 ≤ k) (h1 : k + 2 * xs.length ≤ 4611686018427387904) :
    Calls Try.prog 115 #[.slice A xs.length c, .int .i64 k] w fun e w' => e = .returned (.int .i64 (k + 2 * xs.length)) ∧ EStep.OS w' lo hi (.slice A xs.length c) (mkTo (markStep k) xs.length) ∧ Chg lo hi w w' := by
  refine (markStepS_own A c lo hi xs k w h hh h0 h1).mono ?_
  rintro e w' ⟨rfl, ho, hc, hs⟩
  exact ⟨rfl, ho, hc.chg fun b hb => h.blkv b hb⟩
theorem heldStepS_any (A : Option Addr) (c lo hi : Nat) (xs : List Step) (k : Int) (w : World) (h : EStep.AS w lo hi A (mkTo (markStep k) xs.length)) (h0 : 0 ≤ k) (h1 : k + 2 * xs.length ≤ 4611686018427387904) :
    Calls Try.prog 116 #[.slice A xs.length c, .int .i64 k] w fun e w' => e = .returned (.int .i64 (k + 2 * xs.length)) ∧ w = w' := by
  exact heldStepS_own A c lo hi xs.length k w h h0 h1

theorem markKinType_any (A : Option Addr) (c lo hi : Nat) (s : Int) (xs : List Step) (k : Int) (w : World) (h : EStep.OS w lo hi (.slice A xs.length c) xs) (hh : hi ≤ w.heap.size) (h0 : 0 ≤ k) (h1 : k + 2 * xs.length ≤ 4611686018427387904) :
    Calls Try.prog 40 #[.agg #[.int .i64 s, .slice A xs.length c], .int .i64 k] w fun e w' => e = .returned (.int .i64 (k + 2 * xs.length)) ∧ EStep.OS w' lo hi (.slice A xs.length c) (mkTo (markStep k) xs.length) ∧ Chg lo hi w w' := by
  go_enter Try.func40, Try.ntmps40
  go_wp2_with (go_at_call 115; (with_reducible refine (markStepS_any A c lo hi xs k _ (h.same (by (with_reducible repeat' first | exact Same.refl _ _ _ | assumption | (refine Same.setCell ?_ (by first | omega | (simp; omega) | (simp; done) | (dsimp only; omega)) _) | (refine Same.alloc ?_ (by first | omega | (simp; omega) | (simp; done) | (dsimp only; omega)) _) | (refine Same.drewN ?_ _) | (refine Same.drew ?_)))) (by first | omega | (simp; omega) | (simp; done) | (dsimp only; omega)) h0 h1).mono ?_); rintro e w1 ⟨rfl, ho, hc⟩)
  go_ret
  exact ⟨rfl, ho, ((Chg.refl _ _ _).alloc _).trans hc⟩
theorem heldKinType_any (A : Option Addr) (c lo hi : Nat) (s : Int) (xs : List Step) (k : Int) (w : World) (h : EStep.AS w lo hi A (mkTo (markStep k) xs.length)) (hh : hi ≤ w.heap.size) (h0 : 0 ≤ k) (h1 : k + 2 * xs.length ≤ 4611686018427387904) :
    Calls Try.prog 41 #[.agg #[.int .i64 s, .slice A xs.length c], .int .i64 k] w fun e w' => e = .returned (.int .i64 (k + 2 * xs.length)) ∧ Below w.heap.size w w' := by
  go_enter Try.func41, Try.ntmps41
  go_wp2_with (go_at_call 116; (with_reducible refine (heldStepS_any A c lo hi xs k _ (h.same (by (with_reducible repeat' first | exact Same.refl _ _ _ | assumption | (refine Same.setCell ?_ (by first | omega | (simp; omega) | (simp; done) | (dsimp only; omega)) _) | (refine Same.alloc ?_ (by first | omega | (simp; omega) | (simp; done) | (dsimp only; omega)) _) | (refine Same.drewN ?_ _) | (refine Same.drew ?_)))) h0 h1).mono ?_); rintro e w1 ⟨rfl, rfl⟩)
  go_ret
  exact ⟨rfl, by (with_reducible repeat' first | exact Below.refl _ _ | assumption | (refine Below.setCell ?_ (by first | omega | (simp; omega) | (simp; done) | (dsimp only; omega)) _) | (refine Below.alloc ?_ (by first | omega | (simp; omega) | (simp; done) | (dsimp only; omega)) _) | (refine below_drewN ?_ _) | (refine Below.drew ?_))⟩
end Go.Proofs.Ytnnjilkjjdiblaa
