/-
  Tables of truth values, which the reference makes.
-/
import Derived.Test.YtmgfpcchlonknaaConvRel
namespace Go.Proofs.Ytmgfpcchlonknaa
set_option maxRecDepth 100000
open Go.RowKit

theorem bool_info : (Try.prog.info? 4).map (fun i => (i.zero, i.size, i.bytes)) = some (some (.bool false), 1, 1) := by kernel_rfl
theorem bools_info : (Try.prog.info? 77).map (fun i => (i.zero, i.size, i.bytes)) = some (some (.slice none 0 0), 1, 24) := by kernel_rfl
theorem tyIntS : SlTy EInt 79 8 := SlTy.mk' Try.underlying79 int_info rfl (by decide)
theorem tyIntSS : SlTy EIntS 22 24 := SlTy.mk' Try.underlying22 ints_info rfl (by decide)
theorem tyBoolSS : SlTy EBoolS 73 24 := SlTy.mk' Try.underlying73 bools_info rfl (by decide)

/-- A slice that make has just laid. -/
theorem made_os {α : Type} {e sz : Nat} {f : α → List Value} {hl : ∀ x, (f x).length = sz} {hb : ∀ x, blocks (f x) = []} (w : World) (z : α) (n : Nat) (cur : Array Value) (hc : cur.toList = (List.replicate n z).flatMap f) (hn : n ≤ BIG) :
    (Elem.flat e sz f hl hb).OS (w.alloc (.cells cur e)) w.heap.size (w.alloc (.cells cur e)).heap.size (.slice (some ⟨w.heap.size, 0, none⟩) n n) (List.replicate n z) := by
  rw [flat_os]
  have hlen : ∀ xs : List α, (xs.flatMap f).length = xs.length * sz := fun xs => by
    induction xs with
    | nil => simp
    | cons x r ih => rw [List.flatMap_cons, List.length_append, ih, hl, List.length_cons, Nat.succ_mul]; omega
  refine ⟨⟨by rw [hlen], .inr ⟨w.heap.size, n, cur, by simp, Nat.le_refl _, heap_alloc_new w _, by simp, by unfold BIG at hn; simp only [maxLen]; omega, ?_, ?_⟩⟩, fun k hk => by simp [Value.ownBlock] at hk; simp; omega, by simpa using hn⟩
  · rw [← Array.length_toList, hc, hlen]; simp
  · rw [hc, List.length_replicate, List.take_of_length_le]; rw [hlen]; simp
theorem made_bools (n : Nat) : (madeCells (Value.bool false).cells (n * 1)).toList = (List.replicate n false).flatMap fun b => [Value.bool b] := by
  have : ∀ n : Nat, ((List.replicate n false).flatMap fun b => [Value.bool b]) = List.replicate n (Value.bool false) := fun n => by induction n <;> simp_all [List.replicate_succ]
  rw [this, Nat.mul_one]
  apply List.ext_getElem?
  intro i
  by_cases hi : i < n
  · simp [madeCells, Value.cells, hi, Nat.mod_one]
  · simp [madeCells, Value.cells, hi]

theorem made_one (n : Nat) (w : World) (hn : n ≤ 40) : EBool.OS (w.alloc (.cells (madeCells #[Value.bool false] n) 4)) w.heap.size (w.heap.size + 1) (.slice (some ⟨w.heap.size, 0, none⟩) n n) (List.replicate n false) := by
  have := made_os (e := 4) (sz := 1) (f := fun b => [Value.bool b]) (hl := fun _ => rfl) (hb := fun _ => rfl) w false n (madeCells #[Value.bool false] n) (by simpa [Value.cells] using made_bools n) (by unfold BIG; omega)
  rw [World.size_alloc] at this
  exact this
def BlankRel (w : World) (n : Nat) (v i : Value) (wr : World) : Prop :=
  ∃ (k : Nat) (A : Option Addr) (c : Nat), k ≤ n ∧ i = .int .i64 k ∧ v = .slice A k c ∧ EBoolS.OS wr w.heap.size wr.heap.size (.slice A k c) (List.replicate k (List.replicate n false)) ∧ Below w.heap.size w wr

theorem l2Blank_any (n : Nat) (w : World) (hn : n ≤ 40) :
    Calls Try.prog 75 #[.int .i64 n] w fun e w' => ∃ A c, e = .returned (.slice A n c) ∧ EBoolS.OS w' w.heap.size w'.heap.size (.slice A n c) (List.replicate n (List.replicate n false)) ∧ Below w.heap.size w w' := by
  obtain ⟨i0, hi0, hz0, hz1, hz2⟩ := info_parts bool_info
  have hmk := run_mk (P := Try.prog) 77 4 i0 _ 1 1 Try.underlying77 hi0 hz0 hz1 hz2 n (by omega) (by unfold BIG; omega)
  clear hi0 hz0 hz1 hz2
  go_enter Try.func75, Try.ntmps75
  go_wp2
  go_loopw [3, 4] (fun v i wr => BlankRel w n v i wr) (fun _ i _ => n - (intOf i).toNat)
  case atStart => 
    refine ⟨0, _, _, Nat.zero_le _, rfl, rfl, ?_, by (with_reducible repeat' first | exact Below.refl _ _ | assumption | (refine Below.setCell ?_ (by first | omega | (simp; omega) | (simp; done) | (dsimp only; omega)) _) | (refine Below.alloc ?_ (by first | omega | (simp; omega) | (simp; done) | (dsimp only; omega)) _) | (refine below_drewN ?_ _) | (refine Below.drew ?_))⟩
    have := (made_os (e := 0) (sz := 1) (f := fun b => [Value.bool b]) (hl := fun _ => rfl) (hb := fun _ => rfl) w false 0 #[] rfl (by simp))
    exact ⟨[], ⟨World.ownsRow_made w #[] 0 (Nat.le_refl _) (by simp) (by simp), fun k hk => by simp [Value.ownBlock] at hk; simp; omega, by simp⟩, .nil, fun cs hcs => by cases hcs⟩
  case round =>
    obtain ⟨k, A, c, hk, rfl, rfl, ho, hb⟩ := hrel
    have hz := hb.size
    by_cases hlt : k < n
    · go_wp2_with (at_builtin; refine wpList_app1 tyBoolSS A (List.replicate k (List.replicate n false)) (List.replicate n false) [.slice (some ⟨wr.heap.size, 0, none⟩) n n] ⟨wr.heap.size + 1, 0, none⟩ 1 (lo := w.heap.size) (hi := wr.heap.size) (ho.same ?q1) (by simp) ?q2 hz ?q3 _ _ rfl rfl rfl rfl ?q4 ?q5 ?q6 (by decide) (fun A' c' w1 ho1 hg1 hc1 hm1 => ?_))
      case q1 => (with_reducible repeat' first | exact Same.refl _ _ _ | assumption | (refine Same.setCell ?_ (by first | omega | (simp; omega) | (simp; done) | (dsimp only; omega)) _) | (refine Same.alloc ?_ (by first | omega | (simp; omega) | (simp; done) | (dsimp only; omega)) _) | (refine Same.drewN ?_ _) | (refine Same.drew ?_))
      case q2 => (first | omega | (simp; omega) | (simp; done) | (dsimp only; omega))
      case q3 => exact ⟨_, rfl, ((made_one n wr (by omega)).same (by (with_reducible repeat' first | exact Same.refl _ _ _ | assumption | (refine Same.setCell ?_ (by first | omega | (simp; omega) | (simp; done) | (dsimp only; omega)) _) | (refine Same.alloc ?_ (by first | omega | (simp; omega) | (simp; done) | (dsimp only; omega)) _) | (refine Same.drewN ?_ _) | (refine Same.drew ?_)))).mono (Nat.le_refl _) (by simp)⟩
      case q4 => exact cell_one_at _ _ _ _ (by simp)
      case q5 => simp; rfl
      case q6 => omega
      refine ⟨⟨k + 1, A', c', by omega, by go_num, rfl, by simpa [List.replicate_succ'] using ho1, ?_⟩, by simp [intOf]; omega⟩
      exact Below.grown (w := (wr.alloc _).alloc _) (by (with_reducible repeat' first | exact Below.refl _ _ | assumption | (refine Below.setCell ?_ (by first | omega | (simp; omega) | (simp; done) | (dsimp only; omega)) _) | (refine Below.alloc ?_ (by first | omega | (simp; omega) | (simp; done) | (dsimp only; omega)) _) | (refine below_drewN ?_ _) | (refine Below.drew ?_))) hg1 (by simp; omega) (fun k hk => (ho.blkv k hk).1)
    · obtain rfl : k = n := by omega
      go_wp2
      go_ret
      exact ⟨_, _, rfl, ho, hb⟩
end Go.Proofs.Ytmgfpcchlonknaa
