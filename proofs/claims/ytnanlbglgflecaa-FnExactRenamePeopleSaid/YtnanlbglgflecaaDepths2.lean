/-
  The depths of persons, as the program finds them.
-/
import Derived.Test.YtnanlbglgflecaaDepths
namespace Go.Proofs.Ytnanlbglgflecaa
set_option maxRecDepth 100000
open Go.RowKit

theorem EInt_O' : ∀ (w : World) (lo hi : Nat) (cs : List Value) (x : Int), EInt.O w lo hi cs x ↔ cs = [.int .i64 x] := fun _ _ _ _ _ => Iff.rfl
theorem OS_drewn {α : Type} {E : Elem α} {w : World} {lo hi : Nat} {v : Value} {xs : List α} (h : E.OS w lo hi v xs) : E.OS w.drew lo hi v xs := h.same ⟨Nat.le_refl _, fun _ _ _ => rfl⟩
def depZ (n k : Nat) (P : List Int) : List Int := P ++ List.replicate (n - k) 0
def depM (n k : Nat) (P : List Int) (m : Int) : List Int := P ++ m :: List.replicate (n - (k + 1)) 0
def midO (P : List Int) (f m : Int) : Nat → Int
  | 0 => 0
  | 1 => max 0 (upTo P f)
  | _ => max (max 0 (upTo P f)) (upTo P m)
theorem depZ_open {n k : Nat} {P : List Int} (h : k < n) : depZ n k P = depM n k P 0 := by
  rw [depZ, depM, show n - k = (n - (k + 1)) + 1 by omega, List.replicate_succ]
theorem depM_shut {n k : Nat} {P : List Int} {d : Int} : depM n k P d = depZ n (k + 1) (P ++ [d]) := by simp [depM, depZ]
theorem depM_at {n k : Nat} {P : List Int} {m : Int} (h : P.length = k) : (depM n k P m)[k]? = some m := by
  rw [depM, List.getElem?_append_right (by omega), h]; simp
theorem depM_set {n k : Nat} {P : List Int} {m d : Int} (h : P.length = k) : (depM n k P m).set k d = depM n k P d := by
  rw [depM, List.set_append_right _ _ (by omega), h]; simp [depM]
theorem depM_old {n k q : Nat} {P : List Int} {m : Int} (h : P.length = k) (hq : q < k) : (depM n k P m)[q]? = P[q]? := by
  rw [depM, List.getElem?_append_left (by omega)]
theorem depM_len {n k : Nat} {P : List Int} {m : Int} (h : P.length = k) (hk : k < n) : (depM n k P m).length = n := by simp [depM, h]; omega
theorem upTo_nn {xs : List Person} {k : Nat} (q : Int) : 0 ≤ upTo (depL xs k) q ∧ upTo (depL xs k) q ≤ k + 1 := by
  unfold upTo
  split
  · rw [List.getD_eq_getElem?_getD]
    cases hq : (depL xs k)[q.toNat]? with
    | none => simp; omega
    | some y => have := depL_bound xs _ _ _ hq; simp; omega
  · omega
theorem midO_le {xs : List Person} {k j : Nat} {f m : Int} : 0 ≤ midO (depL xs k) f m j ∧ midO (depL xs k) f m j ≤ k + 1 := by
  have h1 := upTo_nn (xs := xs) (k := k) f
  have h2 := upTo_nn (xs := xs) (k := k) m
  unfold midO; split <;> omega

def DepRel (xs : List Person) (w : World) (i : Value) (wr : World) : Prop :=
  ∃ k : Nat, k ≤ xs.length ∧ i = .int .i64 k ∧ EInt.OS wr w.heap.size (w.heap.size + 1) (.slice (some ⟨w.heap.size, 0, none⟩) xs.length xs.length) (depZ xs.length k (depL xs k)) ∧ Below w.heap.size w wr ∧ w.heap.size + 1 ≤ wr.heap.size
def DepIn (xs : List Person) (k : Nat) (f m : Int) (w wo : World) (i : Value) (wr : World) : Prop :=
  ∃ j : Nat, j ≤ 2 ∧ i = .int .i64 j ∧ EInt.OS wr w.heap.size (w.heap.size + 1) (.slice (some ⟨w.heap.size, 0, none⟩) xs.length xs.length) (depM xs.length k (depL xs k) (midO (depL xs k) f m j)) ∧ Below w.heap.size w wr ∧ Blk wr (wo.heap.size + 1) 3 #[.int .i64 f, .int .i64 m] ∧ wo.heap.size + 1 ≤ wr.heap.size

theorem made_ints (n : Nat) : (madeCells (Value.int .i64 0).cells (n * 1)).toList = (List.replicate n (0 : Int)).flatMap fun b => [Value.int .i64 b] := by
  have : ∀ n : Nat, ((List.replicate n (0 : Int)).flatMap fun b => [Value.int .i64 b]) = List.replicate n (Value.int .i64 0) := fun n => by induction n <;> simp_all [List.replicate_succ]
  rw [this, Nat.mul_one]
  apply List.ext_getElem?
  intro i
  by_cases hi : i < n
  · simp [madeCells, Value.cells, hi, Nat.mod_one]
  · simp [madeCells, Value.cells, hi]
/-- A slice that make has just laid. -/
theorem made_osI (w : World) (n : Nat) (cur : Array Value) (hc : cur.toList = (List.replicate n (0 : Int)).flatMap fun b => [Value.int .i64 b]) (hn : n ≤ BIG) :
    EInt.OS (w.alloc (.cells cur 3)) w.heap.size (w.heap.size + 1) (.slice (some ⟨w.heap.size, 0, none⟩) n n) (List.replicate n 0) := by
  have hlen : ((List.replicate n (0 : Int)).flatMap fun b => [Value.int .i64 b]).length = n := by
    induction n <;> simp_all [List.replicate_succ]
  refine flat_os.2 ?_
  refine ⟨⟨by rw [hlen, List.length_replicate, Nat.mul_one], .inr ⟨w.heap.size, n, cur, by simp, Nat.le_refl _, heap_alloc_new w _, by simp, by unfold BIG at hn; simp only [maxLen]; omega, ?_, ?_⟩⟩, fun k hk => by simp [Value.ownBlock] at hk; omega, by simpa using hn⟩
  · rw [← Array.length_toList, hc, hlen]; simp
  · rw [hc, List.length_replicate, List.take_of_length_le]; rw [hlen]; simp

set_option maxHeartbeats 4000000 in
theorem depths_any (A : Option Addr) (c lo hi : Nat) (xs : List Person) (w : World) (h : EPerson.AS w lo hi A xs) (hh : hi ≤ w.heap.size) (hn : xs.length ≤ 40) (hB : Before xs) :
    Calls Try.prog 202 #[.slice A xs.length c] w (RetIntS w (depL xs xs.length)) := by
  obtain ⟨i0, hi0, hz0, hz1, hz2⟩ := info_parts int_info
  have hmk := run_mk (P := Try.prog) 88 3 i0 _ 1 8 Try.underlying88 hi0 hz0 hz1 hz2 xs.length (by omega) (by unfold BIG; omega)
  clear hi0 hz0 hz1 hz2
  go_enter Try.func202, Try.ntmps202
  go_wp2
  go_loopw [13] (fun i wr => DepRel xs w i wr) (fun i _ => xs.length - (intOf i).toNat)
  case atStart =>
    refine ⟨0, Nat.zero_le _, rfl, ?_, by (with_reducible repeat' first | exact Below.refl _ _ | assumption | (refine Below.setCell ?_ (by first | omega | (simp; omega) | (simp; done) | (dsimp only; omega)) _) | (refine Below.alloc ?_ (by first | omega | (simp; omega) | (simp; done) | (dsimp only; omega)) _) | (refine below_drewN ?_ _) | (refine Below.drew ?_)), by simp⟩
    have := made_osI w xs.length (madeCells #[Value.int .i64 0] xs.length) (by simpa [Value.cells] using made_ints xs.length) (by unfold BIG; omega)
    simpa [depZ, depL] using this
  case round =>
    obtain ⟨k, hk, rfl, ho, hb, hz⟩ := hrel
    have hl := Lib.hid (depL_len xs k)
    by_cases hlt : k < xs.length
    · obtain ⟨b, off, ⟨x0, x1, x2, x3, x4, x5⟩, rfl, g1, g2, _, hxk, hc0, hc1, hc2, hc3, hc4, hc5⟩ := APerson.at_ (h.same (Same.of_below hb hh)) hlt
      obtain ⟨hf, hm⟩ := hB k _ hxk
      have HS := Lib.hid (depL_succ hxk); clear hxk
      simp only at hc0 hc1 hc2 hc3 hc4 hc5 hf hm
      rw [depZ_open hlt] at ho
      have lb : b < wr.heap.size := by omega
      go_wp2
      obtain ⟨wo, rfl⟩ : ∃ wo : World, wo = wr := ⟨_, rfl⟩
      go_loopw [24] (fun i wr => DepIn xs k x2 x3 w wo i wr) (fun i _ => 2 - (intOf i).toNat)
      case atStart =>
        refine ⟨0, by omega, rfl, ho.same (by (with_reducible repeat' first | exact Same.refl _ _ _ | assumption | (refine Same.setCell ?_ (by first | omega | (simp; omega) | (simp; done) | (dsimp only; omega)) _) | (refine Same.alloc ?_ (by first | omega | (simp; omega) | (simp; done) | (dsimp only; omega)) _) | (refine Same.drewN ?_ _) | (refine Same.drew ?_))), by (with_reducible repeat' first | exact Below.refl _ _ | assumption | (refine Below.setCell ?_ (by first | omega | (simp; omega) | (simp; done) | (dsimp only; omega)) _) | (refine Below.alloc ?_ (by first | omega | (simp; omega) | (simp; done) | (dsimp only; omega)) _) | (refine below_drewN ?_ _) | (refine Below.drew ?_)), Blk.new _ (by simp), by simp⟩
      case round =>
        obtain ⟨j, hj, rfl, hoj, hbj, hBj, hzj⟩ := hrel
        have hml := midO_le (xs := xs) (k := k) (j := j) (f := x2) (m := x3)
        have hdl := depM_len (n := xs.length) (m := midO (depL xs k) x2 x3 j) hl.out hlt
        have hnext : ∀ q : Int, (j = 0 ∧ q = x2 ∨ j = 1 ∧ q = x3) → max (midO (depL xs k) x2 x3 j) (upTo (depL xs k) q) = midO (depL xs k) x2 x3 (j + 1) := by
          rintro q (⟨rfl, rfl⟩ | ⟨rfl, rfl⟩) <;> rfl
        have hend : j = 2 → depL xs (k + 1) = depL xs k ++ [midO (depL xs k) x2 x3 j] := fun e => by
          subst e
          have e2 : midO (depL xs k) x2 x3 2 = max (max 0 (upTo (depL xs k) x2)) (upTo (depL xs k) x3) := rfl
          rw [HS.out, depOf, e2, Int.max_eq_right (upTo_nn x2).1]
        have HE := Lib.hid hend; clear hend
        have HN := Lib.hid hnext; clear hnext
        generalize hM : midO (depL xs k) x2 x3 j = M at *
        clear hM
        obtain ⟨g, cc, hv, _, _, _, hc, hset⟩ := flat_put EInt_O' hoj (by omega) (depM_at (n := xs.length) (m := M) hl.out)
        rw [hdl] at hv
        injection hv with hv; injection hv with hv; injection hv with hv; subst hv
        obtain ⟨cM, fM⟩ := hc 0 _ rfl
        clear hc
        have ek : k * EInt.sz + 0 = k := by simp [EInt, Elem.flat]
        have hset : ∀ y : Int, EInt.OS (wr.setCell ⟨w.heap.size, k, none⟩ (.int .i64 y)) w.heap.size (w.heap.size + 1) (.slice (some ⟨w.heap.size, 0, none⟩) xs.length xs.length) (depM xs.length k (depL xs k) y) := fun y => by
          have := hset 0 (.int .i64 y) _ y rfl rfl rfl
          rw [depM_set hl.out, ek] at this
          exact this
        simp only [EInt, Elem.flat, Nat.mul_one, Nat.add_zero] at cM fM
        have HST := Lib.hid hset; clear hset
        clear hdl
        by_cases hjl : j < 2
        · -- the parent of this turn
          obtain ⟨q, hq, hqk, hq1⟩ : ∃ q : Int, wr.cell? ⟨wo.heap.size + 1, j, none⟩ = some (.int .i64 q) ∧ q < k ∧ (j = 0 ∧ q = x2 ∨ j = 1 ∧ q = x3) := by
            rcases (by omega : j = 0 ∨ j = 1) with rfl | rfl
            · exact ⟨x2, hBj.cell (i := 0) rfl, hf, .inl ⟨rfl, rfl⟩⟩
            · exact ⟨x3, hBj.cell (i := 1) rfl, hm, .inr ⟨rfl, rfl⟩⟩
          have HQ := Lib.hid (HN.out q hq1); clear hq1 HN
          by_cases q0 : 0 ≤ q
          · obtain ⟨q, rfl⟩ := Int.eq_ofNat_of_zero_le q0
            have hqn : q < k := by omega
            obtain ⟨b', off', e, he, _, k2, _, k3, k4⟩ := AInt.at_ (k := q) hoj.read.as (by rw [depM_len hl.out hlt]; omega)
            injection he with he; injection he with he1 he2 _; subst he1; subst he2
            rw [depM_old hl.out hqn] at k3
            have hbd := depL_bound xs k q e k3
            have HU := Lib.hid (show upTo (depL xs k) q = e + 1 by rw [upTo, if_pos (by omega), List.getD_eq_getElem?_getD, Int.toNat_natCast, k3]; rfl)
            clear k3
            rw [Nat.zero_add] at k4
            have i1 : (0 : Int) ≤ (k : Int) ∧ (k : Int) < (xs.length : Int) := by omega
            have i2 : (0 : Int) ≤ (q : Int) ∧ (q : Int) < (xs.length : Int) := by omega
            have i3 : (0 : Int) ≤ (j : Int) ∧ (j : Int) < 2 := by omega
            go_wp2
            go_region
            go_wp2
            all_goals
              refine ⟨⟨j + 1, by omega, by go_num, ?_, (hbj.setCell (Nat.le_refl _) _).drew, (hBj.far (by simp; omega) _).drew, by simpa [World.setCell] using hzj⟩, by simp [intOf]; omega⟩
              rw [← HQ.out, HU.out]
              first | rw [Int.max_eq_right (by omega)] | rw [Int.max_eq_left (by omega)]
              exact OS_drewn (HST.out _)
          · have HZ := Lib.hid (show upTo (depL xs k) q = 0 by rw [upTo, if_neg q0])
            go_wp2
            refine ⟨⟨j + 1, by omega, by go_num, ?_, hbj, hBj, hzj⟩, by simp [intOf]; omega⟩
            rw [← HQ.out, HZ.out, Int.max_eq_left hml.1]; exact hoj
        · obtain rfl : j = 2 := by omega
          go_wp2
          refine ⟨⟨k + 1, by omega, by go_num, ?_, hbj, by omega⟩, by simp [intOf]; omega⟩
          rw [HE.out rfl, ← depM_shut]; exact hoj
    · obtain rfl : k = xs.length := by omega
      go_wp2
      go_ret
      unfold RetIntS
      rw [hl.out]
      exact ⟨_, _, rfl, by simpa [depZ] using ho.mono (Nat.le_refl _) hz, hb⟩
end Go.Proofs.Ytnanlbglgflecaa
