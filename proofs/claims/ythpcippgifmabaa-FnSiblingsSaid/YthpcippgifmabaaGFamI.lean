/-
  The depths of persons, as the program finds them.
  Whether a family is valid, in the program.
  What is asked of a family, in the program.
  Partners, parents, the end of a union, in the program.
-/
import Derived.Test.YthpcippgifmabaaGFam
import Derived.Test.YthpcippgifmabaaUnionFit
import Derived.Test.YthpcippgifmabaaGAlg
import Derived.Deep.Cut
import Derived.Deep.DeepCutAuto

/-! ## Depths2 -/
namespace Go.Proofs.Ythpcippgifmabaa
set_option maxRecDepth 100000
open Go.RowKit

theorem EInt_O' : ∀ (w : World) (lo hi : Nat) (cs : List Value) (x : Int), EInt.O w lo hi cs x ↔ cs = [.int .i64 x] := fun _ _ _ _ _ => Iff.rfl
theorem OS_drewn {α : Type} {E : Elem α} {w : World} {lo hi : Nat} {v : Value} {xs : List α} (h : E.OS w lo hi v xs) : E.OS w.drew lo hi v xs := h.same ⟨Nat.le_refl _, fun _ _ _ => rfl⟩
def depZ (n k : Nat) (P : List Int) : List Int := P ++ List.replicate (n - k) 0
def depM (n k : Nat) (P : List Int) (m : Int) : List Int := P ++ m :: List.replicate (n - (k + 1)) 0
def midO (P : List Int) (f m : Int) : Nat → Int
  | 0 => 0
  | 1 => max 0 (upTo P f)
  | _ => max (max 0 (upTo P f)) (upTo P m)
theorem depZ_open {n k : Nat} {P : List Int} (h : k < n) : depZ n k P = depM n k P 0 := by
  rw [depZ, depM, show n - k = (n - (k + 1)) + 1 by omega, List.replicate_succ]
theorem depM_shut {n k : Nat} {P : List Int} {d : Int} : depM n k P d = depZ n (k + 1) (P ++ [d]) := by simp [depM, depZ]
theorem depM_at {n k : Nat} {P : List Int} {m : Int} (h : P.length = k) : (depM n k P m)[k]? = some m := by
  rw [depM, List.getElem?_append_right (by omega), h]; simp
theorem depM_set {n k : Nat} {P : List Int} {m d : Int} (h : P.length = k) : (depM n k P m).set k d = depM n k P d := by
  rw [depM, List.set_append_right _ _ (by omega), h]; simp [depM]
theorem depM_old {n k q : Nat} {P : List Int} {m : Int} (h : P.length = k) (hq : q < k) : (depM n k P m)[q]? = P[q]? := by
  rw [depM, List.getElem?_append_left (by omega)]
theorem depM_len {n k : Nat} {P : List Int} {m : Int} (h : P.length = k) (hk : k < n) : (depM n k P m).length = n := by simp [depM, h]; omega
theorem upTo_nn {xs : List Person} {k : Nat} (q : Int) : 0 ≤ upTo (depL xs k) q ∧ upTo (depL xs k) q ≤ k + 1 := by
  unfold upTo
  split
  · rw [List.getD_eq_getElem?_getD]
    cases hq : (depL xs k)[q.toNat]? with
    | none => simp; omega
    | some y => have := depL_bound xs _ _ _ hq; simp; omega
  · omega
theorem midO_le {xs : List Person} {k j : Nat} {f m : Int} : 0 ≤ midO (depL xs k) f m j ∧ midO (depL xs k) f m j ≤ k + 1 := by
  have h1 := upTo_nn (xs := xs) (k := k) f
  have h2 := upTo_nn (xs := xs) (k := k) m
  unfold midO; split <;> omega

def DepRel (xs : List Person) (w : World) (i : Value) (wr : World) : Prop :=
  ∃ k : Nat, k ≤ xs.length ∧ i = .int .i64 k ∧ EInt.OS wr w.heap.size (w.heap.size + 1) (.slice (some ⟨w.heap.size, 0, none⟩) xs.length xs.length) (depZ xs.length k (depL xs k)) ∧ Below w.heap.size w wr ∧ w.heap.size + 1 ≤ wr.heap.size
def DepIn (xs : List Person) (k : Nat) (f m : Int) (w wo : World) (i : Value) (wr : World) : Prop :=
  ∃ j : Nat, j ≤ 2 ∧ i = .int .i64 j ∧ EInt.OS wr w.heap.size (w.heap.size + 1) (.slice (some ⟨w.heap.size, 0, none⟩) xs.length xs.length) (depM xs.length k (depL xs k) (midO (depL xs k) f m j)) ∧ Below w.heap.size w wr ∧ Blk wr (wo.heap.size + 1) 3 #[.int .i64 f, .int .i64 m] ∧ wo.heap.size + 1 ≤ wr.heap.size

theorem made_ints (n : Nat) : (madeCells (Value.int .i64 0).cells (n * 1)).toList = (List.replicate n (0 : Int)).flatMap fun b => [Value.int .i64 b] := by
  have : ∀ n : Nat, ((List.replicate n (0 : Int)).flatMap fun b => [Value.int .i64 b]) = List.replicate n (Value.int .i64 0) := fun n => by induction n <;> simp_all [List.replicate_succ]
  rw [this, Nat.mul_one]
  apply List.ext_getElem?
  intro i
  by_cases hi : i < n
  · simp [madeCells, Value.cells, hi, Nat.mod_one]
  · simp [madeCells, Value.cells, hi]
/-- A slice that make has just laid. -/
theorem made_osI (w : World) (n : Nat) (cur : Array Value) (hc : cur.toList = (List.replicate n (0 : Int)).flatMap fun b => [Value.int .i64 b]) (hn : n ≤ BIG) :
    EInt.OS (w.alloc (.cells cur 3)) w.heap.size (w.heap.size + 1) (.slice (some ⟨w.heap.size, 0, none⟩) n n) (List.replicate n 0) := by
  have hlen : ((List.replicate n (0 : Int)).flatMap fun b => [Value.int .i64 b]).length = n := by
    induction n <;> simp_all [List.replicate_succ]
  refine flat_os.2 ?_
  refine ⟨⟨by rw [hlen, List.length_replicate, Nat.mul_one], .inr ⟨w.heap.size, n, cur, by simp, Nat.le_refl _, heap_alloc_new w _, by simp, by unfold BIG at hn; simp only [maxLen]; omega, ?_, ?_⟩⟩, fun k hk => by simp [Value.ownBlock] at hk; omega, by simpa using hn⟩
  · rw [← Array.length_toList, hc, hlen]; simp
  · rw [hc, List.length_replicate, List.take_of_length_le]; rw [hlen]; simp

set_option maxHeartbeats 4000000 in
theorem depths_any (A : Option Addr) (c lo hi : Nat) (xs : List Person) (w : World) (h : EPerson.AS w lo hi A xs) (hh : hi ≤ w.heap.size) (hn : xs.length ≤ 40) (hB : Before xs) :
    Calls Try.prog 75 #[.slice A xs.length c] w (RetIntS w (depL xs xs.length)) := by
  obtain ⟨i0, hi0, hz0, hz1, hz2⟩ := info_parts int_info
  have hmk := run_mk (P := Try.prog) 29 3 i0 _ 1 8 Try.underlying29 hi0 hz0 hz1 hz2 xs.length (by omega) (by unfold BIG; omega)
  clear hi0 hz0 hz1 hz2
  go_enter Try.func75, Try.ntmps75
  go_wp2
  go_loopw [13] (fun i wr => DepRel xs w i wr) (fun i _ => xs.length - (intOf i).toNat)
  case atStart =>
    refine ⟨0, Nat.zero_le _, rfl, ?_, by (with_reducible repeat' first | exact Below.refl _ _ | assumption | (refine Below.setCell ?_ (by first | omega | (simp; omega) | (simp; done) | (dsimp only; omega)) _) | (refine Below.alloc ?_ (by first | omega | (simp; omega) | (simp; done) | (dsimp only; omega)) _) | (refine below_drewN ?_ _) | (refine Below.drew ?_)), by simp⟩
    have := made_osI w xs.length (madeCells #[Value.int .i64 0] xs.length) (by simpa [Value.cells] using made_ints xs.length) (by unfold BIG; omega)
    simpa [depZ, depL] using this
  case round =>
    obtain ⟨k, hk, rfl, ho, hb, hz⟩ := hrel
    have hl := Lib.hid (depL_len xs k)
    by_cases hlt : k < xs.length
    · obtain ⟨b, off, ⟨x0, x1, x2, x3, x4, x5⟩, rfl, g1, g2, _, hxk, hc0, hc1, hc2, hc3, hc4, hc5⟩ := APerson.at_ (h.same (Same.of_below hb hh)) hlt
      obtain ⟨hf, hm⟩ := hB k _ hxk
      have HS := Lib.hid (depL_succ hxk); clear hxk
      simp only at hc0 hc1 hc2 hc3 hc4 hc5 hf hm
      rw [depZ_open hlt] at ho
      have lb : b < wr.heap.size := by omega
      go_wp2
      obtain ⟨wo, rfl⟩ : ∃ wo : World, wo = wr := ⟨_, rfl⟩
      go_loopw [24] (fun i wr => DepIn xs k x2 x3 w wo i wr) (fun i _ => 2 - (intOf i).toNat)
      case atStart =>
        refine ⟨0, by omega, rfl, ho.same (by (with_reducible repeat' first | exact Same.refl _ _ _ | assumption | (refine Same.setCell ?_ (by first | omega | (simp; omega) | (simp; done) | (dsimp only; omega)) _) | (refine Same.alloc ?_ (by first | omega | (simp; omega) | (simp; done) | (dsimp only; omega)) _) | (refine Same.drewN ?_ _) | (refine Same.drew ?_))), by (with_reducible repeat' first | exact Below.refl _ _ | assumption | (refine Below.setCell ?_ (by first | omega | (simp; omega) | (simp; done) | (dsimp only; omega)) _) | (refine Below.alloc ?_ (by first | omega | (simp; omega) | (simp; done) | (dsimp only; omega)) _) | (refine below_drewN ?_ _) | (refine Below.drew ?_)), Blk.new _ (by simp), by simp⟩
      case round =>
        obtain ⟨j, hj, rfl, hoj, hbj, hBj, hzj⟩ := hrel
        have hml := midO_le (xs := xs) (k := k) (j := j) (f := x2) (m := x3)
        have hdl := depM_len (n := xs.length) (m := midO (depL xs k) x2 x3 j) hl.out hlt
        have hnext : ∀ q : Int, (j = 0 ∧ q = x2 ∨ j = 1 ∧ q = x3) → max (midO (depL xs k) x2 x3 j) (upTo (depL xs k) q) = midO (depL xs k) x2 x3 (j + 1) := by
          rintro q (⟨rfl, rfl⟩ | ⟨rfl, rfl⟩) <;> rfl
        have hend : j = 2 → depL xs (k + 1) = depL xs k ++ [midO (depL xs k) x2 x3 j] := fun e => by
          subst e
          have e2 : midO (depL xs k) x2 x3 2 = max (max 0 (upTo (depL xs k) x2)) (upTo (depL xs k) x3) := rfl
          rw [HS.out, depOf, e2, Int.max_eq_right (upTo_nn x2).1]
        have HE := Lib.hid hend; clear hend
        have HN := Lib.hid hnext; clear hnext
        generalize hM : midO (depL xs k) x2 x3 j = M at *
        clear hM
        obtain ⟨g, cc, hv, _, _, _, hc, hset⟩ := flat_put EInt_O' hoj (by omega) (depM_at (n := xs.length) (m := M) hl.out)
        rw [hdl] at hv
        injection hv with hv; injection hv with hv; injection hv with hv; subst hv
        obtain ⟨cM, fM⟩ := hc 0 _ rfl
        clear hc
        have ek : k * EInt.sz + 0 = k := by simp [EInt, Elem.flat]
        have hset : ∀ y : Int, EInt.OS (wr.setCell ⟨w.heap.size, k, none⟩ (.int .i64 y)) w.heap.size (w.heap.size + 1) (.slice (some ⟨w.heap.size, 0, none⟩) xs.length xs.length) (depM xs.length k (depL xs k) y) := fun y => by
          have := hset 0 (.int .i64 y) _ y rfl rfl rfl
          rw [depM_set hl.out, ek] at this
          exact this
        simp only [EInt, Elem.flat, Nat.mul_one, Nat.add_zero] at cM fM
        have HST := Lib.hid hset; clear hset
        clear hdl
        by_cases hjl : j < 2
        · -- the parent of this turn
          obtain ⟨q, hq, hqk, hq1⟩ : ∃ q : Int, wr.cell? ⟨wo.heap.size + 1, j, none⟩ = some (.int .i64 q) ∧ q < k ∧ (j = 0 ∧ q = x2 ∨ j = 1 ∧ q = x3) := by
            rcases (by omega : j = 0 ∨ j = 1) with rfl | rfl
            · exact ⟨x2, hBj.cell (i := 0) rfl, hf, .inl ⟨rfl, rfl⟩⟩
            · exact ⟨x3, hBj.cell (i := 1) rfl, hm, .inr ⟨rfl, rfl⟩⟩
          have HQ := Lib.hid (HN.out q hq1); clear hq1 HN
          by_cases q0 : 0 ≤ q
          · obtain ⟨q, rfl⟩ := Int.eq_ofNat_of_zero_le q0
            have hqn : q < k := by omega
            obtain ⟨b', off', e, he, _, k2, _, k3, k4⟩ := AInt.at_ (k := q) hoj.read.as (by rw [depM_len hl.out hlt]; omega)
            injection he with he; injection he with he1 he2 _; subst he1; subst he2
            rw [depM_old hl.out hqn] at k3
            have hbd := depL_bound xs k q e k3
            have HU := Lib.hid (show upTo (depL xs k) q = e + 1 by rw [upTo, if_pos (by omega), List.getD_eq_getElem?_getD, Int.toNat_natCast, k3]; rfl)
            clear k3
            rw [Nat.zero_add] at k4
            have i1 : (0 : Int) ≤ (k : Int) ∧ (k : Int) < (xs.length : Int) := by omega
            have i2 : (0 : Int) ≤ (q : Int) ∧ (q : Int) < (xs.length : Int) := by omega
            have i3 : (0 : Int) ≤ (j : Int) ∧ (j : Int) < 2 := by omega
            go_wp2
            go_region
            go_wp2
            all_goals
              refine ⟨⟨j + 1, by omega, by go_num, ?_, (hbj.setCell (Nat.le_refl _) _).drew, (hBj.far (by simp; omega) _).drew, by simpa [World.setCell] using hzj⟩, by simp [intOf]; omega⟩
              rw [← HQ.out, HU.out]
              first | rw [Int.max_eq_right (by omega)] | rw [Int.max_eq_left (by omega)]
              exact OS_drewn (HST.out _)
          · have HZ := Lib.hid (show upTo (depL xs k) q = 0 by rw [upTo, if_neg q0])
            go_wp2
            refine ⟨⟨j + 1, by omega, by go_num, ?_, hbj, hBj, hzj⟩, by simp [intOf]; omega⟩
            rw [← HQ.out, HZ.out, Int.max_eq_left hml.1]; exact hoj
        · obtain rfl : j = 2 := by omega
          go_wp2
          refine ⟨⟨k + 1, by omega, by go_num, ?_, hbj, by omega⟩, by simp [intOf]; omega⟩
          rw [HE.out rfl, ← depM_shut]; exact hoj
    · obtain rfl : k = xs.length := by omega
      go_wp2
      go_ret
      unfold RetIntS
      rw [hl.out]
      exact ⟨_, _, rfl, by simpa [depZ] using ho.mono (Nat.le_refl _) hz, hb⟩
end Go.Proofs.Ythpcippgifmabaa

/-! ## FamilyI -/
namespace Go.Proofs.Ythpcippgifmabaa
set_option maxRecDepth 100000
open Go.RowKit Go.Maps

theorem str_und : Try.prog.underlying 9 = some .string := by kernel_rfl
theorem str_keyed : Keyed Try.prog 9 := string_keyed str_und
theorem str_map : Try.prog.underlying 87 = some (.map 9 4) := by kernel_rfl
theorem str_key {s : ByteArray} (h : s.size ≤ 1048576) : keyOf Try.prog 9 (.string s) = some (.string s.data.toList) := WideMaps.keyOf_string_mk str_und (by unfold maxLen; omega)
theorem str_lit {s t : ByteArray} (h : s.size ≤ 1048576) (h' : t.size ≤ 1048576) : (Lit.string s.data.toList).sameKey (.string t.data.toList) = eqB t s := by
  rw [Bool.eq_iff_iff, sameKey_iff (str_keyed.key (str_key h')), eqB_iff]
  constructor
  · intro e
    injection e with e
    exact (ByteArray.ext (Array.toList_inj.1 e)).symm
  · rintro rfl; rfl

def NameTab (xs : List Person) (bm : Nat) (W : World) (i : Value) (wr : World) : Prop :=
  ∃ (k : Nat) (S : Lit → Bool), k ≤ xs.length ∧ i = .int .i64 k ∧ BSet wr 9 bm k S ∧ (∀ s : ByteArray, s.size ≤ 1048576 → S (.string s.data.toList) = !(newName xs k s)) ∧ Chg bm (bm + 1) W wr ∧ peopleOk xs k = true
theorem fi_cases (b d : Int) : b < 0 ∨ 0 ≤ b ∧ 9999 < b ∨ 0 ≤ b ∧ b ≤ 9999 ∧ d = -1 ∨ 0 ≤ b ∧ b ≤ 9999 ∧ d ≠ -1 ∧ d < b ∨ 0 ≤ b ∧ b ≤ 9999 ∧ d ≠ -1 ∧ b ≤ d ∧ 9999 < d ∨ 0 ≤ b ∧ b ≤ 9999 ∧ d ≠ -1 ∧ b ≤ d ∧ d ≤ 9999 := by
  by_cases h1 : b < 0
  · exact .inl h1
  · refine .inr ?_
    by_cases h2 : 9999 < b
    · exact .inl ⟨by omega, h2⟩
    · refine .inr ?_
      by_cases h3 : d = -1
      · exact .inl ⟨by omega, by omega, h3⟩
      · refine .inr ?_
        by_cases h4 : d < b
        · exact .inl ⟨by omega, by omega, h3, h4⟩
        · refine .inr ?_
          by_cases h5 : 9999 < d
          · exact .inl ⟨by omega, by omega, h3, by omega, h5⟩
          · exact .inr ⟨by omega, by omega, h3, by omega, by omega⟩

set_option maxHeartbeats 8000000 in
theorem implIsFamily_any (A B : Option Addr) (c d lo hi : Nat) (xs : List Person) (ys : List Union) (w : World) (h : EPerson.AS w lo hi A xs) (h' : EUnion.AS w lo hi B ys) (hh : hi ≤ w.heap.size) (hdc : ys.length ≤ d ∧ d ≤ maxLen) (hs : totP xs ≤ 1048576) :
    Calls Try.prog 52 #[.agg #[.slice A xs.length c, .slice B ys.length d]] w fun e w' => e = .returned (.bool (famOk xs ys)) ∧ Below w.heap.size w w' := by
  replace hs := totP_mem hs
  have hx := h.le
  have hy := h'.le
  unfold BIG at hx hy
  by_cases hl : xs.length ≤ 40 ∧ ys.length ≤ 60
  · rw [famOk_in hl]
    generalize hR : (peopleOk xs xs.length && flatOk (depL xs xs.length) xs.length && unionsOk xs ys ys.length) = R
    have HR := Lib.hid hR; clear hR
    obtain ⟨hl1, hl2⟩ := hl
    have HH := Lib.hid h; have HH' := Lib.hid h'; clear h h'
    have hmm := @run_makeMap Try.prog
    go_enter Try.func52, Try.ntmps52
    go_wp2
    generalize hW : ((w.alloc (.cells #[.slice A xs.length c, .slice B ys.length d] 26)).alloc (.map #[] 0)) = W
    have e0 : W.cell? ⟨w.heap.size, 0, none⟩ = some (.slice A xs.length c) := by subst hW; simp [go_sem]
    have e1 : W.cell? ⟨w.heap.size, 1, none⟩ = some (.slice B ys.length d) := by subst hW; simp [go_sem]
    have hs0 : BSet W 9 (w.heap.size + 1) 0 fun _ => false := by subst hW; simpa using (BSet.made (w.alloc (.cells #[.slice A xs.length c, .slice B ys.length d] 26)) 9)
    have hbW : Below w.heap.size w W := by subst hW; (with_reducible repeat' first | exact Below.refl _ _ | assumption | (refine Below.setCell ?_ (by first | omega | (simp; omega) | (simp; done) | (dsimp only; omega)) _) | (refine Below.alloc ?_ (by first | omega | (simp; omega) | (simp; done) | (dsimp only; omega)) _) | (refine below_drewN ?_ _) | (refine Below.drew ?_))
    have zW : W.heap.size = w.heap.size + 2 := by subst hW; simp
    clear hW hmm
    go_loopw [23] (fun i wr => NameTab xs (w.heap.size + 1) W i wr) (fun i _ => xs.length - (intOf i).toNat)
    case atStart => exact ⟨0, _, Nat.zero_le _, rfl, hs0, fun s _ => by rw [newName_zero]; rfl, Chg.refl _ _ _, rfl⟩
    case round =>
      obtain ⟨k, S, hk, rfl, hsk, hS, hch, hp⟩ := hrel
      have HP := Lib.hid hp; clear hp
      have z1 := hch.size
      have hbw : Below w.heap.size w wr := hbW.trans (hch.below (B := w.heap.size) (by omega) (by omega))
      have d0 := (World.cell?_of_block (a := ⟨w.heap.size, 0, none⟩) (hch.block w.heap.size (by omega) (.inl (by omega)))).trans e0
      have d1 := (World.cell?_of_block (a := ⟨w.heap.size, 1, none⟩) (hch.block w.heap.size (by omega) (.inl (by omega)))).trans e1
      have hX : EPerson.AS wr lo hi A xs := HH.out.same (Same.of_below hbw hh)
      have hY : EUnion.AS wr lo hi B ys := HH'.out.same (Same.of_below hbw hh)
      have l1 : w.heap.size + 1 < wr.heap.size := by omega
      have HD := Lib.hid (peopleOk_died HP.out)
      by_cases hlt : k < xs.length
      · obtain ⟨b, off, ⟨x0, x1, x2, x3, x4, x5⟩, rfl, g1, g2, _, hxk, hc0, hc1, hc2, hc3, hc4, hc5⟩ := APerson.at_ hX hlt
        have hsz := hs _ (List.mem_of_getElem? hxk)
        have HPO := Lib.hid (personOk_of hxk)
        have HNX := Lib.hid (newName_succ hxk)
        clear hxk
        simp only at hc0 hc1 hc2 hc3 hc4 hc5 hsz
        have hsz' : x0.size ≤ 140737488355328 := by omega
        have lb : b < wr.heap.size := by omega
        go_upto_region 7 with fail
        generalize hW6 : wr.alloc (.cells #[.string x0, .int .i64 x1, .int .i64 x2, .int .i64 x3, .int .i64 x4, .int .i64 x5] 48) = W6
        have p0 : W6.cell? ⟨wr.heap.size, 0, none⟩ = some (.string x0) := by subst hW6; simp [go_sem]
        have p1 : W6.cell? ⟨wr.heap.size, 1, none⟩ = some (.int .i64 x1) := by subst hW6; simp [go_sem]
        have p2 : W6.cell? ⟨wr.heap.size, 2, none⟩ = some (.int .i64 x2) := by subst hW6; simp [go_sem]
        have p3 : W6.cell? ⟨wr.heap.size, 3, none⟩ = some (.int .i64 x3) := by subst hW6; simp [go_sem]
        have p4 : W6.cell? ⟨wr.heap.size, 4, none⟩ = some (.int .i64 x4) := by subst hW6; simp [go_sem]
        have p5 : W6.cell? ⟨wr.heap.size, 5, none⟩ = some (.int .i64 x5) := by subst hW6; simp [go_sem]
        have b6 : Below wr.heap.size wr W6 := by subst hW6; (with_reducible repeat' first | exact Below.refl _ _ | assumption | (refine Below.setCell ?_ (by first | omega | (simp; omega) | (simp; done) | (dsimp only; omega)) _) | (refine Below.alloc ?_ (by first | omega | (simp; omega) | (simp; done) | (dsimp only; omega)) _) | (refine below_drewN ?_ _) | (refine Below.drew ?_))
        have hs6 : BSet W6 9 (w.heap.size + 1) k S := by subst hW6; exact hsk.alloc _
        have hch6 : Chg (w.heap.size + 1) (w.heap.size + 1 + 1) W W6 := by subst hW6; exact hch.alloc _
        have zW6 : W6.heap.size = wr.heap.size + 1 := by subst hW6; simp
        clear hW6 hc0 hc1 hc2 hc3 hc4 hc5 hsk
        have f0 := (b6.cell (p := ⟨w.heap.size, 0, none⟩) (by first | omega | (simp; omega) | (simp; done) | (dsimp only; omega))).trans d0
        have f1 := (b6.cell (p := ⟨w.heap.size, 1, none⟩) (by first | omega | (simp; omega) | (simp; done) | (dsimp only; omega))).trans d1
        have hX6 : EPerson.AS W6 lo hi (some ⟨b, off, none⟩) xs := hX.same (Same.of_below b6 (by omega))
        have HX6 := Lib.hid hX6; clear hX6
        clear hX
        go_cut [74] (fun v wx => ∃ bad : Bool, v = .bool bad ∧ bad = !(nameOk x0 && newName xs k x0 && aliveOk ⟨x0, x1, x2, x3, x4, x5⟩) ∧ W6 = wx)
        case first =>
          have hlook := hs6.look str_keyed str_map (str_key hsz)
          rw [hS x0 hsz] at hlook
          clear d0 d1 f0 f1 hbw hch hch6 b6 g1 g2 HPO HNX p2 p3
          cases hn : nameOk x0 with
          | false =>
            have HN := Lib.hid hn; clear hn
            go_wp2_with (go_at_call 73; (with_reducible refine (implIsName_any _ _ hsz').mono ?_); rintro e w1 ⟨rfl, rfl⟩; simp only [HN.out])
            go_meet
            exact ⟨_, rfl, by rw [HN.out]; rfl, rfl⟩
          | true =>
            have HN := Lib.hid hn; clear hn
            cases hw : newName xs k x0 with
            | false =>
              have HW := Lib.hid hw
              rw [hw] at hlook; clear hw
              simp only [Bool.not_false] at hlook
              go_wp2_with (go_at_call 73; (with_reducible refine (implIsName_any _ _ hsz').mono ?_); rintro e w1 ⟨rfl, rfl⟩; simp only [HN.out])
              go_meet
              exact ⟨_, rfl, by rw [HN.out, HW.out]; rfl, rfl⟩
            | true =>
              have HW := Lib.hid hw
              rw [hw] at hlook; clear hw
              simp only [Bool.not_true] at hlook
              have hsx : ((x1 != 1) = true ∧ (x1 != 2) = true ∧ (x1 == 1) = false ∧ (x1 == 2) = false ∧ ¬ (x1 = 1 ∨ x1 = 2)) ∨ ((x1 != 1) = false ∧ (x1 == 1) = true ∧ (x1 = 1 ∨ x1 = 2)) ∨ ((x1 != 1) = true ∧ (x1 != 2) = false ∧ (x1 == 1) = false ∧ (x1 == 2) = true ∧ (x1 = 1 ∨ x1 = 2)) := by
                by_cases h1 : x1 = 1
                · exact .inr (.inl ⟨by simp [h1], by simp [h1], .inl h1⟩)
                · by_cases h2 : x1 = 2
                  · exact .inr (.inr ⟨by simp [h1], by simp [h2], by simp [h1], by simp [h2], .inr h2⟩)
                  · exact .inl ⟨by simp [h1], by simp [h2], by simp [h1], by simp [h2], by omega⟩
              have hdd : x5 ≠ -1 → (x5 == -1) = false ∧ (x5 != -1) = true := fun h => by simp [h]
              rcases hsx with ⟨s1, s2, s3, s4, s5⟩ | hsx
              · have HV : Hid (aliveOk ⟨x0, x1, x2, x3, x4, x5⟩ = false) := Lib.hid (by rw [Bool.eq_false_iff]; intro hq; exact s5 (aliveOk_parts hq).1)
                clear s5 hdd
                go_wp2_with (go_at_call 73; (with_reducible refine (implIsName_any _ _ hsz').mono ?_); rintro e w1 ⟨rfl, rfl⟩; simp only [HN.out])
                go_meet
                exact ⟨_, rfl, by rw [HN.out, HW.out, HV.out]; rfl, rfl⟩
              · have HS : Hid (x1 = 1 ∨ x1 = 2) := Lib.hid (by rcases hsx with ⟨_, _, h⟩ | ⟨_, _, _, _, h⟩ <;> exact h)
                have HV : Hid (∀ v : Bool, (v = true ↔ 0 ≤ x4 ∧ x4 ≤ 9999 ∧ (x5 = -1 ∨ x4 ≤ x5 ∧ x5 ≤ 9999)) → aliveOk ⟨x0, x1, x2, x3, x4, x5⟩ = v) := Lib.hid (by
                  intro v hv
                  rw [Bool.eq_iff_iff, hv]
                  simp only [aliveOk, decide_eq_true_eq]
                  have := HS.out
                  constructor
                  · rintro ⟨_, h⟩; exact h
                  · intro h; exact ⟨this, h⟩)
                rcases hsx with ⟨s1, s3, _⟩ | ⟨s1, s2, s3, s4, _⟩
                all_goals
                  rcases fi_cases x4 x5 with q | ⟨q, q'⟩ | ⟨q, q', q3⟩ | ⟨q, q', q3, q4⟩ | ⟨q, q', q3, q4, q5⟩ | ⟨q, q', q3, q4, q5⟩
                  · have HV1 := Lib.hid (HV.out false (by first | (simp; omega) | omega))
                    skip
                    clear hdd HV HS
                    go_wp2_with (go_at_call 73; (with_reducible refine (implIsName_any _ _ hsz').mono ?_); rintro e w1 ⟨rfl, rfl⟩; simp only [HN.out])
                    go_meet
                    exact ⟨_, rfl, by rw [HN.out, HW.out, HV1.out]; first | rfl | (simp; done) | (simp; omega), rfl⟩
                  · have HV1 := Lib.hid (HV.out false (by first | (simp; omega) | omega))
                    skip
                    clear hdd HV HS
                    go_wp2_with (go_at_call 73; (with_reducible refine (implIsName_any _ _ hsz').mono ?_); rintro e w1 ⟨rfl, rfl⟩; simp only [HN.out])
                    go_meet
                    exact ⟨_, rfl, by rw [HN.out, HW.out, HV1.out]; first | rfl | (simp; done) | (simp; omega), rfl⟩
                  · have HV1 := Lib.hid (HV.out true (by first | (simp; omega) | omega))
                    have t1 : (x5 == -1) = true := by simp [q3]
                    have t2 : (x5 != -1) = false := by simp [q3]
                    clear hdd HV HS
                    go_wp2_with (go_at_call 73; (with_reducible refine (implIsName_any _ _ hsz').mono ?_); rintro e w1 ⟨rfl, rfl⟩; simp only [HN.out])
                    go_meet
                    exact ⟨_, rfl, by rw [HN.out, HW.out, HV1.out]; first | rfl | (simp; done) | (simp; omega), rfl⟩
                  · have HV1 := Lib.hid (HV.out false (by first | (simp; omega) | omega))
                    obtain ⟨t1, t2⟩ := hdd q3
                    clear hdd HV HS
                    go_wp2_with (go_at_call 73; (with_reducible refine (implIsName_any _ _ hsz').mono ?_); rintro e w1 ⟨rfl, rfl⟩; simp only [HN.out])
                    go_meet
                    exact ⟨_, rfl, by rw [HN.out, HW.out, HV1.out]; first | rfl | (simp; done) | (simp; omega), rfl⟩
                  · have HV1 := Lib.hid (HV.out false (by first | (simp; omega) | omega))
                    obtain ⟨t1, t2⟩ := hdd q3
                    clear hdd HV HS
                    go_wp2_with (go_at_call 73; (with_reducible refine (implIsName_any _ _ hsz').mono ?_); rintro e w1 ⟨rfl, rfl⟩; simp only [HN.out])
                    go_meet
                    exact ⟨_, rfl, by rw [HN.out, HW.out, HV1.out]; first | rfl | (simp; done) | (simp; omega), rfl⟩
                  · have HV1 := Lib.hid (HV.out true (by first | (simp; omega) | omega))
                    obtain ⟨t1, t2⟩ := hdd q3
                    clear hdd HV HS
                    go_wp2_with (go_at_call 73; (with_reducible refine (implIsName_any _ _ hsz').mono ?_); rintro e w1 ⟨rfl, rfl⟩; simp only [HN.out])
                    go_meet
                    exact ⟨_, rfl, by rw [HN.out, HW.out, HV1.out]; first | rfl | (simp; done) | (simp; omega), rfl⟩
        case rest =>
          obtain ⟨bad, rfl, hbad, rfl⟩ := hcut
          cases hv : (nameOk x0 && newName xs k x0 && aliveOk ⟨x0, x1, x2, x3, x4, x5⟩) with
          | false =>
            obtain rfl : bad = true := by rw [hbad, hv]; rfl
            have HQ : Hid (personOk xs k = false) := Lib.hid (by
              rw [HPO.out, personOf]
              cases h1 : nameOk x0 <;> cases h2 : newName xs k x0 <;> cases h3 : aliveOk ⟨x0, x1, x2, x3, x4, x5⟩ <;> rw [h1, h2, h3] at hv <;> first | rfl | (simp at hv))
            have HN := Lib.hid (HR.out.symm.trans (show _ = false by rw [peopleOk_bad HQ.out hlt]; rfl))
            clear hv hbad
            go_wp2
            go_ret
            exact ⟨ret_bool HN.out.symm, hbw.trans (b6.mono (by omega))⟩
          | true =>
            obtain rfl : bad = false := by rw [hbad, hv]; rfl
            have HPO2 : Hid (personOk xs k = (parentOk xs k x2 1 1 && parentOk xs k x3 2 0)) := Lib.hid (by
              rw [HPO.out, personOf]
              cases h1 : nameOk x0 <;> cases h2 : newName xs k x0 <;> cases h3 : aliveOk ⟨x0, x1, x2, x3, x4, x5⟩ <;> rw [h1, h2, h3] at hv <;> first | (simp; done) | (simp at hv))
            clear hv hbad HPO
            have HSN : Hid (∀ s : ByteArray, s.size ≤ 1048576 → ((Lit.string s.data.toList).sameKey (.string x0.data.toList) || S (.string s.data.toList)) = !(newName xs (k + 1) s)) := Lib.hid (by
              intro s hz
              rw [str_lit hz hsz, hS s hz, HNX.out s]
              cases newName xs k s <;> cases eqB x0 s <;> rfl)
            clear hS HNX d0 d1
            cases hf : parentOk xs k x2 1 1 with
            | false =>
              have HP1 := Lib.hid hf; clear hf
              have HQ : Hid (personOk xs k = false) := Lib.hid (by rw [HPO2.out, HP1.out]; rfl)
              have HN := Lib.hid (HR.out.symm.trans (show _ = false by rw [peopleOk_bad HQ.out hlt]; rfl))
              go_wp2_with (first
                | (at_mapUpdate; refine wpList_put_set rfl _ _ _ _ rfl 9 str_keyed str_map (w.heap.size + 1) k S rfl hs6 (by unfold maxLen; omega) _ _ rfl rfl (str_key hsz) ?_; intro w7 hs7 hg7; have b7 : Chg (w.heap.size + 1) (w.heap.size + 1 + 1) W6 w7 := Chg.of_grown hg7 (fun j hj => by cases hj; omega); have z7 := b7.size; replace f0 := (World.cell?_of_block (a := ⟨w.heap.size, 0, none⟩) (b7.block w.heap.size (by omega) (.inl (by omega)))).trans f0; replace f1 := (World.cell?_of_block (a := ⟨w.heap.size, 1, none⟩) (b7.block w.heap.size (by omega) (.inl (by omega)))).trans f1; replace p2 := (World.cell?_of_block (a := ⟨wr.heap.size, 2, none⟩) (b7.block wr.heap.size (by omega) (.inr (by omega)))).trans p2; replace p3 := (World.cell?_of_block (a := ⟨wr.heap.size, 3, none⟩) (b7.block wr.heap.size (by omega) (.inr (by omega)))).trans p3; have hX7 : EPerson.AS w7 lo hi (some ⟨b, off, none⟩) xs := HX6.out.same (Same.of_chg b7 (by omega) (.inl (by omega))); have hbw7 : Below w.heap.size w w7 := (hbw.trans (b6.mono (by omega))).trans (b7.below (by omega) (by omega)); have hch7 := hch6.trans b7; clear b7 hg7)
                | (go_at_call 74; (with_reducible refine (parentFits_any _ _ lo hi xs _ _ _ _ _ hX7 (by omega) hlt (by omega) HD.out).mono ?_); rintro e w8 ⟨rfl, hb8⟩; simp only [HP1.out]; have z8 := hb8.size; have hX8 : EPerson.AS w8 lo hi (some ⟨b, off, none⟩) xs := hX7.same (Same.of_below hb8 (by omega)); replace f0 := (hb8.cell (by first | omega | (simp; omega) | (simp; done) | (dsimp only; omega))).trans f0; replace p3 := (hb8.cell (by first | omega | (simp; omega) | (simp; done) | (dsimp only; omega))).trans p3))
              go_ret
              exact ⟨ret_bool HN.out.symm, by (with_reducible repeat' first | exact Below.refl _ _ | assumption | (refine Below.setCell ?_ (by first | omega | (simp; omega) | (simp; done) | (dsimp only; omega)) _) | (refine Below.alloc ?_ (by first | omega | (simp; omega) | (simp; done) | (dsimp only; omega)) _) | (refine below_drewN ?_ _) | (refine Below.drew ?_) | (refine Below.trans ?_ (hb8.mono (by first | omega | (simp; omega) | (simp; done) | (dsimp only; omega)))) | (refine Below.trans ?_ (hbw7.mono (by first | omega | (simp; omega) | (simp; done) | (dsimp only; omega)))))⟩
            | true =>
              have HP1 := Lib.hid hf; clear hf
              cases hf : parentOk xs k x3 2 0 with
              | false =>
                have HP2 := Lib.hid hf; clear hf
                have HQ : Hid (personOk xs k = false) := Lib.hid (by rw [HPO2.out, HP1.out, HP2.out]; rfl)
                have HN := Lib.hid (HR.out.symm.trans (show _ = false by rw [peopleOk_bad HQ.out hlt]; rfl))
                go_wp2_with (first
                  | (at_mapUpdate; refine wpList_put_set rfl _ _ _ _ rfl 9 str_keyed str_map (w.heap.size + 1) k S rfl hs6 (by unfold maxLen; omega) _ _ rfl rfl (str_key hsz) ?_; intro w7 hs7 hg7; have b7 : Chg (w.heap.size + 1) (w.heap.size + 1 + 1) W6 w7 := Chg.of_grown hg7 (fun j hj => by cases hj; omega); have z7 := b7.size; replace f0 := (World.cell?_of_block (a := ⟨w.heap.size, 0, none⟩) (b7.block w.heap.size (by omega) (.inl (by omega)))).trans f0; replace f1 := (World.cell?_of_block (a := ⟨w.heap.size, 1, none⟩) (b7.block w.heap.size (by omega) (.inl (by omega)))).trans f1; replace p2 := (World.cell?_of_block (a := ⟨wr.heap.size, 2, none⟩) (b7.block wr.heap.size (by omega) (.inr (by omega)))).trans p2; replace p3 := (World.cell?_of_block (a := ⟨wr.heap.size, 3, none⟩) (b7.block wr.heap.size (by omega) (.inr (by omega)))).trans p3; have hX7 : EPerson.AS w7 lo hi (some ⟨b, off, none⟩) xs := HX6.out.same (Same.of_chg b7 (by omega) (.inl (by omega))); have hbw7 : Below w.heap.size w w7 := (hbw.trans (b6.mono (by omega))).trans (b7.below (by omega) (by omega)); have hch7 := hch6.trans b7; clear b7 hg7)
                  | (go_at_call 74; (with_reducible refine (parentFits_any _ _ lo hi xs _ _ _ _ _ hX7 (by omega) hlt (by omega) HD.out).mono ?_); rintro e w8 ⟨rfl, hb8⟩; simp only [HP1.out]; have z8 := hb8.size; have hX8 : EPerson.AS w8 lo hi (some ⟨b, off, none⟩) xs := hX7.same (Same.of_below hb8 (by omega)); replace f0 := (hb8.cell (by first | omega | (simp; omega) | (simp; done) | (dsimp only; omega))).trans f0; replace p3 := (hb8.cell (by first | omega | (simp; omega) | (simp; done) | (dsimp only; omega))).trans p3)
                  | (go_at_call 74; (with_reducible refine (parentFits_any _ _ lo hi xs _ _ _ _ _ hX8 (by omega) hlt (by omega) HD.out).mono ?_); rintro e w9 ⟨rfl, hb9⟩; simp only [HP2.out]))
                go_ret
                exact ⟨ret_bool HN.out.symm, by (with_reducible repeat' first | exact Below.refl _ _ | assumption | (refine Below.setCell ?_ (by first | omega | (simp; omega) | (simp; done) | (dsimp only; omega)) _) | (refine Below.alloc ?_ (by first | omega | (simp; omega) | (simp; done) | (dsimp only; omega)) _) | (refine below_drewN ?_ _) | (refine Below.drew ?_) | (refine Below.trans ?_ (hb9.mono (by first | omega | (simp; omega) | (simp; done) | (dsimp only; omega)))) | (refine Below.trans ?_ (hb8.mono (by first | omega | (simp; omega) | (simp; done) | (dsimp only; omega)))) | (refine Below.trans ?_ (hbw7.mono (by first | omega | (simp; omega) | (simp; done) | (dsimp only; omega)))))⟩
              | true =>
                have HP2 := Lib.hid hf; clear hf
                have HQ : Hid (peopleOk xs (k + 1) = true) := Lib.hid (by rw [peopleOk_succ, HP.out, HPO2.out, HP1.out, HP2.out]; rfl)
                go_wp2_with (first
                  | (at_mapUpdate; refine wpList_put_set rfl _ _ _ _ rfl 9 str_keyed str_map (w.heap.size + 1) k S rfl hs6 (by unfold maxLen; omega) _ _ rfl rfl (str_key hsz) ?_; intro w7 hs7 hg7; have b7 : Chg (w.heap.size + 1) (w.heap.size + 1 + 1) W6 w7 := Chg.of_grown hg7 (fun j hj => by cases hj; omega); have z7 := b7.size; replace f0 := (World.cell?_of_block (a := ⟨w.heap.size, 0, none⟩) (b7.block w.heap.size (by omega) (.inl (by omega)))).trans f0; replace f1 := (World.cell?_of_block (a := ⟨w.heap.size, 1, none⟩) (b7.block w.heap.size (by omega) (.inl (by omega)))).trans f1; replace p2 := (World.cell?_of_block (a := ⟨wr.heap.size, 2, none⟩) (b7.block wr.heap.size (by omega) (.inr (by omega)))).trans p2; replace p3 := (World.cell?_of_block (a := ⟨wr.heap.size, 3, none⟩) (b7.block wr.heap.size (by omega) (.inr (by omega)))).trans p3; have hX7 : EPerson.AS w7 lo hi (some ⟨b, off, none⟩) xs := HX6.out.same (Same.of_chg b7 (by omega) (.inl (by omega))); have hbw7 : Below w.heap.size w w7 := (hbw.trans (b6.mono (by omega))).trans (b7.below (by omega) (by omega)); have hch7 := hch6.trans b7; clear b7 hg7)
                  | (go_at_call 74; (with_reducible refine (parentFits_any _ _ lo hi xs _ _ _ _ _ hX7 (by omega) hlt (by omega) HD.out).mono ?_); rintro e w8 ⟨rfl, hb8⟩; simp only [HP1.out]; have z8 := hb8.size; have hX8 : EPerson.AS w8 lo hi (some ⟨b, off, none⟩) xs := hX7.same (Same.of_below hb8 (by omega)); replace f0 := (hb8.cell (by first | omega | (simp; omega) | (simp; done) | (dsimp only; omega))).trans f0; replace p3 := (hb8.cell (by first | omega | (simp; omega) | (simp; done) | (dsimp only; omega))).trans p3)
                  | (go_at_call 74; (with_reducible refine (parentFits_any _ _ lo hi xs _ _ _ _ _ hX8 (by omega) hlt (by omega) HD.out).mono ?_); rintro e w9 ⟨rfl, hb9⟩; simp only [HP2.out]))
                have hb79 : Below w7.heap.size w7 _ := hb8.trans (hb9.mono hb8.size)
                exact ⟨⟨k + 1, _, by omega, by go_num, hs7.below hb79 (by omega), HSN.out, hch7.trans (Chg.of_below hb79), HQ.out⟩, by simp [intOf]; omega⟩
      · obtain rfl : k = xs.length := by omega
        have hB := Lib.hid (peopleOk_before HP.out)
        go_wp2_with (go_at_call 75; (with_reducible refine (depths_any _ _ lo hi xs _ hX (by omega) hl1 hB.out).mono ?_); rintro e w1 ⟨A1, c1, rfl, ho1, hb1⟩; have z2 := hb1.size; replace d0 := (hb1.cell (by first | omega | (simp; omega) | (simp; done) | (dsimp only; omega))).trans d0; replace d1 := (hb1.cell (by first | omega | (simp; omega) | (simp; done) | (dsimp only; omega))).trans d1)
        have hlen := Lib.hid (depL_len xs xs.length)
        have hds := ho1.read.as
        have hbw1 : Below w.heap.size w w1 := hbw.trans (hb1.mono (by first | omega | (simp; omega) | (simp; done) | (dsimp only; omega)))
        have hle1 : (depL xs xs.length).length ≤ 40 := by rw [hlen.out]; exact hl1
        go_loopw [99] (fun i wr => AskRel (flatOk (depL xs xs.length)) (depL xs xs.length).length w1 i wr) (fun i _ => (depL xs xs.length).length - (intOf i).toNat)
        case atStart => exact ⟨0, by omega, rfl, Below.refl _ _, rfl⟩
        case round =>
          obtain ⟨j, hj, rfl, hb2, hp2⟩ := hrel
          have HP2 := Lib.hid hp2; clear hp2
          have z3 := hb2.size
          have hbw2 : Below w.heap.size w wr := hbw1.trans (hb2.mono (by first | omega | (simp; omega) | (simp; done) | (dsimp only; omega)))
          have f0 := (hb2.cell (p := ⟨w.heap.size, 0, none⟩) (by first | omega | (simp; omega) | (simp; done) | (dsimp only; omega))).trans d0
          have f1 := (hb2.cell (p := ⟨w.heap.size, 1, none⟩) (by first | omega | (simp; omega) | (simp; done) | (dsimp only; omega))).trans d1
          by_cases hjl : j < (depL xs xs.length).length
          · obtain ⟨b', off', e, rfl, g1, g2, _, g3, g4⟩ := AInt.at_ (k := j) (hds.same (Same.of_below hb2 (Nat.le_refl _))) hjl
            have HG := Lib.hid g3; clear g3
            have lb' : b' < wr.heap.size := by omega
            by_cases hd : e ≤ 10
            · have HN := Lib.hid (show flatOk (depL xs xs.length) (j + 1) = true by rw [flatOk_succ HG.out, HP2.out]; simp [hd])
              go_wp2
              exact ⟨⟨j + 1, by omega, by go_num, hb2, HN.out⟩, by simp [intOf]; omega⟩
            · have HN := Lib.hid (HR.out.symm.trans (show _ = false by rw [flatOk_bad HG.out (by rw [← hlen.out]; exact hjl) (by omega)]; simp))
              go_wp2
              go_ret
              exact ⟨ret_bool HN.out.symm, hbw2⟩
          · obtain rfl : j = (depL xs xs.length).length := by omega
            have HF := Lib.hid (show flatOk (depL xs xs.length) xs.length = true by have := HP2.out; rwa [hlen.out] at this)
            clear hj hjl
            have hX2 : EPerson.AS wr lo hi A xs := HH.out.same (Same.of_below hbw2 hh)
            have hY2 : EUnion.AS wr lo hi B ys := HH'.out.same (Same.of_below hbw2 hh)
            go_wp2
            obtain ⟨w2, rfl⟩ : ∃ w2 : World, w2 = wr := ⟨_, rfl⟩
            go_loopw [109] (fun i wr => AskRel (unionsOk xs ys) ys.length w2 i wr) (fun i _ => ys.length - (intOf i).toNat)
            case atStart => exact ⟨0, by omega, rfl, Below.refl _ _, rfl⟩
            case round =>
              obtain ⟨i, hi', rfl, hb4, hp4⟩ := hrel
              have HP4 := Lib.hid hp4; clear hp4
              have z5 := hb4.size
              have hbw4 : Below w.heap.size w wr := hbw2.trans (hb4.mono (by first | omega | (simp; omega) | (simp; done) | (dsimp only; omega)))
              replace f0 := (hb4.cell (p := ⟨w.heap.size, 0, none⟩) (by first | omega | (simp; omega) | (simp; done) | (dsimp only; omega))).trans f0
              replace f1 := (hb4.cell (p := ⟨w.heap.size, 1, none⟩) (by first | omega | (simp; omega) | (simp; done) | (dsimp only; omega))).trans f1
              have hX4 : EPerson.AS wr lo hi A xs := HH.out.same (Same.of_below hbw4 hh)
              have hY4 : EUnion.AS wr lo hi B ys := HH'.out.same (Same.of_below hbw4 hh)
              have HV : Hid (∀ (i : Nat) (x : Person), xs[i]? = some x → -1 ≤ x.died) := Lib.hid fun i x hx => (HD.out i x (List.getElem?_eq_some_iff.1 hx).1 hx).1
              by_cases hil : i < ys.length
              · cases hq : unionOk xs ys i with
                | false =>
                  have HQ := Lib.hid hq; clear hq
                  have HN := Lib.hid (HR.out.symm.trans (show _ = false by rw [unionsOk_bad HQ.out hil]; simp))
                  go_wp2_with (go_at_call 76; (with_reducible refine (unionFits_any _ _ _ _ lo hi xs ys _ _ hX4 hY4 (by omega) hil hdc HV.out).mono ?_); rintro e w5 ⟨rfl, hb5⟩; simp only [HQ.out])
                  go_ret
                  exact ⟨ret_bool HN.out.symm, by (with_reducible repeat' first | exact Below.refl _ _ | assumption | (refine Below.setCell ?_ (by first | omega | (simp; omega) | (simp; done) | (dsimp only; omega)) _) | (refine Below.alloc ?_ (by first | omega | (simp; omega) | (simp; done) | (dsimp only; omega)) _) | (refine below_drewN ?_ _) | (refine Below.drew ?_) | (refine Below.trans ?_ (hb5.mono (by first | omega | (simp; omega) | (simp; done) | (dsimp only; omega)))) | (refine Below.trans ?_ (hbw4.mono (by first | omega | (simp; omega) | (simp; done) | (dsimp only; omega)))))⟩
                | true =>
                  have HQ := Lib.hid hq; clear hq
                  have HN := Lib.hid (show unionsOk xs ys (i + 1) = true by rw [unionsOk_succ, HP4.out, HQ.out]; rfl)
                  go_wp2_with (go_at_call 76; (with_reducible refine (unionFits_any _ _ _ _ lo hi xs ys _ _ hX4 hY4 (by omega) hil hdc HV.out).mono ?_); rintro e w5 ⟨rfl, hb5⟩; simp only [HQ.out])
                  exact ⟨⟨i + 1, by omega, by go_num, by (with_reducible repeat' first | exact Below.refl _ _ | assumption | (refine Below.setCell ?_ (by first | omega | (simp; omega) | (simp; done) | (dsimp only; omega)) _) | (refine Below.alloc ?_ (by first | omega | (simp; omega) | (simp; done) | (dsimp only; omega)) _) | (refine below_drewN ?_ _) | (refine Below.drew ?_) | (refine Below.trans ?_ (hb5.mono (by first | omega | (simp; omega) | (simp; done) | (dsimp only; omega)))) | (refine Below.trans ?_ (hb4.mono (by first | omega | (simp; omega) | (simp; done) | (dsimp only; omega))))), HN.out⟩, by simp [intOf]; omega⟩
              · obtain rfl : i = ys.length := by omega
                have HN := Lib.hid (HR.out.symm.trans (show _ = true by rw [HP.out, HF.out, HP4.out]; rfl))
                go_wp2
                go_ret
                exact ⟨ret_bool HN.out.symm, hbw4⟩
  · have HN := Lib.hid (famOk_len hl)
    rcases (by omega : 40 < xs.length ∨ xs.length ≤ 40 ∧ 60 < ys.length) with q | ⟨q, q'⟩
    all_goals
      go_enter Try.func52, Try.ntmps52
      go_wp2
      go_ret
      exact ⟨ret_bool HN.out.symm, by (with_reducible repeat' first | exact Below.refl _ _ | assumption | (refine Below.setCell ?_ (by first | omega | (simp; omega) | (simp; done) | (dsimp only; omega)) _) | (refine Below.alloc ?_ (by first | omega | (simp; omega) | (simp; done) | (dsimp only; omega)) _) | (refine below_drewN ?_ _) | (refine Below.drew ?_))⟩
end Go.Proofs.Ythpcippgifmabaa

/-! ## HasI -/
namespace Go.Proofs.Ythpcippgifmabaa
set_option maxRecDepth 100000
open Go.RowKit

theorem has_any (A B : Option Addr) (c d lo hi : Nat) (xs : List Person) (ys : List Union) (P : Option Addr) (n lo2 hi2 : Nat) (ps : List Int) (w : World) (h : EPerson.AS w lo hi A xs) (h' : EUnion.AS w lo hi B ys) (hh : hi ≤ w.heap.size) (hdc : ys.length ≤ d ∧ d ≤ maxLen) (hs : totP xs ≤ 1048576) (hP : EInt.AS w lo2 hi2 P ps) (hh2 : hi2 ≤ w.heap.size) :
    Calls Try.prog 28 #[.agg #[.slice A xs.length c, .slice B ys.length d], .slice P ps.length n] w fun e w' => e = .returned (.bool (famOk xs ys && ps.all (inP xs))) ∧ Below w.heap.size w w' := by
  have hx := h.le
  have hpl := hP.le
  unfold BIG at hx hpl
  cases ho : famOk xs ys with
  | false =>
    have HO := Lib.hid ho; clear ho
    go_enter Try.func28, Try.ntmps28
    go_wp2_with (go_at_call 52; (with_reducible refine (implIsFamily_any _ _ _ _ lo hi xs ys _ (h.same (by (with_reducible repeat' first | exact Same.refl _ _ _ | assumption | (refine Same.setCell ?_ (by first | omega | (simp; omega) | (simp; done) | (dsimp only; omega)) _) | (refine Same.alloc ?_ (by first | omega | (simp; omega) | (simp; done) | (dsimp only; omega)) _) | (refine Same.drewN ?_ _) | (refine Same.drew ?_)))) (h'.same (by (with_reducible repeat' first | exact Same.refl _ _ _ | assumption | (refine Same.setCell ?_ (by first | omega | (simp; omega) | (simp; done) | (dsimp only; omega)) _) | (refine Same.alloc ?_ (by first | omega | (simp; omega) | (simp; done) | (dsimp only; omega)) _) | (refine Same.drewN ?_ _) | (refine Same.drew ?_)))) (by first | omega | (simp; omega) | (simp; done) | (dsimp only; omega)) hdc hs).mono ?_); rintro e w1 ⟨rfl, hb1⟩; simp only [HO.out]; (obtain ⟨hb1c, hb1f⟩ := bcell hb1); (have hb1z := hb1.size); (try simp only [szs] at hb1c hb1f hb1z))
    go_ret
    exact ⟨ret_bool (by rfl), by (with_reducible repeat' first | exact Below.refl _ _ | assumption | (refine Below.setCell ?_ (by first | omega | (simp; omega) | (simp; done) | (dsimp only; omega)) _) | (refine Below.alloc ?_ (by first | omega | (simp; omega) | (simp; done) | (dsimp only; omega)) _) | (refine below_drewN ?_ _) | (refine Below.drew ?_) | (refine Below.trans ?_ (hb1.mono (by first | omega | (simp; omega) | (simp; done) | (dsimp only; omega)))))⟩
  | true =>
    have HO := Lib.hid ho; clear ho
    generalize hR : (true && ps.all (inP xs)) = R
    have HR := Lib.hid ((Bool.true_and _).symm.trans hR); clear hR
    go_enter Try.func28, Try.ntmps28
    go_wp2_with (go_at_call 52; (with_reducible refine (implIsFamily_any _ _ _ _ lo hi xs ys _ (h.same (by (with_reducible repeat' first | exact Same.refl _ _ _ | assumption | (refine Same.setCell ?_ (by first | omega | (simp; omega) | (simp; done) | (dsimp only; omega)) _) | (refine Same.alloc ?_ (by first | omega | (simp; omega) | (simp; done) | (dsimp only; omega)) _) | (refine Same.drewN ?_ _) | (refine Same.drew ?_)))) (h'.same (by (with_reducible repeat' first | exact Same.refl _ _ _ | assumption | (refine Same.setCell ?_ (by first | omega | (simp; omega) | (simp; done) | (dsimp only; omega)) _) | (refine Same.alloc ?_ (by first | omega | (simp; omega) | (simp; done) | (dsimp only; omega)) _) | (refine Same.drewN ?_ _) | (refine Same.drew ?_)))) (by first | omega | (simp; omega) | (simp; done) | (dsimp only; omega)) hdc hs).mono ?_); rintro e w1 ⟨rfl, hb1⟩; simp only [HO.out]; (obtain ⟨hb1c, hb1f⟩ := bcell hb1); (have hb1z := hb1.size); (try simp only [szs] at hb1c hb1f hb1z))
    have hbw : Below w.heap.size w w1 := by (with_reducible repeat' first | exact Below.refl _ _ | assumption | (refine Below.setCell ?_ (by first | omega | (simp; omega) | (simp; done) | (dsimp only; omega)) _) | (refine Below.alloc ?_ (by first | omega | (simp; omega) | (simp; done) | (dsimp only; omega)) _) | (refine below_drewN ?_ _) | (refine Below.drew ?_) | (refine Below.trans ?_ (hb1.mono (by first | omega | (simp; omega) | (simp; done) | (dsimp only; omega)))))
    have a0 : w1.cell? ⟨w.heap.size, 0, none⟩ = some (.slice A xs.length c) := by rw [hb1c _ _ (by omega)]; simp [go_sem]
    have lt1 : w.heap.size < w1.heap.size := by omega
    clear hb1 hb1c hb1f
    have hP1 := hP.same (Same.of_below hbw hh2)
    go_loopw [12] (fun i wr => AskRel (fun k => (ps.take k).all (inP xs)) ps.length w1 i wr) (fun i _ => ps.length - (intOf i).toNat)
    case atStart => exact ⟨0, by omega, rfl, Below.refl _ _, rfl⟩
    case round =>
      obtain ⟨k, hk, rfl, hb, hp⟩ := hrel
      have HP : Hid ((ps.take k).all (inP xs) = true) := Lib.hid hp
      clear hp
      have z1 := hb.size
      have hbr : Below w.heap.size w wr := hbw.trans (hb.mono (by first | omega | (simp; omega) | (simp; done) | (dsimp only; omega)))
      have d0 := (hb.cell (p := ⟨w.heap.size, 0, none⟩) (by first | omega | (simp; omega) | (simp; done) | (dsimp only; omega))).trans a0
      by_cases hlt : k < ps.length
      · obtain ⟨b, off, q, rfl, g1, g2, _, g3, g4⟩ := AInt.at_ (k := k) (hP1.same (Same.of_below hb (by omega))) hlt
        have HG := Lib.hid g3; clear g3
        have lb : b < wr.heap.size := by omega
        by_cases h1 : 0 ≤ q ∧ q < (xs.length : Int)
        · have HN := Lib.hid (show ((ps.take (k + 1)).all (inP xs)) = true by rw [List.take_add_one, HG.out, List.all_append, HP.out]; simp [inP]; omega)
          obtain ⟨h1, h2⟩ := h1
          go_wp2
          exact ⟨⟨k + 1, by omega, by go_num, hb, HN.out⟩, by simp [intOf]; omega⟩
        · have HN := Lib.hid (HR.out.symm.trans (show _ = false by rw [List.all_eq_false]; exact ⟨q, List.mem_of_getElem? HG.out, by simp [inP]; omega⟩))
          rcases (by omega : q < 0 ∨ 0 ≤ q ∧ (xs.length : Int) ≤ q) with c | ⟨c, c'⟩
          all_goals
            go_wp2
            go_ret
            exact ⟨ret_bool HN.out.symm, hbr⟩
      · obtain rfl : k = ps.length := by omega
        have HN := Lib.hid (HR.out.symm.trans (show _ = true by have := HP.out; rwa [List.take_length] at this))
        go_wp2
        go_ret
        exact ⟨ret_bool HN.out.symm, hbr⟩

set_option maxHeartbeats 2000000 in
theorem isElder_any (A B : Option Addr) (c d lo hi : Nat) (xs : List Person) (ys : List Union) (a b : Nat) (w : World) (h : EPerson.AS w lo hi A xs) (_h' : EUnion.AS w lo hi B ys) (hh : hi ≤ w.heap.size) (ha : a < xs.length) (hb : b < xs.length) :
    Calls Try.prog 35 #[.agg #[.slice A xs.length c, .slice B ys.length d], .int .i64 a, .int .i64 b] w fun e w' => e = .returned (.bool (elderAt xs a b)) ∧ Below w.heap.size w w' := by
  have hx := h.le
  unfold BIG at hx
  obtain ⟨g, off, ⟨x0, x1, x2, x3, x4, x5⟩, rfl, g1, g2, _, hxk, _, _, _, _, hc4, _⟩ := APerson.at_ h ha
  obtain ⟨g', off', ⟨y0, y1, y2, y3, y4, y5⟩, he, _, _, _, hyk, _, _, _, _, hd4, _⟩ := APerson.at_ h hb
  injection he with he; injection he with he1 he2 _; subst he1; subst he2
  rw [elderAt_of hxk hyk]
  clear hxk hyk
  simp only at hc4 hd4 ⊢
  generalize hR : (decide (x4 < y4) || (decide (x4 = y4) && decide (a < b))) = R
  have HR := Lib.hid hR; clear hR
  have lb : g < w.heap.size := by omega
  have i1 : (0 : Int) ≤ (a : Int) ∧ (a : Int) < (xs.length : Int) := by omega
  have i2 : (0 : Int) ≤ (b : Int) ∧ (b : Int) < (xs.length : Int) := by omega
  rcases (by omega : x4 < y4 ∨ x4 = y4 ∧ a < b ∨ x4 = y4 ∧ b ≤ a ∨ y4 < x4) with q | ⟨q, q'⟩ | ⟨q, q'⟩ | q
  · have HN := Lib.hid (HR.out.symm.trans (show _ = true by simp [q]))
    go_enter Try.func35, Try.ntmps35
    go_wp2
    go_quiet (fail)
    go_wp2
    go_ret
    exact ⟨ret_bool HN.out.symm, by (with_reducible repeat' first | exact Below.refl _ _ | assumption | (refine Below.setCell ?_ (by first | omega | (simp; omega) | (simp; done) | (dsimp only; omega)) _) | (refine Below.alloc ?_ (by first | omega | (simp; omega) | (simp; done) | (dsimp only; omega)) _) | (refine below_drewN ?_ _) | (refine Below.drew ?_))⟩
  · subst q
    have HN := Lib.hid (HR.out.symm.trans (show _ = true by simp [q']))
    have n1 : (x4 == x4) = true := by simp
    go_enter Try.func35, Try.ntmps35
    go_wp2
    go_quiet (fail)
    go_wp2
    go_ret
    exact ⟨ret_bool (by rw [HN.out]; try (simp; omega)), by (with_reducible repeat' first | exact Below.refl _ _ | assumption | (refine Below.setCell ?_ (by first | omega | (simp; omega) | (simp; done) | (dsimp only; omega)) _) | (refine Below.alloc ?_ (by first | omega | (simp; omega) | (simp; done) | (dsimp only; omega)) _) | (refine below_drewN ?_ _) | (refine Below.drew ?_))⟩
  · subst q
    have HN := Lib.hid (HR.out.symm.trans (show _ = false by simp; omega))
    have n1 : (x4 == x4) = true := by simp
    go_enter Try.func35, Try.ntmps35
    go_wp2
    go_quiet (fail)
    go_wp2
    go_ret
    exact ⟨ret_bool (by rw [HN.out]; try (simp; omega)), by (with_reducible repeat' first | exact Below.refl _ _ | assumption | (refine Below.setCell ?_ (by first | omega | (simp; omega) | (simp; done) | (dsimp only; omega)) _) | (refine Below.alloc ?_ (by first | omega | (simp; omega) | (simp; done) | (dsimp only; omega)) _) | (refine below_drewN ?_ _) | (refine Below.drew ?_))⟩
  · have HN := Lib.hid (HR.out.symm.trans (show _ = false by simp; omega))
    have n1 : (x4 == y4) = false := by simp; omega
    go_enter Try.func35, Try.ntmps35
    go_wp2
    go_quiet (fail)
    go_wp2
    go_ret
    exact ⟨ret_bool (by rw [HN.out]; try (simp; omega)), by (with_reducible repeat' first | exact Below.refl _ _ | assumption | (refine Below.setCell ?_ (by first | omega | (simp; omega) | (simp; done) | (dsimp only; omega)) _) | (refine Below.alloc ?_ (by first | omega | (simp; omega) | (simp; done) | (dsimp only; omega)) _) | (refine below_drewN ?_ _) | (refine Below.drew ?_))⟩

theorem hasOk_all {xs : List Person} {ys : List Union} {p : Int} : (famOk xs ys && [p].all (inP xs)) = hasOk xs ys p := by simp [hasOk, Bool.and_comm]
theorem hasOk_all2 {xs : List Person} {ys : List Union} {p q : Int} : (famOk xs ys && [p, q].all (inP xs)) = (hasOk xs ys p && hasOk xs ys q) := by
  simp only [hasOk, List.all_cons, List.all_nil, Bool.and_true]
  cases famOk xs ys <;> cases inP xs p <;> cases inP xs q <;> rfl
theorem ints_as (w : World) (cur : Array Value) (ps : List Int) (hc : cur.toList = ps.map fun p => .int .i64 p) (hb : ps.length ≤ BIG) : EInt.AS (w.alloc (.cells cur 3)) w.heap.size (w.heap.size + 1) (some ⟨w.heap.size, 0, none⟩) ps := by
  refine ⟨hb, ps.map (fun p => [.int .i64 p]), fun _ => ⟨_, 0, rfl, Nat.le_refl _, by omega, fun i cs hi j u hj => ?_⟩, ⟨by simp, fun i x hx => ⟨[.int .i64 x], by simp [hx], rfl⟩⟩⟩
  rw [List.getElem?_map] at hi
  cases hp : ps[i]? with
  | none => rw [hp] at hi; cases hi
  | some p =>
    rw [hp] at hi
    simp only [Option.map_some, Option.some.injEq] at hi
    subst hi
    cases j with
    | zero =>
      simp at hj
      subst hj
      have h1 : cur[i]? = some (.int .i64 p) := by rw [← Array.getElem?_toList, hc, List.getElem?_map, hp]; rfl
      have h2 := (Blk.new (t := 3) (cs := cur) w rfl).cell h1
      simpa [EInt, Elem.flat] using h2
    | succ j => simp at hj
theorem ints_as' (w : World) (cur : Array Value) (ps : List Int) (hc : cur.toList = ps.map fun p => .int .i64 p) (hb : ps.length ≤ BIG) (g : Nat) (hg : g = w.heap.size) : EInt.AS (w.alloc (.cells cur 3)) g (g + 1) (some ⟨g, 0, none⟩) ps := by subst hg; exact ints_as w cur ps hc hb

set_option maxHeartbeats 2000000 in
theorem implIsElder_any (A B : Option Addr) (c d lo hi : Nat) (xs : List Person) (ys : List Union) (a b : Int) (w : World) (h : EPerson.AS w lo hi A xs) (h' : EUnion.AS w lo hi B ys) (hh : hi ≤ w.heap.size) (hdc : ys.length ≤ d ∧ d ≤ maxLen) (hs : totP xs ≤ 1048576) :
    Calls Try.prog 13 #[.agg #[.slice A xs.length c, .slice B ys.length d], .int .i64 a, .int .i64 b] w fun e w' => e = .returned (.bool (isElderM xs ys a b)) ∧ Below w.heap.size w w' := by
  cases ho : (hasOk xs ys a && hasOk xs ys b) with
  | false =>
    have HO := Lib.hid ho
    have HN := Lib.hid (show isElderM xs ys a b = false by rw [isElderM, ho]; rfl)
    clear ho
    go_enter Try.func13, Try.ntmps13
    go_wp2_with (go_at_call 28; refine (has_any _ _ _ _ lo hi xs ys (some ⟨w.heap.size + 1, 0, none⟩) _ _ _ [a, b] _ (h.same (by (with_reducible repeat' first | exact Same.refl _ _ _ | assumption | (refine Same.setCell ?_ (by first | omega | (simp; omega) | (simp; done) | (dsimp only; omega)) _) | (refine Same.alloc ?_ (by first | omega | (simp; omega) | (simp; done) | (dsimp only; omega)) _) | (refine Same.drewN ?_ _) | (refine Same.drew ?_)))) (h'.same (by (with_reducible repeat' first | exact Same.refl _ _ _ | assumption | (refine Same.setCell ?_ (by first | omega | (simp; omega) | (simp; done) | (dsimp only; omega)) _) | (refine Same.alloc ?_ (by first | omega | (simp; omega) | (simp; done) | (dsimp only; omega)) _) | (refine Same.drewN ?_ _) | (refine Same.drew ?_)))) (by first | omega | (simp; omega) | (simp; done) | (dsimp only; omega)) hdc hs (ints_as' _ _ [a, b] rfl (by simp [BIG]) _ (by simp)) (by first | omega | (simp; omega) | (simp; done) | (dsimp only; omega))).mono ?_; rintro e w1 ⟨rfl, hb1⟩; simp only [hasOk_all2, HO.out]; (obtain ⟨hb1c, hb1f⟩ := bcell hb1); (have hb1z := hb1.size); (try simp only [szs] at hb1c hb1f hb1z); have lt1 : w.heap.size < w1.heap.size := (by omega))
    go_ret
    exact ⟨ret_bool HN.out.symm, by (with_reducible repeat' first | exact Below.refl _ _ | assumption | (refine Below.setCell ?_ (by first | omega | (simp; omega) | (simp; done) | (dsimp only; omega)) _) | (refine Below.alloc ?_ (by first | omega | (simp; omega) | (simp; done) | (dsimp only; omega)) _) | (refine below_drewN ?_ _) | (refine Below.drew ?_) | (refine Below.trans ?_ (hb1.mono (by first | omega | (simp; omega) | (simp; done) | (dsimp only; omega)))))⟩
  | true =>
    have HO := Lib.hid ho
    have HN := Lib.hid (show isElderM xs ys a b = elderAt xs a.toNat b.toNat by rw [isElderM, ho]; rfl)
    obtain ⟨_, p1, p2⟩ := hasOk_fam (Bool.and_eq_true _ _ ▸ ho : hasOk xs ys a = true ∧ hasOk xs ys b = true).1
    obtain ⟨_, p3, p4⟩ := hasOk_fam (Bool.and_eq_true _ _ ▸ ho : hasOk xs ys a = true ∧ hasOk xs ys b = true).2
    clear ho
    obtain ⟨a, rfl⟩ := Int.eq_ofNat_of_zero_le p1
    obtain ⟨b, rfl⟩ := Int.eq_ofNat_of_zero_le p3
    go_enter Try.func13, Try.ntmps13
    go_wp2_with (first
      | (go_at_call 28; refine (has_any _ _ _ _ lo hi xs ys (some ⟨w.heap.size + 1, 0, none⟩) _ _ _ [a, b] _ (h.same (by (with_reducible repeat' first | exact Same.refl _ _ _ | assumption | (refine Same.setCell ?_ (by first | omega | (simp; omega) | (simp; done) | (dsimp only; omega)) _) | (refine Same.alloc ?_ (by first | omega | (simp; omega) | (simp; done) | (dsimp only; omega)) _) | (refine Same.drewN ?_ _) | (refine Same.drew ?_)))) (h'.same (by (with_reducible repeat' first | exact Same.refl _ _ _ | assumption | (refine Same.setCell ?_ (by first | omega | (simp; omega) | (simp; done) | (dsimp only; omega)) _) | (refine Same.alloc ?_ (by first | omega | (simp; omega) | (simp; done) | (dsimp only; omega)) _) | (refine Same.drewN ?_ _) | (refine Same.drew ?_)))) (by first | omega | (simp; omega) | (simp; done) | (dsimp only; omega)) hdc hs (ints_as' _ _ [a, b] rfl (by simp [BIG]) _ (by simp)) (by first | omega | (simp; omega) | (simp; done) | (dsimp only; omega))).mono ?_; rintro e w1 ⟨rfl, hb1⟩; simp only [hasOk_all2, HO.out]; (obtain ⟨hb1c, hb1f⟩ := bcell hb1); (have hb1z := hb1.size); (try simp only [szs] at hb1c hb1f hb1z); have lt1 : w.heap.size < w1.heap.size := (by omega))
      | (go_at_call 35; (with_reducible refine (isElder_any _ _ _ _ lo hi xs ys _ _ _ (h.same (by (with_reducible repeat' first | exact Same.refl _ _ _ | assumption | (refine Same.setCell ?_ (by first | omega | (simp; omega) | (simp; done) | (dsimp only; omega)) _) | (refine Same.alloc ?_ (by first | omega | (simp; omega) | (simp; done) | (dsimp only; omega)) _) | (refine Same.drewN ?_ _) | (refine Same.drew ?_) | (refine Same.trans ?_ (Same.of_below hb1 (by first | omega | (simp; omega) | (simp; done) | (dsimp only; omega))))))) (h'.same (by (with_reducible repeat' first | exact Same.refl _ _ _ | assumption | (refine Same.setCell ?_ (by first | omega | (simp; omega) | (simp; done) | (dsimp only; omega)) _) | (refine Same.alloc ?_ (by first | omega | (simp; omega) | (simp; done) | (dsimp only; omega)) _) | (refine Same.drewN ?_ _) | (refine Same.drew ?_) | (refine Same.trans ?_ (Same.of_below hb1 (by first | omega | (simp; omega) | (simp; done) | (dsimp only; omega))))))) (by first | omega | (simp; omega) | (simp; done) | (dsimp only; omega)) (by omega) (by omega)).mono ?_); rintro e w3 ⟨rfl, hb3⟩))
    go_ret
    exact ⟨ret_bool (by rw [HN.out]; rfl), by (with_reducible repeat' first | exact Below.refl _ _ | assumption | (refine Below.setCell ?_ (by first | omega | (simp; omega) | (simp; done) | (dsimp only; omega)) _) | (refine Below.alloc ?_ (by first | omega | (simp; omega) | (simp; done) | (dsimp only; omega)) _) | (refine below_drewN ?_ _) | (refine Below.drew ?_) | (refine Below.trans ?_ (hb3.mono (by first | omega | (simp; omega) | (simp; done) | (dsimp only; omega)))) | (refine Below.trans ?_ (hb1.mono (by first | omega | (simp; omega) | (simp; done) | (dsimp only; omega)))))⟩

end Go.Proofs.Ythpcippgifmabaa

/-! ## KinI -/
namespace Go.Proofs.Ythpcippgifmabaa
set_option maxRecDepth 100000
open Go.RowKit

set_option maxHeartbeats 4000000 in
theorem parentsOf_any (A B : Option Addr) (c d lo hi : Nat) (xs : List Person) (ys : List Union) (p : Nat) (w : World) (h : EPerson.AS w lo hi A xs) (_h' : EUnion.AS w lo hi B ys) (hh : hi ≤ w.heap.size) (hp : p < xs.length) :
    Calls Try.prog 36 #[.agg #[.slice A xs.length c, .slice B ys.length d], .int .i64 p] w (RetIntS w (parentsAt xs p)) := by
  have hx := h.le
  unfold BIG at hx
  obtain ⟨b, off, ⟨x0, x1, x2, x3, x4, x5⟩, rfl, g1, g2, _, hxk, _, _, hc2, hc3, _, _⟩ := APerson.at_ h hp
  rw [parentsAt_of hxk]
  clear hxk
  simp only at hc2 hc3
  have lb : b < w.heap.size := by omega
  have i1 : (0 : Int) ≤ (p : Int) ∧ (p : Int) < (xs.length : Int) := by omega
  generalize hR : parentsL ⟨x0, x1, x2, x3, x4, x5⟩ = R
  have HR := Lib.hid hR; clear hR
  go_enter Try.func36, Try.ntmps36
  go_upto_region 1 with fail
  generalize hW : w.alloc (.cells #[.slice (some ⟨b, off, none⟩) xs.length c, .slice B ys.length d] 26) = W
  have e0 : W.cell? ⟨w.heap.size, 0, none⟩ = some (.slice (some ⟨b, off, none⟩) xs.length c) := by subst hW; simp [go_sem]
  have hbW : Below w.heap.size w W := by subst hW; (with_reducible repeat' first | exact Below.refl _ _ | assumption | (refine Below.setCell ?_ (by first | omega | (simp; omega) | (simp; done) | (dsimp only; omega)) _) | (refine Below.alloc ?_ (by first | omega | (simp; omega) | (simp; done) | (dsimp only; omega)) _) | (refine below_drewN ?_ _) | (refine Below.drew ?_))
  have zW2 : w.heap.size < W.heap.size := by subst hW; simp
  replace hc2 := (hbW.cell (p := ⟨b, off + p * 6 + 2, none⟩) lb).trans hc2
  replace hc3 := (hbW.cell (p := ⟨b, off + p * 6 + 3, none⟩) lb).trans hc3
  have lbW : b < W.heap.size := by omega
  clear hW
  have ho : EInt.OS W W.heap.size W.heap.size (.slice none 0 0) [] := Elem.OS.nil
  by_cases f0 : 0 ≤ x2 <;> by_cases m0 : 0 ≤ x3
  · have HN := Lib.hid (HR.out.symm.trans (show _ = [x2, x3] by simp [parentsL, f0, m0]))
    go_wp2_with (first
      | (at_builtin; refine wpList_app1 tyIntS _ ([] : List Int) _ [.int .i64 _] ⟨W.heap.size, 0, none⟩ 1 (lo := W.heap.size) (hi := W.heap.size) (ho.same (by (with_reducible repeat' first | exact Same.refl _ _ _ | assumption | (refine Same.setCell ?_ (by first | omega | (simp; omega) | (simp; done) | (dsimp only; omega)) _) | (refine Same.alloc ?_ (by first | omega | (simp; omega) | (simp; done) | (dsimp only; omega)) _) | (refine Same.drewN ?_ _) | (refine Same.drew ?_)))) rfl (by (first | omega | (simp; omega) | (simp; done) | (dsimp only; omega))) (by simp) rfl _ _ rfl rfl rfl rfl (cell_one_at _ _ _ _ (by simp)) (by first | rfl | (simp; done) | (simp; rfl)) (by simp) (by decide) (fun A' c' w5 ho5 hg5 hc5 hm5 => ?_); have hb5 : Below W.heap.size W w5 := Below.grown (w := (W).alloc _) (by (with_reducible repeat' first | exact Below.refl _ _ | assumption | (refine Below.setCell ?_ (by first | omega | (simp; omega) | (simp; done) | (dsimp only; omega)) _) | (refine Below.alloc ?_ (by first | omega | (simp; omega) | (simp; done) | (dsimp only; omega)) _) | (refine below_drewN ?_ _) | (refine Below.drew ?_))) hg5 (by first | (simp; done) | (simp; omega)) (fun k hk => (ho.blkv k hk).1); replace e0 := (hb5.cell (p := ⟨w.heap.size, 0, none⟩) zW2).trans e0; replace hc3 := (hb5.cell (p := ⟨b, off + p * 6 + 3, none⟩) lbW).trans hc3; have z5 := hb5.size; have lb5 : b < w5.heap.size := (by omega); have l5 : w.heap.size < w5.heap.size := (by omega))
      | (at_builtin; refine wpList_app1 tyIntS _ [x2] _ [.int .i64 _] ⟨w5.heap.size, 0, none⟩ 1 (lo := W.heap.size) (hi := w5.heap.size) (ho5.same (by (with_reducible repeat' first | exact Same.refl _ _ _ | assumption | (refine Same.setCell ?_ (by first | omega | (simp; omega) | (simp; done) | (dsimp only; omega)) _) | (refine Same.alloc ?_ (by first | omega | (simp; omega) | (simp; done) | (dsimp only; omega)) _) | (refine Same.drewN ?_ _) | (refine Same.drew ?_)))) rfl (by (first | omega | (simp; omega) | (simp; done) | (dsimp only; omega))) z5 rfl _ _ rfl rfl rfl rfl (cell_one_at _ _ _ _ (by simp)) (by first | rfl | (simp; done) | (simp; rfl)) (by simp) (by decide) (fun A' c' w6 ho6 hg6 hc6 hm6 => ?_); have hb6 : Below W.heap.size W w6 := Below.grown (w := w5.alloc _) (by (with_reducible repeat' first | exact Below.refl _ _ | assumption | (refine Below.setCell ?_ (by first | omega | (simp; omega) | (simp; done) | (dsimp only; omega)) _) | (refine Below.alloc ?_ (by first | omega | (simp; omega) | (simp; done) | (dsimp only; omega)) _) | (refine below_drewN ?_ _) | (refine Below.drew ?_) | (refine Below.trans ?_ (hb5.mono (by first | omega | (simp; omega) | (simp; done) | (dsimp only; omega)))))) hg6 (by simp; omega) (fun k hk => (ho5.blkv k hk).1)))
    all_goals
      go_ret
      rw [HN.out]
      exact ⟨_, _, rfl, ho6.mono (by omega) (Nat.le_refl _), hbW.trans (hb6.mono (by omega))⟩
  · have HN := Lib.hid (HR.out.symm.trans (show _ = [x2] by simp [parentsL, f0, m0]))
    go_wp2_with (at_builtin; refine wpList_app1 tyIntS _ ([] : List Int) _ [.int .i64 _] ⟨W.heap.size, 0, none⟩ 1 (lo := W.heap.size) (hi := W.heap.size) (ho.same (by (with_reducible repeat' first | exact Same.refl _ _ _ | assumption | (refine Same.setCell ?_ (by first | omega | (simp; omega) | (simp; done) | (dsimp only; omega)) _) | (refine Same.alloc ?_ (by first | omega | (simp; omega) | (simp; done) | (dsimp only; omega)) _) | (refine Same.drewN ?_ _) | (refine Same.drew ?_)))) rfl (by (first | omega | (simp; omega) | (simp; done) | (dsimp only; omega))) (by simp) rfl _ _ rfl rfl rfl rfl (cell_one_at _ _ _ _ (by simp)) (by first | rfl | (simp; done) | (simp; rfl)) (by simp) (by decide) (fun A' c' w5 ho5 hg5 hc5 hm5 => ?_); have hb5 : Below W.heap.size W w5 := Below.grown (w := (W).alloc _) (by (with_reducible repeat' first | exact Below.refl _ _ | assumption | (refine Below.setCell ?_ (by first | omega | (simp; omega) | (simp; done) | (dsimp only; omega)) _) | (refine Below.alloc ?_ (by first | omega | (simp; omega) | (simp; done) | (dsimp only; omega)) _) | (refine below_drewN ?_ _) | (refine Below.drew ?_))) hg5 (by first | (simp; done) | (simp; omega)) (fun k hk => (ho.blkv k hk).1); replace e0 := (hb5.cell (p := ⟨w.heap.size, 0, none⟩) zW2).trans e0; replace hc3 := (hb5.cell (p := ⟨b, off + p * 6 + 3, none⟩) lbW).trans hc3; have z5 := hb5.size; have lb5 : b < w5.heap.size := (by omega); have l5 : w.heap.size < w5.heap.size := (by omega))
    all_goals
      go_ret
      rw [HN.out]
      exact ⟨_, _, rfl, ho5.mono (by omega) (Nat.le_refl _), hbW.trans (hb5.mono (by omega))⟩
  · have HN := Lib.hid (HR.out.symm.trans (show _ = [x3] by simp [parentsL, f0, m0]))
    go_wp2_with (at_builtin; refine wpList_app1 tyIntS _ ([] : List Int) _ [.int .i64 _] ⟨W.heap.size, 0, none⟩ 1 (lo := W.heap.size) (hi := W.heap.size) (ho.same (by (with_reducible repeat' first | exact Same.refl _ _ _ | assumption | (refine Same.setCell ?_ (by first | omega | (simp; omega) | (simp; done) | (dsimp only; omega)) _) | (refine Same.alloc ?_ (by first | omega | (simp; omega) | (simp; done) | (dsimp only; omega)) _) | (refine Same.drewN ?_ _) | (refine Same.drew ?_)))) rfl (by (first | omega | (simp; omega) | (simp; done) | (dsimp only; omega))) (by simp) rfl _ _ rfl rfl rfl rfl (cell_one_at _ _ _ _ (by simp)) (by first | rfl | (simp; done) | (simp; rfl)) (by simp) (by decide) (fun A' c' w5 ho5 hg5 hc5 hm5 => ?_); have hb5 : Below W.heap.size W w5 := Below.grown (w := (W).alloc _) (by (with_reducible repeat' first | exact Below.refl _ _ | assumption | (refine Below.setCell ?_ (by first | omega | (simp; omega) | (simp; done) | (dsimp only; omega)) _) | (refine Below.alloc ?_ (by first | omega | (simp; omega) | (simp; done) | (dsimp only; omega)) _) | (refine below_drewN ?_ _) | (refine Below.drew ?_))) hg5 (by first | (simp; done) | (simp; omega)) (fun k hk => (ho.blkv k hk).1); replace e0 := (hb5.cell (p := ⟨w.heap.size, 0, none⟩) zW2).trans e0; replace hc3 := (hb5.cell (p := ⟨b, off + p * 6 + 3, none⟩) lbW).trans hc3; have z5 := hb5.size; have lb5 : b < w5.heap.size := (by omega); have l5 : w.heap.size < w5.heap.size := (by omega))
    all_goals
      go_ret
      rw [HN.out]
      exact ⟨_, _, rfl, ho5.mono (by omega) (Nat.le_refl _), hbW.trans (hb5.mono (by omega))⟩
  · have HN := Lib.hid (HR.out.symm.trans (show _ = [] by simp [parentsL, f0, m0]))
    go_wp2
    go_ret
    rw [HN.out]
    exact ⟨_, _, rfl, ho.mono (by omega) (by simp), by (with_reducible repeat' first | exact Below.refl _ _ | assumption | (refine Below.setCell ?_ (by first | omega | (simp; omega) | (simp; done) | (dsimp only; omega)) _) | (refine Below.alloc ?_ (by first | omega | (simp; omega) | (simp; done) | (dsimp only; omega)) _) | (refine below_drewN ?_ _) | (refine Below.drew ?_) | (refine Below.trans ?_ (hbW.mono (by first | omega | (simp; omega) | (simp; done) | (dsimp only; omega)))))⟩

set_option maxHeartbeats 2000000 in
theorem implParentsOf_any (A B : Option Addr) (c d lo hi : Nat) (xs : List Person) (ys : List Union) (p : Int) (w : World) (h : EPerson.AS w lo hi A xs) (h' : EUnion.AS w lo hi B ys) (hh : hi ≤ w.heap.size) (hdc : ys.length ≤ d ∧ d ≤ maxLen) (hs : totP xs ≤ 1048576) :
    Calls Try.prog 14 #[.agg #[.slice A xs.length c, .slice B ys.length d], .int .i64 p] w (RetIntS w (parentsM xs ys p)) := by
  cases ho : hasOk xs ys p with
  | false =>
    have HO := Lib.hid ho
    have HN := Lib.hid (show parentsM xs ys p = [] by rw [parentsM, ho]; rfl)
    clear ho
    rw [HN.out]
    go_enter Try.func14, Try.ntmps14
    go_wp2_with (go_at_call 28; refine (has_any _ _ _ _ lo hi xs ys (some ⟨w.heap.size + 1, 0, none⟩) _ _ _ [p] _ (h.same (by (with_reducible repeat' first | exact Same.refl _ _ _ | assumption | (refine Same.setCell ?_ (by first | omega | (simp; omega) | (simp; done) | (dsimp only; omega)) _) | (refine Same.alloc ?_ (by first | omega | (simp; omega) | (simp; done) | (dsimp only; omega)) _) | (refine Same.drewN ?_ _) | (refine Same.drew ?_)))) (h'.same (by (with_reducible repeat' first | exact Same.refl _ _ _ | assumption | (refine Same.setCell ?_ (by first | omega | (simp; omega) | (simp; done) | (dsimp only; omega)) _) | (refine Same.alloc ?_ (by first | omega | (simp; omega) | (simp; done) | (dsimp only; omega)) _) | (refine Same.drewN ?_ _) | (refine Same.drew ?_)))) (by first | omega | (simp; omega) | (simp; done) | (dsimp only; omega)) hdc hs (ints_as' _ _ [p] rfl (by simp [BIG]) _ (by simp)) (by first | omega | (simp; omega) | (simp; done) | (dsimp only; omega))).mono ?_; rintro e w1 ⟨rfl, hb1⟩; simp only [hasOk_all, HO.out]; (obtain ⟨hb1c, hb1f⟩ := bcell hb1); (have hb1z := hb1.size); (try simp only [szs] at hb1c hb1f hb1z); have lt1 : w.heap.size < w1.heap.size := (by omega))
    go_ret
    exact ⟨none, 0, rfl, Elem.OS.nil, by (with_reducible repeat' first | exact Below.refl _ _ | assumption | (refine Below.setCell ?_ (by first | omega | (simp; omega) | (simp; done) | (dsimp only; omega)) _) | (refine Below.alloc ?_ (by first | omega | (simp; omega) | (simp; done) | (dsimp only; omega)) _) | (refine below_drewN ?_ _) | (refine Below.drew ?_) | (refine Below.trans ?_ (hb1.mono (by first | omega | (simp; omega) | (simp; done) | (dsimp only; omega)))))⟩
  | true =>
    have HO := Lib.hid ho
    have HN := Lib.hid (show parentsM xs ys p = parentsAt xs p.toNat by rw [parentsM, if_pos ho])
    obtain ⟨_, p1, p2⟩ := hasOk_fam ho
    clear ho
    obtain ⟨p, rfl⟩ := Int.eq_ofNat_of_zero_le p1
    rw [HN.out]
    go_enter Try.func14, Try.ntmps14
    go_wp2_with (first
      | (go_at_call 28; refine (has_any _ _ _ _ lo hi xs ys (some ⟨w.heap.size + 1, 0, none⟩) _ _ _ [p] _ (h.same (by (with_reducible repeat' first | exact Same.refl _ _ _ | assumption | (refine Same.setCell ?_ (by first | omega | (simp; omega) | (simp; done) | (dsimp only; omega)) _) | (refine Same.alloc ?_ (by first | omega | (simp; omega) | (simp; done) | (dsimp only; omega)) _) | (refine Same.drewN ?_ _) | (refine Same.drew ?_)))) (h'.same (by (with_reducible repeat' first | exact Same.refl _ _ _ | assumption | (refine Same.setCell ?_ (by first | omega | (simp; omega) | (simp; done) | (dsimp only; omega)) _) | (refine Same.alloc ?_ (by first | omega | (simp; omega) | (simp; done) | (dsimp only; omega)) _) | (refine Same.drewN ?_ _) | (refine Same.drew ?_)))) (by first | omega | (simp; omega) | (simp; done) | (dsimp only; omega)) hdc hs (ints_as' _ _ [p] rfl (by simp [BIG]) _ (by simp)) (by first | omega | (simp; omega) | (simp; done) | (dsimp only; omega))).mono ?_; rintro e w1 ⟨rfl, hb1⟩; simp only [hasOk_all, HO.out]; (obtain ⟨hb1c, hb1f⟩ := bcell hb1); (have hb1z := hb1.size); (try simp only [szs] at hb1c hb1f hb1z); have lt1 : w.heap.size < w1.heap.size := (by omega))
      | (go_at_call 36; (with_reducible refine (parentsOf_any _ _ _ _ lo hi xs ys _ _ (h.same (by (with_reducible repeat' first | exact Same.refl _ _ _ | assumption | (refine Same.setCell ?_ (by first | omega | (simp; omega) | (simp; done) | (dsimp only; omega)) _) | (refine Same.alloc ?_ (by first | omega | (simp; omega) | (simp; done) | (dsimp only; omega)) _) | (refine Same.drewN ?_ _) | (refine Same.drew ?_) | (refine Same.trans ?_ (Same.of_below hb1 (by first | omega | (simp; omega) | (simp; done) | (dsimp only; omega))))))) (h'.same (by (with_reducible repeat' first | exact Same.refl _ _ _ | assumption | (refine Same.setCell ?_ (by first | omega | (simp; omega) | (simp; done) | (dsimp only; omega)) _) | (refine Same.alloc ?_ (by first | omega | (simp; omega) | (simp; done) | (dsimp only; omega)) _) | (refine Same.drewN ?_ _) | (refine Same.drew ?_) | (refine Same.trans ?_ (Same.of_below hb1 (by first | omega | (simp; omega) | (simp; done) | (dsimp only; omega))))))) (by first | omega | (simp; omega) | (simp; done) | (dsimp only; omega)) (by omega)).mono ?_); rintro e w2 ⟨A2, c2, rfl, ho2, hb2⟩; have hz2 := hb2.size))
    go_ret
    exact ⟨A2, c2, rfl, ho2.mono (by omega) (Nat.le_refl _), by (with_reducible repeat' first | exact Below.refl _ _ | assumption | (refine Below.setCell ?_ (by first | omega | (simp; omega) | (simp; done) | (dsimp only; omega)) _) | (refine Below.alloc ?_ (by first | omega | (simp; omega) | (simp; done) | (dsimp only; omega)) _) | (refine below_drewN ?_ _) | (refine Below.drew ?_) | (refine Below.trans ?_ (hb2.mono (by first | omega | (simp; omega) | (simp; done) | (dsimp only; omega)))) | (refine Below.trans ?_ (hb1.mono (by first | omega | (simp; omega) | (simp; done) | (dsimp only; omega)))))⟩

end Go.Proofs.Ythpcippgifmabaa
