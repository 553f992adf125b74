/-
  What is asked of a family, in the program.
-/
import Derived.Test.YtkdgjbbjbghdnaaHas
import Derived.Test.YtkdgjbbjbghdnaaFamilyI
namespace Go.Proofs.Ytkdgjbbjbghdnaa
set_option maxRecDepth 100000
open Go.RowKit

theorem has_any (A B : Option Addr) (c d lo hi : Nat) (xs : List Person) (ys : List Union) (P : Option Addr) (n lo2 hi2 : Nat) (ps : List Int) (w : World) (h : EPerson.AS w lo hi A xs) (h' : EUnion.AS w lo hi B ys) (hh : hi ≤ w.heap.size) (hdc : ys.length ≤ d ∧ d ≤ maxLen) (hs : totP xs ≤ 1048576) (hP : EInt.AS w lo2 hi2 P ps) (hh2 : hi2 ≤ w.heap.size) :
    Calls Try.prog 63 #[.agg #[.slice A xs.length c, .slice B ys.length d], .slice P ps.length n] w fun e w' => e = .returned (.bool (famOk xs ys && ps.all (inP xs))) ∧ Below w.heap.size w w' := by
  have hx := h.le
  have hpl := hP.le
  unfold BIG at hx hpl
  cases ho : famOk xs ys with
  | false =>
    have HO := Lib.hid ho; clear ho
    go_enter Try.func63, Try.ntmps63
    go_wp2_with (go_at_call 20; (with_reducible refine (implIsFamily_any _ _ _ _ lo hi xs ys _ (h.same (by (with_reducible repeat' first | exact Same.refl _ _ _ | assumption | (refine Same.setCell ?_ (by first | omega | (simp; omega) | (simp; done) | (dsimp only; omega)) _) | (refine Same.alloc ?_ (by first | omega | (simp; omega) | (simp; done) | (dsimp only; omega)) _) | (refine Same.drewN ?_ _) | (refine Same.drew ?_)))) (h'.same (by (with_reducible repeat' first | exact Same.refl _ _ _ | assumption | (refine Same.setCell ?_ (by first | omega | (simp; omega) | (simp; done) | (dsimp only; omega)) _) | (refine Same.alloc ?_ (by first | omega | (simp; omega) | (simp; done) | (dsimp only; omega)) _) | (refine Same.drewN ?_ _) | (refine Same.drew ?_)))) (by first | omega | (simp; omega) | (simp; done) | (dsimp only; omega)) hdc hs).mono ?_); rintro e w1 ⟨rfl, hb1⟩; simp only [HO.out]; (obtain ⟨hb1c, hb1f⟩ := bcell hb1); (have hb1z := hb1.size); (try simp only [szs] at hb1c hb1f hb1z))
    go_ret
    exact ⟨ret_bool (by rfl), by (with_reducible repeat' first | exact Below.refl _ _ | assumption | (refine Below.setCell ?_ (by first | omega | (simp; omega) | (simp; done) | (dsimp only; omega)) _) | (refine Below.alloc ?_ (by first | omega | (simp; omega) | (simp; done) | (dsimp only; omega)) _) | (refine below_drewN ?_ _) | (refine Below.drew ?_) | (refine Below.trans ?_ (hb1.mono (by first | omega | (simp; omega) | (simp; done) | (dsimp only; omega)))))⟩
  | true =>
    have HO := Lib.hid ho; clear ho
    generalize hR : (true && ps.all (inP xs)) = R
    have HR := Lib.hid ((Bool.true_and _).symm.trans hR); clear hR
    go_enter Try.func63, Try.ntmps63
    go_wp2_with (go_at_call 20; (with_reducible refine (implIsFamily_any _ _ _ _ lo hi xs ys _ (h.same (by (with_reducible repeat' first | exact Same.refl _ _ _ | assumption | (refine Same.setCell ?_ (by first | omega | (simp; omega) | (simp; done) | (dsimp only; omega)) _) | (refine Same.alloc ?_ (by first | omega | (simp; omega) | (simp; done) | (dsimp only; omega)) _) | (refine Same.drewN ?_ _) | (refine Same.drew ?_)))) (h'.same (by (with_reducible repeat' first | exact Same.refl _ _ _ | assumption | (refine Same.setCell ?_ (by first | omega | (simp; omega) | (simp; done) | (dsimp only; omega)) _) | (refine Same.alloc ?_ (by first | omega | (simp; omega) | (simp; done) | (dsimp only; omega)) _) | (refine Same.drewN ?_ _) | (refine Same.drew ?_)))) (by first | omega | (simp; omega) | (simp; done) | (dsimp only; omega)) hdc hs).mono ?_); rintro e w1 ⟨rfl, hb1⟩; simp only [HO.out]; (obtain ⟨hb1c, hb1f⟩ := bcell hb1); (have hb1z := hb1.size); (try simp only [szs] at hb1c hb1f hb1z))
    have hbw : Below w.heap.size w w1 := by (with_reducible repeat' first | exact Below.refl _ _ | assumption | (refine Below.setCell ?_ (by first | omega | (simp; omega) | (simp; done) | (dsimp only; omega)) _) | (refine Below.alloc ?_ (by first | omega | (simp; omega) | (simp; done) | (dsimp only; omega)) _) | (refine below_drewN ?_ _) | (refine Below.drew ?_) | (refine Below.trans ?_ (hb1.mono (by first | omega | (simp; omega) | (simp; done) | (dsimp only; omega)))))
    have a0 : w1.cell? ⟨w.heap.size, 0, none⟩ = some (.slice A xs.length c) := by rw [hb1c _ _ (by omega)]; simp [go_sem]
    have lt1 : w.heap.size < w1.heap.size := by omega
    clear hb1 hb1c hb1f
    have hP1 := hP.same (Same.of_below hbw hh2)
    go_loopw [12] (fun i wr => AskRel (fun k => (ps.take k).all (inP xs)) ps.length w1 i wr) (fun i _ => ps.length - (intOf i).toNat)
    case atStart => exact ⟨0, by omega, rfl, Below.refl _ _, rfl⟩
    case round =>
      obtain ⟨k, hk, rfl, hb, hp⟩ := hrel
      have HP : Hid ((ps.take k).all (inP xs) = true) := Lib.hid hp
      clear hp
      have z1 := hb.size
      have hbr : Below w.heap.size w wr := hbw.trans (hb.mono (by first | omega | (simp; omega) | (simp; done) | (dsimp only; omega)))
      have d0 := (hb.cell (p := ⟨w.heap.size, 0, none⟩) (by first | omega | (simp; omega) | (simp; done) | (dsimp only; omega))).trans a0
      by_cases hlt : k < ps.length
      · obtain ⟨b, off, q, rfl, g1, g2, _, g3, g4⟩ := AInt.at_ (k := k) (hP1.same (Same.of_below hb (by omega))) hlt
        have HG := Lib.hid g3; clear g3
        have lb : b < wr.heap.size := by omega
        by_cases h1 : 0 ≤ q ∧ q < (xs.length : Int)
        · have HN := Lib.hid (show ((ps.take (k + 1)).all (inP xs)) = true by rw [List.take_add_one, HG.out, List.all_append, HP.out]; simp [inP]; omega)
          obtain ⟨h1, h2⟩ := h1
          go_wp2
          exact ⟨⟨k + 1, by omega, by go_num, hb, HN.out⟩, by simp [intOf]; omega⟩
        · have HN := Lib.hid (HR.out.symm.trans (show _ = false by rw [List.all_eq_false]; exact ⟨q, List.mem_of_getElem? HG.out, by simp [inP]; omega⟩))
          rcases (by omega : q < 0 ∨ 0 ≤ q ∧ (xs.length : Int) ≤ q) with c | ⟨c, c'⟩
          all_goals
            go_wp2
            go_ret
            exact ⟨ret_bool HN.out.symm, hbr⟩
      · obtain rfl : k = ps.length := by omega
        have HN := Lib.hid (HR.out.symm.trans (show _ = true by have := HP.out; rwa [List.take_length] at this))
        go_wp2
        go_ret
        exact ⟨ret_bool HN.out.symm, hbr⟩

set_option maxHeartbeats 2000000 in
theorem isAlive_any (A B : Option Addr) (c d lo hi : Nat) (xs : List Person) (ys : List Union) (p : Nat) (y : Int) (w : World) (h : EPerson.AS w lo hi A xs) (_h' : EUnion.AS w lo hi B ys) (hh : hi ≤ w.heap.size) (hp : p < xs.length) :
    Calls Try.prog 64 #[.agg #[.slice A xs.length c, .slice B ys.length d], .int .i64 p, .int .i64 y] w fun e w' => e = .returned (.bool (aliveAt xs p y)) ∧ Below w.heap.size w w' := by
  have hx := h.le
  unfold BIG at hx
  obtain ⟨b, off, ⟨x0, x1, x2, x3, x4, x5⟩, rfl, g1, g2, _, hxk, hc0, hc1, hc2, hc3, hc4, hc5⟩ := APerson.at_ h hp
  rw [aliveAt_of hxk]
  clear hxk
  simp only at hc0 hc1 hc2 hc3 hc4 hc5
  generalize hR : aliveM ⟨x0, x1, x2, x3, x4, x5⟩ y = R
  have HR := Lib.hid hR; clear hR
  have lb : b < w.heap.size := by omega
  have i1 : (0 : Int) ≤ (p : Int) ∧ (p : Int) < (xs.length : Int) := by omega
  have hd : ((x5 == -1) = true ∧ x5 = -1) ∨ ((x5 == -1) = false ∧ x5 ≠ -1) := by by_cases ht : x5 = -1 <;> simp [ht]
  by_cases h1 : x4 ≤ y
  · rcases hd with ⟨n1, n2⟩ | ⟨n1, n2⟩
    · have HN := Lib.hid (HR.out.symm.trans (show _ = true by simp [aliveM, h1, n2]))
      clear n2
      go_enter Try.func64, Try.ntmps64
      go_wp2
      go_ret
      exact ⟨ret_bool HN.out.symm, by (with_reducible repeat' first | exact Below.refl _ _ | assumption | (refine Below.setCell ?_ (by first | omega | (simp; omega) | (simp; done) | (dsimp only; omega)) _) | (refine Below.alloc ?_ (by first | omega | (simp; omega) | (simp; done) | (dsimp only; omega)) _) | (refine below_drewN ?_ _) | (refine Below.drew ?_))⟩
    · by_cases h2 : y < x5
      · have HN := Lib.hid (HR.out.symm.trans (show _ = true by simp [aliveM, h1, h2]))
        clear n2
        go_enter Try.func64, Try.ntmps64
        go_wp2
        go_ret
        exact ⟨ret_bool (by rw [HN.out]; try (simp; omega)), by (with_reducible repeat' first | exact Below.refl _ _ | assumption | (refine Below.setCell ?_ (by first | omega | (simp; omega) | (simp; done) | (dsimp only; omega)) _) | (refine Below.alloc ?_ (by first | omega | (simp; omega) | (simp; done) | (dsimp only; omega)) _) | (refine below_drewN ?_ _) | (refine Below.drew ?_))⟩
      · have HN := Lib.hid (HR.out.symm.trans (show _ = false by simp [aliveM, h1, h2, n2]))
        clear n2
        go_enter Try.func64, Try.ntmps64
        go_wp2
        go_ret
        exact ⟨ret_bool (by rw [HN.out]; try (simp; omega)), by (with_reducible repeat' first | exact Below.refl _ _ | assumption | (refine Below.setCell ?_ (by first | omega | (simp; omega) | (simp; done) | (dsimp only; omega)) _) | (refine Below.alloc ?_ (by first | omega | (simp; omega) | (simp; done) | (dsimp only; omega)) _) | (refine below_drewN ?_ _) | (refine Below.drew ?_))⟩
  · have HN := Lib.hid (HR.out.symm.trans (show _ = false by simp [aliveM, h1]))
    go_enter Try.func64, Try.ntmps64
    go_wp2
    go_ret
    exact ⟨ret_bool HN.out.symm, by (with_reducible repeat' first | exact Below.refl _ _ | assumption | (refine Below.setCell ?_ (by first | omega | (simp; omega) | (simp; done) | (dsimp only; omega)) _) | (refine Below.alloc ?_ (by first | omega | (simp; omega) | (simp; done) | (dsimp only; omega)) _) | (refine below_drewN ?_ _) | (refine Below.drew ?_))⟩

set_option maxHeartbeats 2000000 in
theorem isElder_any (A B : Option Addr) (c d lo hi : Nat) (xs : List Person) (ys : List Union) (a b : Nat) (w : World) (h : EPerson.AS w lo hi A xs) (_h' : EUnion.AS w lo hi B ys) (hh : hi ≤ w.heap.size) (ha : a < xs.length) (hb : b < xs.length) :
    Calls Try.prog 66 #[.agg #[.slice A xs.length c, .slice B ys.length d], .int .i64 a, .int .i64 b] w fun e w' => e = .returned (.bool (elderAt xs a b)) ∧ Below w.heap.size w w' := by
  have hx := h.le
  unfold BIG at hx
  obtain ⟨g, off, ⟨x0, x1, x2, x3, x4, x5⟩, rfl, g1, g2, _, hxk, _, _, _, _, hc4, _⟩ := APerson.at_ h ha
  obtain ⟨g', off', ⟨y0, y1, y2, y3, y4, y5⟩, he, _, _, _, hyk, _, _, _, _, hd4, _⟩ := APerson.at_ h hb
  injection he with he; injection he with he1 he2 _; subst he1; subst he2
  rw [elderAt_of hxk hyk]
  clear hxk hyk
  simp only at hc4 hd4 ⊢
  generalize hR : (decide (x4 < y4) || (decide (x4 = y4) && decide (a < b))) = R
  have HR := Lib.hid hR; clear hR
  have lb : g < w.heap.size := by omega
  have i1 : (0 : Int) ≤ (a : Int) ∧ (a : Int) < (xs.length : Int) := by omega
  have i2 : (0 : Int) ≤ (b : Int) ∧ (b : Int) < (xs.length : Int) := by omega
  rcases (by omega : x4 < y4 ∨ x4 = y4 ∧ a < b ∨ x4 = y4 ∧ b ≤ a ∨ y4 < x4) with q | ⟨q, q'⟩ | ⟨q, q'⟩ | q
  · have HN := Lib.hid (HR.out.symm.trans (show _ = true by simp [q]))
    go_enter Try.func66, Try.ntmps66
    go_wp2
    go_quiet (fail)
    go_wp2
    go_ret
    exact ⟨ret_bool HN.out.symm, by (with_reducible repeat' first | exact Below.refl _ _ | assumption | (refine Below.setCell ?_ (by first | omega | (simp; omega) | (simp; done) | (dsimp only; omega)) _) | (refine Below.alloc ?_ (by first | omega | (simp; omega) | (simp; done) | (dsimp only; omega)) _) | (refine below_drewN ?_ _) | (refine Below.drew ?_))⟩
  · subst q
    have HN := Lib.hid (HR.out.symm.trans (show _ = true by simp [q']))
    have n1 : (x4 == x4) = true := by simp
    go_enter Try.func66, Try.ntmps66
    go_wp2
    go_quiet (fail)
    go_wp2
    go_ret
    exact ⟨ret_bool (by rw [HN.out]; try (simp; omega)), by (with_reducible repeat' first | exact Below.refl _ _ | assumption | (refine Below.setCell ?_ (by first | omega | (simp; omega) | (simp; done) | (dsimp only; omega)) _) | (refine Below.alloc ?_ (by first | omega | (simp; omega) | (simp; done) | (dsimp only; omega)) _) | (refine below_drewN ?_ _) | (refine Below.drew ?_))⟩
  · subst q
    have HN := Lib.hid (HR.out.symm.trans (show _ = false by simp; omega))
    have n1 : (x4 == x4) = true := by simp
    go_enter Try.func66, Try.ntmps66
    go_wp2
    go_quiet (fail)
    go_wp2
    go_ret
    exact ⟨ret_bool (by rw [HN.out]; try (simp; omega)), by (with_reducible repeat' first | exact Below.refl _ _ | assumption | (refine Below.setCell ?_ (by first | omega | (simp; omega) | (simp; done) | (dsimp only; omega)) _) | (refine Below.alloc ?_ (by first | omega | (simp; omega) | (simp; done) | (dsimp only; omega)) _) | (refine below_drewN ?_ _) | (refine Below.drew ?_))⟩
  · have HN := Lib.hid (HR.out.symm.trans (show _ = false by simp; omega))
    have n1 : (x4 == y4) = false := by simp; omega
    go_enter Try.func66, Try.ntmps66
    go_wp2
    go_quiet (fail)
    go_wp2
    go_ret
    exact ⟨ret_bool (by rw [HN.out]; try (simp; omega)), by (with_reducible repeat' first | exact Below.refl _ _ | assumption | (refine Below.setCell ?_ (by first | omega | (simp; omega) | (simp; done) | (dsimp only; omega)) _) | (refine Below.alloc ?_ (by first | omega | (simp; omega) | (simp; done) | (dsimp only; omega)) _) | (refine below_drewN ?_ _) | (refine Below.drew ?_))⟩

set_option maxHeartbeats 2000000 in
theorem findPerson_any (A B : Option Addr) (c d lo hi : Nat) (xs : List Person) (ys : List Union) (s : ByteArray) (w : World) (h : EPerson.AS w lo hi A xs) (_h' : EUnion.AS w lo hi B ys) (hh : hi ≤ w.heap.size) :
    Calls Try.prog 68 #[.agg #[.slice A xs.length c, .slice B ys.length d], .string s] w (RetIntB w (findFrom s xs 0)) := by
  have hx := h.le
  unfold BIG at hx
  generalize hR : findFrom s xs 0 = R
  have HR := Lib.hid hR; clear hR
  go_enter Try.func68, Try.ntmps68
  go_wp2
  generalize hW : w.alloc (.cells #[.slice A xs.length c, .slice B ys.length d] 31) = W
  have hbW : Below w.heap.size w W := by subst hW; (with_reducible repeat' first | exact Below.refl _ _ | assumption | (refine Below.setCell ?_ (by first | omega | (simp; omega) | (simp; done) | (dsimp only; omega)) _) | (refine Below.alloc ?_ (by first | omega | (simp; omega) | (simp; done) | (dsimp only; omega)) _) | (refine below_drewN ?_ _) | (refine Below.drew ?_))
  have zW : W.heap.size = w.heap.size + 1 := by subst hW; simp
  clear hW
  replace h := h.same (Same.of_below hbW hh)
  go_loopw [11] (fun i wr => FindRel s xs W i wr) (fun i _ => xs.length - (intOf i).toNat)
  case atStart => exact ⟨0, by omega, rfl, Below.refl _ _, rfl⟩
  case round =>
    obtain ⟨k, hk, rfl, hb, hf⟩ := hrel
    have HF := Lib.hid (HR.out.symm.trans hf); clear hf
    have z1 := hb.size
    have hbw : Below w.heap.size w wr := hbW.trans (hb.mono (by first | omega | (simp; omega) | (simp; done) | (dsimp only; omega)))
    by_cases hlt : k < xs.length
    · obtain ⟨b, off, ⟨x0, x1, x2, x3, x4, x5⟩, rfl, g1, g2, hdr, hxk, hc0, hc1, hc2, hc3, hc4, hc5⟩ := APerson.at_ (h.same (Same.of_below hb (by omega))) hlt
      have HDR := Lib.hid hdr; clear hdr hxk
      simp only at hc0 hc1 hc2 hc3 hc4 hc5
      have lb : b < wr.heap.size := by omega
      by_cases hq : x0 = s
      · have HN := Lib.hid (HF.out.trans (findFrom_hit HDR.out hq))
        have n1 : (x0.toList == s.toList) = true := by simp [hq]
        clear hq
        go_wp2
        exact bodyPost_ret (v := .tuple #[.int .i64 k, .bool true]) (by simp [results, Try.results68, go_sem]) rfl ⟨by rw [HN.out], by (with_reducible repeat' first | exact Below.refl _ _ | assumption | (refine Below.setCell ?_ (by first | omega | (simp; omega) | (simp; done) | (dsimp only; omega)) _) | (refine Below.alloc ?_ (by first | omega | (simp; omega) | (simp; done) | (dsimp only; omega)) _) | (refine below_drewN ?_ _) | (refine Below.drew ?_) | (refine Below.trans ?_ (hbw.mono (by first | omega | (simp; omega) | (simp; done) | (dsimp only; omega)))))⟩
      · have HN := Lib.hid (HF.out.trans (findFrom_miss HDR.out hq))
        have n1 : (x0.toList == s.toList) = false := by
          rw [Bool.eq_false_iff]; intro e; exact hq (str_eq.1 (by simpa using e))
        clear hq
        go_wp2
        exact ⟨⟨k + 1, by omega, by go_num, by (with_reducible repeat' first | exact Below.refl _ _ | assumption | (refine Below.setCell ?_ (by first | omega | (simp; omega) | (simp; done) | (dsimp only; omega)) _) | (refine Below.alloc ?_ (by first | omega | (simp; omega) | (simp; done) | (dsimp only; omega)) _) | (refine below_drewN ?_ _) | (refine Below.drew ?_) | (refine Below.trans ?_ (hb.mono (by first | omega | (simp; omega) | (simp; done) | (dsimp only; omega))))), HR.out.trans HN.out⟩, by simp [intOf]; omega⟩
    · obtain rfl : k = xs.length := by omega
      have HN := Lib.hid (HF.out.trans (findFrom_end (Nat.le_refl _)))
      go_wp2
      exact bodyPost_ret (v := .tuple #[.int .i64 0, .bool false]) (by simp [results, Try.results68, go_sem]) rfl ⟨by rw [HN.out], hbw⟩

theorem hasOk_all {xs : List Person} {ys : List Union} {p : Int} : (famOk xs ys && [p].all (inP xs)) = hasOk xs ys p := by simp [hasOk, Bool.and_comm]
theorem hasOk_all2 {xs : List Person} {ys : List Union} {p q : Int} : (famOk xs ys && [p, q].all (inP xs)) = (hasOk xs ys p && hasOk xs ys q) := by
  simp only [hasOk, List.all_cons, List.all_nil, Bool.and_true]
  cases famOk xs ys <;> cases inP xs p <;> cases inP xs q <;> rfl
theorem ints_as (w : World) (cur : Array Value) (ps : List Int) (hc : cur.toList = ps.map fun p => .int .i64 p) (hb : ps.length ≤ BIG) : EInt.AS (w.alloc (.cells cur 3)) w.heap.size (w.heap.size + 1) (some ⟨w.heap.size, 0, none⟩) ps := by
  refine ⟨hb, ps.map (fun p => [.int .i64 p]), fun _ => ⟨_, 0, rfl, Nat.le_refl _, by omega, fun i cs hi j u hj => ?_⟩, ⟨by simp, fun i x hx => ⟨[.int .i64 x], by simp [hx], rfl⟩⟩⟩
  rw [List.getElem?_map] at hi
  cases hp : ps[i]? with
  | none => rw [hp] at hi; cases hi
  | some p =>
    rw [hp] at hi
    simp only [Option.map_some, Option.some.injEq] at hi
    subst hi
    cases j with
    | zero =>
      simp at hj
      subst hj
      have h1 : cur[i]? = some (.int .i64 p) := by rw [← Array.getElem?_toList, hc, List.getElem?_map, hp]; rfl
      have h2 := (Blk.new (t := 3) (cs := cur) w rfl).cell h1
      simpa [EInt, Elem.flat] using h2
    | succ j => simp at hj
theorem ints_as' (w : World) (cur : Array Value) (ps : List Int) (hc : cur.toList = ps.map fun p => .int .i64 p) (hb : ps.length ≤ BIG) (g : Nat) (hg : g = w.heap.size) : EInt.AS (w.alloc (.cells cur 3)) g (g + 1) (some ⟨g, 0, none⟩) ps := by subst hg; exact ints_as w cur ps hc hb

set_option maxHeartbeats 2000000 in
theorem implIsAlive_any (A B : Option Addr) (c d lo hi : Nat) (xs : List Person) (ys : List Union) (p y : Int) (w : World) (h : EPerson.AS w lo hi A xs) (h' : EUnion.AS w lo hi B ys) (hh : hi ≤ w.heap.size) (hdc : ys.length ≤ d ∧ d ≤ maxLen) (hs : totP xs ≤ 1048576) :
    Calls Try.prog 22 #[.agg #[.slice A xs.length c, .slice B ys.length d], .int .i64 p, .int .i64 y] w fun e w' => e = .returned (.bool (isAliveM xs ys p y)) ∧ Below w.heap.size w w' := by
  cases ho : hasOk xs ys p with
  | false =>
    have HO := Lib.hid ho
    have HN := Lib.hid (show isAliveM xs ys p y = false by rw [isAliveM, ho]; rfl)
    clear ho
    go_enter Try.func22, Try.ntmps22
    go_wp2_with (go_at_call 63; refine (has_any _ _ _ _ lo hi xs ys (some ⟨w.heap.size + 1, 0, none⟩) _ _ _ [p] _ (h.same (by (with_reducible repeat' first | exact Same.refl _ _ _ | assumption | (refine Same.setCell ?_ (by first | omega | (simp; omega) | (simp; done) | (dsimp only; omega)) _) | (refine Same.alloc ?_ (by first | omega | (simp; omega) | (simp; done) | (dsimp only; omega)) _) | (refine Same.drewN ?_ _) | (refine Same.drew ?_)))) (h'.same (by (with_reducible repeat' first | exact Same.refl _ _ _ | assumption | (refine Same.setCell ?_ (by first | omega | (simp; omega) | (simp; done) | (dsimp only; omega)) _) | (refine Same.alloc ?_ (by first | omega | (simp; omega) | (simp; done) | (dsimp only; omega)) _) | (refine Same.drewN ?_ _) | (refine Same.drew ?_)))) (by first | omega | (simp; omega) | (simp; done) | (dsimp only; omega)) hdc hs (ints_as' _ _ [p] rfl (by simp [BIG]) _ (by simp)) (by first | omega | (simp; omega) | (simp; done) | (dsimp only; omega))).mono ?_; rintro e w1 ⟨rfl, hb1⟩; simp only [hasOk_all, HO.out]; (obtain ⟨hb1c, hb1f⟩ := bcell hb1); (have hb1z := hb1.size); (try simp only [szs] at hb1c hb1f hb1z); have lt1 : w.heap.size < w1.heap.size := (by omega))
    go_ret
    exact ⟨ret_bool HN.out.symm, by (with_reducible repeat' first | exact Below.refl _ _ | assumption | (refine Below.setCell ?_ (by first | omega | (simp; omega) | (simp; done) | (dsimp only; omega)) _) | (refine Below.alloc ?_ (by first | omega | (simp; omega) | (simp; done) | (dsimp only; omega)) _) | (refine below_drewN ?_ _) | (refine Below.drew ?_) | (refine Below.trans ?_ (hb1.mono (by first | omega | (simp; omega) | (simp; done) | (dsimp only; omega)))))⟩
  | true =>
    have HO := Lib.hid ho
    have HN := Lib.hid (show isAliveM xs ys p y = aliveAt xs p.toNat y by rw [isAliveM, ho]; rfl)
    obtain ⟨_, p1, p2⟩ := hasOk_fam ho
    clear ho
    obtain ⟨p, rfl⟩ := Int.eq_ofNat_of_zero_le p1
    go_enter Try.func22, Try.ntmps22
    go_wp2_with (first
      | (go_at_call 63; refine (has_any _ _ _ _ lo hi xs ys (some ⟨w.heap.size + 1, 0, none⟩) _ _ _ [p] _ (h.same (by (with_reducible repeat' first | exact Same.refl _ _ _ | assumption | (refine Same.setCell ?_ (by first | omega | (simp; omega) | (simp; done) | (dsimp only; omega)) _) | (refine Same.alloc ?_ (by first | omega | (simp; omega) | (simp; done) | (dsimp only; omega)) _) | (refine Same.drewN ?_ _) | (refine Same.drew ?_)))) (h'.same (by (with_reducible repeat' first | exact Same.refl _ _ _ | assumption | (refine Same.setCell ?_ (by first | omega | (simp; omega) | (simp; done) | (dsimp only; omega)) _) | (refine Same.alloc ?_ (by first | omega | (simp; omega) | (simp; done) | (dsimp only; omega)) _) | (refine Same.drewN ?_ _) | (refine Same.drew ?_)))) (by first | omega | (simp; omega) | (simp; done) | (dsimp only; omega)) hdc hs (ints_as' _ _ [p] rfl (by simp [BIG]) _ (by simp)) (by first | omega | (simp; omega) | (simp; done) | (dsimp only; omega))).mono ?_; rintro e w1 ⟨rfl, hb1⟩; simp only [hasOk_all, HO.out]; (obtain ⟨hb1c, hb1f⟩ := bcell hb1); (have hb1z := hb1.size); (try simp only [szs] at hb1c hb1f hb1z); have lt1 : w.heap.size < w1.heap.size := (by omega))
      | (go_at_call 64; (with_reducible refine (isAlive_any _ _ _ _ lo hi xs ys _ _ _ (h.same (by (with_reducible repeat' first | exact Same.refl _ _ _ | assumption | (refine Same.setCell ?_ (by first | omega | (simp; omega) | (simp; done) | (dsimp only; omega)) _) | (refine Same.alloc ?_ (by first | omega | (simp; omega) | (simp; done) | (dsimp only; omega)) _) | (refine Same.drewN ?_ _) | (refine Same.drew ?_) | (refine Same.trans ?_ (Same.of_below hb1 (by first | omega | (simp; omega) | (simp; done) | (dsimp only; omega))))))) (h'.same (by (with_reducible repeat' first | exact Same.refl _ _ _ | assumption | (refine Same.setCell ?_ (by first | omega | (simp; omega) | (simp; done) | (dsimp only; omega)) _) | (refine Same.alloc ?_ (by first | omega | (simp; omega) | (simp; done) | (dsimp only; omega)) _) | (refine Same.drewN ?_ _) | (refine Same.drew ?_) | (refine Same.trans ?_ (Same.of_below hb1 (by first | omega | (simp; omega) | (simp; done) | (dsimp only; omega))))))) (by first | omega | (simp; omega) | (simp; done) | (dsimp only; omega)) (by omega)).mono ?_); rintro e w2 ⟨rfl, hb2⟩))
    go_ret
    exact ⟨ret_bool (by rw [HN.out]; rfl), by (with_reducible repeat' first | exact Below.refl _ _ | assumption | (refine Below.setCell ?_ (by first | omega | (simp; omega) | (simp; done) | (dsimp only; omega)) _) | (refine Below.alloc ?_ (by first | omega | (simp; omega) | (simp; done) | (dsimp only; omega)) _) | (refine below_drewN ?_ _) | (refine Below.drew ?_) | (refine Below.trans ?_ (hb2.mono (by first | omega | (simp; omega) | (simp; done) | (dsimp only; omega)))) | (refine Below.trans ?_ (hb1.mono (by first | omega | (simp; omega) | (simp; done) | (dsimp only; omega)))))⟩

set_option maxHeartbeats 2000000 in
theorem implIsElder_any (A B : Option Addr) (c d lo hi : Nat) (xs : List Person) (ys : List Union) (a b : Int) (w : World) (h : EPerson.AS w lo hi A xs) (h' : EUnion.AS w lo hi B ys) (hh : hi ≤ w.heap.size) (hdc : ys.length ≤ d ∧ d ≤ maxLen) (hs : totP xs ≤ 1048576) :
    Calls Try.prog 24 #[.agg #[.slice A xs.length c, .slice B ys.length d], .int .i64 a, .int .i64 b] w fun e w' => e = .returned (.bool (isElderM xs ys a b)) ∧ Below w.heap.size w w' := by
  cases ho : (hasOk xs ys a && hasOk xs ys b) with
  | false =>
    have HO := Lib.hid ho
    have HN := Lib.hid (show isElderM xs ys a b = false by rw [isElderM, ho]; rfl)
    clear ho
    go_enter Try.func24, Try.ntmps24
    go_wp2_with (go_at_call 63; refine (has_any _ _ _ _ lo hi xs ys (some ⟨w.heap.size + 1, 0, none⟩) _ _ _ [a, b] _ (h.same (by (with_reducible repeat' first | exact Same.refl _ _ _ | assumption | (refine Same.setCell ?_ (by first | omega | (simp; omega) | (simp; done) | (dsimp only; omega)) _) | (refine Same.alloc ?_ (by first | omega | (simp; omega) | (simp; done) | (dsimp only; omega)) _) | (refine Same.drewN ?_ _) | (refine Same.drew ?_)))) (h'.same (by (with_reducible repeat' first | exact Same.refl _ _ _ | assumption | (refine Same.setCell ?_ (by first | omega | (simp; omega) | (simp; done) | (dsimp only; omega)) _) | (refine Same.alloc ?_ (by first | omega | (simp; omega) | (simp; done) | (dsimp only; omega)) _) | (refine Same.drewN ?_ _) | (refine Same.drew ?_)))) (by first | omega | (simp; omega) | (simp; done) | (dsimp only; omega)) hdc hs (ints_as' _ _ [a, b] rfl (by simp [BIG]) _ (by simp)) (by first | omega | (simp; omega) | (simp; done) | (dsimp only; omega))).mono ?_; rintro e w1 ⟨rfl, hb1⟩; simp only [hasOk_all2, HO.out]; (obtain ⟨hb1c, hb1f⟩ := bcell hb1); (have hb1z := hb1.size); (try simp only [szs] at hb1c hb1f hb1z); have lt1 : w.heap.size < w1.heap.size := (by omega))
    go_ret
    exact ⟨ret_bool HN.out.symm, by (with_reducible repeat' first | exact Below.refl _ _ | assumption | (refine Below.setCell ?_ (by first | omega | (simp; omega) | (simp; done) | (dsimp only; omega)) _) | (refine Below.alloc ?_ (by first | omega | (simp; omega) | (simp; done) | (dsimp only; omega)) _) | (refine below_drewN ?_ _) | (refine Below.drew ?_) | (refine Below.trans ?_ (hb1.mono (by first | omega | (simp; omega) | (simp; done) | (dsimp only; omega)))))⟩
  | true =>
    have HO := Lib.hid ho
    have HN := Lib.hid (show isElderM xs ys a b = elderAt xs a.toNat b.toNat by rw [isElderM, ho]; rfl)
    obtain ⟨_, p1, p2⟩ := hasOk_fam (Bool.and_eq_true _ _ ▸ ho : hasOk xs ys a = true ∧ hasOk xs ys b = true).1
    obtain ⟨_, p3, p4⟩ := hasOk_fam (Bool.and_eq_true _ _ ▸ ho : hasOk xs ys a = true ∧ hasOk xs ys b = true).2
    clear ho
    obtain ⟨a, rfl⟩ := Int.eq_ofNat_of_zero_le p1
    obtain ⟨b, rfl⟩ := Int.eq_ofNat_of_zero_le p3
    go_enter Try.func24, Try.ntmps24
    go_wp2_with (first
      | (go_at_call 63; refine (has_any _ _ _ _ lo hi xs ys (some ⟨w.heap.size + 1, 0, none⟩) _ _ _ [a, b] _ (h.same (by (with_reducible repeat' first | exact Same.refl _ _ _ | assumption | (refine Same.setCell ?_ (by first | omega | (simp; omega) | (simp; done) | (dsimp only; omega)) _) | (refine Same.alloc ?_ (by first | omega | (simp; omega) | (simp; done) | (dsimp only; omega)) _) | (refine Same.drewN ?_ _) | (refine Same.drew ?_)))) (h'.same (by (with_reducible repeat' first | exact Same.refl _ _ _ | assumption | (refine Same.setCell ?_ (by first | omega | (simp; omega) | (simp; done) | (dsimp only; omega)) _) | (refine Same.alloc ?_ (by first | omega | (simp; omega) | (simp; done) | (dsimp only; omega)) _) | (refine Same.drewN ?_ _) | (refine Same.drew ?_)))) (by first | omega | (simp; omega) | (simp; done) | (dsimp only; omega)) hdc hs (ints_as' _ _ [a, b] rfl (by simp [BIG]) _ (by simp)) (by first | omega | (simp; omega) | (simp; done) | (dsimp only; omega))).mono ?_; rintro e w1 ⟨rfl, hb1⟩; simp only [hasOk_all2, HO.out]; (obtain ⟨hb1c, hb1f⟩ := bcell hb1); (have hb1z := hb1.size); (try simp only [szs] at hb1c hb1f hb1z); have lt1 : w.heap.size < w1.heap.size := (by omega))
      | (go_at_call 66; (with_reducible refine (isElder_any _ _ _ _ lo hi xs ys _ _ _ (h.same (by (with_reducible repeat' first | exact Same.refl _ _ _ | assumption | (refine Same.setCell ?_ (by first | omega | (simp; omega) | (simp; done) | (dsimp only; omega)) _) | (refine Same.alloc ?_ (by first | omega | (simp; omega) | (simp; done) | (dsimp only; omega)) _) | (refine Same.drewN ?_ _) | (refine Same.drew ?_) | (refine Same.trans ?_ (Same.of_below hb1 (by first | omega | (simp; omega) | (simp; done) | (dsimp only; omega))))))) (h'.same (by (with_reducible repeat' first | exact Same.refl _ _ _ | assumption | (refine Same.setCell ?_ (by first | omega | (simp; omega) | (simp; done) | (dsimp only; omega)) _) | (refine Same.alloc ?_ (by first | omega | (simp; omega) | (simp; done) | (dsimp only; omega)) _) | (refine Same.drewN ?_ _) | (refine Same.drew ?_) | (refine Same.trans ?_ (Same.of_below hb1 (by first | omega | (simp; omega) | (simp; done) | (dsimp only; omega))))))) (by first | omega | (simp; omega) | (simp; done) | (dsimp only; omega)) (by omega) (by omega)).mono ?_); rintro e w3 ⟨rfl, hb3⟩))
    go_ret
    exact ⟨ret_bool (by rw [HN.out]; rfl), by (with_reducible repeat' first | exact Below.refl _ _ | assumption | (refine Below.setCell ?_ (by first | omega | (simp; omega) | (simp; done) | (dsimp only; omega)) _) | (refine Below.alloc ?_ (by first | omega | (simp; omega) | (simp; done) | (dsimp only; omega)) _) | (refine below_drewN ?_ _) | (refine Below.drew ?_) | (refine Below.trans ?_ (hb3.mono (by first | omega | (simp; omega) | (simp; done) | (dsimp only; omega)))) | (refine Below.trans ?_ (hb1.mono (by first | omega | (simp; omega) | (simp; done) | (dsimp only; omega)))))⟩

set_option maxHeartbeats 2000000 in
theorem implDepthOf_any (A B : Option Addr) (c d lo hi : Nat) (xs : List Person) (ys : List Union) (p : Int) (w : World) (h : EPerson.AS w lo hi A xs) (h' : EUnion.AS w lo hi B ys) (hh : hi ≤ w.heap.size) (hdc : ys.length ≤ d ∧ d ≤ maxLen) (hs : totP xs ≤ 1048576) :
    Calls Try.prog 26 #[.agg #[.slice A xs.length c, .slice B ys.length d], .int .i64 p] w fun e w' => e = .returned (.int .i64 (depthM xs ys p)) ∧ Below w.heap.size w w' := by
  cases ho : hasOk xs ys p with
  | false =>
    have HO := Lib.hid ho
    have HN := Lib.hid (show depthM xs ys p = 0 by rw [depthM, ho]; rfl)
    clear ho
    go_enter Try.func26, Try.ntmps26
    go_wp2_with (go_at_call 63; refine (has_any _ _ _ _ lo hi xs ys (some ⟨w.heap.size + 1, 0, none⟩) _ _ _ [p] _ (h.same (by (with_reducible repeat' first | exact Same.refl _ _ _ | assumption | (refine Same.setCell ?_ (by first | omega | (simp; omega) | (simp; done) | (dsimp only; omega)) _) | (refine Same.alloc ?_ (by first | omega | (simp; omega) | (simp; done) | (dsimp only; omega)) _) | (refine Same.drewN ?_ _) | (refine Same.drew ?_)))) (h'.same (by (with_reducible repeat' first | exact Same.refl _ _ _ | assumption | (refine Same.setCell ?_ (by first | omega | (simp; omega) | (simp; done) | (dsimp only; omega)) _) | (refine Same.alloc ?_ (by first | omega | (simp; omega) | (simp; done) | (dsimp only; omega)) _) | (refine Same.drewN ?_ _) | (refine Same.drew ?_)))) (by first | omega | (simp; omega) | (simp; done) | (dsimp only; omega)) hdc hs (ints_as' _ _ [p] rfl (by simp [BIG]) _ (by simp)) (by first | omega | (simp; omega) | (simp; done) | (dsimp only; omega))).mono ?_; rintro e w1 ⟨rfl, hb1⟩; simp only [hasOk_all, HO.out]; (obtain ⟨hb1c, hb1f⟩ := bcell hb1); (have hb1z := hb1.size); (try simp only [szs] at hb1c hb1f hb1z); have lt1 : w.heap.size < w1.heap.size := (by omega))
    go_ret
    exact ⟨congrArg (fun v => Ending.returned (.int .i64 v)) HN.out.symm, by (with_reducible repeat' first | exact Below.refl _ _ | assumption | (refine Below.setCell ?_ (by first | omega | (simp; omega) | (simp; done) | (dsimp only; omega)) _) | (refine Below.alloc ?_ (by first | omega | (simp; omega) | (simp; done) | (dsimp only; omega)) _) | (refine below_drewN ?_ _) | (refine Below.drew ?_) | (refine Below.trans ?_ (hb1.mono (by first | omega | (simp; omega) | (simp; done) | (dsimp only; omega)))))⟩
  | true =>
    have HO := Lib.hid ho
    have HN := Lib.hid (show depthM xs ys p = (depL xs xs.length).getD p.toNat 0 by rw [depthM, if_pos ho])
    obtain ⟨ho', p1, p2⟩ := hasOk_fam ho
    clear ho
    obtain ⟨q1, _, q2, _⟩ := famOk_parts ho'
    clear ho'
    have HB := Lib.hid (peopleOk_before q2); clear q2
    obtain ⟨p, rfl⟩ := Int.eq_ofNat_of_zero_le p1
    have hlen := Lib.hid (depL_len xs xs.length)
    have i1 : (p : Int) < ((depL xs xs.length).length : Int) := by rw [hlen.out]; exact p2
    go_enter Try.func26, Try.ntmps26
    go_wp2_with (first
      | (go_at_call 63; refine (has_any _ _ _ _ lo hi xs ys (some ⟨w.heap.size + 1, 0, none⟩) _ _ _ [p] _ (h.same (by (with_reducible repeat' first | exact Same.refl _ _ _ | assumption | (refine Same.setCell ?_ (by first | omega | (simp; omega) | (simp; done) | (dsimp only; omega)) _) | (refine Same.alloc ?_ (by first | omega | (simp; omega) | (simp; done) | (dsimp only; omega)) _) | (refine Same.drewN ?_ _) | (refine Same.drew ?_)))) (h'.same (by (with_reducible repeat' first | exact Same.refl _ _ _ | assumption | (refine Same.setCell ?_ (by first | omega | (simp; omega) | (simp; done) | (dsimp only; omega)) _) | (refine Same.alloc ?_ (by first | omega | (simp; omega) | (simp; done) | (dsimp only; omega)) _) | (refine Same.drewN ?_ _) | (refine Same.drew ?_)))) (by first | omega | (simp; omega) | (simp; done) | (dsimp only; omega)) hdc hs (ints_as' _ _ [p] rfl (by simp [BIG]) _ (by simp)) (by first | omega | (simp; omega) | (simp; done) | (dsimp only; omega))).mono ?_; rintro e w1 ⟨rfl, hb1⟩; simp only [hasOk_all, HO.out]; (obtain ⟨hb1c, hb1f⟩ := bcell hb1); (have hb1z := hb1.size); (try simp only [szs] at hb1c hb1f hb1z); have lt1 : w.heap.size < w1.heap.size := (by omega))
      | (go_at_call 59; (with_reducible refine (depths_any _ _ lo hi xs _ (h.same (by (with_reducible repeat' first | exact Same.refl _ _ _ | assumption | (refine Same.setCell ?_ (by first | omega | (simp; omega) | (simp; done) | (dsimp only; omega)) _) | (refine Same.alloc ?_ (by first | omega | (simp; omega) | (simp; done) | (dsimp only; omega)) _) | (refine Same.drewN ?_ _) | (refine Same.drew ?_) | (refine Same.trans ?_ (Same.of_below hb1 (by first | omega | (simp; omega) | (simp; done) | (dsimp only; omega))))))) (by first | omega | (simp; omega) | (simp; done) | (dsimp only; omega)) q1 HB.out).mono ?_); rintro e w2 ⟨A2, c2, rfl, ho2, hb2⟩; obtain ⟨b, off, v, rfl, g1, g2, _, g3, g4⟩ := AInt.at_ (k := p) ho2.read.as (by omega); have HG := Lib.hid g3; clear g3))
    go_ret
    exact ⟨congrArg (fun v => Ending.returned (.int .i64 v)) (show v = depthM xs ys p by rw [HN.out, List.getD_eq_getElem?_getD, Int.toNat_natCast, HG.out]; rfl), by (with_reducible repeat' first | exact Below.refl _ _ | assumption | (refine Below.setCell ?_ (by first | omega | (simp; omega) | (simp; done) | (dsimp only; omega)) _) | (refine Below.alloc ?_ (by first | omega | (simp; omega) | (simp; done) | (dsimp only; omega)) _) | (refine below_drewN ?_ _) | (refine Below.drew ?_) | (refine Below.trans ?_ (hb2.mono (by first | omega | (simp; omega) | (simp; done) | (dsimp only; omega)))) | (refine Below.trans ?_ (hb1.mono (by first | omega | (simp; omega) | (simp; done) | (dsimp only; omega)))))⟩

set_option maxHeartbeats 2000000 in
theorem implFindPerson_any (A B : Option Addr) (c d lo hi : Nat) (xs : List Person) (ys : List Union) (s : ByteArray) (w : World) (h : EPerson.AS w lo hi A xs) (h' : EUnion.AS w lo hi B ys) (hh : hi ≤ w.heap.size) (hdc : ys.length ≤ d ∧ d ≤ maxLen) (hs : totP xs ≤ 1048576) :
    Calls Try.prog 28 #[.agg #[.slice A xs.length c, .slice B ys.length d], .string s] w (RetIntB w (findM xs ys s)) := by
  cases ho : famOk xs ys with
  | false =>
    have HO := Lib.hid ho
    have HN := Lib.hid (show findM xs ys s = (0, false) by rw [findM, ho]; rfl)
    clear ho
    rw [HN.out]
    go_enter Try.func28, Try.ntmps28
    go_wp2_with (go_at_call 20; (with_reducible refine (implIsFamily_any _ _ _ _ lo hi xs ys _ (h.same (by (with_reducible repeat' first | exact Same.refl _ _ _ | assumption | (refine Same.setCell ?_ (by first | omega | (simp; omega) | (simp; done) | (dsimp only; omega)) _) | (refine Same.alloc ?_ (by first | omega | (simp; omega) | (simp; done) | (dsimp only; omega)) _) | (refine Same.drewN ?_ _) | (refine Same.drew ?_)))) (h'.same (by (with_reducible repeat' first | exact Same.refl _ _ _ | assumption | (refine Same.setCell ?_ (by first | omega | (simp; omega) | (simp; done) | (dsimp only; omega)) _) | (refine Same.alloc ?_ (by first | omega | (simp; omega) | (simp; done) | (dsimp only; omega)) _) | (refine Same.drewN ?_ _) | (refine Same.drew ?_)))) (by first | omega | (simp; omega) | (simp; done) | (dsimp only; omega)) hdc hs).mono ?_); rintro e w1 ⟨rfl, hb1⟩; simp only [HO.out]; (obtain ⟨hb1c, hb1f⟩ := bcell hb1); (have hb1z := hb1.size); (try simp only [szs] at hb1c hb1f hb1z); have lt1 : w.heap.size < w1.heap.size := (by omega))
    exact bodyPost_ret (v := .tuple #[.int .i64 0, .bool false]) (by simp [results, Try.results28, go_sem]) rfl ⟨rfl, by (with_reducible repeat' first | exact Below.refl _ _ | assumption | (refine Below.setCell ?_ (by first | omega | (simp; omega) | (simp; done) | (dsimp only; omega)) _) | (refine Below.alloc ?_ (by first | omega | (simp; omega) | (simp; done) | (dsimp only; omega)) _) | (refine below_drewN ?_ _) | (refine Below.drew ?_) | (refine Below.trans ?_ (hb1.mono (by first | omega | (simp; omega) | (simp; done) | (dsimp only; omega)))))⟩
  | true =>
    have HO := Lib.hid ho
    have HN := Lib.hid (show findM xs ys s = findFrom s xs 0 by rw [findM, if_pos ho])
    clear ho
    rw [HN.out]
    go_enter Try.func28, Try.ntmps28
    go_wp2_with (first
      | (go_at_call 20; (with_reducible refine (implIsFamily_any _ _ _ _ lo hi xs ys _ (h.same (by (with_reducible repeat' first | exact Same.refl _ _ _ | assumption | (refine Same.setCell ?_ (by first | omega | (simp; omega) | (simp; done) | (dsimp only; omega)) _) | (refine Same.alloc ?_ (by first | omega | (simp; omega) | (simp; done) | (dsimp only; omega)) _) | (refine Same.drewN ?_ _) | (refine Same.drew ?_)))) (h'.same (by (with_reducible repeat' first | exact Same.refl _ _ _ | assumption | (refine Same.setCell ?_ (by first | omega | (simp; omega) | (simp; done) | (dsimp only; omega)) _) | (refine Same.alloc ?_ (by first | omega | (simp; omega) | (simp; done) | (dsimp only; omega)) _) | (refine Same.drewN ?_ _) | (refine Same.drew ?_)))) (by first | omega | (simp; omega) | (simp; done) | (dsimp only; omega)) hdc hs).mono ?_); rintro e w1 ⟨rfl, hb1⟩; simp only [HO.out]; (obtain ⟨hb1c, hb1f⟩ := bcell hb1); (have hb1z := hb1.size); (try simp only [szs] at hb1c hb1f hb1z); have lt1 : w.heap.size < w1.heap.size := (by omega))
      | (go_at_call 68; (with_reducible refine (findPerson_any _ _ _ _ lo hi xs ys s _ (h.same (by (with_reducible repeat' first | exact Same.refl _ _ _ | assumption | (refine Same.setCell ?_ (by first | omega | (simp; omega) | (simp; done) | (dsimp only; omega)) _) | (refine Same.alloc ?_ (by first | omega | (simp; omega) | (simp; done) | (dsimp only; omega)) _) | (refine Same.drewN ?_ _) | (refine Same.drew ?_) | (refine Same.trans ?_ (Same.of_below hb1 (by first | omega | (simp; omega) | (simp; done) | (dsimp only; omega))))))) (h'.same (by (with_reducible repeat' first | exact Same.refl _ _ _ | assumption | (refine Same.setCell ?_ (by first | omega | (simp; omega) | (simp; done) | (dsimp only; omega)) _) | (refine Same.alloc ?_ (by first | omega | (simp; omega) | (simp; done) | (dsimp only; omega)) _) | (refine Same.drewN ?_ _) | (refine Same.drew ?_) | (refine Same.trans ?_ (Same.of_below hb1 (by first | omega | (simp; omega) | (simp; done) | (dsimp only; omega))))))) (by first | omega | (simp; omega) | (simp; done) | (dsimp only; omega))).mono ?_); rintro e w2 ⟨rfl, hb2⟩))
    exact bodyPost_ret (v := .tuple #[.int .i64 (findFrom s xs 0).1, .bool (findFrom s xs 0).2]) (by simp [results, Try.results28, go_sem]) rfl ⟨rfl, by (with_reducible repeat' first | exact Below.refl _ _ | assumption | (refine Below.setCell ?_ (by first | omega | (simp; omega) | (simp; done) | (dsimp only; omega)) _) | (refine Below.alloc ?_ (by first | omega | (simp; omega) | (simp; done) | (dsimp only; omega)) _) | (refine below_drewN ?_ _) | (refine Below.drew ?_) | (refine Below.trans ?_ (hb2.mono (by first | omega | (simp; omega) | (simp; done) | (dsimp only; omega)))) | (refine Below.trans ?_ (hb1.mono (by first | omega | (simp; omega) | (simp; done) | (dsimp only; omega)))))⟩
end Go.Proofs.Ytkdgjbbjbghdnaa
