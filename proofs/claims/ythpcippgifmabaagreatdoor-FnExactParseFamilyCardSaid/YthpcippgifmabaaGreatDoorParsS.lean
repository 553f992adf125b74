/-
  ParseFamily in the reference.
-/
import Derived.Test.YthpcippgifmabaaGreatDoorLineS
import Derived.Test.YthpcippgifmabaaGreatDoorFmtFamS
namespace Go.Proofs.YthpcippgifmabaaGreatDoor
set_option maxRecDepth 100000
open Go.RowKit

/-- What a line can add. -/
theorem line_grow {rd ro : ByteArray → Option Int} {f g : Family} {l : List UInt8} (h : lineM rd ro f (words l) = some g) : totP g.people ≤ totP f.people + l.length ∧ g.people.length + g.unions.length = f.people.length + f.unions.length + 1 := by
  have hsum := cutL_sum 32 l []
  have app : ∀ (xs : List Person) (x : Person), totP (xs ++ [x]) = totP xs + x.name.size := by
    intro xs x
    induction xs with
    | nil => simp [totP]
    | cons y r ih => simp only [List.cons_append, totP, ih]; omega
  unfold lineM at h
  split at h
  · split at h
    · unfold lineU at h
      split at h
      · split at h
        · injection h with h
          subst h
          exact ⟨by simp, by simp; omega⟩
        · cases h
      · cases h
    · cases h
  · rename_i g1 n a b y z hw
    split at h
    · unfold lineH at h
      split at h
      · split at h
        · injection h with h
          subst h
          refine ⟨?_, by simp; omega⟩
          rw [app]
          have h1 : (cut 32 l).map mkT = [g1, n, a, b, y, z] := hw
          have h2 := congrArg (fun q => (q.map ByteArray.size).sum) h1
          simp only [List.map_map, List.map_cons, List.map_nil, List.sum_cons, List.sum_nil] at h2
          have h3 : (cut 32 l).map (ByteArray.size ∘ mkT) = (cut 32 l).map List.length := by
            apply List.map_congr_left
            intro q _
            exact mkT_size q
          rw [h3] at h2
          have h4 : ((cut 32 l).map List.length).sum ≤ l.length := by simpa [cut] using hsum
          show totP f.people + n.size ≤ totP f.people + l.length
          omega
        · cases h
      · cases h
    · cases h
  · cases h
/-- The first lines. -/
theorem linesM_take {rd ro : ByteArray → Option Int} : ∀ {ls : List (List UInt8)} {f : Family} {k : Nat} {l : List UInt8}, ls[k]? = some l → linesM rd ro f (ls.take (k + 1)) = match linesM rd ro f (ls.take k) with
    | none => none
    | some g => lineM rd ro g (words l) := by
  intro ls
  induction ls with
  | nil => intro f k l h; simp at h
  | cons x r ih =>
    intro f k l h
    cases k with
    | zero =>
      simp only [List.getElem?_cons_zero, Option.some.injEq] at h
      subst h
      rw [List.take_succ_cons, List.take_zero, List.take_zero, linesM, linesM]
      show (match lineM rd ro f (words x) with | none => none | some g => linesM rd ro g []) = lineM rd ro f (words x)
      cases lineM rd ro f (words x) with
      | none => rfl
      | some g => rfl
    | succ k =>
      rw [List.getElem?_cons_succ] at h
      rw [List.take_succ_cons, List.take_succ_cons, linesM, linesM]
      cases lineM rd ro f (words x) with
      | none => rfl
      | some g => exact ih h
theorem linesM_stop {rd ro : ByteArray → Option Int} : ∀ {ls : List (List UInt8)} {f : Family} (k : Nat), linesM rd ro f (ls.take k) = none → linesM rd ro f ls = none := by
  intro ls
  induction ls with
  | nil => intro f k h; rw [List.take_nil] at h; exact h
  | cons x r ih =>
    intro f k h
    cases k with
    | zero => rw [List.take_zero, linesM] at h; cases h
    | succ k =>
      rw [List.take_succ_cons, linesM] at h
      rw [linesM]
      cases hx : lineM rd ro f (words x) with
      | none => rfl
      | some g => rw [hx] at h; exact ih k h
/-- How big the family is after k lines. -/
structure Sized (ls : List (List UInt8)) (k : Nat) (f : Family) : Prop where
  names : totP f.people ≤ ((ls.take k).map List.length).sum
  count : f.people.length + f.unions.length = k
theorem Sized.zero (ls : List (List UInt8)) : Sized ls 0 ⟨[], []⟩ := ⟨by simp [totP], rfl⟩
theorem Sized.next {rd ro : ByteArray → Option Int} {ls : List (List UInt8)} {k : Nat} {f g : Family} {l : List UInt8} (h : Sized ls k f) (hl : ls[k]? = some l) (hg : lineM rd ro f (words l) = some g) : Sized ls (k + 1) g := by
  obtain ⟨h1, h2⟩ := line_grow hg
  refine ⟨?_, by rw [h2, h.count]⟩
  rw [List.take_add_one, hl]
  simp only [List.map_append, List.sum_append]
  have := h.names
  have e : (((some l).toList).map List.length).sum = l.length := by simp
  rw [e]
  omega
theorem take_sum (ls : List (List UInt8)) (k : Nat) : ((ls.take k).map List.length).sum ≤ (ls.map List.length).sum := by
  have h := congrArg (fun q => (q.map List.length).sum) (List.take_append_drop k ls)
  simp only [List.map_append, List.sum_append] at h
  omega
theorem elem_sum {ls : List (List UInt8)} {k : Nat} {l : List UInt8} (h : ls[k]? = some l) : l.length ≤ (ls.map List.length).sum := by
  have h2 := take_sum ls (k + 1)
  rw [List.take_add_one, h] at h2
  simp only [List.map_append, List.sum_append] at h2
  have e : (((some l).toList).map List.length).sum = l.length := by simp
  rw [e] at h2
  omega
theorem cut_sum (c : UInt8) (s : ByteArray) : ((cut c s.data.toList).map List.length).sum ≤ s.size := by
  have := cutL_sum c s.data.toList []
  rw [len_bytes] at this
  simpa [cut] using this
theorem take_dropLast {α : Type} (l : List α) : l.take (l.length - 1) = l.dropLast := List.dropLast_eq_take.symm
theorem texts_eq {a b : ByteArray} (h : a = b) : (a.toList == b.toList) = true := by rw [h]; exact beq_self_eq_true _
theorem texts_beq {a b : ByteArray} (h : a = b) : (!(a.toList == b.toList)) = false := by rw [texts_eq h]; rfl
theorem texts_ne {a b : ByteArray} (h : a ≠ b) : (a.toList == b.toList) = false := by
  rw [beq_eq_false_iff_ne]
  intro e
  apply h
  rw [ByteArray.toList_eq, ByteArray.toList_eq] at e
  exact ByteArray.ext (Array.toList_inj.1 e)
theorem texts_bne {a b : ByteArray} (h : a ≠ b) : (!(a.toList == b.toList)) = true := by rw [texts_ne h]; rfl
/-- The lines read so far. -/
def LinesRel (rd ro : ByteArray → Option Int) (ls : List (List UInt8)) (gf : Nat) (w : World) (i : Value) (wr : World) : Prop :=
  ∃ (k : Nat) (f : Family) (A : Option Addr) (c : Nat) (B : Option Addr) (d : Nat), k < ls.length ∧ i = .int .i64 k ∧ linesM rd ro ⟨[], []⟩ (ls.take k) = some f ∧ Sized ls k f ∧ Blk wr gf 25 #[.slice A f.people.length c, .slice B f.unions.length d] ∧ FamOwn wr (gf + 1) f A c B d ∧ Below gf w wr
set_option maxHeartbeats 16000000 in
theorem specParseFamily_any (s : ByteArray) (w : World) (hs : s.size ≤ 1048576) : Calls Tryz.prog 4 #[.string s] w (RetFamB w (parseS s)) := by
  have hcut := fun W => l1Cut_any 10 10 rfl s W hs
  have hne := cut_ne 10 s.data.toList
  have hsum := cut_sum 10 s
  rw [pieces] at hcut
  rw [parseS]
  generalize cut 10 s.data.toList = ls at hcut hne hsum ⊢
  have hn0 := List.length_pos_iff.2 hne
  clear hne
  go_enter Tryz.func4, Tryz.ntmps4
  go_upto_region 2 with (go_at_call 9; (with_reducible refine (hcut _).mono ?_); rintro e w1 ⟨D, cd, rfl, od, hb1⟩)
  have hbw : Below w.heap.size w w1 := by (with_reducible repeat' first | exact Below.refl _ _ | assumption | (refine Below.setCell ?_ (by first | omega | (simp; omega) | (simp; done) | (dsimp only; omega)) _) | (refine Below.alloc ?_ (by first | omega | (simp; omega) | (simp; done) | (dsimp only; omega)) _) | (refine below_drewN ?_ _) | (refine Below.drew ?_) | (refine Below.trans ?_ (hb1.mono (by first | omega | (simp; omega) | (simp; done) | (dsimp only; omega)))))
  have RB : Blk w1 w.heap.size 25 #[.slice none 0 0, .slice none 0 0] := (Blk.new w rfl).below hb1 (by simp)
  have od1 : EString.AS w1 (w.heap.size + 1) w1.heap.size D (ls.map mkT) := by
    have := od.read.as
    simp only [szs] at this
    exact this
  have zw1 : w.heap.size + 1 ≤ w1.heap.size := by have := hb1.size; simp at this; omega
  clear hb1 od hcut
  by_cases h101 : 101 < ls.length
  · rw [if_pos h101]
    have i1 : (101 : Int) < (ls.length : Int) := by omega
    go_upto_region 3 with fail
    have RB2 := RB.alloc (.cells #[.slice none 0 0, .slice none 0 0] 25)
    have hb2 : Below w.heap.size w (w1.alloc (.cells #[.slice none 0 0, .slice none 0 0] 25)) := by (with_reducible repeat' first | exact Below.refl _ _ | assumption | (refine Below.setCell ?_ (by first | omega | (simp; omega) | (simp; done) | (dsimp only; omega)) _) | (refine Below.alloc ?_ (by first | omega | (simp; omega) | (simp; done) | (dsimp only; omega)) _) | (refine below_drewN ?_ _) | (refine Below.drew ?_) | (refine Below.trans ?_ (hbw.mono (by first | omega | (simp; omega) | (simp; done) | (dsimp only; omega)))))
    have FB : Blk (w1.alloc (.cells #[.slice none 0 0, .slice none 0 0] 25)) w1.heap.size 25 #[.slice none 0 0, .slice none 0 0] := Blk.new _ rfl
    generalize w1.alloc (.cells #[.slice none 0 0, .slice none 0 0] 25) = w2 at *
    have e0 := FB.cell (i := 0) rfl; have e1 := FB.cell (i := 1) rfl; have lF := FB.lt
    have s0 := RB2.free 0; have s1 := RB2.free 1; have r0 := RB2.cell (i := 0) rfl; have r1 := RB2.cell (i := 1) rfl; have lR := RB2.lt
    have RR := (RB2.set 0 (.slice none 0 0)).set 1 (.slice none 0 0)
    go_wp2
    exact bodyPost_ret (v := .tuple #[.agg #[.slice none 0 0, .slice none 0 0], .bool false]) (by simp [results, Tryz.results4, go_sem, RR.cell (i := 0) rfl, RR.cell (i := 1) rfl]) rfl (RetFamB.zero (by (with_reducible repeat' first | exact Below.refl _ _ | assumption | (refine Below.setCell ?_ (by first | omega | (simp; omega) | (simp; done) | (dsimp only; omega)) _) | (refine Below.alloc ?_ (by first | omega | (simp; omega) | (simp; done) | (dsimp only; omega)) _) | (refine below_drewN ?_ _) | (refine Below.drew ?_) | (refine Below.trans ?_ (hb2.mono (by first | omega | (simp; omega) | (simp; done) | (dsimp only; omega)))))))
  rw [if_neg h101]
  have i1 : ¬ (101 : Int) < (ls.length : Int) := by omega
  obtain ⟨R, hR⟩ : ∃ R, doneM s (linesM rdS rdS ⟨[], []⟩ ls.dropLast) = R := ⟨_, rfl⟩
  have HR := Lib.hid hR
  rw [hR]
  clear hR
  go_upto_region 5 with fail
  have RB2 := RB.alloc (.cells #[.slice none 0 0, .slice none 0 0] 25)
  have hb2 : Below w1.heap.size w1 (w1.alloc (.cells #[.slice none 0 0, .slice none 0 0] 25)) := by (with_reducible repeat' first | exact Below.refl _ _ | assumption | (refine Below.setCell ?_ (by first | omega | (simp; omega) | (simp; done) | (dsimp only; omega)) _) | (refine Below.alloc ?_ (by first | omega | (simp; omega) | (simp; done) | (dsimp only; omega)) _) | (refine below_drewN ?_ _) | (refine Below.drew ?_))
  have FB : Blk (w1.alloc (.cells #[.slice none 0 0, .slice none 0 0] 25)) w1.heap.size 25 #[.slice none 0 0, .slice none 0 0] := Blk.new _ rfl
  generalize w1.alloc (.cells #[.slice none 0 0, .slice none 0 0] 25) = w2 at *
  have hb02 : Below w.heap.size w w2 := hbw.trans (hb2.mono hbw.size)
  have od2 := od1.same (Same.of_below hb2 (Nat.le_refl _))
  have lF2 := FB.lt
  clear RB od1 hbw hb2
  go_wp2
  go_loopw [19] (fun i wr => LinesRel rdS rdS ls w1.heap.size w2 i wr) (fun i _ => ls.length - (intOf i).toNat)
  case atStart => exact ⟨0, ⟨[], []⟩, none, 0, none, 0, hn0, rfl, rfl, Sized.zero ls, FB, FamOwn.nil _ _ lF2, Below.refl _ _ |>.mono (Nat.le_of_lt lF2)⟩
  case round =>
    obtain ⟨k, f, A, c, B, d, hk, rfl, hf, hsz, FBr, Fr, hbr⟩ := hrel
    have zr := hbr.size
    have RBr := RB2.below hbr (by omega)
    have odr := od2.same (Same.of_below hbr (Nat.le_refl _))
    have lFr := FBr.lt
    have hcnt := hsz.count
    have htp : totP f.people ≤ 1048576 := Nat.le_trans hsz.names (Nat.le_trans (take_sum ls k) (Nat.le_trans hsum hs))
    have HF := Lib.hid hf
    have HS := Lib.hid hsz
    clear hf hsz FB
    have e0 := FBr.cell (i := 0) rfl; have e1 := FBr.cell (i := 1) rfl
    have hlt := hk
    have pa : EPerson.AS wr (w1.heap.size + 1) wr.heap.size A f.people := Fr.pp.read.as
    have ua : EUnion.AS wr (w1.heap.size + 1) wr.heap.size B f.unions := Fr.uu.read.as
    have i2 : (k : Int) < (ls.length : Int) := by omega
    obtain ⟨bb, off, x, rfl, g1, g2, _, hx, hc⟩ := AString.at_ odr (k := k) (by simpa using hlt)
    rw [List.getElem?_map] at hx
    obtain ⟨l, hl, rfl⟩ := Option.map_eq_some_iff.1 hx
    have hll := Nat.le_trans (elem_sum hl) (Nat.le_trans hsum hs)
    have HL := Lib.hid hl
    clear hx hl
    have lbb : bb < wr.heap.size := by omega
    by_cases hlast : k = ls.length - 1
    · have n1 : ((k : Int) == (ls.length : Int) - 1) = true := by simp; omega
      have HD := Lib.hid (show linesM rdS rdS ⟨[], []⟩ ls.dropLast = some f by rw [← take_dropLast, ← hlast]; exact HF.out)
      clear hlast
      cases hok : famOk f.people f.unions with
      | false =>
        have HO := Lib.hid hok
        have HR2 := Lib.hid (show R = (⟨[], []⟩, false) by rw [← HR.out, HD.out, doneM, hok, if_neg (by simp)])
        clear hok
        go_upto_region 15 with (go_at_call 11; (with_reducible refine (specIsFamily_any _ _ _ _ (w1.heap.size + 1) wr.heap.size f.people f.unions _ (pa.same (by (with_reducible repeat' first | exact Same.refl _ _ _ | assumption | (refine Same.setCell ?_ (by first | omega | (simp; omega) | (simp; done) | (dsimp only; omega)) _) | (refine Same.alloc ?_ (by first | omega | (simp; omega) | (simp; done) | (dsimp only; omega)) _) | (refine Same.drewN ?_ _) | (refine Same.drew ?_)))) (ua.same (by (with_reducible repeat' first | exact Same.refl _ _ _ | assumption | (refine Same.setCell ?_ (by first | omega | (simp; omega) | (simp; done) | (dsimp only; omega)) _) | (refine Same.alloc ?_ (by first | omega | (simp; omega) | (simp; done) | (dsimp only; omega)) _) | (refine Same.drewN ?_ _) | (refine Same.drew ?_)))) (by first | omega | (simp; omega) | (simp; done) | (dsimp only; omega)) htp).mono ?_); rintro e w3 ⟨rfl, hb3⟩; simp only [HO.out]; (obtain ⟨hb3c, hb3f⟩ := bcell hb3); (have hb3z := hb3.size); (try simp only [szs] at hb3c hb3f hb3z))
        have RB3 := RBr.below hb3 (by omega)
        have hb03 : Below w.heap.size w w3 := (hb02.trans (hbr.mono (by omega))).trans (hb3.mono (by omega))
        have s0 := RB3.free 0; have s1 := RB3.free 1; have r0 := RB3.cell (i := 0) rfl; have r1 := RB3.cell (i := 1) rfl; have lR := RB3.lt
        have RR := (RB3.set 0 (.slice none 0 0)).set 1 (.slice none 0 0)
        go_wp2
        first | rw [HR.out, HR2.out] | rw [HR2.out]
        exact bodyPost_ret (v := .tuple #[.agg #[.slice none 0 0, .slice none 0 0], .bool false]) (by simp [results, Tryz.results4, go_sem, RR.cell (i := 0) rfl, RR.cell (i := 1) rfl]) rfl (RetFamB.zero (by (with_reducible repeat' first | exact Below.refl _ _ | assumption | (refine Below.setCell ?_ (by first | omega | (simp; omega) | (simp; done) | (dsimp only; omega)) _) | (refine Below.alloc ?_ (by first | omega | (simp; omega) | (simp; done) | (dsimp only; omega)) _) | (refine below_drewN ?_ _) | (refine Below.drew ?_) | (refine Below.trans ?_ (hb03.mono (by first | omega | (simp; omega) | (simp; done) | (dsimp only; omega)))))))
      | true =>
        have HO := Lib.hid hok
        by_cases hft : familyT f.people f.unions = s
        · have n2 := texts_eq hft; have n3 := texts_beq hft
          have HR2 := Lib.hid (show R = (f, true) by rw [← HR.out, HD.out, doneM, if_pos ⟨hok, hft⟩])
          clear hok hft
          go_upto_region 16 with (first
            | (go_at_call 11; (with_reducible refine (specIsFamily_any _ _ _ _ (w1.heap.size + 1) wr.heap.size f.people f.unions _ (pa.same (by (with_reducible repeat' first | exact Same.refl _ _ _ | assumption | (refine Same.setCell ?_ (by first | omega | (simp; omega) | (simp; done) | (dsimp only; omega)) _) | (refine Same.alloc ?_ (by first | omega | (simp; omega) | (simp; done) | (dsimp only; omega)) _) | (refine Same.drewN ?_ _) | (refine Same.drew ?_)))) (ua.same (by (with_reducible repeat' first | exact Same.refl _ _ _ | assumption | (refine Same.setCell ?_ (by first | omega | (simp; omega) | (simp; done) | (dsimp only; omega)) _) | (refine Same.alloc ?_ (by first | omega | (simp; omega) | (simp; done) | (dsimp only; omega)) _) | (refine Same.drewN ?_ _) | (refine Same.drew ?_)))) (by first | omega | (simp; omega) | (simp; done) | (dsimp only; omega)) htp).mono ?_); rintro e w3 ⟨rfl, hb3⟩; simp only [HO.out]; (obtain ⟨hb3c, hb3f⟩ := bcell hb3); (have hb3z := hb3.size); (try simp only [szs] at hb3c hb3f hb3z))
            | (go_at_call 12; (with_reducible refine (specFormatFamily_any _ _ _ _ (w1.heap.size + 1) wr.heap.size f.people f.unions _ (pa.same (by (with_reducible repeat' first | exact Same.refl _ _ _ | assumption | (refine Same.setCell ?_ (by first | omega | (simp; omega) | (simp; done) | (dsimp only; omega)) _) | (refine Same.alloc ?_ (by first | omega | (simp; omega) | (simp; done) | (dsimp only; omega)) _) | (refine Same.drewN ?_ _) | (refine Same.drew ?_) | (refine Same.trans ?_ (Same.of_below hb3 (by first | omega | (simp; omega) | (simp; done) | (dsimp only; omega))))))) (ua.same (by (with_reducible repeat' first | exact Same.refl _ _ _ | assumption | (refine Same.setCell ?_ (by first | omega | (simp; omega) | (simp; done) | (dsimp only; omega)) _) | (refine Same.alloc ?_ (by first | omega | (simp; omega) | (simp; done) | (dsimp only; omega)) _) | (refine Same.drewN ?_ _) | (refine Same.drew ?_) | (refine Same.trans ?_ (Same.of_below hb3 (by first | omega | (simp; omega) | (simp; done) | (dsimp only; omega))))))) (by first | omega | (simp; omega) | (simp; done) | (dsimp only; omega)) htp).mono ?_); rintro e w4 ⟨rfl, hb4⟩; (obtain ⟨hb4c, hb4f⟩ := bcell hb4); (have hb4z := hb4.size); (try simp only [szs] at hb4c hb4f hb4z)))
          have hb34 : Below wr.heap.size wr w4 := hb3.trans (hb4.mono hb3.size)
          have RB4 := RBr.below hb34 (by omega)
          have FB4 := FBr.below hb34 lFr
          have F4 := Fr.below hb34
          have hb04 : Below w.heap.size w w4 := (hb02.trans (hbr.mono (by omega))).trans (hb34.mono (by omega))
          clear hb3 hb3c hb3f hb3z hb4 hb4c hb4f hb4z e0 e1
          have e0 := FB4.cell (i := 0) rfl; have e1 := FB4.cell (i := 1) rfl; have lF4 := FB4.lt
          have s0 := RB4.free 0; have s1 := RB4.free 1; have r0 := RB4.cell (i := 0) rfl; have r1 := RB4.cell (i := 1) rfl; have lR := RB4.lt
          have RR := (RB4.set 0 (.slice A f.people.length c)).set 1 (.slice B f.unions.length d)
          have F5 := (F4.off (i := 0) RB4 (by decide) (by decide) (.slice A f.people.length c)).off (i := 1) (RB4.set 0 (.slice A f.people.length c)) (by decide) (by decide) (.slice B f.unions.length d)
          have hb05 := (hb04.setCell (p := ⟨w.heap.size, 0, none⟩) (Nat.le_refl _) (.slice A f.people.length c)).setCell (p := ⟨w.heap.size, 1, none⟩) (Nat.le_refl _) (.slice B f.unions.length d)
          have z5 : w.heap.size ≤ w1.heap.size + 1 := by omega
          go_wp2
          first | rw [HR.out, HR2.out] | rw [HR2.out]
          exact bodyPost_ret (v := .tuple #[.agg #[.slice A f.people.length c, .slice B f.unions.length d], .bool true]) (by simp [results, Tryz.results4, go_sem, RR.cell (i := 0) rfl, RR.cell (i := 1) rfl]) rfl ⟨A, c, B, d, rfl, F5.pp.mono z5 (Nat.le_refl _), F5.uu.mono z5 (Nat.le_refl _), hb05⟩
        · have n2 := texts_ne hft; have n3 := texts_bne hft
          have HR2 := Lib.hid (show R = (⟨[], []⟩, false) by rw [← HR.out, HD.out, doneM, if_neg (fun q => hft q.2)])
          clear hok hft
          go_upto_region 15 with (first
            | (go_at_call 11; (with_reducible refine (specIsFamily_any _ _ _ _ (w1.heap.size + 1) wr.heap.size f.people f.unions _ (pa.same (by (with_reducible repeat' first | exact Same.refl _ _ _ | assumption | (refine Same.setCell ?_ (by first | omega | (simp; omega) | (simp; done) | (dsimp only; omega)) _) | (refine Same.alloc ?_ (by first | omega | (simp; omega) | (simp; done) | (dsimp only; omega)) _) | (refine Same.drewN ?_ _) | (refine Same.drew ?_)))) (ua.same (by (with_reducible repeat' first | exact Same.refl _ _ _ | assumption | (refine Same.setCell ?_ (by first | omega | (simp; omega) | (simp; done) | (dsimp only; omega)) _) | (refine Same.alloc ?_ (by first | omega | (simp; omega) | (simp; done) | (dsimp only; omega)) _) | (refine Same.drewN ?_ _) | (refine Same.drew ?_)))) (by first | omega | (simp; omega) | (simp; done) | (dsimp only; omega)) htp).mono ?_); rintro e w3 ⟨rfl, hb3⟩; simp only [HO.out]; (obtain ⟨hb3c, hb3f⟩ := bcell hb3); (have hb3z := hb3.size); (try simp only [szs] at hb3c hb3f hb3z))
            | (go_at_call 12; (with_reducible refine (specFormatFamily_any _ _ _ _ (w1.heap.size + 1) wr.heap.size f.people f.unions _ (pa.same (by (with_reducible repeat' first | exact Same.refl _ _ _ | assumption | (refine Same.setCell ?_ (by first | omega | (simp; omega) | (simp; done) | (dsimp only; omega)) _) | (refine Same.alloc ?_ (by first | omega | (simp; omega) | (simp; done) | (dsimp only; omega)) _) | (refine Same.drewN ?_ _) | (refine Same.drew ?_) | (refine Same.trans ?_ (Same.of_below hb3 (by first | omega | (simp; omega) | (simp; done) | (dsimp only; omega))))))) (ua.same (by (with_reducible repeat' first | exact Same.refl _ _ _ | assumption | (refine Same.setCell ?_ (by first | omega | (simp; omega) | (simp; done) | (dsimp only; omega)) _) | (refine Same.alloc ?_ (by first | omega | (simp; omega) | (simp; done) | (dsimp only; omega)) _) | (refine Same.drewN ?_ _) | (refine Same.drew ?_) | (refine Same.trans ?_ (Same.of_below hb3 (by first | omega | (simp; omega) | (simp; done) | (dsimp only; omega))))))) (by first | omega | (simp; omega) | (simp; done) | (dsimp only; omega)) htp).mono ?_); rintro e w4 ⟨rfl, hb4⟩; (obtain ⟨hb4c, hb4f⟩ := bcell hb4); (have hb4z := hb4.size); (try simp only [szs] at hb4c hb4f hb4z)))
          have hb34 : Below wr.heap.size wr w4 := hb3.trans (hb4.mono hb3.size)
          have RB4 := RBr.below hb34 (by omega)
          have hb04 : Below w.heap.size w w4 := (hb02.trans (hbr.mono (by omega))).trans (hb34.mono (by omega))
          have s0 := RB4.free 0; have s1 := RB4.free 1; have r0 := RB4.cell (i := 0) rfl; have r1 := RB4.cell (i := 1) rfl; have lR := RB4.lt
          have RR := (RB4.set 0 (.slice none 0 0)).set 1 (.slice none 0 0)
          go_wp2
          first | rw [HR.out, HR2.out] | rw [HR2.out]
          exact bodyPost_ret (v := .tuple #[.agg #[.slice none 0 0, .slice none 0 0], .bool false]) (by simp [results, Tryz.results4, go_sem, RR.cell (i := 0) rfl, RR.cell (i := 1) rfl]) rfl (RetFamB.zero (by (with_reducible repeat' first | exact Below.refl _ _ | assumption | (refine Below.setCell ?_ (by first | omega | (simp; omega) | (simp; done) | (dsimp only; omega)) _) | (refine Below.alloc ?_ (by first | omega | (simp; omega) | (simp; done) | (dsimp only; omega)) _) | (refine below_drewN ?_ _) | (refine Below.drew ?_) | (refine Below.trans ?_ (hb04.mono (by first | omega | (simp; omega) | (simp; done) | (dsimp only; omega)))))))
    · have n1 : ((k : Int) == (ls.length : Int) - 1) = false := by simp; omega
      have hlt' : k + 1 < ls.length := by omega
      clear hlast
      have hline := l1Line_any f A c B d (w1.heap.size + 1) (mkT l) wr Fr (by omega) (by omega) (by rw [mkT_size]; exact hll)
      rw [show pieces 32 (mkT l) = words l from rfl] at hline
      cases hlm : lineM rdS rdS f (words l) with
      | none =>
        rw [hlm] at hline
        have HN := Lib.hid (linesM_stop (rd := rdS) (ro := rdS) (f := ⟨[], []⟩) (ls := ls.dropLast) (k + 1) (by
          rw [List.dropLast_eq_take, List.take_take, Nat.min_eq_left (by omega), linesM_take HL.out, HF.out]
          exact hlm))
        have HR2 := Lib.hid (show R = (⟨[], []⟩, false) by rw [← HR.out, HN.out, doneM])
        clear hlm
        go_upto_region 11 with (go_at_call 10; (with_reducible refine hline.mono ?_); rintro e w3 ⟨X, n, cx, Y, m, dy, rfl, hb3⟩)
        have lo3 : w1.heap.size + 1 ≤ w3.heap.size := by have := hb3.size; have := Fr.le; omega
        have RB3 := RBr.below hb3 (by omega)
        have hb03 : Below w.heap.size w w3 := (hb02.trans (hbr.mono (by omega))).trans (hb3.mono (by omega))
        have RB4 := RB3.alloc (.cells #[.slice X n cx, .slice Y m dy] 25)
        have hb04 : Below w.heap.size w (w3.alloc (.cells #[.slice X n cx, .slice Y m dy] 25)) := by (with_reducible repeat' first | exact Below.refl _ _ | assumption | (refine Below.setCell ?_ (by first | omega | (simp; omega) | (simp; done) | (dsimp only; omega)) _) | (refine Below.alloc ?_ (by first | omega | (simp; omega) | (simp; done) | (dsimp only; omega)) _) | (refine below_drewN ?_ _) | (refine Below.drew ?_) | (refine Below.trans ?_ (hb03.mono (by first | omega | (simp; omega) | (simp; done) | (dsimp only; omega)))))
        generalize w3.alloc (.cells #[.slice X n cx, .slice Y m dy] 25) = w4 at *
        have s0 := RB4.free 0; have s1 := RB4.free 1; have r0 := RB4.cell (i := 0) rfl; have r1 := RB4.cell (i := 1) rfl; have lR := RB4.lt
        have RR := (RB4.set 0 (.slice none 0 0)).set 1 (.slice none 0 0)
        go_wp2
        first | rw [HR.out, HR2.out] | rw [HR2.out]
        exact bodyPost_ret (v := .tuple #[.agg #[.slice none 0 0, .slice none 0 0], .bool false]) (by simp [results, Tryz.results4, go_sem, RR.cell (i := 0) rfl, RR.cell (i := 1) rfl]) rfl (RetFamB.zero (by (with_reducible repeat' first | exact Below.refl _ _ | assumption | (refine Below.setCell ?_ (by first | omega | (simp; omega) | (simp; done) | (dsimp only; omega)) _) | (refine Below.alloc ?_ (by first | omega | (simp; omega) | (simp; done) | (dsimp only; omega)) _) | (refine below_drewN ?_ _) | (refine Below.drew ?_) | (refine Below.trans ?_ (hb04.mono (by first | omega | (simp; omega) | (simp; done) | (dsimp only; omega)))))))
      | some g =>
        rw [hlm] at hline
        have HNx := Lib.hid (show linesM rdS rdS ⟨[], []⟩ (ls.take (k + 1)) = some g by rw [linesM_take HL.out, HF.out]; exact hlm)
        have HSx := Lib.hid (HS.out.next HL.out hlm)
        clear hlm
        go_upto_region 10 with (go_at_call 10; (with_reducible refine hline.mono ?_); rintro e w3 ⟨A2, c2, B2, d2, rfl, F3, hb3⟩)
        have lo3 : w1.heap.size + 1 ≤ w3.heap.size := F3.le
        have FB3 := FBr.below hb3 (Nat.lt_succ_self _)
        have hb13 : Below w1.heap.size w2 w3 := hbr.trans (hb3.mono (Nat.le_succ _))
        have FB4 := FB3.alloc (.cells #[.slice A2 g.people.length c2, .slice B2 g.unions.length d2] 25)
        have hb34 : Below w3.heap.size w3 (w3.alloc (.cells #[.slice A2 g.people.length c2, .slice B2 g.unions.length d2] 25)) := by (with_reducible repeat' first | exact Below.refl _ _ | assumption | (refine Below.setCell ?_ (by first | omega | (simp; omega) | (simp; done) | (dsimp only; omega)) _) | (refine Below.alloc ?_ (by first | omega | (simp; omega) | (simp; done) | (dsimp only; omega)) _) | (refine below_drewN ?_ _) | (refine Below.drew ?_))
        have TB : Blk (w3.alloc (.cells #[.slice A2 g.people.length c2, .slice B2 g.unions.length d2] 25)) w3.heap.size 25 #[.slice A2 g.people.length c2, .slice B2 g.unions.length d2] := Blk.new _ rfl
        generalize w3.alloc (.cells #[.slice A2 g.people.length c2, .slice B2 g.unions.length d2] 25) = w4 at *
        have F4 := F3.below hb34
        have hb14 : Below w1.heap.size w2 w4 := hb13.trans (hb34.mono (by omega))
        clear e0 e1
        have e0 := TB.cell (i := 0) rfl; have e1 := TB.cell (i := 1) rfl; have lT := TB.lt
        have s0 := FB4.free 0; have s1 := FB4.free 1; have r0 := FB4.cell (i := 0) rfl; have r1 := FB4.cell (i := 1) rfl; have lF4 := FB4.lt
        have FB6 := (FB4.set 0 (.slice A2 g.people.length c2)).set 1 (.slice B2 g.unions.length d2)
        have F6 := (F4.off (i := 0) FB4 (by decide) (by decide) (.slice A2 g.people.length c2)).off (i := 1) (FB4.set 0 (.slice A2 g.people.length c2)) (by decide) (by decide) (.slice B2 g.unions.length d2)
        have hb16 := (hb14.setCell (p := ⟨w1.heap.size, 0, none⟩) (Nat.le_refl _) (.slice A2 g.people.length c2)).setCell (p := ⟨w1.heap.size, 1, none⟩) (Nat.le_refl _) (.slice B2 g.unions.length d2)
        go_wp2
        exact ⟨⟨k + 1, g, A2, c2, B2, d2, hlt', by go_num, HNx.out, HSx.out, FB6, F6, hb16⟩, by simp [intOf]; omega⟩
end Go.Proofs.YthpcippgifmabaaGreatDoor
