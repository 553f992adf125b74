/-
  ParseFamily in the program.
-/
import Derived.Test.YthpcippgifmabaaGreatDoorParsS
import Derived.Test.YthpcippgifmabaaGreatDoorLineI
import Derived.Test.YthpcippgifmabaaGreatDoorFmtFamI
namespace Go.Proofs.YthpcippgifmabaaGreatDoor
set_option maxRecDepth 100000
open Go.RowKit

theorem suffix_one (l : List UInt8) (c : UInt8) : Lib.hasSuffix l [c] = decide (l.getLast? = some c) := by
  unfold Lib.hasSuffix
  rw [Bool.eq_iff_iff, decide_eq_true_eq, List.isSuffixOf_iff_suffix]
  constructor
  · rintro ⟨t, rfl⟩; simp
  · intro h
    obtain ⟨t, ht⟩ := List.getLast?_eq_some_iff.1 h
    exact ⟨t, ht.symm⟩
theorem text_nil {s : ByteArray} (h : s.data.toList = []) : (s.toList == []) = true := by rw [ByteArray.toList_eq, h]; rfl
theorem text_cons {s : ByteArray} (h : s.data.toList ≠ []) : (s.toList == []) = false := by
  rw [ByteArray.toList_eq, beq_eq_false_iff_ne]; exact h
theorem textLines_nil (s : ByteArray) (w : World) (h : s.data.toList = []) : Calls Tryz.prog 13 #[.string s] w fun e w' => e = .returned (.tuple #[.slice none 0 0, .bool true]) ∧ Below w.heap.size w w' := by
  have n0 := text_nil h
  clear h
  go_enter Tryz.func13, Tryz.ntmps13
  go_wp2
  exact bodyPost_ret (v := .tuple #[.slice none 0 0, .bool true]) (by simp [results, Tryz.results13, go_sem]) rfl ⟨rfl, by (with_reducible repeat' first | exact Below.refl _ _ | assumption | (refine Below.setCell ?_ (by first | omega | (simp; omega) | (simp; done) | (dsimp only; omega)) _) | (refine Below.alloc ?_ (by first | omega | (simp; omega) | (simp; done) | (dsimp only; omega)) _) | (refine below_drewN ?_ _) | (refine Below.drew ?_))⟩
theorem textLines_bad (s : ByteArray) (w : World) (hs : s.size ≤ 1048576) (h : s.data.toList ≠ []) (h1 : s.data.toList.getLast? ≠ some 10) : Calls Tryz.prog 13 #[.string s] w fun e w' => e = .returned (.tuple #[.slice none 0 0, .bool false]) ∧ Below w.heap.size w w' := by
  have n0 := text_cons h
  have hk := fun W => hasSuffix_any s ⟨#[10]⟩ W hs
  have n1 : Lib.hasSuffix s.data.toList [10] = false := by rw [suffix_one]; exact decide_eq_false h1
  rw [show (⟨#[10]⟩ : ByteArray).data.toList = [10] from rfl, n1] at hk
  clear h h1 n1
  go_enter Tryz.func13, Tryz.ntmps13
  go_wp2_with (go_at_call 32; (with_reducible refine (hk _).mono ?_); rintro e w1 ⟨rfl, rfl⟩)
  exact bodyPost_ret (v := .tuple #[.slice none 0 0, .bool false]) (by simp [results, Tryz.results13, go_sem]) rfl ⟨rfl, by (with_reducible repeat' first | exact Below.refl _ _ | assumption | (refine Below.setCell ?_ (by first | omega | (simp; omega) | (simp; done) | (dsimp only; omega)) _) | (refine Below.alloc ?_ (by first | omega | (simp; omega) | (simp; done) | (dsimp only; omega)) _) | (refine below_drewN ?_ _) | (refine Below.drew ?_))⟩
theorem textLines_ok (s : ByteArray) (w : World) (hs : s.size ≤ 1048576) (hv : Vars w) (h : s.data.toList ≠ []) (h1 : s.data.toList.getLast? = some 10) : Calls Tryz.prog 13 #[.string s] w fun e w' => e = .returned (.tuple #[.slice (some ⟨w.heap.size, 0, none⟩) (cut 10 s.data.toList.dropLast).length (cut 10 s.data.toList.dropLast).length, .bool true]) ∧ WordsAt w' w.heap.size 0 ((cut 10 s.data.toList.dropLast).map mkT) ∧ Below w.heap.size w w' ∧ w.heap.size < w'.heap.size := by
  have n0 := text_cons h
  have hk := fun W => hasSuffix_any s ⟨#[10]⟩ W hs
  have n1 : Lib.hasSuffix s.data.toList [10] = true := by rw [suffix_one]; exact decide_eq_true h1
  rw [show (⟨#[10]⟩ : ByteArray).data.toList = [10] from rfl, n1] at hk
  have hsz : 0 < s.size := by
    have := List.length_pos_iff.2 h
    rwa [len_bytes] at this
  have i1 : (1 : Int) ≤ (s.size : Int) := by omega
  have i2 : ((s.size : Int) - 1).toNat = s.size - 1 := by omega
  have hsp := fun W hw => split_any 10 (s.extract 0 (s.size - 1)) W (by rw [ByteArray.size_extract]; omega) hw
  have hp : pieces 10 (s.extract 0 (s.size - 1)) = (cut 10 s.data.toList.dropLast).map mkT := by
    rw [pieces, show (s.extract 0 (s.size - 1)).data.toList = s.data.toList.dropLast from ?_]
    have := bl_extract s 0 (s.size - 1)
    unfold bl at this
    rw [this, List.drop_zero, Nat.sub_zero, List.dropLast_eq_take, len_bytes]
  rw [hp, List.length_map] at hsp
  have HV := Lib.hid hv
  clear h h1 n1 hp hv
  go_enter Tryz.func13, Tryz.ntmps13
  go_wp2_with (first
    | (go_at_call 32; (with_reducible refine (hk _).mono ?_); rintro e w1 ⟨rfl, rfl⟩)
    | (go_at_call 33; (with_reducible refine (hsp _ HV.out).mono ?_); rintro e w1 ⟨rfl, hW, hb, hl⟩))
  exact bodyPost_ret (v := .tuple #[.slice (some ⟨w.heap.size, 0, none⟩) (cut 10 s.data.toList.dropLast).length (cut 10 s.data.toList.dropLast).length, .bool true]) (by simp [results, Tryz.results13, go_sem]) rfl ⟨rfl, hW, hb, hl⟩
/-- The lines of a text, where it has lines. -/
def linesP (s : ByteArray) : Option (List (List UInt8)) := if s.data.toList = [] then some [] else if s.data.toList.getLast? ≠ some 10 then none else some (cut 10 s.data.toList.dropLast)
theorem parseP_none {s : ByteArray} (h : linesP s = none) : parseP s = (⟨[], []⟩, false) := by
  unfold linesP at h
  rw [parseP]
  split at h
  · cases h
  · rename_i h0
    rw [if_neg h0]
    split at h
    · rename_i h1; rw [if_pos h1]
    · cases h
theorem parseP_some {s : ByteArray} {ls : List (List UInt8)} (h : linesP s = some ls) : parseP s = if 100 < ls.length then (⟨[], []⟩, false) else doneM s (linesM readP openP ⟨[], []⟩ ls) := by
  unfold linesP at h
  rw [parseP]
  split at h
  · rename_i h0
    injection h with h
    subst h
    rw [if_pos h0, if_neg (by simp)]; rfl
  · rename_i h0
    rw [if_neg h0]
    split at h
    · cases h
    · rename_i h1
      injection h with h
      subst h
      rw [if_neg h1]
theorem linesP_sum {s : ByteArray} {ls : List (List UInt8)} (h : linesP s = some ls) : (ls.map List.length).sum ≤ s.size := by
  unfold linesP at h
  split at h
  · injection h with h
    subst h
    simp
  · split at h
    · cases h
    · injection h with h
      subst h
      have h1 := cutL_sum 10 s.data.toList.dropLast []
      have h2 : ((cut 10 s.data.toList.dropLast).map List.length).sum ≤ s.data.toList.dropLast.length := by simpa [cut] using h1
      rw [List.length_dropLast, len_bytes] at h2
      omega
/-- The lines lie in a slice. -/
def LinesAt (w : World) (lo hi : Nat) (A : Option Addr) (ls : List (List UInt8)) : Prop := ∀ k l, ls[k]? = some l → ∃ b off, A = some ⟨b, off, none⟩ ∧ lo ≤ b ∧ b < hi ∧ w.cell? ⟨b, off + k, none⟩ = some (.string (mkT l))
theorem LinesAt.below {w w' : World} {lo hi B : Nat} {A : Option Addr} {ls : List (List UInt8)} (h : LinesAt w lo hi A ls) (k : Below B w w') (hh : hi ≤ B) : LinesAt w' lo hi A ls := fun i l hl => by
  obtain ⟨b, off, h1, h2, h3, h4⟩ := h i l hl
  exact ⟨b, off, h1, h2, h3, (k.cell (p := ⟨b, off + i, none⟩) (by show b < B; omega)).trans h4⟩
theorem textLines_none (s : ByteArray) (w : World) (hs : s.size ≤ 1048576) (h : linesP s = none) : Calls Tryz.prog 13 #[.string s] w fun e w' => e = .returned (.tuple #[.slice none 0 0, .bool false]) ∧ Below w.heap.size w w' := by
  unfold linesP at h
  split at h
  · cases h
  · rename_i h0
    split at h
    · rename_i h1; exact textLines_bad s w hs h0 h1
    · cases h
theorem textLines_some (s : ByteArray) (w : World) (hs : s.size ≤ 1048576) (hv : Vars w) (ls : List (List UInt8)) (h : linesP s = some ls) : Calls Tryz.prog 13 #[.string s] w fun e w' => ∃ A c, e = .returned (.tuple #[.slice A ls.length c, .bool true]) ∧ LinesAt w' w.heap.size w'.heap.size A ls ∧ Below w.heap.size w w' := by
  unfold linesP at h
  split at h
  · rename_i h0
    injection h with h
    subst h
    refine (textLines_nil s w h0).mono ?_
    rintro e w' ⟨rfl, hb⟩
    exact ⟨none, 0, rfl, fun k l hl => by simp at hl, hb⟩
  · rename_i h0
    split at h
    · cases h
    · rename_i h1
      injection h with h
      subst h
      refine (textLines_ok s w hs hv h0 (by simpa using h1)).mono ?_
      rintro e w' ⟨rfl, hW, hb, hl⟩
      refine ⟨_, _, rfl, fun k l hk => ⟨w.heap.size, 0, rfl, Nat.le_refl _, hl, hW k (mkT l) ?_⟩, hb⟩
      rw [List.getElem?_map, hk]; rfl
theorem own_cap {α : Type} {E : Elem α} {w : World} {lo hi n c : Nat} {A : Option Addr} {xs : List α} (h : E.OS w lo hi (.slice A n c) xs) : n ≤ c ∧ c ≤ maxLen := by
  obtain ⟨A', c', he, h1, h2, _⟩ := h.read
  injection he with e1 e2 e3
  subst e1; subst e3
  exact ⟨by omega, h2⟩
/-- The lines read so far. -/
def LinesRelI (ls : List (List UInt8)) (gf : Nat) (w : World) (i : Value) (wr : World) : Prop :=
  ∃ (k : Nat) (f : Family) (A : Option Addr) (c : Nat) (B : Option Addr) (d : Nat), k ≤ ls.length ∧ i = .int .i64 k ∧ linesM readP openP ⟨[], []⟩ (ls.take k) = some f ∧ Sized ls k f ∧ Blk wr gf 25 #[.slice A f.people.length c, .slice B f.unions.length d] ∧ FamOwn wr (gf + 1) f A c B d ∧ Below gf w wr
set_option maxHeartbeats 16000000 in
theorem implParseFamily_any (s : ByteArray) (w : World) (hs : s.size ≤ 1048576) (hv : Vars w) : Calls Tryz.prog 5 #[.string s] w (RetFamB w (parseS s)) := by
  rw [← parse_same]
  have HV := Lib.hid hv
  cases hlp : linesP s with
  | none =>
    rw [parseP_none hlp]
    have hT := fun W => textLines_none s W hs hlp
    clear hlp hv
    go_enter Tryz.func5, Tryz.ntmps5
    go_upto_region 3 with (go_at_call 13; (with_reducible refine (hT _).mono ?_); rintro e w1 ⟨rfl, hb1⟩)
    have RB : Blk w1 w.heap.size 25 #[.slice none 0 0, .slice none 0 0] := (Blk.new w rfl).below hb1 (by simp)
    have hbw : Below w.heap.size w w1 := by (with_reducible repeat' first | exact Below.refl _ _ | assumption | (refine Below.setCell ?_ (by first | omega | (simp; omega) | (simp; done) | (dsimp only; omega)) _) | (refine Below.alloc ?_ (by first | omega | (simp; omega) | (simp; done) | (dsimp only; omega)) _) | (refine below_drewN ?_ _) | (refine Below.drew ?_) | (refine Below.trans ?_ (hb1.mono (by first | omega | (simp; omega) | (simp; done) | (dsimp only; omega)))))
    have s0 := RB.free 0; have s1 := RB.free 1; have r0 := RB.cell (i := 0) rfl; have r1 := RB.cell (i := 1) rfl; have lR := RB.lt
    have RR := (RB.set 0 (.slice none 0 0)).set 1 (.slice none 0 0)
    go_wp2
    exact bodyPost_ret (v := .tuple #[.agg #[.slice none 0 0, .slice none 0 0], .bool false]) (by simp [results, Tryz.results5, go_sem, RR.cell (i := 0) rfl, RR.cell (i := 1) rfl]) rfl (RetFamB.zero (by (with_reducible repeat' first | exact Below.refl _ _ | assumption | (refine Below.setCell ?_ (by first | omega | (simp; omega) | (simp; done) | (dsimp only; omega)) _) | (refine Below.alloc ?_ (by first | omega | (simp; omega) | (simp; done) | (dsimp only; omega)) _) | (refine below_drewN ?_ _) | (refine Below.drew ?_) | (refine Below.trans ?_ (hbw.mono (by first | omega | (simp; omega) | (simp; done) | (dsimp only; omega)))))))
  | some ls =>
    rw [parseP_some hlp]
    have hsum := linesP_sum hlp
    have hT := fun W hw => textLines_some s W hs hw ls hlp
    clear hlp hv
    go_enter Tryz.func5, Tryz.ntmps5
    go_upto_region 2 with (go_at_call 13; (with_reducible refine (hT _ (HV.out.below (by (with_reducible repeat' first | exact Below.refl _ _ | assumption | (refine Below.setCell ?_ (by first | omega | (simp; omega) | (simp; done) | (dsimp only; omega)) _) | (refine Below.alloc ?_ (by first | omega | (simp; omega) | (simp; done) | (dsimp only; omega)) _) | (refine below_drewN ?_ _) | (refine Below.drew ?_))))).mono ?_); rintro e w1 ⟨D, cd, rfl, od1, hb1⟩)
    have RB : Blk w1 w.heap.size 25 #[.slice none 0 0, .slice none 0 0] := (Blk.new w rfl).below hb1 (by simp)
    have hbw : Below w.heap.size w w1 := by (with_reducible repeat' first | exact Below.refl _ _ | assumption | (refine Below.setCell ?_ (by first | omega | (simp; omega) | (simp; done) | (dsimp only; omega)) _) | (refine Below.alloc ?_ (by first | omega | (simp; omega) | (simp; done) | (dsimp only; omega)) _) | (refine below_drewN ?_ _) | (refine Below.drew ?_) | (refine Below.trans ?_ (hb1.mono (by first | omega | (simp; omega) | (simp; done) | (dsimp only; omega)))))
    have zw1 : w.heap.size + 1 ≤ w1.heap.size := by have := hb1.size; simp at this; omega
    clear hb1 hT
    by_cases h101 : 100 < ls.length
    · have i1 : (100 : Int) < (ls.length : Int) := by omega
      go_upto_region 3 with fail
      have s0 := RB.free 0; have s1 := RB.free 1; have r0 := RB.cell (i := 0) rfl; have r1 := RB.cell (i := 1) rfl; have lR := RB.lt
      have RR := (RB.set 0 (.slice none 0 0)).set 1 (.slice none 0 0)
      go_wp2
      first | rw [if_pos h101] | skip
      exact bodyPost_ret (v := .tuple #[.agg #[.slice none 0 0, .slice none 0 0], .bool false]) (by simp [results, Tryz.results5, go_sem, RR.cell (i := 0) rfl, RR.cell (i := 1) rfl]) rfl (RetFamB.zero (by (with_reducible repeat' first | exact Below.refl _ _ | assumption | (refine Below.setCell ?_ (by first | omega | (simp; omega) | (simp; done) | (dsimp only; omega)) _) | (refine Below.alloc ?_ (by first | omega | (simp; omega) | (simp; done) | (dsimp only; omega)) _) | (refine below_drewN ?_ _) | (refine Below.drew ?_) | (refine Below.trans ?_ (hbw.mono (by first | omega | (simp; omega) | (simp; done) | (dsimp only; omega)))))))
    have i1 : ¬ (100 : Int) < (ls.length : Int) := by omega
    obtain ⟨R, hR⟩ : ∃ R, (if 100 < ls.length then (⟨[], []⟩, false) else doneM s (linesM readP openP ⟨[], []⟩ ls)) = R := ⟨_, rfl⟩
    have HR0 := Lib.hid hR
    have HR := Lib.hid ((if_neg h101).symm.trans hR)
    clear hR
    go_upto_region 5 with fail
    have RB2 := RB.alloc (.cells #[.slice none 0 0, .slice none 0 0] 25)
    have hb2 : Below w1.heap.size w1 (w1.alloc (.cells #[.slice none 0 0, .slice none 0 0] 25)) := by (with_reducible repeat' first | exact Below.refl _ _ | assumption | (refine Below.setCell ?_ (by first | omega | (simp; omega) | (simp; done) | (dsimp only; omega)) _) | (refine Below.alloc ?_ (by first | omega | (simp; omega) | (simp; done) | (dsimp only; omega)) _) | (refine below_drewN ?_ _) | (refine Below.drew ?_))
    have FB : Blk (w1.alloc (.cells #[.slice none 0 0, .slice none 0 0] 25)) w1.heap.size 25 #[.slice none 0 0, .slice none 0 0] := Blk.new _ rfl
    generalize w1.alloc (.cells #[.slice none 0 0, .slice none 0 0] 25) = w2 at *
    have hb02 : Below w.heap.size w w2 := hbw.trans (hb2.mono hbw.size)
    have od2 := od1.below hb2 (by simp)
    have lF2 := FB.lt
    clear RB od1 hbw hb2
    go_wp2
    go_loopw [24] (fun i wr => LinesRelI ls w1.heap.size w2 i wr) (fun i _ => ls.length - (intOf i).toNat)
    case atStart => exact ⟨0, ⟨[], []⟩, none, 0, none, 0, Nat.zero_le _, rfl, rfl, Sized.zero ls, FB, FamOwn.nil _ _ lF2, Below.refl _ _ |>.mono (Nat.le_of_lt lF2)⟩
    case round =>
      obtain ⟨k, f, A, c, B, d, hk, rfl, hf, hsz, FBr, Fr, hbr⟩ := hrel
      have zr := hbr.size
      have RBr := RB2.below hbr (by omega)
      have odr := od2.below hbr (Nat.le_refl _)
      have lFr := FBr.lt
      have hcnt := hsz.count
      have hcap := own_cap Fr.uu
      have htp : totP f.people ≤ 1048576 := Nat.le_trans hsz.names (Nat.le_trans (take_sum ls k) (Nat.le_trans hsum hs))
      have HF := Lib.hid hf
      have HS := Lib.hid hsz
      have hvr : Vars wr := HV.out.below (hb02.trans (hbr.mono (by omega)))
      have HVr := Lib.hid hvr
      clear hf hsz FB hvr
      have e0 := FBr.cell (i := 0) rfl; have e1 := FBr.cell (i := 1) rfl
      have pa : EPerson.AS wr (w1.heap.size + 1) wr.heap.size A f.people := Fr.pp.read.as
      have ua : EUnion.AS wr (w1.heap.size + 1) wr.heap.size B f.unions := Fr.uu.read.as
      by_cases hlt : k < ls.length
      · have i2 : (k : Int) < (ls.length : Int) := by omega
        obtain ⟨l, hl⟩ : ∃ l, ls[k]? = some l := ⟨_, List.getElem?_eq_getElem hlt⟩
        obtain ⟨bb, off, rfl, g1, g2, hc⟩ := odr k l hl
        have hll := Nat.le_trans (elem_sum hl) (Nat.le_trans hsum hs)
        have HL := Lib.hid hl
        clear hl
        have lbb : bb < wr.heap.size := by omega
        have hline := fun hv => readFamilyLine_any w1.heap.size f A c B d (w1.heap.size + 1) (mkT l) wr FBr (Nat.lt_succ_self _) Fr (by omega) (by omega) (by rw [mkT_size]; exact hll) hv
        rw [show pieces 32 (mkT l) = words l from rfl] at hline
        cases hlm : lineM readP openP f (words l) with
        | none =>
          rw [hlm] at hline
          have HN := Lib.hid (linesM_stop (rd := readP) (ro := openP) (f := ⟨[], []⟩) (ls := ls) (k + 1) (by
            rw [linesM_take HL.out, HF.out]
            exact hlm))
          have HR2 := Lib.hid (show R = (⟨[], []⟩, false) by rw [← HR.out, HN.out, doneM])
          clear hlm
          go_upto_region 9 with (go_at_call 14; (with_reducible refine (hline HVr.out).mono ?_); rintro e w3 ⟨rfl, hb3⟩)
          have RB3 := RBr.below hb3 (by omega)
          have hb03 : Below w.heap.size w w3 := (hb02.trans (hbr.mono (by omega))).trans (hb3.mono (by omega))
          have s0 := RB3.free 0; have s1 := RB3.free 1; have r0 := RB3.cell (i := 0) rfl; have r1 := RB3.cell (i := 1) rfl; have lR := RB3.lt
          have RR := (RB3.set 0 (.slice none 0 0)).set 1 (.slice none 0 0)
          go_wp2
          first | rw [HR0.out, HR2.out] | rw [HR.out, HR2.out] | rw [HR2.out]
          exact bodyPost_ret (v := .tuple #[.agg #[.slice none 0 0, .slice none 0 0], .bool false]) (by simp [results, Tryz.results5, go_sem, RR.cell (i := 0) rfl, RR.cell (i := 1) rfl]) rfl (RetFamB.zero (by (with_reducible repeat' first | exact Below.refl _ _ | assumption | (refine Below.setCell ?_ (by first | omega | (simp; omega) | (simp; done) | (dsimp only; omega)) _) | (refine Below.alloc ?_ (by first | omega | (simp; omega) | (simp; done) | (dsimp only; omega)) _) | (refine below_drewN ?_ _) | (refine Below.drew ?_) | (refine Below.trans ?_ (hb03.mono (by first | omega | (simp; omega) | (simp; done) | (dsimp only; omega)))))))
        | some g =>
          rw [hlm] at hline
          have HNx := Lib.hid (show linesM readP openP ⟨[], []⟩ (ls.take (k + 1)) = some g by rw [linesM_take HL.out, HF.out]; exact hlm)
          have HSx := Lib.hid (HS.out.next HL.out hlm)
          clear hlm
          go_wp2_with (go_at_call 14; (with_reducible refine (hline HVr.out).mono ?_); rintro e w3 ⟨A2, c2, B2, d2, rfl, FB3, F3, hb3⟩)
          exact ⟨⟨k + 1, g, A2, c2, B2, d2, hlt, by go_num, HNx.out, HSx.out, FB3, F3, hbr.trans hb3⟩, by simp [intOf]; omega⟩
      · obtain rfl : k = ls.length := by omega
        clear hk
        have i2 : ¬ (ls.length : Int) < (ls.length : Int) := by omega
        have HD := Lib.hid (show linesM readP openP ⟨[], []⟩ ls = some f by have := HF.out; rwa [List.take_length] at this)
        cases hok : famOk f.people f.unions with
        | false =>
          have HO := Lib.hid hok
          have HR2 := Lib.hid (show R = (⟨[], []⟩, false) by rw [← HR.out, HD.out, doneM, hok, if_neg (by simp)])
          clear hok
          go_upto_region 12 with (go_at_call 15; (with_reducible refine (implIsFamily_any _ _ _ _ (w1.heap.size + 1) wr.heap.size f.people f.unions _ (pa.same (by (with_reducible repeat' first | exact Same.refl _ _ _ | assumption | (refine Same.setCell ?_ (by first | omega | (simp; omega) | (simp; done) | (dsimp only; omega)) _) | (refine Same.alloc ?_ (by first | omega | (simp; omega) | (simp; done) | (dsimp only; omega)) _) | (refine Same.drewN ?_ _) | (refine Same.drew ?_)))) (ua.same (by (with_reducible repeat' first | exact Same.refl _ _ _ | assumption | (refine Same.setCell ?_ (by first | omega | (simp; omega) | (simp; done) | (dsimp only; omega)) _) | (refine Same.alloc ?_ (by first | omega | (simp; omega) | (simp; done) | (dsimp only; omega)) _) | (refine Same.drewN ?_ _) | (refine Same.drew ?_)))) (by first | omega | (simp; omega) | (simp; done) | (dsimp only; omega)) hcap htp).mono ?_); rintro e w3 ⟨rfl, hb3⟩; simp only [HO.out]; (obtain ⟨hb3c, hb3f⟩ := bcell hb3); (have hb3z := hb3.size); (try simp only [szs] at hb3c hb3f hb3z))
          have RB3 := RBr.below hb3 (by omega)
          have hb03 : Below w.heap.size w w3 := (hb02.trans (hbr.mono (by omega))).trans (hb3.mono (by omega))
          have s0 := RB3.free 0; have s1 := RB3.free 1; have r0 := RB3.cell (i := 0) rfl; have r1 := RB3.cell (i := 1) rfl; have lR := RB3.lt
          have RR := (RB3.set 0 (.slice none 0 0)).set 1 (.slice none 0 0)
          go_wp2
          first | rw [HR0.out, HR2.out] | rw [HR.out, HR2.out] | rw [HR2.out]
          exact bodyPost_ret (v := .tuple #[.agg #[.slice none 0 0, .slice none 0 0], .bool false]) (by simp [results, Tryz.results5, go_sem, RR.cell (i := 0) rfl, RR.cell (i := 1) rfl]) rfl (RetFamB.zero (by (with_reducible repeat' first | exact Below.refl _ _ | assumption | (refine Below.setCell ?_ (by first | omega | (simp; omega) | (simp; done) | (dsimp only; omega)) _) | (refine Below.alloc ?_ (by first | omega | (simp; omega) | (simp; done) | (dsimp only; omega)) _) | (refine below_drewN ?_ _) | (refine Below.drew ?_) | (refine Below.trans ?_ (hb03.mono (by first | omega | (simp; omega) | (simp; done) | (dsimp only; omega)))))))
        | true =>
          have HO := Lib.hid hok
          by_cases hft : familyT f.people f.unions = s
          · have n2 := texts_eq hft; have n3 := texts_beq hft
            have HR2 := Lib.hid (show R = (f, true) by rw [← HR.out, HD.out, doneM, if_pos ⟨hok, hft⟩])
            clear hok hft
            go_upto_region 13 with (first
              | (go_at_call 15; (with_reducible refine (implIsFamily_any _ _ _ _ (w1.heap.size + 1) wr.heap.size f.people f.unions _ (pa.same (by (with_reducible repeat' first | exact Same.refl _ _ _ | assumption | (refine Same.setCell ?_ (by first | omega | (simp; omega) | (simp; done) | (dsimp only; omega)) _) | (refine Same.alloc ?_ (by first | omega | (simp; omega) | (simp; done) | (dsimp only; omega)) _) | (refine Same.drewN ?_ _) | (refine Same.drew ?_)))) (ua.same (by (with_reducible repeat' first | exact Same.refl _ _ _ | assumption | (refine Same.setCell ?_ (by first | omega | (simp; omega) | (simp; done) | (dsimp only; omega)) _) | (refine Same.alloc ?_ (by first | omega | (simp; omega) | (simp; done) | (dsimp only; omega)) _) | (refine Same.drewN ?_ _) | (refine Same.drew ?_)))) (by first | omega | (simp; omega) | (simp; done) | (dsimp only; omega)) hcap htp).mono ?_); rintro e w3 ⟨rfl, hb3⟩; simp only [HO.out]; (obtain ⟨hb3c, hb3f⟩ := bcell hb3); (have hb3z := hb3.size); (try simp only [szs] at hb3c hb3f hb3z))
              | (go_at_call 16; (with_reducible refine (implFormatFamily_any _ _ _ _ (w1.heap.size + 1) wr.heap.size f.people f.unions _ (pa.same (by (with_reducible repeat' first | exact Same.refl _ _ _ | assumption | (refine Same.setCell ?_ (by first | omega | (simp; omega) | (simp; done) | (dsimp only; omega)) _) | (refine Same.alloc ?_ (by first | omega | (simp; omega) | (simp; done) | (dsimp only; omega)) _) | (refine Same.drewN ?_ _) | (refine Same.drew ?_) | (refine Same.trans ?_ (Same.of_below hb3 (by first | omega | (simp; omega) | (simp; done) | (dsimp only; omega))))))) (ua.same (by (with_reducible repeat' first | exact Same.refl _ _ _ | assumption | (refine Same.setCell ?_ (by first | omega | (simp; omega) | (simp; done) | (dsimp only; omega)) _) | (refine Same.alloc ?_ (by first | omega | (simp; omega) | (simp; done) | (dsimp only; omega)) _) | (refine Same.drewN ?_ _) | (refine Same.drew ?_) | (refine Same.trans ?_ (Same.of_below hb3 (by first | omega | (simp; omega) | (simp; done) | (dsimp only; omega))))))) (by first | omega | (simp; omega) | (simp; done) | (dsimp only; omega)) hcap htp (HVr.out.below (by (with_reducible repeat' first | exact Below.refl _ _ | assumption | (refine Below.setCell ?_ (by first | omega | (simp; omega) | (simp; done) | (dsimp only; omega)) _) | (refine Below.alloc ?_ (by first | omega | (simp; omega) | (simp; done) | (dsimp only; omega)) _) | (refine below_drewN ?_ _) | (refine Below.drew ?_) | (refine Below.trans ?_ (hb3.mono (by first | omega | (simp; omega) | (simp; done) | (dsimp only; omega))))))).tab).mono ?_); rintro e w4 ⟨rfl, hb4⟩; (obtain ⟨hb4c, hb4f⟩ := bcell hb4); (have hb4z := hb4.size); (try simp only [szs] at hb4c hb4f hb4z)))
            have hb34 : Below wr.heap.size wr w4 := hb3.trans (hb4.mono hb3.size)
            have RB4 := RBr.below hb34 (by omega)
            have FB4 := FBr.below hb34 lFr
            have F4 := Fr.below hb34
            have hb04 : Below w.heap.size w w4 := (hb02.trans (hbr.mono (by omega))).trans (hb34.mono (by omega))
            clear hb3 hb3c hb3f hb3z hb4 hb4c hb4f hb4z e0 e1
            have e0 := FB4.cell (i := 0) rfl; have e1 := FB4.cell (i := 1) rfl; have lF4 := FB4.lt
            have s0 := RB4.free 0; have s1 := RB4.free 1; have r0 := RB4.cell (i := 0) rfl; have r1 := RB4.cell (i := 1) rfl; have lR := RB4.lt
            have RR := (RB4.set 0 (.slice A f.people.length c)).set 1 (.slice B f.unions.length d)
            have F5 := (F4.off (i := 0) RB4 (by decide) (by decide) (.slice A f.people.length c)).off (i := 1) (RB4.set 0 (.slice A f.people.length c)) (by decide) (by decide) (.slice B f.unions.length d)
            have hb05 := (hb04.setCell (p := ⟨w.heap.size, 0, none⟩) (Nat.le_refl _) (.slice A f.people.length c)).setCell (p := ⟨w.heap.size, 1, none⟩) (Nat.le_refl _) (.slice B f.unions.length d)
            have z5 : w.heap.size ≤ w1.heap.size + 1 := by omega
            go_wp2
            first | rw [HR0.out, HR2.out] | rw [HR.out, HR2.out] | rw [HR2.out]
            exact bodyPost_ret (v := .tuple #[.agg #[.slice A f.people.length c, .slice B f.unions.length d], .bool true]) (by simp [results, Tryz.results5, go_sem, RR.cell (i := 0) rfl, RR.cell (i := 1) rfl]) rfl ⟨A, c, B, d, rfl, F5.pp.mono z5 (Nat.le_refl _), F5.uu.mono z5 (Nat.le_refl _), hb05⟩
          · have n2 := texts_ne hft; have n3 := texts_bne hft
            have HR2 := Lib.hid (show R = (⟨[], []⟩, false) by rw [← HR.out, HD.out, doneM, if_neg (fun q => hft q.2)])
            clear hok hft
            go_upto_region 12 with (first
              | (go_at_call 15; (with_reducible refine (implIsFamily_any _ _ _ _ (w1.heap.size + 1) wr.heap.size f.people f.unions _ (pa.same (by (with_reducible repeat' first | exact Same.refl _ _ _ | assumption | (refine Same.setCell ?_ (by first | omega | (simp; omega) | (simp; done) | (dsimp only; omega)) _) | (refine Same.alloc ?_ (by first | omega | (simp; omega) | (simp; done) | (dsimp only; omega)) _) | (refine Same.drewN ?_ _) | (refine Same.drew ?_)))) (ua.same (by (with_reducible repeat' first | exact Same.refl _ _ _ | assumption | (refine Same.setCell ?_ (by first | omega | (simp; omega) | (simp; done) | (dsimp only; omega)) _) | (refine Same.alloc ?_ (by first | omega | (simp; omega) | (simp; done) | (dsimp only; omega)) _) | (refine Same.drewN ?_ _) | (refine Same.drew ?_)))) (by first | omega | (simp; omega) | (simp; done) | (dsimp only; omega)) hcap htp).mono ?_); rintro e w3 ⟨rfl, hb3⟩; simp only [HO.out]; (obtain ⟨hb3c, hb3f⟩ := bcell hb3); (have hb3z := hb3.size); (try simp only [szs] at hb3c hb3f hb3z))
              | (go_at_call 16; (with_reducible refine (implFormatFamily_any _ _ _ _ (w1.heap.size + 1) wr.heap.size f.people f.unions _ (pa.same (by (with_reducible repeat' first | exact Same.refl _ _ _ | assumption | (refine Same.setCell ?_ (by first | omega | (simp; omega) | (simp; done) | (dsimp only; omega)) _) | (refine Same.alloc ?_ (by first | omega | (simp; omega) | (simp; done) | (dsimp only; omega)) _) | (refine Same.drewN ?_ _) | (refine Same.drew ?_) | (refine Same.trans ?_ (Same.of_below hb3 (by first | omega | (simp; omega) | (simp; done) | (dsimp only; omega))))))) (ua.same (by (with_reducible repeat' first | exact Same.refl _ _ _ | assumption | (refine Same.setCell ?_ (by first | omega | (simp; omega) | (simp; done) | (dsimp only; omega)) _) | (refine Same.alloc ?_ (by first | omega | (simp; omega) | (simp; done) | (dsimp only; omega)) _) | (refine Same.drewN ?_ _) | (refine Same.drew ?_) | (refine Same.trans ?_ (Same.of_below hb3 (by first | omega | (simp; omega) | (simp; done) | (dsimp only; omega))))))) (by first | omega | (simp; omega) | (simp; done) | (dsimp only; omega)) hcap htp (HVr.out.below (by (with_reducible repeat' first | exact Below.refl _ _ | assumption | (refine Below.setCell ?_ (by first | omega | (simp; omega) | (simp; done) | (dsimp only; omega)) _) | (refine Below.alloc ?_ (by first | omega | (simp; omega) | (simp; done) | (dsimp only; omega)) _) | (refine below_drewN ?_ _) | (refine Below.drew ?_) | (refine Below.trans ?_ (hb3.mono (by first | omega | (simp; omega) | (simp; done) | (dsimp only; omega))))))).tab).mono ?_); rintro e w4 ⟨rfl, hb4⟩; (obtain ⟨hb4c, hb4f⟩ := bcell hb4); (have hb4z := hb4.size); (try simp only [szs] at hb4c hb4f hb4z)))
            have hb34 : Below wr.heap.size wr w4 := hb3.trans (hb4.mono hb3.size)
            have RB4 := RBr.below hb34 (by omega)
            have hb04 : Below w.heap.size w w4 := (hb02.trans (hbr.mono (by omega))).trans (hb34.mono (by omega))
            have s0 := RB4.free 0; have s1 := RB4.free 1; have r0 := RB4.cell (i := 0) rfl; have r1 := RB4.cell (i := 1) rfl; have lR := RB4.lt
            have RR := (RB4.set 0 (.slice none 0 0)).set 1 (.slice none 0 0)
            go_wp2
            first | rw [HR0.out, HR2.out] | rw [HR.out, HR2.out] | rw [HR2.out]
            exact bodyPost_ret (v := .tuple #[.agg #[.slice none 0 0, .slice none 0 0], .bool false]) (by simp [results, Tryz.results5, go_sem, RR.cell (i := 0) rfl, RR.cell (i := 1) rfl]) rfl (RetFamB.zero (by (with_reducible repeat' first | exact Below.refl _ _ | assumption | (refine Below.setCell ?_ (by first | omega | (simp; omega) | (simp; done) | (dsimp only; omega)) _) | (refine Below.alloc ?_ (by first | omega | (simp; omega) | (simp; done) | (dsimp only; omega)) _) | (refine below_drewN ?_ _) | (refine Below.drew ?_) | (refine Below.trans ?_ (hb04.mono (by first | omega | (simp; omega) | (simp; done) | (dsimp only; omega)))))))
end Go.Proofs.YthpcippgifmabaaGreatDoor
