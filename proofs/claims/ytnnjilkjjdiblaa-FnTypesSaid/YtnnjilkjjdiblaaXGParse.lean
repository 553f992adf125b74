/-
  Go's strings.CutPrefix and strings.IndexByte: what they return, walked over the library's own text.
  Reading kin types from their text, in the program.
  Reading a kin type from its text, in the program.
  Reading kin types from their text, in the reference.
-/
import Derived.Test.YtnnjilkjjdiblaaBase
import Derived.Lib.Strings
import Derived.Lib.Slices
import Derived.Lib.Walk
import Derived.Lib.Bytealg
import Derived.Test.YtnnjilkjjdiblaaXParseM
import Derived.Test.YtnnjilkjjdiblaaJoinT
import Derived.Deep.Cut
import Derived.Deep.DeepCutAuto

/-! ## LibStr -/
namespace Go.Proofs.Ytnnjilkjjdiblaa
set_option maxRecDepth 100000
open Go.RowKit

set_option maxHeartbeats 1000000 in
theorem cutPrefix_any (s p : ByteArray) (w : World) :
    Calls Try.prog 127 #[.string s, .string p] w fun e w' => e = .returned (.tuple #[.string ⟨(Lib.trimPrefix s.data.toList p.data.toList).toArray⟩, .bool (Lib.hasPrefix s.data.toList p.data.toList)]) ∧ w = w' := by
  go_enter Try.func127, Try.ntmps127
  go_wp2
  · have h2 : (!((s.extract 0 p.size).toList == p.toList)) = true := by assumption
    have h3 : (decide (p.size ≤ s.size) && ((s.extract 0 p.size).toList == p.toList)) = false := by
      have : ((s.extract 0 p.size).toList == p.toList) = false := by simpa using h2
      rw [this]
      simp
    go_ret2
    refine ⟨?_, rfl⟩
    rw [Lib.trimPrefix_miss s p h3, ← Lib.hasPrefix_raw, h3]
    rfl
  · have h1 : p.size ≤ s.size := by assumption
    have h2 : (!((s.extract 0 p.size).toList == p.toList)) = false := by assumption
    have h2' : ((s.extract 0 p.size).toList == p.toList) = true := by simpa using h2
    go_ret2
    refine ⟨?_, rfl⟩
    rw [Lib.trimPrefix_hit s p h1 h2', ← Lib.hasPrefix_raw, h2', decide_eq_true h1]
    rfl
  · have h1 : ¬ p.size ≤ s.size := by assumption
    have h3 : (decide (p.size ≤ s.size) && ((s.extract 0 p.size).toList == p.toList)) = false := by simp [h1]
    go_ret2
    refine ⟨?_, rfl⟩
    rw [Lib.trimPrefix_miss s p h3, ← Lib.hasPrefix_raw, h3]
    rfl

set_option maxHeartbeats 1000000 in
theorem liteIndexByte_any (s : ByteArray) (c : Int) (w : World) :
    Calls Try.prog 215 #[.string s, .int .u8 c] w fun e w' => e = .returned (.int .i64 (Lib.indexByte s.data.toList c.toNat.toUInt8)) ∧ w = w' := by
  go_enter Try.func215, Try.ntmps215
  go_wp2
  rw [run_callFunc_extern Try.func227 (by kernel_rfl) (by kernel_rfl) (by kernel_rfl) (e := Extern.BytealgIndexByte.indexByte) (by kernel_rfl), Lib.run_indexByteString]
  simp only [Result.andThen]
  rw [Oper.upon_value]
  go_wp2
  go_ret
  exact ⟨rfl, rfl⟩
set_option maxHeartbeats 1000000 in
theorem indexByte_any (s : ByteArray) (c : Int) (w : World) :
    Calls Try.prog 186 #[.string s, .int .u8 c] w fun e w' => e = .returned (.int .i64 (Lib.indexByte s.data.toList c.toNat.toUInt8)) ∧ w = w' := by
  go_enter Try.func186, Try.ntmps186
  go_wp2_with (go_at_call 215; refine (liteIndexByte_any _ _ _).mono ?_; rintro e w' ⟨rfl, rfl⟩)
  go_ret
  exact ⟨rfl, rfl⟩
end Go.Proofs.Ytnnjilkjjdiblaa

/-! ## ParseI -/
namespace Go.Proofs.Ytnnjilkjjdiblaa
set_option maxRecDepth 100000
open Go.RowKit

theorem hasPrefix_two (l : List UInt8) (a b : UInt8) : Lib.hasPrefix l [a, b] = decide (l.take 2 = [a, b]) := by
  match l with
  | [] => rfl
  | [x] =>
    show (a == x && false) = _
    rw [Bool.and_false, eq_comm, decide_eq_false_iff_not]
    intro h; cases h
  | x :: y :: r =>
    show (a == x && (b == y && true)) = _
    rw [Bool.eq_iff_iff, decide_eq_true_eq, Bool.and_true, Bool.and_eq_true, beq_iff_eq, beq_iff_eq]
    constructor
    · rintro ⟨rfl, rfl⟩; rfl
    · intro h
      injection h with h1 h2
      injection h2 with h2 _
      exact ⟨h1.symm, h2.symm⟩
theorem trim_two {s p : ByteArray} (hp : p.size = 2) (h : Lib.hasPrefix s.data.toList p.data.toList = true) : (⟨(Lib.trimPrefix s.data.toList p.data.toList).toArray⟩ : ByteArray) = s.extract 2 s.size := by
  rw [← Lib.hasPrefix_raw] at h
  simp only [Bool.and_eq_true, decide_eq_true_eq] at h
  rw [Lib.trimPrefix_hit s p h.1 h.2, hp]
theorem cutM_m {s : ByteArray} (h : Lib.hasPrefix s.data.toList [109, 58] = true) : cutM s = (1, s.extract 2 s.size) := by
  rw [hasPrefix_two, decide_eq_true_eq] at h
  rw [cutM, if_pos h]
theorem cutM_w {s : ByteArray} (h0 : Lib.hasPrefix s.data.toList [109, 58] = false) (h : Lib.hasPrefix s.data.toList [119, 58] = true) : cutM s = (2, s.extract 2 s.size) := by
  rw [hasPrefix_two, decide_eq_true_eq] at h
  rw [hasPrefix_two, decide_eq_false_iff_not] at h0
  rw [cutM, if_neg h0, if_pos h]
theorem cutM_none {s : ByteArray} (h0 : Lib.hasPrefix s.data.toList [109, 58] = false) (h : Lib.hasPrefix s.data.toList [119, 58] = false) : cutM s = (0, s) := by
  rw [hasPrefix_two, decide_eq_false_iff_not] at h
  rw [hasPrefix_two, decide_eq_false_iff_not] at h0
  rw [cutM, if_neg h0, if_neg h]
def CutRel (s : ByteArray) (B : Nat) (W : World) (i : Value) (wr : World) : Prop :=
  ∃ k : Nat, k ≤ 2 ∧ i = .int .i64 ((k : Int) + 1) ∧ (1 ≤ k → Lib.hasPrefix s.data.toList [109, 58] = false) ∧ (2 ≤ k → Lib.hasPrefix s.data.toList [119, 58] = false) ∧ Below B W wr

theorem preT_at {k : Nat} (hk : k < 2) : preT ((k : Int) + 1) = ⟨#[if k = 0 then 109 else 119, 58]⟩ := by
  rcases (by omega : k = 0 ∨ k = 1) with rfl | rfl <;> rfl
set_option maxHeartbeats 2000000 in
theorem cutEgo_any (s : ByteArray) (w : World) : Calls Try.prog 120 #[.string s] w fun e w' => e = .returned (.tuple #[.int .i64 (cutM s).1, .string (cutM s).2]) ∧ Below w.heap.size w w' := by
  go_enter Try.func120, Try.ntmps120
  go_wp2
  go_loopw [4] (fun i wr => CutRel s w.heap.size w i wr) (fun i _ => 3 - (intOf i).toNat)
  case atStart => exact ⟨0, by omega, rfl, by omega, by omega, Below.refl _ _⟩
  case round =>
    obtain ⟨k, hk, rfl, h1, h2, hb⟩ := hrel
    have hz := hb.size
    by_cases hlt : k < 2
    · have he : (0 : Int) ≤ (k : Int) + 1 ∧ (k : Int) + 1 ≤ 2 := by omega
      obtain ⟨pb, hpb⟩ : ∃ pb : UInt8, (if k = 0 then 109 else 119) = pb := ⟨_, rfl⟩
      have hpt := preT_at hlt
      rw [hpb] at hpt
      have HP := Lib.hid hpt
      clear hpt
      cases hpf : Lib.hasPrefix s.data.toList [pb, 58] with
      | true =>
        have HF := Lib.hid hpf
        have HC := Lib.hid (show cutM s = ((k : Int) + 1, s.extract 2 s.size) by
          rcases (by omega : k = 0 ∨ k = 1) with rfl | rfl
          · subst hpb; exact cutM_m hpf
          · subst hpb; exact cutM_w (h1 (by omega)) hpf)
        clear hpf h1 h2 hpb
        go_wp2_with (first
          | (go_at_call 149; refine (egoPrefix_any _ _ he).mono ?_; rintro e w2 ⟨rfl, hb2⟩; rw [HP.out])
          | (go_at_call 127; refine (cutPrefix_any _ _ _).mono ?_; rintro e w3 ⟨rfl, rfl⟩; rw [trim_two rfl HF.out, HF.out]))
        exact bodyPost_ret (v := .tuple #[.int .i64 ((k : Int) + 1), .string (s.extract 2 s.size)]) (by simp [results, Try.results120, go_sem]) rfl ⟨by rw [HC.out], by (with_reducible repeat' first | exact Below.refl _ _ | assumption | (refine Below.setCell ?_ (by first | omega | (simp; omega) | (simp; done) | (dsimp only; omega)) _) | (refine Below.alloc ?_ (by first | omega | (simp; omega) | (simp; done) | (dsimp only; omega)) _) | (refine below_drewN ?_ _) | (refine Below.drew ?_) | (refine Below.trans ?_ (hb2.mono (by first | omega | (simp; omega) | (simp; done) | (dsimp only; omega)))) | (refine Below.trans ?_ (hb.mono (by first | omega | (simp; omega) | (simp; done) | (dsimp only; omega)))))⟩
      | false =>
        have HF := Lib.hid hpf
        have HPB := Lib.hid hpb
        clear hpf hpb
        go_wp2_with (first
          | (go_at_call 149; refine (egoPrefix_any _ _ he).mono ?_; rintro e w2 ⟨rfl, hb2⟩; rw [HP.out])
          | (go_at_call 127; refine (cutPrefix_any _ _ _).mono ?_; rintro e w3 ⟨rfl, rfl⟩; rw [HF.out]))
        refine ⟨⟨k + 1, by omega, by go_num, fun h => ?_, fun h => ?_, by (with_reducible repeat' first | exact Below.refl _ _ | assumption | (refine Below.setCell ?_ (by first | omega | (simp; omega) | (simp; done) | (dsimp only; omega)) _) | (refine Below.alloc ?_ (by first | omega | (simp; omega) | (simp; done) | (dsimp only; omega)) _) | (refine below_drewN ?_ _) | (refine Below.drew ?_) | (refine Below.trans ?_ (hb2.mono (by first | omega | (simp; omega) | (simp; done) | (dsimp only; omega)))) | (refine Below.trans ?_ (hb.mono (by first | omega | (simp; omega) | (simp; done) | (dsimp only; omega)))))⟩, by simp [intOf]; omega⟩
        · by_cases hk0 : k = 0
          · subst hk0; have hpb := HPB.out; subst hpb; exact HF.out
          · exact h1 (by omega)
        · obtain rfl : k = 1 := by omega
          have hpb := HPB.out; subst hpb; exact HF.out
    · obtain rfl : k = 2 := by omega
      have HC := Lib.hid (cutM_none (h1 (by omega)) (h2 (by omega)))
      clear h1 h2
      go_wp2
      exact bodyPost_ret (v := .tuple #[.int .i64 0, .string s]) (by simp [results, Try.results120, go_sem]) rfl ⟨by rw [HC.out], hb⟩

/-! ### The steps -/
def RetOpt (w : World) (m : Option (List Step)) (e : Ending) (w' : World) : Prop :=
  ∃ (A : Option Addr) (c : Nat), e = .returned (.tuple #[.slice A (m.getD []).length c, .bool m.isSome]) ∧ EStep.OS w' w.heap.size w'.heap.size (.slice A (m.getD []).length c) (m.getD []) ∧ Below w.heap.size w w'
theorem RetOpt.none {w w' : World} (h : Below w.heap.size w w') : RetOpt w Option.none (.returned (.tuple #[.slice Option.none 0 0, .bool false])) w' := ⟨_, _, rfl, Elem.OS.nil, h⟩
def ReadRel (bs : List UInt8) (w : World) (v i : Value) (wr : World) : Prop :=
  ∃ (k : Nat) (A : Option Addr) (c : Nat) (xs : List Step), k ≤ bs.length ∧ i = .int .i64 k ∧ v = .slice A xs.length c ∧ EStep.OS wr w.heap.size wr.heap.size (.slice A xs.length c) xs ∧ xs.length ≤ k ∧ (readI (bs.drop k)).map (xs ++ ·) = readI bs ∧ Below w.heap.size w wr
theorem index_kind (c : UInt8) : Lib.indexByte [70, 77, 66, 90, 83, 68, 72, 87] c + 1 = kindOf c := by
  unfold kindOf
  by_cases h1 : c = 70
  · subst h1; rfl
  by_cases h2 : c = 77
  · subst h2; rfl
  by_cases h3 : c = 66
  · subst h3; rfl
  by_cases h4 : c = 90
  · subst h4; rfl
  by_cases h5 : c = 83
  · subst h5; rfl
  by_cases h6 : c = 68
  · subst h6; rfl
  by_cases h7 : c = 72
  · subst h7; rfl
  by_cases h8 : c = 87
  · subst h8; rfl
  have n : ∀ {a : UInt8}, ¬ c = a → (a == c) = false := fun h => beq_false_of_ne (Ne.symm h)
  simp only [Lib.indexByte, n h1, n h2, n h3, n h4, n h5, n h6, n h7, n h8, if_neg h1, if_neg h2, if_neg h3, if_neg h4, if_neg h5, if_neg h6, if_neg h7, if_neg h8]
  rfl
theorem index_kind' (c : UInt8) : Lib.indexByte (⟨#[70, 77, 66, 90, 83, 68, 72, 87]⟩ : ByteArray).data.toList ((c.toNat : Int)).toNat.toUInt8 + 1 = kindOf c := by
  rw [← index_kind c]
  congr 2
  simp
theorem kindOf_in (c : UInt8) : 0 ≤ kindOf c ∧ kindOf c ≤ 8 := by
  by_cases h : kindOf c = 0
  · omega
  · have := char_kind h; omega
theorem index_kd (c : UInt8) : Lib.indexByte (⟨#[70, 77, 66, 90, 83, 68, 72, 87]⟩ : ByteArray).data.toList ((c.toNat : Int)).toNat.toUInt8 = kindOf c - 1 := by
  have := index_kind' c; omega
theorem byte_ne {c d : UInt8} (h : c ≠ d) : ((c.toNat : Int) == (d.toNat : Int)) = false := by
  rw [beq_eq_false_iff_ne]
  intro e
  exact h (UInt8.toNat_inj.1 (by omega))
theorem readI_no1 {bs : List UInt8} {xs : List Step} {k : Nat} {c : UInt8} {r : List UInt8} (h : (readI (bs.drop k)).map (xs ++ ·) = readI bs) (hd : bs.drop k = c :: r) (h1 : c ≠ 101) (h2 : c ≠ 121) (hk : kindOf c = 0) : readI bs = none := by
  rw [← h, hd, readI_one h1 h2, if_pos hk]; rfl
theorem readI_yes1 {bs : List UInt8} {xs : List Step} {k : Nat} {c : UInt8} (h : (readI (bs.drop k)).map (xs ++ ·) = readI bs) (hd : bs.drop k = c :: bs.drop (k + 1)) (h1 : c ≠ 101) (h2 : c ≠ 121) (hk : kindOf c ≠ 0) : (readI (bs.drop (k + 1))).map ((xs ++ [⟨kindOf c, 0⟩]) ++ ·) = readI bs := by
  rw [← h, hd, readI_one h1 h2, if_neg hk, Option.map_map]
  congr 1
  funext l; simp
theorem readI_last {bs : List UInt8} {xs : List Step} {k : Nat} {c : UInt8} (h : (readI (bs.drop k)).map (xs ++ ·) = readI bs) (hd : bs.drop k = [c]) (h1 : c = 101 ∨ c = 121) : readI bs = none := by
  rw [← h, hd, readI_end h1]; rfl
theorem readI_no2 {bs : List UInt8} {xs : List Step} {k : Nat} {c d : UInt8} {r : List UInt8} (h : (readI (bs.drop k)).map (xs ++ ·) = readI bs) (hd : bs.drop k = c :: d :: r) (h1 : c = 101 ∨ c = 121) (hk : kindOf d = 0) : readI bs = none := by
  rw [← h, hd, readI_two h1, if_pos hk]; rfl
theorem readI_yes2 {bs : List UInt8} {xs : List Step} {k : Nat} {c d : UInt8} {r : List UInt8} (h : (readI (bs.drop k)).map (xs ++ ·) = readI bs) (hd : bs.drop k = c :: d :: r) (h1 : c = 101 ∨ c = 121) (hk : kindOf d ≠ 0) : (readI r).map ((xs ++ [⟨kindOf d, if c = 101 then 1 else 2⟩]) ++ ·) = readI bs := by
  rw [← h, hd, readI_two h1, if_neg hk, Option.map_map]
  congr 1
  funext l; simp

set_option maxHeartbeats 4000000 in
theorem readSteps_any (s : ByteArray) (w : World) (hs : s.size ≤ 1048576) : Calls Try.prog 121 #[.string s] w (RetOpt w (readI s.data.toList)) := by
  go_enter Try.func121, Try.ntmps121
  go_wp2
  go_loopw [4, 5] (fun v i wr => ReadRel s.data.toList w v i wr) (fun _ i _ => s.size - (intOf i).toNat)
  case atStart => exact ⟨0, none, 0, [], Nat.zero_le _, rfl, rfl, Elem.OS.nil, Nat.le_refl _, by simp, Below.refl _ _⟩
  case round =>
    obtain ⟨k, A, c, xs, hk, rfl, rfl, ho, hxl, hre, hb⟩ := hrel
    have hk' : k ≤ s.size := by simpa using hk
    have HRE := Lib.hid hre; clear hre hk
    have z := hb.size
    by_cases hlt : k < s.size
    · have hd := bytes_drop hlt
      obtain ⟨ch, hch⟩ : ∃ ch, s[k] = ch := ⟨_, rfl⟩
      rw [hch] at hd
      go_upto_region 6 with fail
      generalize hW5 : wr.alloc (.cells #[.int .i64 0, .int .i64 0] 72) = W5
      have r5 : Blk W5 wr.heap.size 72 #[.int .i64 0, .int .i64 0] := by subst hW5; exact Blk.new _ rfl
      have hb5 : Below w.heap.size w W5 := by subst hW5; (with_reducible repeat' first | exact Below.refl _ _ | assumption | (refine Below.setCell ?_ (by first | omega | (simp; omega) | (simp; done) | (dsimp only; omega)) _) | (refine Below.alloc ?_ (by first | omega | (simp; omega) | (simp; done) | (dsimp only; omega)) _) | (refine below_drewN ?_ _) | (refine Below.drew ?_) | (refine Below.trans ?_ (hb.mono (by first | omega | (simp; omega) | (simp; done) | (dsimp only; omega)))))
      have z5 : wr.heap.size + 1 = W5.heap.size := by subst hW5; simp
      have ho5 := ho.same (show Same w.heap.size wr.heap.size wr W5 by subst hW5; (with_reducible repeat' first | exact Same.refl _ _ _ | assumption | (refine Same.setCell ?_ (by first | omega | (simp; omega) | (simp; done) | (dsimp only; omega)) _) | (refine Same.alloc ?_ (by first | omega | (simp; omega) | (simp; done) | (dsimp only; omega)) _) | (refine Same.drewN ?_ _) | (refine Same.drew ?_)))
      clear hW5
      have q0 := r5.cell (i := 0) rfl; have q1 := r5.cell (i := 1) rfl; have f0 := r5.free 0; have f1 := r5.free 1
      have lr : wr.heap.size < W5.heap.size := by omega
      rcases (Classical.em (ch = 101)) with hc | h101
      · -- an age
        have hcc : ch = 101 ∨ ch = 121 := .inl hc
        have hag : (if ch = 101 then (1 : Int) else 2) = 1 := by rw [hc]; rfl
        have n1 : ((ch.toNat : Int) == 101) = true := by rw [hc]; rfl
        clear hc
        by_cases hlt2 : k + 1 < s.size
        · have hd2 := bytes_drop hlt2
          obtain ⟨dh, hdh⟩ : ∃ dh, s[k + 1] = dh := ⟨_, rfl⟩
          rw [hdh] at hd2
          rw [hd2] at hd
          have ne2 : ((k : Int) + 1 == (s.size : Int)) = false := by rw [beq_eq_false_iff_ne]; omega
          by_cases hk0 : kindOf dh = 0
          · have HN := Lib.hid (readI_no2 HRE.out hd hcc hk0)
            go_wp2_with (go_at_call 186; refine (indexByte_any _ _ _).mono ?_; rintro e w6 ⟨rfl, rfl⟩; rw [index_kd, hk0])
            exact bodyPost_ret (v := .tuple #[.slice none 0 0, .bool false]) (by simp [results, Try.results121, go_sem]) rfl (by rw [HN.out]; exact RetOpt.none (by (with_reducible repeat' first | exact Below.refl _ _ | assumption | (refine Below.setCell ?_ (by first | omega | (simp; omega) | (simp; done) | (dsimp only; omega)) _) | (refine Below.alloc ?_ (by first | omega | (simp; omega) | (simp; done) | (dsimp only; omega)) _) | (refine below_drewN ?_ _) | (refine Below.drew ?_) | (refine Below.trans ?_ (hb5.mono (by first | omega | (simp; omega) | (simp; done) | (dsimp only; omega)))))))
          · skip
            obtain ⟨kd, hkd⟩ : ∃ kd, kindOf dh = kd := ⟨_, rfl⟩
            have hin := kindOf_in dh
            rw [hkd] at hin
            have nk : (kd == 0) = false := by rw [beq_eq_false_iff_ne, ← hkd]; exact hk0
            have HY := Lib.hid (by have h := readI_yes2 HRE.out hd hcc hk0; rw [hkd, hag] at h; exact h)
            clear hk0
            go_upto_region 18 with (go_at_call 186; refine (indexByte_any _ _ _).mono ?_; rintro e w6 ⟨rfl, rfl⟩; rw [index_kd])
            generalize hW7 : (W5.setCell ⟨wr.heap.size, 1, none⟩ (.int .i64 1)).setCell ⟨wr.heap.size, 0, none⟩ (.int .i64 kd) = W7
            have r7 : Blk W7 wr.heap.size 72 #[.int .i64 kd, .int .i64 1] := by subst hW7; exact (r5.set 1 _).set 0 _
            have hb7 : Below w.heap.size w W7 := by subst hW7; (with_reducible repeat' first | exact Below.refl _ _ | assumption | (refine Below.setCell ?_ (by first | omega | (simp; omega) | (simp; done) | (dsimp only; omega)) _) | (refine Below.alloc ?_ (by first | omega | (simp; omega) | (simp; done) | (dsimp only; omega)) _) | (refine below_drewN ?_ _) | (refine Below.drew ?_) | (refine Below.trans ?_ (hb5.mono (by first | omega | (simp; omega) | (simp; done) | (dsimp only; omega)))))
            have z7 : W5.heap.size = W7.heap.size := by subst hW7; simp [World.setCell]
            have ho7 : EStep.OS W7 w.heap.size wr.heap.size (.slice A xs.length c) xs := by subst hW7; exact ho5.same (by (with_reducible repeat' first | exact Same.refl _ _ _ | assumption | (refine Same.setCell ?_ (by first | omega | (simp; omega) | (simp; done) | (dsimp only; omega)) _) | (refine Same.alloc ?_ (by first | omega | (simp; omega) | (simp; done) | (dsimp only; omega)) _) | (refine Same.drewN ?_ _) | (refine Same.drew ?_)))
            clear hW7
            have p0 := r7.cell (i := 0) rfl; have p1 := r7.cell (i := 1) rfl
            have lr7 : wr.heap.size < W7.heap.size := by omega
            go_wp2_with (at_builtin; refine wpList_app1 tyStepS A xs ⟨kd, 1⟩ [.int .i64 kd, .int .i64 1] ⟨W7.heap.size, 0, none⟩ 1 (lo := w.heap.size) (hi := wr.heap.size) (ho7.same (by (with_reducible repeat' first | exact Same.refl _ _ _ | assumption | (refine Same.setCell ?_ (by first | omega | (simp; omega) | (simp; done) | (dsimp only; omega)) _) | (refine Same.alloc ?_ (by first | omega | (simp; omega) | (simp; done) | (dsimp only; omega)) _) | (refine Same.drewN ?_ _) | (refine Same.drew ?_)))) rfl (by first | omega | (simp; omega) | (simp; done) | (dsimp only; omega)) z rfl _ _ rfl rfl rfl rfl (cell_row_at _ #[.int .i64 kd, .int .i64 1] _ _ rfl) (by simp; exact ⟨rfl, rfl⟩) (by omega) (by decide) (fun A' c' w1 ho1 hg1 hc1 hm1 => ?_))
            refine ⟨⟨k + 1 + 1, A', c', xs ++ [⟨kd, 1⟩], by simp; omega, by go_num, by simp, by simpa using ho1, by simp; omega, HY.out, ?_⟩, by simp [intOf]; omega⟩
            exact Below.grown (w := W7.alloc _) (by (with_reducible repeat' first | exact Below.refl _ _ | assumption | (refine Below.setCell ?_ (by first | omega | (simp; omega) | (simp; done) | (dsimp only; omega)) _) | (refine Below.alloc ?_ (by first | omega | (simp; omega) | (simp; done) | (dsimp only; omega)) _) | (refine below_drewN ?_ _) | (refine Below.drew ?_) | (refine Below.trans ?_ (hb7.mono (by first | omega | (simp; omega) | (simp; done) | (dsimp only; omega)))))) hg1 (by simp; omega) (fun k hk => (ho.blkv k hk).1)
        · have hd2 : s.data.toList.drop (k + 1) = [] := List.drop_eq_nil_of_le (by simp; omega)
          rw [hd2] at hd
          have HN := Lib.hid (readI_last HRE.out hd hcc)
          have ne2 : ((k : Int) + 1 == (s.size : Int)) = true := by rw [beq_iff_eq]; omega
          go_wp2_with fail
          exact bodyPost_ret (v := .tuple #[.slice none 0 0, .bool false]) (by simp [results, Try.results121, go_sem]) rfl (by rw [HN.out]; exact RetOpt.none (by (with_reducible repeat' first | exact Below.refl _ _ | assumption | (refine Below.setCell ?_ (by first | omega | (simp; omega) | (simp; done) | (dsimp only; omega)) _) | (refine Below.alloc ?_ (by first | omega | (simp; omega) | (simp; done) | (dsimp only; omega)) _) | (refine below_drewN ?_ _) | (refine Below.drew ?_) | (refine Below.trans ?_ (hb5.mono (by first | omega | (simp; omega) | (simp; done) | (dsimp only; omega)))))))
      · rcases (Classical.em (ch = 121)) with hc | h121
        · -- an age
          have hcc : ch = 101 ∨ ch = 121 := .inr hc
          have hag : (if ch = 101 then (1 : Int) else 2) = 2 := by rw [hc]; rfl
          have n1 : ((ch.toNat : Int) == 101) = false := by rw [hc]; rfl
          have n2 : ((ch.toNat : Int) == 121) = true := by rw [hc]; rfl
          clear hc
          by_cases hlt2 : k + 1 < s.size
          · have hd2 := bytes_drop hlt2
            obtain ⟨dh, hdh⟩ : ∃ dh, s[k + 1] = dh := ⟨_, rfl⟩
            rw [hdh] at hd2
            rw [hd2] at hd
            have ne2 : ((k : Int) + 1 == (s.size : Int)) = false := by rw [beq_eq_false_iff_ne]; omega
            by_cases hk0 : kindOf dh = 0
            · have HN := Lib.hid (readI_no2 HRE.out hd hcc hk0)
              go_wp2_with (go_at_call 186; refine (indexByte_any _ _ _).mono ?_; rintro e w6 ⟨rfl, rfl⟩; rw [index_kd, hk0])
              exact bodyPost_ret (v := .tuple #[.slice none 0 0, .bool false]) (by simp [results, Try.results121, go_sem]) rfl (by rw [HN.out]; exact RetOpt.none (by (with_reducible repeat' first | exact Below.refl _ _ | assumption | (refine Below.setCell ?_ (by first | omega | (simp; omega) | (simp; done) | (dsimp only; omega)) _) | (refine Below.alloc ?_ (by first | omega | (simp; omega) | (simp; done) | (dsimp only; omega)) _) | (refine below_drewN ?_ _) | (refine Below.drew ?_) | (refine Below.trans ?_ (hb5.mono (by first | omega | (simp; omega) | (simp; done) | (dsimp only; omega)))))))
            · skip
              obtain ⟨kd, hkd⟩ : ∃ kd, kindOf dh = kd := ⟨_, rfl⟩
              have hin := kindOf_in dh
              rw [hkd] at hin
              have nk : (kd == 0) = false := by rw [beq_eq_false_iff_ne, ← hkd]; exact hk0
              have HY := Lib.hid (by have h := readI_yes2 HRE.out hd hcc hk0; rw [hkd, hag] at h; exact h)
              clear hk0
              go_upto_region 18 with (go_at_call 186; refine (indexByte_any _ _ _).mono ?_; rintro e w6 ⟨rfl, rfl⟩; rw [index_kd])
              generalize hW7 : (W5.setCell ⟨wr.heap.size, 1, none⟩ (.int .i64 2)).setCell ⟨wr.heap.size, 0, none⟩ (.int .i64 kd) = W7
              have r7 : Blk W7 wr.heap.size 72 #[.int .i64 kd, .int .i64 2] := by subst hW7; exact (r5.set 1 _).set 0 _
              have hb7 : Below w.heap.size w W7 := by subst hW7; (with_reducible repeat' first | exact Below.refl _ _ | assumption | (refine Below.setCell ?_ (by first | omega | (simp; omega) | (simp; done) | (dsimp only; omega)) _) | (refine Below.alloc ?_ (by first | omega | (simp; omega) | (simp; done) | (dsimp only; omega)) _) | (refine below_drewN ?_ _) | (refine Below.drew ?_) | (refine Below.trans ?_ (hb5.mono (by first | omega | (simp; omega) | (simp; done) | (dsimp only; omega)))))
              have z7 : W5.heap.size = W7.heap.size := by subst hW7; simp [World.setCell]
              have ho7 : EStep.OS W7 w.heap.size wr.heap.size (.slice A xs.length c) xs := by subst hW7; exact ho5.same (by (with_reducible repeat' first | exact Same.refl _ _ _ | assumption | (refine Same.setCell ?_ (by first | omega | (simp; omega) | (simp; done) | (dsimp only; omega)) _) | (refine Same.alloc ?_ (by first | omega | (simp; omega) | (simp; done) | (dsimp only; omega)) _) | (refine Same.drewN ?_ _) | (refine Same.drew ?_)))
              clear hW7
              have p0 := r7.cell (i := 0) rfl; have p1 := r7.cell (i := 1) rfl
              have lr7 : wr.heap.size < W7.heap.size := by omega
              go_wp2_with (at_builtin; refine wpList_app1 tyStepS A xs ⟨kd, 2⟩ [.int .i64 kd, .int .i64 2] ⟨W7.heap.size, 0, none⟩ 1 (lo := w.heap.size) (hi := wr.heap.size) (ho7.same (by (with_reducible repeat' first | exact Same.refl _ _ _ | assumption | (refine Same.setCell ?_ (by first | omega | (simp; omega) | (simp; done) | (dsimp only; omega)) _) | (refine Same.alloc ?_ (by first | omega | (simp; omega) | (simp; done) | (dsimp only; omega)) _) | (refine Same.drewN ?_ _) | (refine Same.drew ?_)))) rfl (by first | omega | (simp; omega) | (simp; done) | (dsimp only; omega)) z rfl _ _ rfl rfl rfl rfl (cell_row_at _ #[.int .i64 kd, .int .i64 2] _ _ rfl) (by simp; exact ⟨rfl, rfl⟩) (by omega) (by decide) (fun A' c' w1 ho1 hg1 hc1 hm1 => ?_))
              refine ⟨⟨k + 1 + 1, A', c', xs ++ [⟨kd, 2⟩], by simp; omega, by go_num, by simp, by simpa using ho1, by simp; omega, HY.out, ?_⟩, by simp [intOf]; omega⟩
              exact Below.grown (w := W7.alloc _) (by (with_reducible repeat' first | exact Below.refl _ _ | assumption | (refine Below.setCell ?_ (by first | omega | (simp; omega) | (simp; done) | (dsimp only; omega)) _) | (refine Below.alloc ?_ (by first | omega | (simp; omega) | (simp; done) | (dsimp only; omega)) _) | (refine below_drewN ?_ _) | (refine Below.drew ?_) | (refine Below.trans ?_ (hb7.mono (by first | omega | (simp; omega) | (simp; done) | (dsimp only; omega)))))) hg1 (by simp; omega) (fun k hk => (ho.blkv k hk).1)
          · have hd2 : s.data.toList.drop (k + 1) = [] := List.drop_eq_nil_of_le (by simp; omega)
            rw [hd2] at hd
            have HN := Lib.hid (readI_last HRE.out hd hcc)
            have ne2 : ((k : Int) + 1 == (s.size : Int)) = true := by rw [beq_iff_eq]; omega
            go_wp2_with fail
            exact bodyPost_ret (v := .tuple #[.slice none 0 0, .bool false]) (by simp [results, Try.results121, go_sem]) rfl (by rw [HN.out]; exact RetOpt.none (by (with_reducible repeat' first | exact Below.refl _ _ | assumption | (refine Below.setCell ?_ (by first | omega | (simp; omega) | (simp; done) | (dsimp only; omega)) _) | (refine Below.alloc ?_ (by first | omega | (simp; omega) | (simp; done) | (dsimp only; omega)) _) | (refine below_drewN ?_ _) | (refine Below.drew ?_) | (refine Below.trans ?_ (hb5.mono (by first | omega | (simp; omega) | (simp; done) | (dsimp only; omega)))))))
        · -- a step without an age
          have n1 : ((ch.toNat : Int) == 101) = false := byte_ne h101
          have n2 : ((ch.toNat : Int) == 121) = false := byte_ne h121
          have ne2 : ((k : Int) == (s.size : Int)) = false := by rw [beq_eq_false_iff_ne]; omega
          by_cases hk0 : kindOf ch = 0
          · have HN := Lib.hid (readI_no1 HRE.out hd h101 h121 hk0)
            go_wp2_with (go_at_call 186; refine (indexByte_any _ _ _).mono ?_; rintro e w6 ⟨rfl, rfl⟩; rw [index_kd, hk0])
            exact bodyPost_ret (v := .tuple #[.slice none 0 0, .bool false]) (by simp [results, Try.results121, go_sem]) rfl (by rw [HN.out]; exact RetOpt.none (by (with_reducible repeat' first | exact Below.refl _ _ | assumption | (refine Below.setCell ?_ (by first | omega | (simp; omega) | (simp; done) | (dsimp only; omega)) _) | (refine Below.alloc ?_ (by first | omega | (simp; omega) | (simp; done) | (dsimp only; omega)) _) | (refine below_drewN ?_ _) | (refine Below.drew ?_) | (refine Below.trans ?_ (hb5.mono (by first | omega | (simp; omega) | (simp; done) | (dsimp only; omega)))))))
          · skip
            obtain ⟨kd, hkd⟩ : ∃ kd, kindOf ch = kd := ⟨_, rfl⟩
            have hin := kindOf_in ch
            rw [hkd] at hin
            have nk : (kd == 0) = false := by rw [beq_eq_false_iff_ne, ← hkd]; exact hk0
            have HY := Lib.hid (by have h := readI_yes1 HRE.out hd h101 h121 hk0; rw [hkd] at h; exact h)
            clear hk0
            go_upto_region 18 with (go_at_call 186; refine (indexByte_any _ _ _).mono ?_; rintro e w6 ⟨rfl, rfl⟩; rw [index_kd])
            generalize hW7 : W5.setCell ⟨wr.heap.size, 0, none⟩ (.int .i64 kd) = W7
            have r7 : Blk W7 wr.heap.size 72 #[.int .i64 kd, .int .i64 0] := by subst hW7; exact r5.set 0 _
            have hb7 : Below w.heap.size w W7 := by subst hW7; (with_reducible repeat' first | exact Below.refl _ _ | assumption | (refine Below.setCell ?_ (by first | omega | (simp; omega) | (simp; done) | (dsimp only; omega)) _) | (refine Below.alloc ?_ (by first | omega | (simp; omega) | (simp; done) | (dsimp only; omega)) _) | (refine below_drewN ?_ _) | (refine Below.drew ?_) | (refine Below.trans ?_ (hb5.mono (by first | omega | (simp; omega) | (simp; done) | (dsimp only; omega)))))
            have z7 : W5.heap.size = W7.heap.size := by subst hW7; simp [World.setCell]
            have ho7 : EStep.OS W7 w.heap.size wr.heap.size (.slice A xs.length c) xs := by subst hW7; exact ho5.same (by (with_reducible repeat' first | exact Same.refl _ _ _ | assumption | (refine Same.setCell ?_ (by first | omega | (simp; omega) | (simp; done) | (dsimp only; omega)) _) | (refine Same.alloc ?_ (by first | omega | (simp; omega) | (simp; done) | (dsimp only; omega)) _) | (refine Same.drewN ?_ _) | (refine Same.drew ?_)))
            clear hW7
            have p0 := r7.cell (i := 0) rfl; have p1 := r7.cell (i := 1) rfl
            have lr7 : wr.heap.size < W7.heap.size := by omega
            go_wp2_with (at_builtin; refine wpList_app1 tyStepS A xs ⟨kd, 0⟩ [.int .i64 kd, .int .i64 0] ⟨W7.heap.size, 0, none⟩ 1 (lo := w.heap.size) (hi := wr.heap.size) (ho7.same (by (with_reducible repeat' first | exact Same.refl _ _ _ | assumption | (refine Same.setCell ?_ (by first | omega | (simp; omega) | (simp; done) | (dsimp only; omega)) _) | (refine Same.alloc ?_ (by first | omega | (simp; omega) | (simp; done) | (dsimp only; omega)) _) | (refine Same.drewN ?_ _) | (refine Same.drew ?_)))) rfl (by first | omega | (simp; omega) | (simp; done) | (dsimp only; omega)) z rfl _ _ rfl rfl rfl rfl (cell_row_at _ #[.int .i64 kd, .int .i64 0] _ _ rfl) (by simp; exact ⟨rfl, rfl⟩) (by omega) (by decide) (fun A' c' w1 ho1 hg1 hc1 hm1 => ?_))
            refine ⟨⟨k + 1, A', c', xs ++ [⟨kd, 0⟩], by simp; omega, by go_num, by simp, by simpa using ho1, by simp; omega, HY.out, ?_⟩, by simp [intOf]; omega⟩
            exact Below.grown (w := W7.alloc _) (by (with_reducible repeat' first | exact Below.refl _ _ | assumption | (refine Below.setCell ?_ (by first | omega | (simp; omega) | (simp; done) | (dsimp only; omega)) _) | (refine Below.alloc ?_ (by first | omega | (simp; omega) | (simp; done) | (dsimp only; omega)) _) | (refine below_drewN ?_ _) | (refine Below.drew ?_) | (refine Below.trans ?_ (hb7.mono (by first | omega | (simp; omega) | (simp; done) | (dsimp only; omega)))))) hg1 (by simp; omega) (fun k hk => (ho.blkv k hk).1)
    · obtain rfl : k = s.size := by omega
      have hre := HRE.out
      rw [List.drop_eq_nil_of_le (by simp), readI_nil] at hre
      have HN := Lib.hid (show readI s.data.toList = some xs by rw [← hre]; simp)
      go_wp2
      exact bodyPost_ret (v := .tuple #[.slice A xs.length c, .bool true]) (by simp [results, Try.results121, go_sem]) rfl (by rw [HN.out]; exact ⟨A, c, rfl, ho, hb⟩)
end Go.Proofs.Ytnnjilkjjdiblaa

/-! ## ParseJ -/
namespace Go.Proofs.Ytnnjilkjjdiblaa
set_option maxRecDepth 100000
open Go.RowKit

theorem parseM_dot {s : ByteArray} (h : (cutM s).2.data.toList = [46]) : parseM s = (⟨(cutM s).1, []⟩, true) := by rw [parseM, if_pos h]
theorem parseM_none {s : ByteArray} (h : (cutM s).2.data.toList ≠ [46]) (h' : readI (cutM s).2.data.toList = none) : parseM s = (zeroTyp, false) := by rw [parseM, if_neg h, h']
theorem parseM_bad {s : ByteArray} {xs : List Step} (h : (cutM s).2.data.toList ≠ [46]) (h' : readI (cutM s).2.data.toList = some xs) (hb : xs = [] ∨ typeOk ⟨(cutM s).1, xs⟩ = false) : parseM s = (zeroTyp, false) := by
  rw [parseM, if_neg h, h']; simp only; rw [if_pos hb]
theorem parseM_good {s : ByteArray} {xs : List Step} (h : (cutM s).2.data.toList ≠ [46]) (h' : readI (cutM s).2.data.toList = some xs) (hn : xs ≠ []) (ht : typeOk ⟨(cutM s).1, xs⟩ = true) : parseM s = (⟨(cutM s).1, xs⟩, true) := by
  rw [parseM, if_neg h, h']; simp only; rw [if_neg]; rintro (e | e); exact hn e; rw [ht] at e; cases e

set_option maxHeartbeats 4000000 in
theorem implParseType_any (s : ByteArray) (w : World) (hs : s.size ≤ 1048576) : Calls Try.prog 38 #[.string s] w (RetTypB w (parseM s)) := by
  obtain ⟨eg, heg⟩ : ∃ eg, (cutM s).1 = eg := ⟨_, rfl⟩
  obtain ⟨r, hr⟩ : ∃ r, (cutM s).2 = r := ⟨_, rfl⟩
  have hrs : r.size ≤ 1048576 := by
    rw [← hr]; unfold cutM
    split
    · simp; omega
    · split
      · simp; omega
      · exact hs
  have HC := Lib.hid (show cutM s = (eg, r) by rw [← heg, ← hr])
  go_enter Try.func38, Try.ntmps38
  go_upto_region 2 with (go_at_call 120; refine (cutEgo_any _ _).mono ?_; rintro e w1 ⟨rfl, hb1⟩; rw [HC.out])
  have hbw : Below w.heap.size w w1 := by (with_reducible repeat' first | exact Below.refl _ _ | assumption | (refine Below.setCell ?_ (by first | omega | (simp; omega) | (simp; done) | (dsimp only; omega)) _) | (refine Below.alloc ?_ (by first | omega | (simp; omega) | (simp; done) | (dsimp only; omega)) _) | (refine below_drewN ?_ _) | (refine Below.drew ?_) | (refine Below.trans ?_ (hb1.mono (by first | omega | (simp; omega) | (simp; done) | (dsimp only; omega)))))
  have r1 : Blk w1 w.heap.size 30 #[.int .i64 0, .slice none 0 0] := (Blk.new w rfl).below hb1 (by simp)
  have g0 := r1.cell (i := 0) rfl; have g1 := r1.cell (i := 1) rfl; have f0 := r1.free 0; have f1 := r1.free 1
  have lr := r1.lt
  clear hb1 heg
  have hrd : r.toList = r.data.toList := by rw [ByteArray.toList_eq]
  by_cases hd : r.data.toList = [46]
  · have nd : (r.toList == [46]) = true := by rw [hrd, hd]; rfl
    have HN := Lib.hid (show parseM s = (⟨eg, []⟩, true) by rw [parseM_dot (by rw [hr]; exact hd), HC.out])
    clear hd hrd hr
    go_wp2_with fail
    have R := (r1.set 0 (.int .i64 eg)).set 1 (.slice none 0 0)
    rw [HN.out]
    exact bodyPost_ret (v := .tuple #[.agg #[.int .i64 eg, .slice none 0 0], .bool true]) (by simp [results, Try.results38, go_sem, R.cell (i := 0) rfl, R.cell (i := 1) rfl]) rfl ⟨none, 0, rfl, Elem.OS.nil, by (with_reducible repeat' first | exact Below.refl _ _ | assumption | (refine Below.setCell ?_ (by first | omega | (simp; omega) | (simp; done) | (dsimp only; omega)) _) | (refine Below.alloc ?_ (by first | omega | (simp; omega) | (simp; done) | (dsimp only; omega)) _) | (refine below_drewN ?_ _) | (refine Below.drew ?_) | (refine Below.trans ?_ (hbw.mono (by first | omega | (simp; omega) | (simp; done) | (dsimp only; omega)))))⟩
  · have nd : (r.toList == [46]) = false := by rw [hrd]; simpa using hd
    have hd' : (cutM s).2.data.toList ≠ [46] := by rw [hr]; exact hd
    clear hd hrd
    cases hri : readI r.data.toList with
    | none =>
      have HRI := Lib.hid hri
      have HN := Lib.hid (parseM_none hd' (by rw [hr]; exact hri))
      clear hri hd' hr
      go_wp2_with (go_at_call 121; (have H := readSteps_any r w1 hrs); rw [HRI.out] at H; refine H.mono ?_; rintro e w2 ⟨A2, c2, rfl, o2, hb2⟩; simp only [Option.getD, Option.isSome] at o2 ⊢; (have r2 := r1.below hb2 r1.lt); (have g0 := r2.cell (i := 0) rfl); (have g1 := r2.cell (i := 1) rfl); (have f0 := r2.free 0); (have f1 := r2.free 1); (have lr2 := r2.lt); (have z2 := hb2.size))
      have R := ((r2.set 0 (.int .i64 0)).set 1 (.slice none 0 0)).alloc (.cells #[.int .i64 eg, .slice A2 0 c2] 30)
      rw [HN.out]
      exact bodyPost_ret (v := .tuple #[.agg #[.int .i64 0, .slice none 0 0], .bool false]) (by simp [results, Try.results38, go_sem, R.cell (i := 0) rfl, R.cell (i := 1) rfl]) rfl ⟨none, 0, rfl, Elem.OS.nil, by (with_reducible repeat' first | exact Below.refl _ _ | assumption | (refine Below.setCell ?_ (by first | omega | (simp; omega) | (simp; done) | (dsimp only; omega)) _) | (refine Below.alloc ?_ (by first | omega | (simp; omega) | (simp; done) | (dsimp only; omega)) _) | (refine below_drewN ?_ _) | (refine Below.drew ?_) | (refine Below.trans ?_ (hb2.mono (by first | omega | (simp; omega) | (simp; done) | (dsimp only; omega)))) | (refine Below.trans ?_ (hbw.mono (by first | omega | (simp; omega) | (simp; done) | (dsimp only; omega)))))⟩
    | some xs =>
      have HRI := Lib.hid hri
      by_cases h0 : xs = []
      · have HN := Lib.hid (parseM_bad hd' (by rw [hr]; exact hri) (.inl h0))
        subst h0
        clear hri hd' hr
        go_wp2_with (go_at_call 121; (have H := readSteps_any r w1 hrs); rw [HRI.out] at H; refine H.mono ?_; rintro e w2 ⟨A2, c2, rfl, o2, hb2⟩; simp only [Option.getD, Option.isSome] at o2 ⊢; (have r2 := r1.below hb2 r1.lt); (have g0 := r2.cell (i := 0) rfl); (have g1 := r2.cell (i := 1) rfl); (have f0 := r2.free 0); (have f1 := r2.free 1); (have lr2 := r2.lt); (have z2 := hb2.size))
        have R := ((r2.set 0 (.int .i64 0)).set 1 (.slice none 0 0)).alloc (.cells #[.int .i64 eg, .slice A2 0 c2] 30)
        rw [HN.out]
        exact bodyPost_ret (v := .tuple #[.agg #[.int .i64 0, .slice none 0 0], .bool false]) (by simp [results, Try.results38, go_sem, R.cell (i := 0) rfl, R.cell (i := 1) rfl]) rfl ⟨none, 0, rfl, Elem.OS.nil, by (with_reducible repeat' first | exact Below.refl _ _ | assumption | (refine Below.setCell ?_ (by first | omega | (simp; omega) | (simp; done) | (dsimp only; omega)) _) | (refine Below.alloc ?_ (by first | omega | (simp; omega) | (simp; done) | (dsimp only; omega)) _) | (refine below_drewN ?_ _) | (refine Below.drew ?_) | (refine Below.trans ?_ (hb2.mono (by first | omega | (simp; omega) | (simp; done) | (dsimp only; omega)))) | (refine Below.trans ?_ (hbw.mono (by first | omega | (simp; omega) | (simp; done) | (dsimp only; omega)))))⟩
      · have n0 : ((xs.length : Int) == 0) = false := by
          rw [beq_eq_false_iff_ne]
          intro e
          exact h0 (List.eq_nil_of_length_eq_zero (by omega))
        cases ht : typeOk ⟨eg, xs⟩ with
        | false =>
          have HT := Lib.hid ht
          have HN := Lib.hid (parseM_bad hd' (by rw [hr]; exact hri) (.inr (by rw [HC.out]; exact ht)))
          clear hri hd' hr ht h0
          go_wp2_with (first
            | (go_at_call 121; (have H := readSteps_any r w1 hrs); rw [HRI.out] at H; refine H.mono ?_; rintro e w2 ⟨A2, c2, rfl, o2, hb2⟩; simp only [Option.getD, Option.isSome] at o2 ⊢; (have r2 := r1.below hb2 r1.lt); (have g0 := r2.cell (i := 0) rfl); (have g1 := r2.cell (i := 1) rfl); (have f0 := r2.free 0); (have f1 := r2.free 1); (have lr2 := r2.lt); (have z2 := hb2.size))
            | (go_at_call 86; (with_reducible refine (implIsType_any eg A2 c2 w1.heap.size w2.heap.size xs _ (o2.read.as.same (by (with_reducible repeat' first | exact Same.refl _ _ _ | assumption | (refine Same.setCell ?_ (by first | omega | (simp; omega) | (simp; done) | (dsimp only; omega)) _) | (refine Same.alloc ?_ (by first | omega | (simp; omega) | (simp; done) | (dsimp only; omega)) _) | (refine Same.drewN ?_ _) | (refine Same.drew ?_)))) (by first | omega | (simp; omega) | (simp; done) | (dsimp only; omega))).mono ?_); rintro e w3 ⟨rfl, hb3⟩; simp only [HT.out]; (obtain ⟨hb3c, hb3f⟩ := bcell hb3); (have hb3z := hb3.size); (try simp only [szs] at hb3c hb3f hb3z); (have r3 := (r2.alloc (.cells #[.int .i64 eg, .slice A2 xs.length c2] 30)).below hb3 (by simp; omega)); (have g0 := r3.cell (i := 0) rfl); (have g1 := r3.cell (i := 1) rfl); (have f0 := r3.free 0); (have f1 := r3.free 1); (have lr3 := r3.lt); (have lq3 : w2.heap.size < w3.heap.size := by omega)))
          have R := (r3.set 0 (.int .i64 0)).set 1 (.slice none 0 0)
          rw [HN.out]
          exact bodyPost_ret (v := .tuple #[.agg #[.int .i64 0, .slice none 0 0], .bool false]) (by simp [results, Try.results38, go_sem, R.cell (i := 0) rfl, R.cell (i := 1) rfl]) rfl ⟨none, 0, rfl, Elem.OS.nil, by (with_reducible repeat' first | exact Below.refl _ _ | assumption | (refine Below.setCell ?_ (by first | omega | (simp; omega) | (simp; done) | (dsimp only; omega)) _) | (refine Below.alloc ?_ (by first | omega | (simp; omega) | (simp; done) | (dsimp only; omega)) _) | (refine below_drewN ?_ _) | (refine Below.drew ?_) | (refine Below.trans ?_ (hb3.mono (by first | omega | (simp; omega) | (simp; done) | (dsimp only; omega)))) | (refine Below.trans ?_ (hb2.mono (by first | omega | (simp; omega) | (simp; done) | (dsimp only; omega)))) | (refine Below.trans ?_ (hbw.mono (by first | omega | (simp; omega) | (simp; done) | (dsimp only; omega)))))⟩
        | true =>
          have HT := Lib.hid ht
          have HN := Lib.hid (show parseM s = (⟨eg, xs⟩, true) by rw [parseM_good hd' (by rw [hr]; exact hri) h0 (by rw [HC.out]; exact ht), HC.out])
          clear hri hd' hr ht h0
          go_wp2_with (first
            | (go_at_call 121; (have H := readSteps_any r w1 hrs); rw [HRI.out] at H; refine H.mono ?_; rintro e w2 ⟨A2, c2, rfl, o2, hb2⟩; simp only [Option.getD, Option.isSome] at o2 ⊢; (have r2 := r1.below hb2 r1.lt); (have g0 := r2.cell (i := 0) rfl); (have g1 := r2.cell (i := 1) rfl); (have f0 := r2.free 0); (have f1 := r2.free 1); (have lr2 := r2.lt); (have z2 := hb2.size))
            | (go_at_call 86; (with_reducible refine (implIsType_any eg A2 c2 w1.heap.size w2.heap.size xs _ (o2.read.as.same (by (with_reducible repeat' first | exact Same.refl _ _ _ | assumption | (refine Same.setCell ?_ (by first | omega | (simp; omega) | (simp; done) | (dsimp only; omega)) _) | (refine Same.alloc ?_ (by first | omega | (simp; omega) | (simp; done) | (dsimp only; omega)) _) | (refine Same.drewN ?_ _) | (refine Same.drew ?_)))) (by first | omega | (simp; omega) | (simp; done) | (dsimp only; omega))).mono ?_); rintro e w3 ⟨rfl, hb3⟩; simp only [HT.out]; (obtain ⟨hb3c, hb3f⟩ := bcell hb3); (have hb3z := hb3.size); (try simp only [szs] at hb3c hb3f hb3z); (have r3 := (r2.alloc (.cells #[.int .i64 eg, .slice A2 xs.length c2] 30)).below hb3 (by simp; omega)); (have g0 := r3.cell (i := 0) rfl); (have g1 := r3.cell (i := 1) rfl); (have f0 := r3.free 0); (have f1 := r3.free 1); (have lr3 := r3.lt); (have lq3 : w2.heap.size < w3.heap.size := by omega)))
          have R := (r3.set 0 (.int .i64 eg)).set 1 (.slice A2 xs.length c2)
          rw [HN.out]
          exact bodyPost_ret (v := .tuple #[.agg #[.int .i64 eg, .slice A2 xs.length c2], .bool true]) (by simp [results, Try.results38, go_sem, R.cell (i := 0) rfl, R.cell (i := 1) rfl]) rfl ⟨A2, c2, rfl, (o2.same (by (with_reducible repeat' first | exact Same.refl _ _ _ | assumption | (refine Same.setCell ?_ (by first | omega | (simp; omega) | (simp; done) | (dsimp only; omega)) _) | (refine Same.alloc ?_ (by first | omega | (simp; omega) | (simp; done) | (dsimp only; omega)) _) | (refine Same.drewN ?_ _) | (refine Same.drew ?_) | (refine Same.trans ?_ (Same.of_below hb3 (by first | omega | (simp; omega) | (simp; done) | (dsimp only; omega))))))).mono (by first | omega | (simp; omega) | (simp; done) | (dsimp only; omega)) (by first | omega | (simp; omega) | (simp; done) | (dsimp only; omega)), by (with_reducible repeat' first | exact Below.refl _ _ | assumption | (refine Below.setCell ?_ (by first | omega | (simp; omega) | (simp; done) | (dsimp only; omega)) _) | (refine Below.alloc ?_ (by first | omega | (simp; omega) | (simp; done) | (dsimp only; omega)) _) | (refine below_drewN ?_ _) | (refine Below.drew ?_) | (refine Below.trans ?_ (hb3.mono (by first | omega | (simp; omega) | (simp; done) | (dsimp only; omega)))) | (refine Below.trans ?_ (hb2.mono (by first | omega | (simp; omega) | (simp; done) | (dsimp only; omega)))) | (refine Below.trans ?_ (hbw.mono (by first | omega | (simp; omega) | (simp; done) | (dsimp only; omega)))))⟩
end Go.Proofs.Ytnnjilkjjdiblaa

/-! ## ParseS -/
namespace Go.Proofs.Ytnnjilkjjdiblaa
set_option maxRecDepth 100000
open Go.RowKit

end Go.Proofs.Ytnnjilkjjdiblaa
