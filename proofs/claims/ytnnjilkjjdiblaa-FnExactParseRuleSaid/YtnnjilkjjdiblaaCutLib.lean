/-
  strings.Cut and strings.CutSuffix: what they return. The layings (lays145, laysM145) are what lay-plain.mjs printed for this seat.
-/
import Derived.Test.YtnnjilkjjdiblaaGParse
import Derived.Shelf.Strings.Cut
import Derived.Shelf.Strings.Shaped
import Derived.Shelf.LaysM
namespace Go.Proofs.Ytnnjilkjjdiblaa
set_option maxRecDepth 100000
open Go.RowKit Go.Shelf

def lays145_ren : Go.Shelf.Ren := ⟨fun | 145 => 126 | 220 => 190 | 219 => 216 | 217 => 215 | 225 => 228 | 224 => 229 | 267 => 230 | 266 => 227 | 314 => 250 | n => n, fun | 9 => 9 | 4 => 4 | 59 => 141 | 3 => 3 | 5 => 5 | 46 => 214 | 146 => 233 | 51 => 223 | n => n, fun | 1 => 0 | n => n⟩
theorem lays145 : Go.Proofs.Lays.n145 Try.prog lays145_ren := {
  mixed := by kernel_rfl
  f145 := Try.func126.trans (congrArg some (by kernel_rfl))
  f217 := Try.func215.trans (congrArg some (by kernel_rfl))
  f219 := Try.func216.trans (congrArg some (by kernel_rfl))
  f220 := Try.func190.trans (congrArg some (by kernel_rfl))
  f224 := Try.func229.trans (congrArg some (by kernel_rfl))
  f225 := Try.func228.trans (congrArg some (by kernel_rfl))
  f266 := Try.func227.trans (congrArg some (by kernel_rfl))
  f267 := Try.func230.trans (congrArg some (by kernel_rfl))
  f314 := Try.func250.trans (congrArg some (by kernel_rfl))
  t3 := Try.underlying3
  a3 := Try.isAgg3
  z3 := Try.sizeOf3
  v3 := Try.zeroValue3
  t4 := Try.underlying4
  a4 := Try.isAgg4
  z4 := Try.sizeOf4
  v4 := Try.zeroValue4
  t5 := Try.underlying5
  a5 := Try.isAgg5
  z5 := Try.sizeOf5
  v5 := Try.zeroValue5
  t9 := Try.underlying9
  a9 := Try.isAgg9
  z9 := Try.sizeOf9
  v9 := Try.zeroValue9
  t46 := Try.underlying214
  a46 := Try.isAgg214
  z46 := Try.sizeOf214
  v46 := Try.zeroValue214
  t51 := Try.underlying223
  a51 := Try.isAgg223
  z51 := Try.sizeOf223
  v51 := Try.zeroValue223
  t59 := Try.underlying141
  a59 := Try.isAgg141
  z59 := Try.sizeOf141
  v59 := Try.zeroValue141
  t146 := Try.underlying233
  a146 := Try.isAgg233
  z146 := Try.sizeOf233
  v146 := Try.zeroValue233
  g1 := by kernel_rfl }
def laysM145_ren : Go.Shelf.Ren := ⟨fun | 145 => 126 | 220 => 190 | 219 => 216 | 217 => 215 | 225 => 228 | 224 => 229 | 267 => 230 | 266 => 227 | 314 => 250 | n => n, fun | 9 => 9 | 4 => 4 | 59 => 141 | 3 => 3 | 5 => 5 | 46 => 214 | 146 => 233 | 51 => 223 | n => n, fun | 1 => 0 | n => n⟩
theorem laysM145 : Go.Proofs.LaysM.n145 Try.prog laysM145_ren := {
  mixed := by kernel_rfl
  f145 := Try.func126.trans (congrArg some (by kernel_rfl))
  f217 := Try.func215.trans (congrArg some (by kernel_rfl))
  f219 := Try.func216.trans (congrArg some (by kernel_rfl))
  f220 := Try.func190.trans (congrArg some (by kernel_rfl))
  f224 := Try.func229.trans (congrArg some (by kernel_rfl))
  f225 := Try.func228.trans (congrArg some (by kernel_rfl))
  f266 := Try.func227.trans (congrArg some (by kernel_rfl))
  f267 := Try.func230.trans (congrArg some (by kernel_rfl))
  f314 := Try.func250.trans (congrArg some (by kernel_rfl))
  t3 := Try.underlying3
  a3 := Try.isAgg3
  z3 := Try.sizeOf3
  v3 := Try.zeroValue3
  t4 := Try.underlying4
  a4 := Try.isAgg4
  z4 := Try.sizeOf4
  v4 := Try.zeroValue4
  t5 := Try.underlying5
  a5 := Try.isAgg5
  z5 := Try.sizeOf5
  v5 := Try.zeroValue5
  t9 := Try.underlying9
  a9 := Try.isAgg9
  z9 := Try.sizeOf9
  v9 := Try.zeroValue9
  t46 := Try.underlying214
  a46 := Try.isAgg214
  z46 := Try.sizeOf214
  v46 := Try.zeroValue214
  t51 := Try.underlying223
  a51 := Try.isAgg223
  z51 := Try.sizeOf223
  v51 := Try.zeroValue223
  t59 := Try.underlying141
  a59 := Try.isAgg141
  z59 := Try.sizeOf141
  v59 := Try.zeroValue141
  t146 := Try.underlying233
  a146 := Try.isAgg233
  z146 := Try.sizeOf233
  v146 := Try.zeroValue233
  g1 := by kernel_rfl
  i3 := by kernel_rfl
  i4 := by kernel_rfl
  i5 := by kernel_rfl
  i9 := by kernel_rfl
  i46 := by kernel_rfl
  i51 := by kernel_rfl
  i59 := by kernel_rfl
  i146 := by kernel_rfl
  m1 := by kernel_rfl
  s1_3 := fun w h => Go.Proofs.cell_of_shapedOpen_int (zero := #[.int .i64 0]) (t := 3) h (of_decide_eq_true (by kernel_rfl)) (by kernel_rfl) rfl (by kernel_rfl) (by kernel_rfl) Try.underlying3 }

theorem maxLen_int (w : World) (h : w.ShapedOpen Try.prog) : ∃ m, w.cell? ⟨0, 0, none⟩ = some (.int .i64 m) := laysM145.s1_3 w h
theorem cut_any (s sep : ByteArray) (m : Int) (w : World) (hs : s.size < 4294967281) (hm : w.cell? ⟨0, 0, none⟩ = some (.int .i64 m)) :
    Calls Try.prog 126 #[.string s, .string sep] w fun e w' => e = .returned (.tuple #[.string ⟨(Lib.cut s.data.toList sep.data.toList).1.toArray⟩, .string ⟨(Lib.cut s.data.toList sep.data.toList).2.1.toArray⟩, .bool (Lib.cut s.data.toList sep.data.toList).2.2]) ∧ ∃ n, w' = w.drewN n :=
  Any.strings_Cut lays145 s sep m w hs hm

set_option maxHeartbeats 1000000 in
theorem cutSuffix_any (s p : ByteArray) (w : World) (hs : s.size ≤ 1048576) (hp : p.size ≤ 1048576) :
    Calls Try.prog 128 #[.string s, .string p] w fun e w' => e = .returned (.tuple #[.string ⟨(Lib.trimSuffix s.data.toList p.data.toList).toArray⟩, .bool (Lib.hasSuffix s.data.toList p.data.toList)]) ∧ w = w' := by
  go_enter Try.func128, Try.ntmps128
  by_cases h1 : p.size ≤ s.size
  · have h1' : (p.size : Int) ≤ s.size := by omega
    have hw : IntKind.i64.wrap ((s.size : Int) - p.size) = ((s.size - p.size : Nat) : Int) := by rw [IntKind.wrap_i64]; omega
    cases h2 : ((s.extract (s.size - p.size) s.size).toList == p.toList) with
    | true =>
      have h3 : (decide (p.size ≤ s.size) && ((s.extract (s.size - p.size) s.size).toList == p.toList)) = true := by rw [h2, decide_eq_true h1]; rfl
      have HT := Lib.hid (Lib.trimSuffix_hit s p h1 h2)
      rw [Lib.hasSuffix_raw] at h3
      have HS := Lib.hid h3
      clear h3
      go_wp2
      go_ret2
      refine ⟨?_, rfl⟩
      rw [HT.out, HS.out]; rfl
    | false =>
      have h3 : (decide (p.size ≤ s.size) && ((s.extract (s.size - p.size) s.size).toList == p.toList)) = false := by rw [h2, Bool.and_false]
      have HT := Lib.hid (Lib.trimSuffix_miss s p h3)
      rw [Lib.hasSuffix_raw] at h3
      have HS := Lib.hid h3
      clear h3
      go_wp2
      go_ret2
      refine ⟨?_, rfl⟩
      rw [HT.out, HS.out]; rfl
  · have h3 : (decide (p.size ≤ s.size) && ((s.extract (s.size - p.size) s.size).toList == p.toList)) = false := by rw [decide_eq_false h1, Bool.false_and]
    have HT := Lib.hid (Lib.trimSuffix_miss s p h3)
    rw [Lib.hasSuffix_raw] at h3
    have HS := Lib.hid h3
    clear h3
    go_wp2
    go_ret2
    refine ⟨?_, rfl⟩
    rw [HT.out, HS.out]; rfl
end Go.Proofs.Ytnnjilkjjdiblaa
