/-
  sort.Slice: the laying at this seat (as lay-plain.mjs printed it); reverseRange, breakPatterns.
-/
import Derived.Test.YthpcippgifmabaaSortA
import Derived.Shelf.GgSortFunc.Small
import Derived.Shelf.GgSortFunc.Compose
import Derived.Shelf.SlSortFunc.BreakPatterns
namespace Go.Proofs.Ythpcippgifmabaa
set_option maxRecDepth 100000
open Go.RowKit Go.Shelf
open Go.Sort (Holds swp reverseRange breakPatterns)
variable {m9 : Nat}

def laysGg6_ren : Go.Shelf.Ren := ⟨fun | 6 => 53 | 10 => 77 | 11 => 78 | 12 => 79 | 13 => 80 | 14 => 81 | 24 => 95 | 25 => 96 | 26 => 97 | 27 => 98 | 28 => 99 | 29 => 100 | 30 => 101 | 31 => 102 | 32 => 103 | 33 => 104 | 34 => 108 | 35 => 109 | 36 => 110 | 37 => 111 | 38 => 112 | 39 => 113 | n => n, fun | 20 => 20 | 26 => 68 | 35 => 94 | 0 => 0 | 37 => 96 | 3 => 3 | 41 => 100 | 44 => 103 | 49 => 110 | 51 => 112 | 4 => 4 | 54 => 115 | 53 => 114 | 58 => 119 | 5 => 5 | 9 => 9 | 60 => 123 | 64 => 127 | 66 => 129 | 67 => 130 | 17 => 17 | 32 => 91 | 33 => 92 | 82 => 145 | 12 => 12 | 75 => 138 | 76 => 139 | 77 => 140 | 78 => 141 | 79 => 142 | 80 => 143 | n => n, fun | n => n⟩
theorem laysGg6 : Go.Proofs.LaysGg.n6 Try.prog laysGg6_ren := {
  mixed := by kernel_rfl
  f6 := Try.func53.trans (congrArg some (by kernel_rfl))
  f10 := Try.func77.trans (congrArg some (by kernel_rfl))
  f11 := Try.func78.trans (congrArg some (by kernel_rfl))
  f12 := Try.func79.trans (congrArg some (by kernel_rfl))
  f13 := Try.func80.trans (congrArg some (by kernel_rfl))
  f14 := Try.func81.trans (congrArg some (by kernel_rfl))
  f24 := Try.func95.trans (congrArg some (by kernel_rfl))
  f25 := Try.func96.trans (congrArg some (by kernel_rfl))
  f26 := Try.func97.trans (congrArg some (by kernel_rfl))
  f27 := Try.func98.trans (congrArg some (by kernel_rfl))
  f28 := Try.func99.trans (congrArg some (by kernel_rfl))
  f29 := Try.func100.trans (congrArg some (by kernel_rfl))
  f30 := Try.func101.trans (congrArg some (by kernel_rfl))
  f31 := Try.func102.trans (congrArg some (by kernel_rfl))
  f32 := Try.func103.trans (congrArg some (by kernel_rfl))
  f33 := Try.func104.trans (congrArg some (by kernel_rfl))
  f34 := Try.func108.trans (congrArg some (by kernel_rfl))
  f35 := Try.func109.trans (congrArg some (by kernel_rfl))
  f36 := Try.func110.trans (congrArg some (by kernel_rfl))
  f37 := Try.func111.trans (congrArg some (by kernel_rfl))
  f38 := Try.func112.trans (congrArg some (by kernel_rfl))
  f39 := Try.func113.trans (congrArg some (by kernel_rfl))
  t0 := Try.underlying0
  a0 := Try.isAgg0
  z0 := Try.sizeOf0
  v0 := Try.zeroValue0
  i0 := by kernel_rfl
  t3 := Try.underlying3
  a3 := Try.isAgg3
  z3 := Try.sizeOf3
  v3 := Try.zeroValue3
  i3 := by kernel_rfl
  t4 := Try.underlying4
  a4 := Try.isAgg4
  z4 := Try.sizeOf4
  v4 := Try.zeroValue4
  i4 := by kernel_rfl
  t5 := Try.underlying5
  a5 := Try.isAgg5
  z5 := Try.sizeOf5
  v5 := Try.zeroValue5
  i5 := by kernel_rfl
  t9 := Try.underlying9
  a9 := Try.isAgg9
  z9 := Try.sizeOf9
  v9 := Try.zeroValue9
  i9 := by kernel_rfl
  t12 := Try.underlying12
  a12 := Try.isAgg12
  z12 := Try.sizeOf12
  v12 := Try.zeroValue12
  i12 := by kernel_rfl
  t17 := Try.underlying17
  a17 := Try.isAgg17
  z17 := Try.sizeOf17
  v17 := Try.zeroValue17
  i17 := by kernel_rfl
  t20 := Try.underlying20
  a20 := Try.isAgg20
  z20 := Try.sizeOf20
  v20 := Try.zeroValue20
  i20 := by kernel_rfl
  t26 := Try.underlying68
  a26 := Try.isAgg68
  z26 := Try.sizeOf68
  v26 := Try.zeroValue68
  i26 := by kernel_rfl
  t32 := Try.underlying91
  a32 := Try.isAgg91
  z32 := Try.sizeOf91
  v32 := Try.zeroValue91
  i32 := by kernel_rfl
  t33 := Try.underlying92
  a33 := Try.isAgg92
  z33 := Try.sizeOf92
  v33 := Try.zeroValue92
  i33 := by kernel_rfl
  t35 := Try.underlying94
  a35 := Try.isAgg94
  z35 := Try.sizeOf94
  v35 := Try.zeroValue94
  i35 := by kernel_rfl
  t37 := Try.underlying96
  a37 := Try.isAgg96
  z37 := Try.sizeOf96
  v37 := Try.zeroValue96
  i37 := by kernel_rfl
  t41 := Try.underlying100
  a41 := Try.isAgg100
  z41 := Try.sizeOf100
  v41 := Try.zeroValue100
  i41 := by kernel_rfl
  t44 := Try.underlying103
  a44 := Try.isAgg103
  z44 := Try.sizeOf103
  v44 := Try.zeroValue103
  i44 := by kernel_rfl
  t49 := Try.underlying110
  a49 := Try.isAgg110
  z49 := Try.sizeOf110
  v49 := Try.zeroValue110
  i49 := by kernel_rfl
  t51 := Try.underlying112
  a51 := Try.isAgg112
  z51 := Try.sizeOf112
  v51 := Try.zeroValue112
  i51 := by kernel_rfl
  t53 := Try.underlying114
  a53 := Try.isAgg114
  z53 := Try.sizeOf114
  v53 := Try.zeroValue114
  i53 := by kernel_rfl
  t54 := Try.underlying115
  a54 := Try.isAgg115
  z54 := Try.sizeOf115
  v54 := Try.zeroValue115
  i54 := by kernel_rfl
  t58 := Try.underlying119
  a58 := Try.isAgg119
  z58 := Try.sizeOf119
  v58 := Try.zeroValue119
  i58 := by kernel_rfl
  t60 := Try.underlying123
  a60 := Try.isAgg123
  z60 := Try.sizeOf123
  v60 := Try.zeroValue123
  i60 := by kernel_rfl
  t64 := Try.underlying127
  a64 := Try.isAgg127
  z64 := Try.sizeOf127
  v64 := Try.zeroValue127
  i64 := by kernel_rfl
  t66 := Try.underlying129
  a66 := Try.isAgg129
  z66 := Try.sizeOf129
  v66 := Try.zeroValue129
  i66 := by kernel_rfl
  t67 := Try.underlying130
  a67 := Try.isAgg130
  z67 := Try.sizeOf130
  v67 := Try.zeroValue130
  i67 := by kernel_rfl
  t75 := Try.underlying138
  a75 := Try.isAgg138
  z75 := Try.sizeOf138
  v75 := Try.zeroValue138
  i75 := by kernel_rfl
  t76 := Try.underlying139
  a76 := Try.isAgg139
  z76 := Try.sizeOf139
  v76 := Try.zeroValue139
  i76 := by kernel_rfl
  t77 := Try.underlying140
  a77 := Try.isAgg140
  z77 := Try.sizeOf140
  v77 := Try.zeroValue140
  i77 := by kernel_rfl
  t78 := Try.underlying141
  a78 := Try.isAgg141
  z78 := Try.sizeOf141
  v78 := Try.zeroValue141
  i78 := by kernel_rfl
  t79 := Try.underlying142
  a79 := Try.isAgg142
  z79 := Try.sizeOf142
  v79 := Try.zeroValue142
  i79 := by kernel_rfl
  t80 := Try.underlying143
  a80 := Try.isAgg143
  z80 := Try.sizeOf143
  v80 := Try.zeroValue143
  i80 := by kernel_rfl
  t82 := Try.underlying145
  a82 := Try.isAgg145
  z82 := Try.sizeOf145
  v82 := Try.zeroValue145
  i82 := by kernel_rfl }

theorem Srt.of_world {w : World} {r off n : Nat} {d d' : Array (Fin (m9 + 1))} {os : Array Obj} (hH : Holds encF w r off d) (hr : r < w.heap.size) (hs : d'.size = d.size) : Srt w r off d' (sortWorld encF w r off n d' os) := by
  refine ⟨⟨rfl, rfl, rfl, ?_, ?_⟩, holds_sortWorld _ w r off n d d' os hr hH hs, fun cs t z e => ?_⟩
  · unfold sortWorld; rw [Sort.size_grow]; simp
  · intro k hk hd
    have hne : r ≠ k := by omega
    unfold sortWorld Sort.grow Sort.putRow Sort.mapBlock Sort.ahead
    simp only
    rw [Array.getElem?_append_left (by simpa using hk), Array.getElem?_modify, if_neg hne]
  · refine ⟨Sort.putCells encF off d' cs, ?_, by simp [Sort.putCells]⟩
    unfold sortWorld Sort.grow Sort.putRow Sort.mapBlock Sort.ahead
    simp only
    rw [Array.getElem?_append_left (by simpa using hr), Array.getElem?_modify, if_pos rfl, e]
    rfl

theorem reverse_any (lb sb : Array Value) (r off a b : Nat) (d : Array (Fin (m9 + 1))) (w : World) (hr : r < w.heap.size) (hS : Swp m9 sb r off d.size) (hH : Holds encF w r off d) (hab : a ≤ b) (hb : b ≤ d.size) (hsz : d.size < 1000) (hs : (reverseRange d a b).size = d.size) :
    Calls Try.prog 101 #[.agg #[.func (.func 54) #[] lb, .func (.func 90) #[] sb], .int .i64 a, .int .i64 b] w fun e w' =>
      e = .returned (.tuple #[]) ∧ Srt w r off (reverseRange d a b) w' :=
  (Any.reverseRange_func_w (P := Try.prog) (ρ := laysGg6_ren) { laysGg6 with } encF (.func 54) #[] lb _ sb r off a b d w hS hH hr hab hb (by omega)).mono fun _ _ ⟨he, n, os, hw⟩ => ⟨he, by rw [hw]; exact Srt.of_world hH hr hs⟩

theorem break_any (lb sb : Array Value) (r off a b : Nat) (d : Array (Fin (m9 + 1))) (w : World) (hr : r < w.heap.size) (hS : Swp m9 sb r off d.size) (hH : Holds encF w r off d) (hab : a ≤ b) (hb : b ≤ d.size) (hsz : d.size < 1000) (hs : (breakPatterns d a b).size = d.size) :
    Calls Try.prog 99 #[.agg #[.func (.func 54) #[] lb, .func (.func 90) #[] sb], .int .i64 a, .int .i64 b] w fun e w' =>
      e = .returned (.tuple #[]) ∧ Srt w r off (breakPatterns d a b) w' :=
  (Any.breakPatterns_func_w (P := Try.prog) (ρ := laysGg6_ren) { laysGg6 with } encF (.func 54) #[] lb _ sb r off a b d w hS hH hr hab hb (by omega)).mono fun _ _ ⟨he, n, os, hw⟩ => ⟨he, by rw [hw]; exact Srt.of_world hH hr hs⟩
end Go.Proofs.Ythpcippgifmabaa
