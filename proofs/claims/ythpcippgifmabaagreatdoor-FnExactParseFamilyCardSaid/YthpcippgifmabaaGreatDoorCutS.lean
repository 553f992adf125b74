/-
  A text cut at a byte, a number read: in the reference.
-/
import Derived.Test.YthpcippgifmabaaGreatDoorReadL
import Derived.Test.YthpcippgifmabaaGreatDoorCopyFam
import Derived.Test.YthpcippgifmabaaGreatDoorConvStr
import Derived.Test.YthpcippgifmabaaGreatDoorSmall
import Derived.Laws.DeepStrings4
namespace Go.Proofs.YthpcippgifmabaaGreatDoor
set_option maxRecDepth 100000
open Go.RowKit

theorem tyStrS : SlTy EString 31 16 := SlTy.mk' Tryz.underlying31 str_info rfl (by decide)
/-- append(out, x), as wpList_app1, for twice as many. -/
theorem wpList_appW {α : Type} {E : Elem α} {t bytes lo hi n c0 : Nat} {w : World} {ops : Array Oper} {rest : List Oper} {o : Oper} {a : Act} {Q : Exit → Act → World → Prop} (T : SlTy E t bytes) (A0 : Option Addr) (xs : List α) (x : α) (cs : List Value) (ad : Addr) (c : Nat)
    (hown : E.OS w lo hi (.slice A0 n c0) xs) (hn : xs.length = n) (hhi : hi ≤ w.heap.size) (hlo : lo ≤ hi) (hx : E.O w hi w.heap.size cs x) (s y : Operand)
    (ho : o.op = .call { callee := .builtin .append, args := #[s, y], argTypes := #[t, t] }) (hgd : o.guard = none) (hs : a.eval s = .slice A0 n c0) (hy : a.eval y = .slice (some ad) 1 c)
    (hcs : ∀ (j : Nat) (u : Value), cs[j]? = some u → w.cell? (ad.add j) = some u) (h1 : ∀ u ∈ cs, u.oneCell' = true) (hb : n + 1 ≤ 2097152) (hby : bytes ≤ 128)
    (h : ∀ A' c' w', E.OS w' lo w'.heap.size (.slice A' (n + 1) c') (xs ++ [x]) → w.grownBy w' (Value.slice A0 n c0).ownBlock → wpList Tryz.prog ops Q rest (a.put o.dst (.slice A' (n + 1) c')) w') :
    wpList Tryz.prog ops Q (o :: rest) a w := by
  subst hn
  obtain ⟨css, k1, k2, k3⟩ := hown
  obtain ⟨i, z, i1, i2, i3, i4, i5⟩ := T.hi
  have hmul : (xs.length + 1) * bytes ≤ 2097152 * 128 := Nat.mul_le_mul hb hby
  have hcl : cs.length = E.sz := E.len (E.read hx)
  refine wpList_append_own_at _ hgd s y t ho lo E.e i z E.sz bytes T.ht i1 i2 i3 i4 i5 T.pos _ _ css.flatten hs k1.1 ad 1 c cs hy (by rw [hcl, Nat.one_mul]) hcs h1 (by simp only [maxLen]; omega) (by omega) (by omega) ?_
  intro v' w' p1 p2 p3 p4
  have hos : E.OS w' lo w'.heap.size v' (xs ++ [x]) := Elem.OS.app k1 k2 k3 hhi hlo hx p1 p2 p4 (by unfold BIG; omega)
  obtain ⟨A', c', e1, e2, e3, _⟩ := hos.read.open_
  subst e1
  simp only [List.length_append, List.length_singleton] at e2 hos h ⊢
  exact h A' c' w' hos p2

theorem byteNe {c d : UInt8} (h : c ≠ d) : ((c.toNat : Int) == (d.toNat : Int)) = false := by
  rw [beq_eq_false_iff_ne]
  intro e
  exact h (UInt8.toNat_inj.1 (by omega))
def bl (b : ByteArray) : List UInt8 := b.data.toList
theorem bl_extract (s : ByteArray) (g k : Nat) : bl (s.extract g k) = (s.data.toList.drop g).take (k - g) := by
  unfold bl; rw [ByteArray.data_extract, Array.toList_extract, List.extract_eq_take_drop]
def pieces (c : UInt8) (s : ByteArray) : List ByteArray := (cut c s.data.toList).map mkT
theorem pieces_of {c : UInt8} {s : ByteArray} {ws : List ByteArray} (h : ws.map bl = cut c s.data.toList) : ws = pieces c s := by
  rw [pieces, ← h, List.map_map]
  have : mkT ∘ bl = id := by funext x; rfl
  rw [this, List.map_id]
theorem cut_hit {s : ByteArray} {g k : Nat} {ws : List ByteArray} {c c0 : UInt8} (h : ws.map bl ++ cutL c0 (bl (s.extract g k)) (s.data.toList.drop k) = cut c0 s.data.toList) (hd : s.data.toList.drop k = c :: s.data.toList.drop (k + 1)) (hc : c = c0) :
    (ws ++ [s.extract g k]).map bl ++ cutL c0 (bl (s.extract (k + 1) (k + 1))) (s.data.toList.drop (k + 1)) = cut c0 s.data.toList := by
  rw [hd, cutL, if_pos hc] at h
  rw [← h, bl_extract s (k + 1), Nat.sub_self, List.take_zero, List.map_append, List.append_assoc]; rfl
theorem cut_miss {s : ByteArray} {g k : Nat} {ws : List ByteArray} {c c0 : UInt8} (hg : g ≤ k) (h : ws.map bl ++ cutL c0 (bl (s.extract g k)) (s.data.toList.drop k) = cut c0 s.data.toList) (hd : s.data.toList.drop k = c :: s.data.toList.drop (k + 1)) (hc : c ≠ c0) :
    ws.map bl ++ cutL c0 (bl (s.extract g (k + 1))) (s.data.toList.drop (k + 1)) = cut c0 s.data.toList := by
  rw [hd, cutL, if_neg hc] at h
  rw [← h]
  congr 2
  rw [bl_extract, bl_extract, show k + 1 - g = (k - g) + 1 by omega, List.take_add_one, List.getElem?_drop, show g + (k - g) = k by omega]
  have : s.data.toList[k]? = some c := by
    have := congrArg List.head? hd
    rw [List.head?_drop, List.head?_cons] at this; exact this
  rw [this]; rfl
theorem cut_done {s : ByteArray} {g : Nat} {ws : List ByteArray} {c0 : UInt8} (h : ws.map bl ++ cutL c0 (bl (s.extract g s.size)) (s.data.toList.drop s.size) = cut c0 s.data.toList) : ws ++ [s.extract g s.size] = pieces c0 s := by
  rw [List.drop_eq_nil_of_le (by rw [Array.length_toList]; exact Nat.le_refl _), cutL] at h
  exact pieces_of (by rw [← h, List.map_append]; rfl)
def CutRel (c0 : UInt8) (s : ByteArray) (w : World) (v f i : Value) (wr : World) : Prop :=
  ∃ (k g : Nat) (A : Option Addr) (c : Nat) (ws : List ByteArray), g ≤ k ∧ k ≤ s.size ∧ v = .slice A ws.length c ∧ f = .int .i64 g ∧ i = .int .i64 k ∧ EString.OS wr w.heap.size wr.heap.size (.slice A ws.length c) ws ∧ ws.length ≤ k ∧
    ws.map bl ++ cutL c0 (bl (s.extract g k)) (s.data.toList.drop k) = cut c0 s.data.toList ∧ Below w.heap.size w wr ∧ w.heap.size ≤ wr.heap.size
def RetCut (l : List ByteArray) (w : World) (e : Ending) (w' : World) : Prop :=
  ∃ (A : Option Addr) (c : Nat), e = .returned (.slice A l.length c) ∧ EString.OS w' w.heap.size w'.heap.size (.slice A l.length c) l ∧ Below w.heap.size w w'

set_option maxHeartbeats 4000000 in
theorem l1Cut_any (c0 : UInt8) (cv : Int) (hcv : cv = c0.toNat) (s : ByteArray) (w : World) (hs : s.size ≤ 1048576) : Calls Tryz.prog 9 #[.string s, .int .u8 cv] w (RetCut (pieces c0 s) w) := by
  have HCV := Lib.hid hcv
  clear hcv
  go_enter Tryz.func9, Tryz.ntmps9
  go_wp2
  go_loopw [5, 6, 7] (fun v f i wr => CutRel c0 s w v f i wr) (fun _ _ i _ => s.size - (intOf i).toNat)
  case atStart => exact ⟨0, 0, _, _, [], Nat.le_refl _, Nat.zero_le _, rfl, rfl, rfl, Elem.OS.made0 (E := EString) w, Nat.le_refl _, by rw [bl_extract]; simp [cut], by (with_reducible repeat' first | exact Below.refl _ _ | assumption | (refine Below.setCell ?_ (by first | omega | (simp; omega) | (simp; done) | (dsimp only; omega)) _) | (refine Below.alloc ?_ (by first | omega | (simp; omega) | (simp; done) | (dsimp only; omega)) _) | (refine below_drewN ?_ _) | (refine Below.drew ?_)), by simp⟩
  case round =>
    obtain ⟨k, g, A, c, ws, hg, hk, rfl, rfl, rfl, ho, hl, hw, hb, hz⟩ := hrel
    have HW := Lib.hid hw; clear hw
    by_cases hlt : k < s.size
    · have hd := bytes_drop hlt
      obtain ⟨ch, hch⟩ : ∃ ch, s[k] = ch := ⟨_, rfl⟩
      rw [hch] at hd
      have HD := Lib.hid hd
      clear hd
      have j1 : (g : Int) ≤ (k : Int) ∧ (k : Int) ≤ (s.size : Int) := by omega
      by_cases hc : ch = c0
      · have n1 : ((ch.toNat : Int) == cv) = true := by rw [hc, HCV.out]; simp
        have HN := Lib.hid (cut_hit HW.out HD.out hc)
        clear hc
        go_wp2_with (at_builtin; refine wpList_appW tyStrS A ws (s.extract g k) [.string (s.extract g k)] ⟨wr.heap.size, 0, none⟩ 1 (lo := w.heap.size) (hi := wr.heap.size) (ho.same (by (with_reducible repeat' first | exact Same.refl _ _ _ | assumption | (refine Same.setCell ?_ (by first | omega | (simp; omega) | (simp; done) | (dsimp only; omega)) _) | (refine Same.alloc ?_ (by first | omega | (simp; omega) | (simp; done) | (dsimp only; omega)) _) | (refine Same.drewN ?_ _) | (refine Same.drew ?_)))) rfl (by first | omega | (simp; omega) | (simp; done) | (dsimp only; omega)) hz rfl _ _ rfl rfl rfl rfl (cell_one_at _ _ _ _ rfl) (by first | rfl | (simp; done) | (simp; rfl)) (by omega) (by decide) (fun A' c' w1 ho1 hg1 => ?_))
        refine ⟨⟨k + 1, k + 1, A', c', ws ++ [s.extract g k], Nat.le_refl _, by omega, by simp, by go_num, by go_num, by simpa using ho1, by simp; omega, HN.out, Below.grown (w := wr.alloc _) (by (with_reducible repeat' first | exact Below.refl _ _ | assumption | (refine Below.setCell ?_ (by first | omega | (simp; omega) | (simp; done) | (dsimp only; omega)) _) | (refine Below.alloc ?_ (by first | omega | (simp; omega) | (simp; done) | (dsimp only; omega)) _) | (refine below_drewN ?_ _) | (refine Below.drew ?_) | (refine Below.trans ?_ (hb.mono (by first | omega | (simp; omega) | (simp; done) | (dsimp only; omega)))))) hg1 (by simp; omega) (fun j hj => (ho.blkv j hj).1), by have := hg1.size; simp at this; omega⟩, by simp [intOf]; omega⟩
      · have n1 : ((ch.toNat : Int) == cv) = false := by rw [HCV.out]; exact byteNe hc
        have HN := Lib.hid (cut_miss hg HW.out HD.out hc)
        clear hc
        go_wp2_with fail
        exact ⟨⟨k + 1, g, A, c, ws, by omega, by omega, rfl, rfl, by go_num, ho, by omega, HN.out, hb, hz⟩, by simp [intOf]; omega⟩
    · obtain rfl : k = s.size := by omega
      have HN := Lib.hid (cut_done HW.out)
      have hln := congrArg List.length HN.out
      rw [List.length_append, List.length_singleton] at hln
      have HL := Lib.hid hln
      clear hln
      have j1 : (g : Int) ≤ (s.size : Int) := by omega
      go_wp2_with (at_builtin; refine wpList_appW tyStrS A ws (s.extract g s.size) [.string (s.extract g s.size)] ⟨wr.heap.size, 0, none⟩ 1 (lo := w.heap.size) (hi := wr.heap.size) (ho.same (by (with_reducible repeat' first | exact Same.refl _ _ _ | assumption | (refine Same.setCell ?_ (by first | omega | (simp; omega) | (simp; done) | (dsimp only; omega)) _) | (refine Same.alloc ?_ (by first | omega | (simp; omega) | (simp; done) | (dsimp only; omega)) _) | (refine Same.drewN ?_ _) | (refine Same.drew ?_)))) rfl (by first | omega | (simp; omega) | (simp; done) | (dsimp only; omega)) hz rfl _ _ rfl rfl rfl rfl (cell_one_at _ _ _ _ rfl) (by first | rfl | (simp; done) | (simp; rfl)) (by omega) (by decide) (fun A' c' w1 ho1 hg1 => ?_))
      go_ret
      refine ⟨A', c', by first | (rw [← HL.out]; done) | (rw [← HL.out]; rfl), by rw [← HL.out, ← HN.out]; exact ho1, Below.grown (w := wr.alloc _) (by (with_reducible repeat' first | exact Below.refl _ _ | assumption | (refine Below.setCell ?_ (by first | omega | (simp; omega) | (simp; done) | (dsimp only; omega)) _) | (refine Below.alloc ?_ (by first | omega | (simp; omega) | (simp; done) | (dsimp only; omega)) _) | (refine below_drewN ?_ _) | (refine Below.drew ?_) | (refine Below.trans ?_ (hb.mono (by first | omega | (simp; omega) | (simp; done) | (dsimp only; omega)))))) hg1 (by simp; omega) (fun j hj => (ho.blkv j hj).1)⟩
end Go.Proofs.YthpcippgifmabaaGreatDoor
