/-
  Marks of a list of rules.
-/
import Derived.Test.YtnanlbglgflecaaMarkRule
import Derived.Test.YtnanlbglgflecaaMarkText
namespace Go.Proofs.Ytnanlbglgflecaa
set_option maxRecDepth 100000
open Go.RowKit

/-- What is owned, of which nothing is said about the i-th element but its cells. -/
structure Elem.OSx {α : Type} (E : Elem α) (w : World) (lo hi : Nat) (v : Value) (css : List (List Value)) (xs : List α) (i : Nat) : Prop where
  own : OSl w lo hi E.e E.sz v xs.length css.flatten
  len : css.length = xs.length
  sizes : ∀ cs ∈ css, cs.length = E.sz
  at_ : ∀ (k : Nat) (x : α), k ≠ i → xs[k]? = some x → ∃ cs, css[k]? = some cs ∧ E.O w lo hi cs x
  apart : ∀ (i j : Nat) (cs cs' : List Value) (b : Nat), i ≠ j → css[i]? = some cs → css[j]? = some cs' → b ∈ blocks cs → b ∉ blocks cs'
  far : ∀ cs ∈ css, ∀ b ∈ blocks cs, v.ownBlock ≠ some b
section
variable {α : Type} {E : Elem α} {w w' : World} {lo hi i g c n : Nat} {v : Value} {xs : List α} {css : List (List Value)} {cs : List Value}
theorem Elem.OS.openx (h : E.OS w lo hi v xs) (hlt : i < xs.length) : ∃ g c x cs css, v = .slice (some ⟨g, 0, none⟩) xs.length c ∧ lo ≤ g ∧ g < hi ∧ g < w.heap.size ∧ xs[i]? = some x ∧ css[i]? = some cs ∧ E.O w lo hi cs x ∧ E.OSx w lo hi v css xs i := by
  obtain ⟨css, h1, h2, h3⟩ := h
  obtain ⟨x, hx⟩ : ∃ x, xs[i]? = some x := ⟨xs[i], List.getElem?_eq_getElem hlt⟩
  obtain ⟨cs, hcs, hO⟩ := h2.at_ i x hx
  obtain ⟨g, c, rfl, g1, g2, g3⟩ := h1.form (by omega)
  exact ⟨g, c, x, cs, css, rfl, g1, g2, g3, hx, hcs, hO, h1, h2.len, h2.read.sizes, fun k x _ hk => h2.at_ k x hk, h2.apart, h3⟩
theorem Elem.OSx.same (h : E.OSx w lo hi v css xs i) (k : Same lo hi w w') : E.OSx w' lo hi v css xs i :=
  ⟨h.own.same k, h.len, h.sizes, fun j x hj hx => let ⟨cs, a, b⟩ := h.at_ j x hj hx; ⟨cs, a, E.sameO b k⟩, h.apart, h.far⟩
theorem Elem.OSx.cell {j : Nat} {u : Value} (h : E.OSx w lo hi (.slice (some ⟨g, 0, none⟩) n c) css xs i) (hn : n = xs.length) (hci : css[i]? = some cs) (hu : cs[j]? = some u) : w.cell? ⟨g, i * E.sz + j, none⟩ = some u ∧ w.frozen? ⟨g, i * E.sz + j, none⟩ = false := by
  subst hn
  exact h.own.cell (flatten_at h.sizes hci hu)
theorem Elem.OSx.put {j : Nat} {u u0 : Value} (h : E.OSx w lo hi (.slice (some ⟨g, 0, none⟩) n c) css xs i) (hn : n = xs.length) (hci : css[i]? = some cs) (hu0 : cs[j]? = some u0) (hu : ∀ b, u.ownBlock = some b → u0.ownBlock = some b) :
    E.OSx (w.setCell ⟨g, i * E.sz + j, none⟩ u) lo hi (.slice (some ⟨g, 0, none⟩) n c) (css.set i (cs.set j u)) xs i := by
  subst hn
  have hj : j < cs.length := (List.getElem?_eq_some_iff.1 hu0).1
  have hmem := List.mem_of_getElem? hci
  have hlt' := (List.getElem?_eq_some_iff.1 hci).1
  have hbl : ∀ b ∈ blocks (cs.set j u), b ∈ blocks cs := by
    intro b hb
    obtain ⟨a, ha, hab⟩ := List.mem_filterMap.1 hb
    rcases List.mem_or_eq_of_mem_set ha with ha | rfl
    · exact List.mem_filterMap.2 ⟨a, ha, hab⟩
    · exact List.mem_filterMap.2 ⟨u0, List.mem_of_getElem? hu0, hu b hab⟩
  have old : ∀ (b k : Nat) (c : List Value), (css.set i (cs.set j u))[k]? = some c → b ∈ blocks c → ∃ c0, css[k]? = some c0 ∧ b ∈ blocks c0 := by
    intro b k c hc hbb
    by_cases hik : i = k
    · subst hik
      rw [List.getElem?_set_self hlt'] at hc
      injection hc with hc
      subst hc
      exact ⟨cs, hci, hbl b hbb⟩
    · rw [List.getElem?_set_ne hik] at hc
      exact ⟨c, hc, hbb⟩
  refine ⟨?_, by simp [h.len], ?_, ?_, ?_, ?_⟩
  · rw [← flatten_set h.sizes hci hj]
    exact h.own.set (by have := (List.getElem?_eq_some_iff.1 (flatten_at h.sizes hci hu0)).1; exact this)
  · intro c' hc'
    rcases List.mem_or_eq_of_mem_set hc' with hc' | rfl
    · exact h.sizes c' hc'
    · simp [h.sizes cs hmem]
  · intro k y hk hy
    obtain ⟨ck, a, b⟩ := h.at_ k y hk hy
    refine ⟨ck, by rw [List.getElem?_set_ne (Ne.symm hk)]; exact a, E.loc b fun b' hb' => Below.heap_setCell _ _ _ _ ?_⟩
    intro e
    exact h.far ck (List.mem_of_getElem? a) b' hb' (by simp [Value.ownBlock]; exact e.symm)
  · intro k l c1 c2 b hkl hc1 hc2 hb1 hb2
    obtain ⟨c0, a0, b0⟩ := old b k c1 hc1 hb1
    obtain ⟨c1', a1, b1⟩ := old b l c2 hc2 hb2
    exact h.apart k l c0 c1' b hkl a0 a1 b0 b1
  · intro c' hc' b hb
    rcases List.mem_or_eq_of_mem_set hc' with hc' | rfl
    · exact h.far c' hc' b hb
    · exact h.far cs hmem b (hbl b hb)
theorem Elem.OSx.inner (h : E.OSx w lo hi v css xs i) (hci : css[i]? = some cs) (ho : Only (fun b => b ∈ blocks cs) w w') (hsz : hi ≤ w.heap.size) : E.OSx w' lo hi v css xs i := by
  have hmem := List.mem_of_getElem? hci
  refine ⟨h.own.loc fun b hb => ho.block b ?_ (fun hbb => h.far cs hmem b hbb hb), h.len, h.sizes, fun k x hk hx => ?_, h.apart, h.far⟩
  · have := h.own.2.1 b hb; omega
  · obtain ⟨ck, a, b⟩ := h.at_ k x hk hx
    exact ⟨ck, a, E.loc b fun b' hb' => ho.block b' (by have := (E.blk b b' hb').2; omega) (fun hbb => h.apart i k cs ck b' (Ne.symm hk) hci a hbb hb')⟩
theorem Elem.OSx.close {x' : α} (h : E.OSx w lo hi v css xs i) (hci : css[i]? = some cs) (hO : E.O w lo hi cs x') : E.OS w lo hi v (xs.set i x') := by
  have hlt' := (List.getElem?_eq_some_iff.1 hci).1
  refine ⟨css, by rw [List.length_set]; exact h.own, ⟨by simp [h.len], fun k x hx => ?_, h.apart⟩, h.far⟩
  by_cases hik : i = k
  · subst hik
    rw [List.getElem?_set_self (by rw [← h.len]; exact hlt')] at hx
    injection hx with hx
    subst hx
    exact ⟨cs, hci, hO⟩
  · rw [List.getElem?_set_ne hik] at hx
    exact h.at_ k x (Ne.symm hik) hx
end

def wM (x : Rule) : Nat := 3 + 2 * x.src.length + 2 * x.dst.length
def mkW : List Rule → Nat
  | [] => 0
  | x :: r => wM x + mkW r
theorem mkW_succ {xs : List Rule} : ∀ {j : Nat} {x : Rule}, xs[j]? = some x → mkW (xs.take (j + 1)) = mkW (xs.take j) + wM x := by
  induction xs with
  | nil => intro j x h; simp at h
  | cons y r ih =>
    intro j x h
    cases j with
    | zero => simp at h; subst h; simp [mkW]
    | succ j => simp at h; simp only [List.take_succ_cons, mkW, ih h]; omega
theorem mkW_take_le (xs : List Rule) : ∀ j, mkW (xs.take j) ≤ mkW xs := by
  induction xs with
  | nil => intro j; simp [mkW]
  | cons y r ih =>
    intro j
    cases j with
    | zero => simp [mkW]
    | succ j => simp only [List.take_succ_cons, mkW]; have := ih j; omega
/-- The slice holds some rules, which the call owns. -/
def RulesIn (w : World) (lo hi : Nat) (v : Value) : Prop := ∃ ys, ERule.OS w lo hi v ys
theorem RulesIn.same {w w' : World} {lo hi : Nat} {v : Value} (h : RulesIn w lo hi v) (k : Same lo hi w w') : RulesIn w' lo hi v := let ⟨ys, a⟩ := h; ⟨ys, a.same k⟩
def MarkRSRel (w : World) (lo hi : Nat) (v : Value) (xs : List Rule) (k : Int) (kk i : Value) (wr : World) : Prop :=
  ∃ (j : Nat) (ys : List Rule), j ≤ xs.length ∧ i = .int .i64 j ∧ kk = .int .i64 (k + mkW (xs.take j)) ∧ ERule.OS wr lo hi v ys ∧ ys.length = xs.length ∧ (∀ i, j ≤ i → ys[i]? = xs[i]?) ∧ Chg lo hi w wr ∧ hi ≤ wr.heap.size

theorem markT_size {k : Int} (_h0 : 0 < k) (h1 : k ≤ 4611686018427387904) : (markT k).size ≤ 20 := by
  have h := digT_size 19 k.toNat (by omega)
  have e : (⟨#[109]⟩ : ByteArray).size = 1 := rfl
  rw [markT, ByteArray.size_append, e]; omega
set_option maxHeartbeats 8000000 in
theorem markRuleS_any (A : Option Addr) (c lo hi : Nat) (xs : List Rule) (k : Int) (w : World) (h : ERule.OS w lo hi (.slice A xs.length c) xs) (hh : hi ≤ w.heap.size) (h0 : 0 < k) (h1 : k + mkW xs ≤ 4611686018427387904) :
    Calls Try.prog 34 #[.slice A xs.length c, .int .i64 k] w fun e w' => e = .returned (.int .i64 (k + mkW xs)) ∧ RulesIn w' lo hi (.slice A xs.length c) ∧ Chg lo hi w w' := by
  have hx := h.read.as.le
  unfold BIG at hx
  go_enter Try.func34, Try.ntmps34
  go_wp2
  go_loopw [1, 5] (fun kk i wr => MarkRSRel w lo hi (.slice A xs.length c) xs k kk i wr) (fun _ i _ => xs.length - (intOf i).toNat)
  case atStart => exact ⟨0, xs, Nat.zero_le _, rfl, by simp [mkW], h, rfl, fun _ _ => rfl, Chg.refl _ _ _, hh⟩
  case round =>
    obtain ⟨j, ys, hj, rfl, rfl, ho, hyl, hys, hch, hhr⟩ := hrel
    by_cases hlt : j < xs.length
    · obtain ⟨g, c', y, cs, css, hv, g1, g2, g3, hy, hci, ⟨v1, v2, rfl, hu1, hu2, hne, hnm⟩, hox⟩ := ho.openx (i := j) (by rw [hyl]; exact hlt)
      rw [hyl] at hv
      injection hv with hv _ hc
      subst hv; subst hc
      obtain ⟨B1, d1, rfl, _, _, _⟩ := hu1.read.open_
      obtain ⟨B2, d2, rfl, _, _, _⟩ := hu2.read.open_
      have hyx : xs[j]? = some y := by rw [← hys j (Nat.le_refl _)]; exact hy
      have t1 := mkW_succ hyx
      have t2 := mkW_take_le xs (j + 1)
      unfold wM at t1
      obtain ⟨m, hm⟩ : ∃ m : Nat, mkW (xs.take j) = m := ⟨_, rfl⟩
      obtain ⟨m', hm'⟩ : ∃ m : Nat, mkW (xs.take (j + 1)) = m := ⟨_, rfl⟩
      rw [hm, hm'] at t1
      rw [hm'] at t2
      rw [hm]
      have HM := Lib.hid hm; have HM' := Lib.hid hm'; have HT := Lib.hid t1; have HYS := Lib.hid hys; have HY := Lib.hid hy; have HYX := Lib.hid hyx; have HYL := Lib.hid hyl
      have t3 : m + 3 + 2 * y.src.length + 2 * y.dst.length ≤ mkW xs := by omega
      have HCI := Lib.hid hci; have HNE := Lib.hid hne
      clear hm hm' t1 t2 hys hy hyx hyl hci hne
      go_wp2_with fail
      refine (markText_any _ wr (by omega) (by omega)).mono ?_
      rintro e w1 ⟨rfl, hb1⟩
      have hox1 := hox.same (Same.of_below hb1 hhr); have hu11 := hu1.same (Same.of_below hb1 hhr); have hu21 := hu2.same (Same.of_below hb1 hhr)
      have z1 := hb1.size
      have hch1 := hch.trans (Chg.of_below (lo := lo) (hi := hi) hb1)
      have hsT := markT_size (k := k + m) (by omega) (by omega)
      obtain ⟨e0, f0⟩ := hox1.cell HYL.out.symm HCI.out (j := 0) rfl
      obtain ⟨e1, f1⟩ := hox1.cell HYL.out.symm HCI.out (j := 1) rfl
      obtain ⟨e2, f2⟩ := hox1.cell HYL.out.symm HCI.out (j := 2) rfl
      obtain ⟨e3, f3⟩ := hox1.cell HYL.out.symm HCI.out (j := 3) rfl
      obtain ⟨e4, f4⟩ := hox1.cell HYL.out.symm HCI.out (j := 4) rfl
      simp only [ERule, Nat.add_zero] at e0 f0 e1 f1 e2 f2 e3 f3 e4 f4
      have g31 : g < w1.heap.size := by omega
      clear ho hox hu1 hu2 hch
      go_wp2_with fail
      generalize hW : ((w1.setCell ⟨g, j * 5, none⟩ (.string (markT (k + m)))).setCell ⟨g, j * 5 + 1, none⟩ (.int .i64 (k + m + 1))).setCell ⟨g, j * 5 + 2, none⟩ (.int .i64 (k + m + 1 + 1)) = W3
      have hjl : j < css.length := (List.getElem?_eq_some_iff.1 HCI.out).1
      have hci3 : (css.set j (vsRule ⟨markT (k + m), k + m + 1, k + m + 1 + 1, y.src, y.dst⟩ (.slice B1 y.src.length d1) (.slice B2 y.dst.length d2)))[j]? = some (vsRule ⟨markT (k + m), k + m + 1, k + m + 1 + 1, y.src, y.dst⟩ (.slice B1 y.src.length d1) (.slice B2 y.dst.length d2)) := List.getElem?_set_self hjl
      have x3 : ERule.OSx W3 lo hi (.slice (some ⟨g, 0, none⟩) xs.length c) (css.set j (vsRule ⟨markT (k + m), k + m + 1, k + m + 1 + 1, y.src, y.dst⟩ (.slice B1 y.src.length d1) (.slice B2 y.dst.length d2))) ys j := by
        have p1 := hox1.put HYL.out.symm HCI.out (j := 0) (u := .string (markT (k + m))) rfl (by intro b hb; cases hb)
        have p2 := p1.put HYL.out.symm (List.getElem?_set_self hjl) (j := 1) (u := .int .i64 (k + m + 1)) rfl (by intro b hb; cases hb)
        rw [List.set_set] at p2
        have p3 := p2.put HYL.out.symm (List.getElem?_set_self hjl) (j := 2) (u := .int .i64 (k + m + 1 + 1)) rfl (by intro b hb; cases hb)
        rw [List.set_set] at p3
        subst hW
        exact p3
      have hgB1 : ∀ b, (Value.slice B1 y.src.length d1).ownBlock = some b → b ≠ g := fun b hb e => by
        have := hox1.far _ (List.mem_of_getElem? HCI.out) b (blocks_rule.2 (.inl hb))
        simp [Value.ownBlock] at this; omega
      have hgB2 : ∀ b, (Value.slice B2 y.dst.length d2).ownBlock = some b → b ≠ g := fun b hb e => by
        have := hox1.far _ (List.mem_of_getElem? HCI.out) b (blocks_rule.2 (.inr hb))
        simp [Value.ownBlock] at this; omega
      have hblk : ∀ b, b ≠ g → W3.heap[b]? = w1.heap[b]? := by
        intro b hb; subst hW
        rw [Below.heap_setCell _ _ _ _ hb, Below.heap_setCell _ _ _ _ hb, Below.heap_setCell _ _ _ _ hb]
      have u13 : EStep.OS W3 lo hi (.slice B1 y.src.length d1) y.src := flat_os.2 ((flat_os.1 hu11).loc fun b hb => hblk b (hgB1 b hb))
      have u23 : EStep.OS W3 lo hi (.slice B2 y.dst.length d2) y.dst := flat_os.2 ((flat_os.1 hu21).loc fun b hb => hblk b (hgB2 b hb))
      have hch3 : Chg lo hi w W3 := by subst hW; exact ((hch1.setCell (p := ⟨g, j * 5, none⟩) ⟨g1, g2⟩ _).setCell (p := ⟨g, j * 5 + 1, none⟩) ⟨g1, g2⟩ _).setCell (p := ⟨g, j * 5 + 2, none⟩) ⟨g1, g2⟩ _
      have hsz3 : W3.heap.size = w1.heap.size := by subst hW; simp [World.setCell]
      obtain ⟨k4, _⟩ := x3.cell HYL.out.symm hci3 (j := 4) rfl
      simp only [ERule] at k4
      clear hW hox1 hu11 hu21 e0 f0 e1 f1 e2 f2 e3 f3 e4 f4 hblk
      refine (markStepS_own B1 d1 lo hi y.src _ W3 u13 (by omega) (by omega) (by omega)).mono ?_
      rintro e w4 ⟨rfl, o4, hc4, hs4⟩
      have x4 := x3.inner hci3 (hc4.mono fun b hb => blocks_rule.2 (.inl hb)) (by omega)
      have u24 : EStep.OS w4 lo hi (.slice B2 y.dst.length d2) y.dst := flat_os.2 ((flat_os.1 u23).loc fun b hb => hc4.block b (by have := (u23.blkv b hb).2; omega) (fun e => HNE.out b e hb))
      obtain ⟨k5, _⟩ := x4.cell HYL.out.symm hci3 (j := 4) rfl
      simp only [ERule] at k5
      have hch4 := hch3.trans (hc4.chg fun b hb => u13.blkv b hb)
      clear k4
      go_wp2_with fail
      refine (markStepS_own B2 d2 lo hi y.dst _ w4 u24 (by omega) (by omega) (by omega)).mono ?_
      rintro e w5 ⟨rfl, o5, hc5, hs5⟩
      have x5 := x4.inner hci3 (hc5.mono fun b hb => blocks_rule.2 (.inr hb)) (by omega)
      have o45 : EStep.OS w5 lo hi (.slice B1 y.src.length d1) (mkTo (markStep (k + m + 1 + 1 + 1)) y.src.length) := flat_os.2 ((flat_os.1 o4).loc fun b hb => hc5.block b (by have := (o4.blkv b hb).2; omega) (fun e => HNE.out b hb e))
      have hch5 := hch4.trans (hc5.chg fun b hb => u24.blkv b hb)
      go_wp2_with fail
      refine ⟨⟨j + 1, _, by omega, by go_num, ?_, x5.close (x' := ⟨markT (k + m), k + m + 1, k + m + 1 + 1, mkTo (markStep (k + m + 1 + 1 + 1)) y.src.length, mkTo (markStep (k + m + 1 + 1 + 1 + 2 * y.src.length)) y.dst.length⟩) hci3 ⟨_, _, rfl, by simpa [mkTo_len] using o45, by simpa [mkTo_len] using o5, HNE.out, by simp only; omega⟩, by simp [HYL.out], fun i hi => by rw [List.getElem?_set_ne (by omega)]; exact HYS.out i (by omega), hch5, by omega⟩, by simp [intOf]; omega⟩
      rw [HM'.out, HT.out]; congr 1; omega
    · obtain rfl : j = xs.length := by omega
      go_wp2
      go_ret
      exact ⟨by first | rfl | simp, ⟨_, ho⟩, hch⟩
end Go.Proofs.Ytnanlbglgflecaa
