/-
  Reading a rule from its text, in the program.
-/
import Derived.Test.YtnnjilkjjdiblaaPRuleS
import Derived.Test.YtnnjilkjjdiblaaCutLib
import Derived.Test.YtnnjilkjjdiblaaGParse
import Derived.Test.YtnnjilkjjdiblaaFmtRule
namespace Go.Proofs.Ytnnjilkjjdiblaa
set_option maxRecDepth 100000
open Go.RowKit

theorem cut_len (s p : List UInt8) : (Lib.cut s p).1.length ≤ s.length ∧ (Lib.cut s p).2.1.length ≤ s.length := by
  unfold Lib.cut
  split
  · simp only [List.length_take, List.length_drop]; omega
  · simp
theorem cutM_len (s : ByteArray) : (cutM s).2.size ≤ s.size := by
  unfold cutM
  split
  · simp
  · split
    · simp
    · exact Nat.le_refl _
theorem trimPre_len (s p : List UInt8) : (Lib.trimPrefix s p).length ≤ s.length := by
  unfold Lib.trimPrefix; split
  · simp
  · exact Nat.le_refl _
def bS (l : List UInt8) : ByteArray := ⟨l.toArray⟩
theorem bS_size (l : List UInt8) : (bS l).size = l.length := by show l.toArray.size = _; simp
theorem bS_list (l : List UInt8) : (bS l).data.toList = l := rfl
theorem pRuleI_none {s : ByteArray} (h : candI s = none) : pRuleM s = (zeroRule, false) := by unfold pRuleM; rw [← parse_same, h]; rfl
theorem pRuleI_good {s : ByteArray} {r : Rule} (h : candI s = some r) (ho : ruleOk r = true) (ht : ruleText r = s) : pRuleM s = (r, true) := by
  unfold pRuleM; rw [← parse_same, h]; exact if_pos ⟨ho, ht⟩
theorem pRuleI_not {s : ByteArray} {r : Rule} (h : candI s = some r) (ho : ruleOk r = false) : pRuleM s = (zeroRule, false) := by
  unfold pRuleM; rw [← parse_same, h]; exact if_neg fun k => by rw [ho] at k; cases k.1
theorem pRuleI_text {s : ByteArray} {r : Rule} (h : candI s = some r) (ht : ruleText r ≠ s) : pRuleM s = (zeroRule, false) := by
  unfold pRuleM; rw [← parse_same, h]; exact if_neg fun k => ht k.2
theorem candI_cut {s : ByteArray} {k : Bool} {a r : List UInt8} (h : cut1 s = (a, r, k)) {k2 : Bool} {f t : List UInt8} (h2 : Lib.cut r [32, 45, 62, 32] = (f, t, k2)) (hk : (k && k2) = false) : candI s = none := by
  have h2' : cut2 s = (f, t, k2) := by unfold cut2; rw [h]; exact h2
  unfold candI
  rw [if_neg]
  rw [h, h2']
  rintro ⟨e1, e2⟩
  simp only at e1 e2
  rw [e1, e2] at hk; cases hk
theorem candI_two {s : ByteArray} {a r f t : List UInt8} {eg : Int} {b : ByteArray} (h : cut1 s = (a, r, true)) (h2 : Lib.cut r [32, 45, 62, 32] = (f, t, true)) (hm : cutM (bS f) = (eg, b)) (hp : Lib.hasPrefix (bl b) [94] = true) (hq : Lib.hasSuffix (Lib.trimPrefix (bl b) [94]) [36] = true) : candI s = none := by
  have h2' : cut2 s = (f, t, true) := by unfold cut2; rw [h]; exact h2
  have h3 : bodyI s = (eg, b) := by unfold bodyI; rw [h2']; exact hm
  unfold candI
  rw [if_pos (by rw [h, h2']; exact ⟨rfl, rfl⟩), if_pos (by rw [h3]; exact ⟨hp, hq⟩)]
theorem candI_at {s : ByteArray} {a r f t f2 f3 : List UInt8} {eg : Int} {b : ByteArray} {p q : Bool} (h : cut1 s = (a, r, true)) (h2 : Lib.cut r [32, 45, 62, 32] = (f, t, true)) (hm : cutM (bS f) = (eg, b)) (hp : Lib.hasPrefix (bl b) [94] = p) (ht : Lib.trimPrefix (bl b) [94] = f2) (hq : Lib.hasSuffix f2 [36] = q) (hu : Lib.trimSuffix f2 [36] = f3) (hpq : (p && q) = false) :
    candI s = (match readI f3, toI t with | some x, some y => some ⟨bS a, eg, if q = true then 2 else if p = true then 1 else 0, x, y⟩ | _, _ => none) := by
  have h2' : cut2 s = (f, t, true) := by unfold cut2; rw [h]; exact h2
  have h3 : bodyI s = (eg, b) := by unfold bodyI; rw [h2']; exact hm
  have h4 : midI b = f2 := ht
  have h5 : srcI b = f3 := by unfold srcI; rw [h4]; exact hu
  have h6 : placeI b = if q = true then 2 else if p = true then 1 else 0 := by unfold placeI; rw [h4, hq, ← hp]; rfl
  unfold candI
  rw [if_pos (by rw [h, h2']; exact ⟨rfl, rfl⟩), if_neg]
  · rw [h3]
    simp only
    rw [h5, h6, h2', h]; rfl
  · rintro ⟨k1, k2⟩
    rw [h3] at k1 k2
    simp only at k1 k2
    rw [h4, hq] at k2
    have k1' : p = true := by rw [← hp]; exact k1
    rw [k1', k2] at hpq; cases hpq

set_option maxHeartbeats 8000000 in
theorem implParseRule_any (s : ByteArray) (m : Int) (w : World) (hs : s.size ≤ 1048576) (hm : w.cell? ⟨0, 0, none⟩ = some (.int .i64 m)) : Calls Try.prog 43 #[.string s] w (RetRuleB w (pRuleM s)) := by
  have h0 := World.block_lt_of_cell? _ _ hm
  have hsl : s.data.toList.length ≤ 1048576 := by simpa using hs
  obtain ⟨a, r, k1, hc1⟩ : ∃ a r k, cut1 s = (a, r, k) := ⟨_, _, _, rfl⟩
  obtain ⟨f, t, k2, hc2⟩ : ∃ f t k, Lib.cut r [32, 45, 62, 32] = (f, t, k) := ⟨_, _, _, rfl⟩
  have la : a.length ≤ 1048576 ∧ r.length ≤ 1048576 := by
    have := cut_len s.data.toList [58, 32]
    rw [show Lib.cut s.data.toList [58, 32] = (a, r, k1) from hc1] at this
    simp only at this; omega
  have lf : f.length ≤ 1048576 ∧ t.length ≤ 1048576 := by
    have := cut_len r [32, 45, 62, 32]
    rw [hc2] at this
    simp only at this; omega
  have HC1 := Lib.hid (show Lib.cut s.data.toList [58, 32] = (a, r, k1) from hc1)
  have HC2 := Lib.hid (show Lib.cut (bS r).data.toList [32, 45, 62, 32] = (f, t, k2) from hc2)
  have hm1 : (w.alloc (.cells #[.string ⟨#[]⟩, .int .i64 0, .int .i64 0, .slice none 0 0, .slice none 0 0] 58)).cell? ⟨0, 0, none⟩ = some (.int .i64 m) := (((Below.refl _ w).alloc (Nat.le_refl _) _).cell (p := ⟨0, 0, none⟩) h0).trans hm
  have r0 : Blk (w.alloc (.cells #[.string ⟨#[]⟩, .int .i64 0, .int .i64 0, .slice none 0 0, .slice none 0 0] 58)) w.heap.size 58 #[.string ⟨#[]⟩, .int .i64 0, .int .i64 0, .slice none 0 0, .slice none 0 0] := Blk.new w rfl
  have sr : (bS r).size < 4294967281 := by rw [bS_size]; omega
  go_enter Try.func43, Try.ntmps43
  go_upto_region 2 with (go_at_call 126; refine (cut_any s ⟨#[58, 32]⟩ m _ (by omega) hm1).mono ?_; rintro e w1 ⟨rfl, n1, rfl⟩; rw [show Lib.cut s.data.toList (⟨#[58, 32]⟩ : ByteArray).data.toList = (a, r, k1) from HC1.out]; simp only [])
  generalize hW : (w.alloc (.cells #[.string ⟨#[]⟩, .int .i64 0, .int .i64 0, .slice none 0 0, .slice none 0 0] 58)).drewN n1 = w1
  have hm2 : w1.cell? ⟨0, 0, none⟩ = some (.int .i64 m) := by subst hW; exact hm1
  have r1 : Blk w1 w.heap.size 58 #[.string ⟨#[]⟩, .int .i64 0, .int .i64 0, .slice none 0 0, .slice none 0 0] := by subst hW; exact r0
  have hbw1 : Below w.heap.size w w1 := by subst hW; exact below_drewN ((Below.refl _ _).alloc (Nat.le_refl _) _) n1
  clear hW hm1 r0
  have HC2' := Lib.hid (show Lib.cut (⟨r.toArray⟩ : ByteArray).data.toList (⟨#[32, 45, 62, 32]⟩ : ByteArray).data.toList = (f, t, k2) from HC2.out)
  have sr' : (⟨r.toArray⟩ : ByteArray).size < 4294967281 := sr
  go_upto_region 3 with (go_at_call 126; refine (cut_any ⟨r.toArray⟩ ⟨#[32, 45, 62, 32]⟩ m _ sr' hm2).mono ?_; rintro e w2 ⟨rfl, n2, rfl⟩; rw [HC2'.out]; simp only [])
  generalize hW : w1.drewN n2 = w2
  have r2 : Blk w2 w.heap.size 58 #[.string ⟨#[]⟩, .int .i64 0, .int .i64 0, .slice none 0 0, .slice none 0 0] := by subst hW; exact r1
  have hbw2 : Below w.heap.size w w2 := by subst hW; exact below_drewN hbw1 n2
  clear hW hm2 r1 hbw1
  have e0 := r2.cell (i := 0) rfl
  have e1 := r2.cell (i := 1) rfl
  have e2 := r2.cell (i := 2) rfl
  have e3 := r2.cell (i := 3) rfl
  have e4 := r2.cell (i := 4) rfl
  have f0 := r2.free 0
  have f1 := r2.free 1
  have f2 := r2.free 2
  have f3 := r2.free 3
  have f4 := r2.free 4
  have lq2 := r2.lt
  cases k1 with
  | false =>
    have HN := Lib.hid (pRuleI_none (candI_cut hc1 hc2 rfl))
    clear hc1 hc2
    go_wp2_with fail
    have R := (((((r2.set 0 (.string ⟨#[]⟩)).set 1 (.int .i64 0)).set 2 (.int .i64 0)).set 3 (.slice none 0 0)).set 4 (.slice none 0 0))
    rw [HN.out]
    exact bodyPost_ret (v := .tuple #[.agg #[.string ⟨#[]⟩, .int .i64 0, .int .i64 0, .slice none 0 0, .slice none 0 0], .bool false]) (by simp [results, Try.results43, go_sem, R.cell (i := 0) rfl, R.cell (i := 1) rfl, R.cell (i := 2) rfl, R.cell (i := 3) rfl, R.cell (i := 4) rfl]) rfl (RetRuleB.zero (by (with_reducible repeat' first | exact Below.refl _ _ | assumption | (refine Below.setCell ?_ (by first | omega | (simp; omega) | (simp; done) | (dsimp only; omega)) _) | (refine Below.alloc ?_ (by first | omega | (simp; omega) | (simp; done) | (dsimp only; omega)) _) | (refine below_drewN ?_ _) | (refine Below.drew ?_) | (refine Below.trans ?_ (hbw2.mono (by first | omega | (simp; omega) | (simp; done) | (dsimp only; omega)))))))
  | true => cases k2 with
    | false =>
      have HN := Lib.hid (pRuleI_none (candI_cut hc1 hc2 rfl))
      clear hc1 hc2
      go_wp2_with fail
      have R := (((((r2.set 0 (.string ⟨#[]⟩)).set 1 (.int .i64 0)).set 2 (.int .i64 0)).set 3 (.slice none 0 0)).set 4 (.slice none 0 0))
      rw [HN.out]
      exact bodyPost_ret (v := .tuple #[.agg #[.string ⟨#[]⟩, .int .i64 0, .int .i64 0, .slice none 0 0, .slice none 0 0], .bool false]) (by simp [results, Try.results43, go_sem, R.cell (i := 0) rfl, R.cell (i := 1) rfl, R.cell (i := 2) rfl, R.cell (i := 3) rfl, R.cell (i := 4) rfl]) rfl (RetRuleB.zero (by (with_reducible repeat' first | exact Below.refl _ _ | assumption | (refine Below.setCell ?_ (by first | omega | (simp; omega) | (simp; done) | (dsimp only; omega)) _) | (refine Below.alloc ?_ (by first | omega | (simp; omega) | (simp; done) | (dsimp only; omega)) _) | (refine below_drewN ?_ _) | (refine Below.drew ?_) | (refine Below.trans ?_ (hbw2.mono (by first | omega | (simp; omega) | (simp; done) | (dsimp only; omega)))))))
    | true =>
      obtain ⟨eg, b, hcm⟩ : ∃ eg b, cutM (bS f) = (eg, b) := ⟨_, _, rfl⟩
      have HCM := Lib.hid (show cutM ⟨f.toArray⟩ = (eg, b) from hcm)
      have sb : b.size ≤ 1048576 := by have := cutM_len (bS f); rw [hcm, bS_size] at this; simp only at this; omega
      have hnz : (⟨a.toArray⟩ : ByteArray).size ≤ 140737488355328 := by show a.toArray.size ≤ _; simp; omega
      have ht3 : (⟨t.toArray⟩ : ByteArray).size ≤ 1048576 := by show t.toArray.size ≤ _; simp; omega
      go_upto_region 7 with (go_at_call 120; refine (cutEgo_any ⟨f.toArray⟩ _).mono ?_; rintro e w3 ⟨rfl, hb3⟩; rw [HCM.out]; (have bx3 := (Blk.new (t := 58) (cs := #[.string ⟨a.toArray⟩, .int .i64 0, .int .i64 0, .slice none 0 0, .slice none 0 0]) w2 rfl).below hb3 (by simp)); (have g1 := bx3.cell (i := 1) rfl); (have h1 := bx3.free 1))
      have q3 := (r2.alloc (.cells #[.string ⟨a.toArray⟩, .int .i64 0, .int .i64 0, .slice none 0 0, .slice none 0 0] 58)).below hb3 (by simp; omega)
      have z3 := hb3.size
      simp only [szs] at z3
      have hbw3 : Below w.heap.size w w3 := by (with_reducible repeat' first | exact Below.refl _ _ | assumption | (refine Below.setCell ?_ (by first | omega | (simp; omega) | (simp; done) | (dsimp only; omega)) _) | (refine Below.alloc ?_ (by first | omega | (simp; omega) | (simp; done) | (dsimp only; omega)) _) | (refine below_drewN ?_ _) | (refine Below.drew ?_) | (refine Below.trans ?_ (hb3.mono (by first | omega | (simp; omega) | (simp; done) | (dsimp only; omega)))) | (refine Below.trans ?_ (hbw2.mono (by first | omega | (simp; omega) | (simp; done) | (dsimp only; omega)))))
      obtain ⟨bx, hbx⟩ : ∃ bx, w2.heap.size = bx := ⟨_, rfl⟩
      rw [hbx] at bx3 z3 lq2 ⊢
      generalize hW : w3.setCell ⟨bx, 1, none⟩ (.int .i64 eg) = w4
      have r4 : Blk w4 bx 58 #[.string ⟨a.toArray⟩, .int .i64 eg, .int .i64 0, .slice none 0 0, .slice none 0 0] := by subst hW; exact bx3.set 1 _
      have z4 : w3.heap.size = w4.heap.size := by subst hW; simp [World.setCell]
      have q4 : Blk w4 w.heap.size 58 #[.string ⟨#[]⟩, .int .i64 0, .int .i64 0, .slice none 0 0, .slice none 0 0] := by subst hW; exact q3.far (by simp; omega) _
      have hbw4 : Below w.heap.size w w4 := by subst hW; (with_reducible repeat' first | exact Below.refl _ _ | assumption | (refine Below.setCell ?_ (by first | omega | (simp; omega) | (simp; done) | (dsimp only; omega)) _) | (refine Below.alloc ?_ (by first | omega | (simp; omega) | (simp; done) | (dsimp only; omega)) _) | (refine below_drewN ?_ _) | (refine Below.drew ?_) | (refine Below.trans ?_ (hbw3.mono (by first | omega | (simp; omega) | (simp; done) | (dsimp only; omega)))))
      have lb4 : bx < w4.heap.size := by omega
      clear hW hb3 bx3 q3 hbw3 g1 h1 hbw2 r2 hbx e0 f0 e1 f1 e2 f2 e3 f3 e4 f4
      obtain ⟨p, hp⟩ : ∃ p, Lib.hasPrefix (bl b) [94] = p := ⟨_, rfl⟩
      obtain ⟨u2, hu2⟩ : ∃ u2, Lib.trimPrefix (bl b) [94] = u2 := ⟨_, rfl⟩
      have l2 : u2.length ≤ 1048576 := by have := trimPre_len (bl b) [94]; rw [hu2] at this; have e : (bl b).length = b.size := (by simp [bl]); omega
      have HP := Lib.hid (show Lib.hasPrefix b.data.toList (⟨#[94]⟩ : ByteArray).data.toList = p from hp)
      have HU2 := Lib.hid (show Lib.trimPrefix b.data.toList (⟨#[94]⟩ : ByteArray).data.toList = u2 from hu2)
      obtain ⟨q, hq⟩ : ∃ q, Lib.hasSuffix u2 [36] = q := ⟨_, rfl⟩
      obtain ⟨u3, hu3⟩ : ∃ u3, Lib.trimSuffix u2 [36] = u3 := ⟨_, rfl⟩
      have l3 : u3.length ≤ 1048576 := by have := Lib.trimSuffix_le u2 [36]; rw [hu3] at this; omega
      have g2 := r4.cell (i := 2) rfl; have h2 := r4.free 2
      go_upto_region 8 with (go_at_call 127; refine (cutPrefix_any b ⟨#[94]⟩ _).mono ?_; rintro e w5 ⟨rfl, rfl⟩; rw [HP.out, HU2.out]; simp only [])
      cases p with
      | true =>
        go_upto_region 10 with fail
        generalize hW : w4.setCell ⟨bx, 2, none⟩ (.int .i64 1) = w5
        have r5 : Blk w5 bx 58 #[.string ⟨a.toArray⟩, .int .i64 eg, .int .i64 1, .slice none 0 0, .slice none 0 0] := by subst hW; exact r4.set 2 _
        have z5 : w4.heap.size = w5.heap.size := by subst hW; simp [World.setCell]
        have q5 : Blk w5 w.heap.size 58 #[.string ⟨#[]⟩, .int .i64 0, .int .i64 0, .slice none 0 0, .slice none 0 0] := by subst hW; exact q4.far (by simp; omega) _
        have hbw5 : Below w.heap.size w w5 := by subst hW; (with_reducible repeat' first | exact Below.refl _ _ | assumption | (refine Below.setCell ?_ (by first | omega | (simp; omega) | (simp; done) | (dsimp only; omega)) _) | (refine Below.alloc ?_ (by first | omega | (simp; omega) | (simp; done) | (dsimp only; omega)) _) | (refine below_drewN ?_ _) | (refine Below.drew ?_) | (refine Below.trans ?_ (hbw4.mono (by first | omega | (simp; omega) | (simp; done) | (dsimp only; omega)))))
        have lb5 : bx < w5.heap.size := by omega
        clear hW r4 q4 hbw4 g2 h2
        have HQ := Lib.hid (show Lib.hasSuffix (⟨u2.toArray⟩ : ByteArray).data.toList (⟨#[36]⟩ : ByteArray).data.toList = q from hq)
        have HU3 := Lib.hid (show Lib.trimSuffix (⟨u2.toArray⟩ : ByteArray).data.toList (⟨#[36]⟩ : ByteArray).data.toList = u3 from hu3)
        have su2 : (⟨u2.toArray⟩ : ByteArray).size ≤ 1048576 := by show u2.toArray.size ≤ _; simp; omega
        go_upto_region 11 with (go_at_call 128; refine (cutSuffix_any ⟨u2.toArray⟩ ⟨#[36]⟩ _ su2 (by decide)).mono ?_; rintro e w6 ⟨rfl, rfl⟩; rw [HQ.out, HU3.out]; simp only [])
        cases q with
        | true =>
          have HN := Lib.hid (pRuleI_none (candI_two hc1 hc2 hcm hp (by rw [hu2]; exact hq)))
          have g2 := r5.cell (i := 2) rfl
          have e0 := q5.cell (i := 0) rfl
          have e1 := q5.cell (i := 1) rfl
          have e2 := q5.cell (i := 2) rfl
          have e3 := q5.cell (i := 3) rfl
          have e4 := q5.cell (i := 4) rfl
          have f0 := q5.free 0
          have f1 := q5.free 1
          have f2 := q5.free 2
          have f3 := q5.free 3
          have f4 := q5.free 4
          have lq5 := q5.lt
          clear hc1 hc2 hcm hp hu2 hq hu3
          go_wp2_with fail
          have R := (((((q5.set 0 (.string ⟨#[]⟩)).set 1 (.int .i64 0)).set 2 (.int .i64 0)).set 3 (.slice none 0 0)).set 4 (.slice none 0 0))
          rw [HN.out]
          exact bodyPost_ret (v := .tuple #[.agg #[.string ⟨#[]⟩, .int .i64 0, .int .i64 0, .slice none 0 0, .slice none 0 0], .bool false]) (by simp [results, Try.results43, go_sem, R.cell (i := 0) rfl, R.cell (i := 1) rfl, R.cell (i := 2) rfl, R.cell (i := 3) rfl, R.cell (i := 4) rfl]) rfl (RetRuleB.zero (by (with_reducible repeat' first | exact Below.refl _ _ | assumption | (refine Below.setCell ?_ (by first | omega | (simp; omega) | (simp; done) | (dsimp only; omega)) _) | (refine Below.alloc ?_ (by first | omega | (simp; omega) | (simp; done) | (dsimp only; omega)) _) | (refine below_drewN ?_ _) | (refine Below.drew ?_) | (refine Below.trans ?_ (hbw5.mono (by first | omega | (simp; omega) | (simp; done) | (dsimp only; omega)))))))
        | false =>
          have hff : u3 = u2 := by rw [← hu3]; unfold Lib.trimSuffix; rw [hq]; rfl
          have HCC := Lib.hid (candI_at hc1 hc2 hcm hp hu2 hq hu3 rfl)
          simp only [if_true, Bool.false_eq_true, if_false] at HCC
          have HRO := Lib.hid (show readI (⟨u2.toArray⟩ : ByteArray).data.toList = readI u3 by rw [hff])
          have hx3 : (⟨u2.toArray⟩ : ByteArray).size ≤ 1048576 := su2
          clear hc1 hc2 hcm hp hu2 hq hu3 hff
          go_upto_region 16 with fail
          have ndl : (⟨t.toArray⟩ : ByteArray).toList = t := by rw [ByteArray.toList_eq]
          cases hro : readI u3 with
          | none =>
            replace HRO := Lib.hid (HRO.out.trans hro)
            have HN := Lib.hid (pRuleI_none (s := s) (by rw [HCC.out, hro]))
            clear hro
            go_upto_region 17 with (go_at_call 121; refine (readSteps_any ⟨u2.toArray⟩ _ hx3).mono ?_; rintro e w6 ⟨A6, c6, rfl, o6, hb6⟩; rw [HRO.out] at o6 ⊢; dsimp only [Option.getD, Option.isSome] at o6 ⊢; (have r6 := r5.below hb6 lb5); (have g3 := r6.cell (i := 3) rfl); (have h3 := r6.free 3))
            have q6 := q5.below hb6 q5.lt
            have hbw6 := hbw5.trans (hb6.mono (by omega))
            have z6 := hb6.size
            generalize hW : w6.setCell ⟨bx, 3, none⟩ (.slice A6 ([] : List Step).length c6) = w7
            have r7 : Blk w7 bx 58 #[.string ⟨a.toArray⟩, .int .i64 eg, .int .i64 1, .slice A6 ([] : List Step).length c6, .slice none 0 0] := by subst hW; exact r6.set 3 _
            have o7 : EStep.OS w7 w5.heap.size w7.heap.size (.slice A6 ([] : List Step).length c6) ([] : List Step) := by subst hW; exact (o6.same (by (with_reducible repeat' first | exact Same.refl _ _ _ | assumption | (refine Same.setCell ?_ (by first | omega | (simp; omega) | (simp; done) | (dsimp only; omega)) _) | (refine Same.alloc ?_ (by first | omega | (simp; omega) | (simp; done) | (dsimp only; omega)) _) | (refine Same.drewN ?_ _) | (refine Same.drew ?_)))).mono (Nat.le_refl _) (by simp [World.setCell])
            have q7 : Blk w7 w.heap.size 58 #[.string ⟨#[]⟩, .int .i64 0, .int .i64 0, .slice none 0 0, .slice none 0 0] := by subst hW; exact q6.far (by simp; omega) _
            have z7 : w6.heap.size = w7.heap.size := by subst hW; simp [World.setCell]
            have hbw7 : Below w.heap.size w w7 := by subst hW; (with_reducible repeat' first | exact Below.refl _ _ | assumption | (refine Below.setCell ?_ (by first | omega | (simp; omega) | (simp; done) | (dsimp only; omega)) _) | (refine Below.alloc ?_ (by first | omega | (simp; omega) | (simp; done) | (dsimp only; omega)) _) | (refine below_drewN ?_ _) | (refine Below.drew ?_) | (refine Below.trans ?_ (hbw6.mono (by first | omega | (simp; omega) | (simp; done) | (dsimp only; omega)))))
            have lb7 : bx < w7.heap.size := by omega
            clear hW r6 q6 o6 hb6 g3 h3 hbw6
            have e0 := q7.cell (i := 0) rfl
            have e0 := q7.cell (i := 0) rfl
            have e1 := q7.cell (i := 1) rfl
            have e2 := q7.cell (i := 2) rfl
            have e3 := q7.cell (i := 3) rfl
            have e4 := q7.cell (i := 4) rfl
            have f0 := q7.free 0
            have f1 := q7.free 1
            have f2 := q7.free 2
            have f3 := q7.free 3
            have f4 := q7.free 4
            have lq7 := q7.lt
            by_cases hd : t = [46]
            · have nd : ((⟨t.toArray⟩ : ByteArray).toList == [46]) = true := by rw [ndl, hd]; rfl
              have nd2 : (t == [46]) = true := by rw [hd]; rfl
              clear hd ndl
              go_wp2_with fail
              have R := (((((q7.set 0 (.string ⟨#[]⟩)).set 1 (.int .i64 0)).set 2 (.int .i64 0)).set 3 (.slice none 0 0)).set 4 (.slice none 0 0))
              rw [HN.out]
              exact bodyPost_ret (v := .tuple #[.agg #[.string ⟨#[]⟩, .int .i64 0, .int .i64 0, .slice none 0 0, .slice none 0 0], .bool false]) (by simp [results, Try.results43, go_sem, R.cell (i := 0) rfl, R.cell (i := 1) rfl, R.cell (i := 2) rfl, R.cell (i := 3) rfl, R.cell (i := 4) rfl]) rfl (RetRuleB.zero (by (with_reducible repeat' first | exact Below.refl _ _ | assumption | (refine Below.setCell ?_ (by first | omega | (simp; omega) | (simp; done) | (dsimp only; omega)) _) | (refine Below.alloc ?_ (by first | omega | (simp; omega) | (simp; done) | (dsimp only; omega)) _) | (refine below_drewN ?_ _) | (refine Below.drew ?_) | (refine Below.trans ?_ (hbw7.mono (by first | omega | (simp; omega) | (simp; done) | (dsimp only; omega)))))))
            · have nd : ((⟨t.toArray⟩ : ByteArray).toList == [46]) = false := by rw [ndl]; simpa using hd
              have nd2 : (t == [46]) = false := by simpa using hd
              clear hd ndl
              obtain ⟨od, hod⟩ : ∃ od, readI t = od := ⟨_, rfl⟩
              have HOD := Lib.hid (show readI (⟨t.toArray⟩ : ByteArray).data.toList = od from hod)
              clear hod
              go_wp2_with (go_at_call 121; refine (readSteps_any ⟨t.toArray⟩ _ ht3).mono ?_; rintro e w8 ⟨A8, c8, rfl, o8, hb8⟩; (have r8 := r7.below hb8 lb7); (have g4 := r8.cell (i := 4) rfl); (have h4 := r8.free 4); (have q8 := q7.below hb8 lq7); (have e0 := q8.cell (i := 0) rfl); (have e1 := q8.cell (i := 1) rfl); (have e2 := q8.cell (i := 2) rfl); (have e3 := q8.cell (i := 3) rfl); (have e4 := q8.cell (i := 4) rfl); (have f0 := q8.free 0); (have f1 := q8.free 1); (have f2 := q8.free 2); (have f3 := q8.free 3); (have f4 := q8.free 4); (have lq8 := q8.lt))
              have R := ((((((q8.far (p := ⟨bx, 4, none⟩) (by simp; omega) (.slice A8 ((readI (⟨t.toArray⟩ : ByteArray).data.toList).getD []).length c8)).set 0 (.string ⟨#[]⟩)).set 1 (.int .i64 0)).set 2 (.int .i64 0)).set 3 (.slice none 0 0)).set 4 (.slice none 0 0))
              rw [HN.out]
              exact bodyPost_ret (v := .tuple #[.agg #[.string ⟨#[]⟩, .int .i64 0, .int .i64 0, .slice none 0 0, .slice none 0 0], .bool false]) (by simp [results, Try.results43, go_sem, R.cell (i := 0) rfl, R.cell (i := 1) rfl, R.cell (i := 2) rfl, R.cell (i := 3) rfl, R.cell (i := 4) rfl]) rfl (RetRuleB.zero (by (with_reducible repeat' first | exact Below.refl _ _ | assumption | (refine Below.setCell ?_ (by first | omega | (simp; omega) | (simp; done) | (dsimp only; omega)) _) | (refine Below.alloc ?_ (by first | omega | (simp; omega) | (simp; done) | (dsimp only; omega)) _) | (refine below_drewN ?_ _) | (refine Below.drew ?_) | (refine Below.trans ?_ (hb8.mono (by first | omega | (simp; omega) | (simp; done) | (dsimp only; omega)))) | (refine Below.trans ?_ (hbw7.mono (by first | omega | (simp; omega) | (simp; done) | (dsimp only; omega)))))))
          | some src =>
            replace HRO := Lib.hid (HRO.out.trans hro)
            have HCS := HCC.out
            rw [hro] at HCS
            clear hro
            go_upto_region 17 with (go_at_call 121; refine (readSteps_any ⟨u2.toArray⟩ _ hx3).mono ?_; rintro e w6 ⟨A6, c6, rfl, o6, hb6⟩; rw [HRO.out] at o6 ⊢; dsimp only [Option.getD, Option.isSome] at o6 ⊢; (have r6 := r5.below hb6 lb5); (have g3 := r6.cell (i := 3) rfl); (have h3 := r6.free 3))
            have q6 := q5.below hb6 q5.lt
            have hbw6 := hbw5.trans (hb6.mono (by omega))
            have z6 := hb6.size
            generalize hW : w6.setCell ⟨bx, 3, none⟩ (.slice A6 src.length c6) = w7
            have r7 : Blk w7 bx 58 #[.string ⟨a.toArray⟩, .int .i64 eg, .int .i64 1, .slice A6 src.length c6, .slice none 0 0] := by subst hW; exact r6.set 3 _
            have o7 : EStep.OS w7 w5.heap.size w7.heap.size (.slice A6 src.length c6) src := by subst hW; exact (o6.same (by (with_reducible repeat' first | exact Same.refl _ _ _ | assumption | (refine Same.setCell ?_ (by first | omega | (simp; omega) | (simp; done) | (dsimp only; omega)) _) | (refine Same.alloc ?_ (by first | omega | (simp; omega) | (simp; done) | (dsimp only; omega)) _) | (refine Same.drewN ?_ _) | (refine Same.drew ?_)))).mono (Nat.le_refl _) (by simp [World.setCell])
            have q7 : Blk w7 w.heap.size 58 #[.string ⟨#[]⟩, .int .i64 0, .int .i64 0, .slice none 0 0, .slice none 0 0] := by subst hW; exact q6.far (by simp; omega) _
            have z7 : w6.heap.size = w7.heap.size := by subst hW; simp [World.setCell]
            have hbw7 : Below w.heap.size w w7 := by subst hW; (with_reducible repeat' first | exact Below.refl _ _ | assumption | (refine Below.setCell ?_ (by first | omega | (simp; omega) | (simp; done) | (dsimp only; omega)) _) | (refine Below.alloc ?_ (by first | omega | (simp; omega) | (simp; done) | (dsimp only; omega)) _) | (refine below_drewN ?_ _) | (refine Below.drew ?_) | (refine Below.trans ?_ (hbw6.mono (by first | omega | (simp; omega) | (simp; done) | (dsimp only; omega)))))
            have lb7 : bx < w7.heap.size := by omega
            clear hW r6 q6 o6 hb6 g3 h3 hbw6
            by_cases hd : t = [46]
            · have nd : ((⟨t.toArray⟩ : ByteArray).toList == [46]) = true := by rw [ndl, hd]; rfl
              have nd2 : (t == [46]) = true := by rw [hd]; rfl
              rw [show toI t = some [] by rw [toI, if_pos hd]] at HCS
              have HC := Lib.hid HCS
              simp only at HC
              clear hd ndl HCS
              obtain ⟨w9, rfl⟩ : ∃ x, x = w7 := ⟨_, rfl⟩
              obtain ⟨wz, rfl⟩ : ∃ x, x = w5 := ⟨_, rfl⟩
              have r9 := r7; have q9 := q7; have hbw9 := hbw7; have lb9 := lb7; have lq9 := q7.lt
              have o9 := o7
              have d9 : EStep.OS w9 wz.heap.size w9.heap.size (.slice none 0 0) [] := Elem.OS.nil
              have hap : ∀ k, (Value.slice A6 src.length c6).ownBlock = some k → (Value.slice none ([] : List Step).length 0).ownBlock ≠ some k := fun k _ h2 => by simp [Value.ownBlock] at h2
              clear r7 q7 o7 hbw7
              have t0 := r9.cell (i := 0) rfl
              have t1 := r9.cell (i := 1) rfl
              have t2 := r9.cell (i := 2) rfl
              have t3 := r9.cell (i := 3) rfl
              have t4 := r9.cell (i := 4) rfl
              cases hok : ruleOk ⟨⟨a.toArray⟩, eg, 1, src, ([] : List Step)⟩ with
              | false =>
                have HO := Lib.hid hok
                have HN := Lib.hid (pRuleI_not HC.out hok)
                clear hok
                go_wp2_with (go_at_call 129; (refine (implIsRule_any ⟨a.toArray⟩ eg 1 A6 none c6 0 wz.heap.size w9.heap.size src ([] : List Step) _ o9.read.as d9.read.as (Nat.le_refl _) hnz).mono ?_); rintro e w10 ⟨rfl, hb10⟩; simp only [HO.out]; (have q10 := q9.below hb10 lq9); (have r10 := r9.below hb10 lb9); (have o10 := o9.same (Same.of_below hb10 (Nat.le_refl _))); (have d10 := d9.same (Same.of_below hb10 (Nat.le_refl _))); (have t0 := r10.cell (i := 0) rfl); (have t1 := r10.cell (i := 1) rfl); (have t2 := r10.cell (i := 2) rfl); (have t3 := r10.cell (i := 3) rfl); (have t4 := r10.cell (i := 4) rfl); (have lb10 := r10.lt); (have z10 := hb10.size); (have e0 := q10.cell (i := 0) rfl); (have e1 := q10.cell (i := 1) rfl); (have e2 := q10.cell (i := 2) rfl); (have e3 := q10.cell (i := 3) rfl); (have e4 := q10.cell (i := 4) rfl); (have f0 := q10.free 0); (have f1 := q10.free 1); (have f2 := q10.free 2); (have f3 := q10.free 3); (have f4 := q10.free 4))
                have R := (((((q10.set 0 (.string ⟨#[]⟩)).set 1 (.int .i64 0)).set 2 (.int .i64 0)).set 3 (.slice none 0 0)).set 4 (.slice none 0 0))
                rw [HN.out]
                exact bodyPost_ret (v := .tuple #[.agg #[.string ⟨#[]⟩, .int .i64 0, .int .i64 0, .slice none 0 0, .slice none 0 0], .bool false]) (by simp [results, Try.results43, go_sem, R.cell (i := 0) rfl, R.cell (i := 1) rfl, R.cell (i := 2) rfl, R.cell (i := 3) rfl, R.cell (i := 4) rfl]) rfl (RetRuleB.zero (by (with_reducible repeat' first | exact Below.refl _ _ | assumption | (refine Below.setCell ?_ (by first | omega | (simp; omega) | (simp; done) | (dsimp only; omega)) _) | (refine Below.alloc ?_ (by first | omega | (simp; omega) | (simp; done) | (dsimp only; omega)) _) | (refine below_drewN ?_ _) | (refine Below.drew ?_) | (refine Below.trans ?_ (hb10.mono (by first | omega | (simp; omega) | (simp; done) | (dsimp only; omega)))) | (refine Below.trans ?_ (hbw9.mono (by first | omega | (simp; omega) | (simp; done) | (dsimp only; omega)))))))
              | true =>
                have HO := Lib.hid hok
                obtain ⟨tx, htx⟩ : ∃ tx, ruleT ⟨⟨a.toArray⟩, eg, 1, src, ([] : List Step)⟩ = tx := ⟨_, rfl⟩
                have HTX := Lib.hid htx
                have htx' : ruleText ⟨⟨a.toArray⟩, eg, 1, src, ([] : List Step)⟩ = tx := by rw [← htx, ruleT, if_pos hok]
                have htl : tx.toList = tx.data.toList := by rw [ByteArray.toList_eq]
                have hsl : s.toList = s.data.toList := by rw [ByteArray.toList_eq]
                by_cases he : tx = s
                · have HN := Lib.hid (pRuleI_good HC.out hok (htx'.trans he))
                  have n9 : (!(tx.toList == s.toList)) = false := by rw [he]; simp
                  clear hok he htx htx' htl hsl
                  go_wp2_with (first
                    | (go_at_call 129; (refine (implIsRule_any ⟨a.toArray⟩ eg 1 A6 none c6 0 wz.heap.size w9.heap.size src ([] : List Step) _ o9.read.as d9.read.as (Nat.le_refl _) hnz).mono ?_); rintro e w10 ⟨rfl, hb10⟩; simp only [HO.out]; (have q10 := q9.below hb10 lq9); (have r10 := r9.below hb10 lb9); (have o10 := o9.same (Same.of_below hb10 (Nat.le_refl _))); (have d10 := d9.same (Same.of_below hb10 (Nat.le_refl _))); (have t0 := r10.cell (i := 0) rfl); (have t1 := r10.cell (i := 1) rfl); (have t2 := r10.cell (i := 2) rfl); (have t3 := r10.cell (i := 3) rfl); (have t4 := r10.cell (i := 4) rfl); (have lb10 := r10.lt); (have z10 := hb10.size))
                    | (go_at_call 130; (refine (implFormatRule_any ⟨a.toArray⟩ eg 1 A6 none c6 0 wz.heap.size w9.heap.size src ([] : List Step) _ o10.read.as d10.read.as z10 hnz).mono ?_); rintro e w11 ⟨rfl, hb11⟩; rw [HTX.out]; (have q11 := q10.below hb11 q10.lt); (have e0 := q11.cell (i := 0) rfl); (have e1 := q11.cell (i := 1) rfl); (have e2 := q11.cell (i := 2) rfl); (have e3 := q11.cell (i := 3) rfl); (have e4 := q11.cell (i := 4) rfl); (have f0 := q11.free 0); (have f1 := q11.free 1); (have f2 := q11.free 2); (have f3 := q11.free 3); (have f4 := q11.free 4); (have lq11 := q11.lt); (have z11 := hb11.size); (have r11 := r10.below hb11 lb10); (have t0 := r11.cell (i := 0) rfl); (have t1 := r11.cell (i := 1) rfl); (have t2 := r11.cell (i := 2) rfl); (have t3 := r11.cell (i := 3) rfl); (have t4 := r11.cell (i := 4) rfl); (have o11 := o10.same (Same.of_below hb11 z10)); (have d11 := d10.same (Same.of_below hb11 z10))))
                  have R := ((((q11.set 0 (.string ⟨a.toArray⟩)).set 1 (.int .i64 eg)).set 2 (.int .i64 1)).set 3 (.slice A6 src.length c6)).set 4 (.slice none 0 0)
                  rw [HN.out]
                  exact bodyPost_ret (v := .tuple #[.agg #[.string ⟨a.toArray⟩, .int .i64 eg, .int .i64 1, .slice A6 src.length c6, .slice none 0 0], .bool true]) (by simp [results, Try.results43, go_sem, R.cell (i := 0) rfl, R.cell (i := 1) rfl, R.cell (i := 2) rfl, R.cell (i := 3) rfl, R.cell (i := 4) rfl]) rfl ⟨A6, c6, none, 0, rfl, (o11.same (by (with_reducible repeat' first | exact Same.refl _ _ _ | assumption | (refine Same.setCell ?_ (by first | omega | (simp; omega) | (simp; done) | (dsimp only; omega)) _) | (refine Same.alloc ?_ (by first | omega | (simp; omega) | (simp; done) | (dsimp only; omega)) _) | (refine Same.drewN ?_ _) | (refine Same.drew ?_)))).mono (by first | omega | (simp; omega) | (simp; done) | (dsimp only; omega)) (by first | omega | (simp; omega) | (simp; done) | (dsimp only; omega)), (d11.same (by (with_reducible repeat' first | exact Same.refl _ _ _ | assumption | (refine Same.setCell ?_ (by first | omega | (simp; omega) | (simp; done) | (dsimp only; omega)) _) | (refine Same.alloc ?_ (by first | omega | (simp; omega) | (simp; done) | (dsimp only; omega)) _) | (refine Same.drewN ?_ _) | (refine Same.drew ?_)))).mono (by first | omega | (simp; omega) | (simp; done) | (dsimp only; omega)) (by first | omega | (simp; omega) | (simp; done) | (dsimp only; omega)), hap, by (with_reducible repeat' first | exact Below.refl _ _ | assumption | (refine Below.setCell ?_ (by first | omega | (simp; omega) | (simp; done) | (dsimp only; omega)) _) | (refine Below.alloc ?_ (by first | omega | (simp; omega) | (simp; done) | (dsimp only; omega)) _) | (refine below_drewN ?_ _) | (refine Below.drew ?_) | (refine Below.trans ?_ (hb11.mono (by first | omega | (simp; omega) | (simp; done) | (dsimp only; omega)))) | (refine Below.trans ?_ (hb10.mono (by first | omega | (simp; omega) | (simp; done) | (dsimp only; omega)))) | (refine Below.trans ?_ (hbw9.mono (by first | omega | (simp; omega) | (simp; done) | (dsimp only; omega)))))⟩
                · have HN := Lib.hid (pRuleI_text HC.out (fun k => he (htx'.symm.trans k)))
                  have n9 : (!(tx.toList == s.toList)) = true := by
                    have : (tx.toList == s.toList) = false := by
                      rw [beq_eq_false_iff_ne, htl, hsl]
                      exact fun e => he (list_inj e)
                    rw [this]; rfl
                  clear hok he htx htx' htl hsl
                  go_wp2_with (first
                    | (go_at_call 129; (refine (implIsRule_any ⟨a.toArray⟩ eg 1 A6 none c6 0 wz.heap.size w9.heap.size src ([] : List Step) _ o9.read.as d9.read.as (Nat.le_refl _) hnz).mono ?_); rintro e w10 ⟨rfl, hb10⟩; simp only [HO.out]; (have q10 := q9.below hb10 lq9); (have r10 := r9.below hb10 lb9); (have o10 := o9.same (Same.of_below hb10 (Nat.le_refl _))); (have d10 := d9.same (Same.of_below hb10 (Nat.le_refl _))); (have t0 := r10.cell (i := 0) rfl); (have t1 := r10.cell (i := 1) rfl); (have t2 := r10.cell (i := 2) rfl); (have t3 := r10.cell (i := 3) rfl); (have t4 := r10.cell (i := 4) rfl); (have lb10 := r10.lt); (have z10 := hb10.size))
                    | (go_at_call 130; (refine (implFormatRule_any ⟨a.toArray⟩ eg 1 A6 none c6 0 wz.heap.size w9.heap.size src ([] : List Step) _ o10.read.as d10.read.as z10 hnz).mono ?_); rintro e w11 ⟨rfl, hb11⟩; rw [HTX.out]; (have q11 := q10.below hb11 q10.lt); (have e0 := q11.cell (i := 0) rfl); (have e1 := q11.cell (i := 1) rfl); (have e2 := q11.cell (i := 2) rfl); (have e3 := q11.cell (i := 3) rfl); (have e4 := q11.cell (i := 4) rfl); (have f0 := q11.free 0); (have f1 := q11.free 1); (have f2 := q11.free 2); (have f3 := q11.free 3); (have f4 := q11.free 4); (have lq11 := q11.lt); (have z11 := hb11.size)))
                  have R := (((((q11.set 0 (.string ⟨#[]⟩)).set 1 (.int .i64 0)).set 2 (.int .i64 0)).set 3 (.slice none 0 0)).set 4 (.slice none 0 0))
                  rw [HN.out]
                  exact bodyPost_ret (v := .tuple #[.agg #[.string ⟨#[]⟩, .int .i64 0, .int .i64 0, .slice none 0 0, .slice none 0 0], .bool false]) (by simp [results, Try.results43, go_sem, R.cell (i := 0) rfl, R.cell (i := 1) rfl, R.cell (i := 2) rfl, R.cell (i := 3) rfl, R.cell (i := 4) rfl]) rfl (RetRuleB.zero (by (with_reducible repeat' first | exact Below.refl _ _ | assumption | (refine Below.setCell ?_ (by first | omega | (simp; omega) | (simp; done) | (dsimp only; omega)) _) | (refine Below.alloc ?_ (by first | omega | (simp; omega) | (simp; done) | (dsimp only; omega)) _) | (refine below_drewN ?_ _) | (refine Below.drew ?_) | (refine Below.trans ?_ (hb11.mono (by first | omega | (simp; omega) | (simp; done) | (dsimp only; omega)))) | (refine Below.trans ?_ (hb10.mono (by first | omega | (simp; omega) | (simp; done) | (dsimp only; omega)))) | (refine Below.trans ?_ (hbw9.mono (by first | omega | (simp; omega) | (simp; done) | (dsimp only; omega)))))))
            · have nd : ((⟨t.toArray⟩ : ByteArray).toList == [46]) = false := by rw [ndl]; simpa using hd
              have nd2 : (t == [46]) = false := by simpa using hd
              rw [show toI t = readI t by rw [toI, if_neg hd]] at HCS
              clear hd ndl
              cases hod : readI t with
              | none =>
                have HOD := Lib.hid (show readI (⟨t.toArray⟩ : ByteArray).data.toList = none from hod)
                have HN := Lib.hid (pRuleI_none (s := s) (by rw [HCS, hod]))
                clear hod HCS
                go_wp2_with (go_at_call 121; refine (readSteps_any ⟨t.toArray⟩ _ ht3).mono ?_; rintro e w8 ⟨A8, c8, rfl, o8, hb8⟩; rw [HOD.out] at o8 ⊢; dsimp only [Option.getD, Option.isSome] at o8 ⊢; (have r8 := r7.below hb8 lb7); (have g4 := r8.cell (i := 4) rfl); (have h4 := r8.free 4); (have q8 := q7.below hb8 q7.lt); (have e0 := q8.cell (i := 0) rfl); (have e1 := q8.cell (i := 1) rfl); (have e2 := q8.cell (i := 2) rfl); (have e3 := q8.cell (i := 3) rfl); (have e4 := q8.cell (i := 4) rfl); (have f0 := q8.free 0); (have f1 := q8.free 1); (have f2 := q8.free 2); (have f3 := q8.free 3); (have f4 := q8.free 4); (have lq8 := q8.lt))
                have R := ((((((q8.far (p := ⟨bx, 4, none⟩) (by simp; omega) (.slice A8 0 c8)).set 0 (.string ⟨#[]⟩)).set 1 (.int .i64 0)).set 2 (.int .i64 0)).set 3 (.slice none 0 0)).set 4 (.slice none 0 0))
                rw [HN.out]
                exact bodyPost_ret (v := .tuple #[.agg #[.string ⟨#[]⟩, .int .i64 0, .int .i64 0, .slice none 0 0, .slice none 0 0], .bool false]) (by simp [results, Try.results43, go_sem, R.cell (i := 0) rfl, R.cell (i := 1) rfl, R.cell (i := 2) rfl, R.cell (i := 3) rfl, R.cell (i := 4) rfl]) rfl (RetRuleB.zero (by (with_reducible repeat' first | exact Below.refl _ _ | assumption | (refine Below.setCell ?_ (by first | omega | (simp; omega) | (simp; done) | (dsimp only; omega)) _) | (refine Below.alloc ?_ (by first | omega | (simp; omega) | (simp; done) | (dsimp only; omega)) _) | (refine below_drewN ?_ _) | (refine Below.drew ?_) | (refine Below.trans ?_ (hb8.mono (by first | omega | (simp; omega) | (simp; done) | (dsimp only; omega)))) | (refine Below.trans ?_ (hbw7.mono (by first | omega | (simp; omega) | (simp; done) | (dsimp only; omega)))))))
              | some dst =>
                have HOD := Lib.hid (show readI (⟨t.toArray⟩ : ByteArray).data.toList = some dst from hod)
                rw [hod] at HCS
                have HC := Lib.hid HCS
                simp only at HC
                clear hod HCS
                go_upto_region 20 with (go_at_call 121; refine (readSteps_any ⟨t.toArray⟩ _ ht3).mono ?_; rintro e w8 ⟨A8, c8, rfl, o8, hb8⟩; rw [HOD.out] at o8 ⊢; dsimp only [Option.getD, Option.isSome] at o8 ⊢; (have r8 := r7.below hb8 lb7); (have g4 := r8.cell (i := 4) rfl); (have h4 := r8.free 4))
                have q8 := q7.below hb8 q7.lt
                have o8' := o7.same (Same.of_below hb8 (Nat.le_refl _))
                have hbw8 := hbw7.trans (hb8.mono (by omega))
                have z8 := hb8.size
                generalize hW : w8.setCell ⟨bx, 4, none⟩ (.slice A8 dst.length c8) = w9
                have r9 : Blk w9 bx 58 #[.string ⟨a.toArray⟩, .int .i64 eg, .int .i64 1, .slice A6 src.length c6, .slice A8 dst.length c8] := by subst hW; exact r8.set 4 _
                have o9n : EStep.OS w9 w5.heap.size w7.heap.size (.slice A6 src.length c6) src := by subst hW; exact o8'.same (by (with_reducible repeat' first | exact Same.refl _ _ _ | assumption | (refine Same.setCell ?_ (by first | omega | (simp; omega) | (simp; done) | (dsimp only; omega)) _) | (refine Same.alloc ?_ (by first | omega | (simp; omega) | (simp; done) | (dsimp only; omega)) _) | (refine Same.drewN ?_ _) | (refine Same.drew ?_)))
                have d9n : EStep.OS w9 w7.heap.size w9.heap.size (.slice A8 dst.length c8) dst := by subst hW; exact (o8.same (by (with_reducible repeat' first | exact Same.refl _ _ _ | assumption | (refine Same.setCell ?_ (by first | omega | (simp; omega) | (simp; done) | (dsimp only; omega)) _) | (refine Same.alloc ?_ (by first | omega | (simp; omega) | (simp; done) | (dsimp only; omega)) _) | (refine Same.drewN ?_ _) | (refine Same.drew ?_)))).mono (Nat.le_refl _) (by simp [World.setCell])
                have q9 : Blk w9 w.heap.size 58 #[.string ⟨#[]⟩, .int .i64 0, .int .i64 0, .slice none 0 0, .slice none 0 0] := by subst hW; exact q8.far (by simp; omega) _
                have z9 : w8.heap.size = w9.heap.size := by subst hW; simp [World.setCell]
                have hbw9 : Below w.heap.size w w9 := by subst hW; (with_reducible repeat' first | exact Below.refl _ _ | assumption | (refine Below.setCell ?_ (by first | omega | (simp; omega) | (simp; done) | (dsimp only; omega)) _) | (refine Below.alloc ?_ (by first | omega | (simp; omega) | (simp; done) | (dsimp only; omega)) _) | (refine below_drewN ?_ _) | (refine Below.drew ?_) | (refine Below.trans ?_ (hbw8.mono (by first | omega | (simp; omega) | (simp; done) | (dsimp only; omega)))))
                have lb9 : bx < w9.heap.size := by omega
                have lq9 := q9.lt
                have hap : ∀ k, (Value.slice A6 src.length c6).ownBlock = some k → (Value.slice A8 dst.length c8).ownBlock ≠ some k := fun k h1 h2 => by have := (o9n.blkv k h1).2; have := (d9n.blkv k h2).1; omega
                clear hW r7 r8 q7 q8 o7 o8 o8' hb8 g4 h4 hbw7 hbw8
                obtain ⟨wz, rfl⟩ : ∃ x, x = w5 := ⟨_, rfl⟩
                have o9 := o9n.mono (Nat.le_refl _) (by omega : w7.heap.size ≤ w9.heap.size)
                have d9 := d9n.mono (by omega : wz.heap.size ≤ w7.heap.size) (Nat.le_refl _)
                clear o9n d9n
                have t0 := r9.cell (i := 0) rfl
                have t1 := r9.cell (i := 1) rfl
                have t2 := r9.cell (i := 2) rfl
                have t3 := r9.cell (i := 3) rfl
                have t4 := r9.cell (i := 4) rfl
                cases hok : ruleOk ⟨⟨a.toArray⟩, eg, 1, src, dst⟩ with
                | false =>
                  have HO := Lib.hid hok
                  have HN := Lib.hid (pRuleI_not HC.out hok)
                  clear hok
                  go_wp2_with (go_at_call 129; (with_reducible refine (implIsRule_any ⟨a.toArray⟩ eg 1 A6 A8 c6 c8 wz.heap.size w9.heap.size src dst _ o9.read.as d9.read.as (Nat.le_refl _) hnz).mono ?_); rintro e w10 ⟨rfl, hb10⟩; simp only [HO.out]; (have q10 := q9.below hb10 lq9); (have r10 := r9.below hb10 lb9); (have o10 := o9.same (Same.of_below hb10 (Nat.le_refl _))); (have d10 := d9.same (Same.of_below hb10 (Nat.le_refl _))); (have t0 := r10.cell (i := 0) rfl); (have t1 := r10.cell (i := 1) rfl); (have t2 := r10.cell (i := 2) rfl); (have t3 := r10.cell (i := 3) rfl); (have t4 := r10.cell (i := 4) rfl); (have lb10 := r10.lt); (have z10 := hb10.size); (have e0 := q10.cell (i := 0) rfl); (have e1 := q10.cell (i := 1) rfl); (have e2 := q10.cell (i := 2) rfl); (have e3 := q10.cell (i := 3) rfl); (have e4 := q10.cell (i := 4) rfl); (have f0 := q10.free 0); (have f1 := q10.free 1); (have f2 := q10.free 2); (have f3 := q10.free 3); (have f4 := q10.free 4))
                  have R := (((((q10.set 0 (.string ⟨#[]⟩)).set 1 (.int .i64 0)).set 2 (.int .i64 0)).set 3 (.slice none 0 0)).set 4 (.slice none 0 0))
                  rw [HN.out]
                  exact bodyPost_ret (v := .tuple #[.agg #[.string ⟨#[]⟩, .int .i64 0, .int .i64 0, .slice none 0 0, .slice none 0 0], .bool false]) (by simp [results, Try.results43, go_sem, R.cell (i := 0) rfl, R.cell (i := 1) rfl, R.cell (i := 2) rfl, R.cell (i := 3) rfl, R.cell (i := 4) rfl]) rfl (RetRuleB.zero (by (with_reducible repeat' first | exact Below.refl _ _ | assumption | (refine Below.setCell ?_ (by first | omega | (simp; omega) | (simp; done) | (dsimp only; omega)) _) | (refine Below.alloc ?_ (by first | omega | (simp; omega) | (simp; done) | (dsimp only; omega)) _) | (refine below_drewN ?_ _) | (refine Below.drew ?_) | (refine Below.trans ?_ (hb10.mono (by first | omega | (simp; omega) | (simp; done) | (dsimp only; omega)))) | (refine Below.trans ?_ (hbw9.mono (by first | omega | (simp; omega) | (simp; done) | (dsimp only; omega)))))))
                | true =>
                  have HO := Lib.hid hok
                  obtain ⟨tx, htx⟩ : ∃ tx, ruleT ⟨⟨a.toArray⟩, eg, 1, src, dst⟩ = tx := ⟨_, rfl⟩
                  have HTX := Lib.hid htx
                  have htx' : ruleText ⟨⟨a.toArray⟩, eg, 1, src, dst⟩ = tx := by rw [← htx, ruleT, if_pos hok]
                  have htl : tx.toList = tx.data.toList := by rw [ByteArray.toList_eq]
                  have hsl : s.toList = s.data.toList := by rw [ByteArray.toList_eq]
                  by_cases he : tx = s
                  · have HN := Lib.hid (pRuleI_good HC.out hok (htx'.trans he))
                    have n9 : (!(tx.toList == s.toList)) = false := by rw [he]; simp
                    clear hok he htx htx' htl hsl
                    go_wp2_with (first
                      | (go_at_call 129; (with_reducible refine (implIsRule_any ⟨a.toArray⟩ eg 1 A6 A8 c6 c8 wz.heap.size w9.heap.size src dst _ o9.read.as d9.read.as (Nat.le_refl _) hnz).mono ?_); rintro e w10 ⟨rfl, hb10⟩; simp only [HO.out]; (have q10 := q9.below hb10 lq9); (have r10 := r9.below hb10 lb9); (have o10 := o9.same (Same.of_below hb10 (Nat.le_refl _))); (have d10 := d9.same (Same.of_below hb10 (Nat.le_refl _))); (have t0 := r10.cell (i := 0) rfl); (have t1 := r10.cell (i := 1) rfl); (have t2 := r10.cell (i := 2) rfl); (have t3 := r10.cell (i := 3) rfl); (have t4 := r10.cell (i := 4) rfl); (have lb10 := r10.lt); (have z10 := hb10.size))
                      | (go_at_call 130; (with_reducible refine (implFormatRule_any ⟨a.toArray⟩ eg 1 A6 A8 c6 c8 wz.heap.size w9.heap.size src dst _ o10.read.as d10.read.as z10 hnz).mono ?_); rintro e w11 ⟨rfl, hb11⟩; rw [HTX.out]; (have q11 := q10.below hb11 q10.lt); (have e0 := q11.cell (i := 0) rfl); (have e1 := q11.cell (i := 1) rfl); (have e2 := q11.cell (i := 2) rfl); (have e3 := q11.cell (i := 3) rfl); (have e4 := q11.cell (i := 4) rfl); (have f0 := q11.free 0); (have f1 := q11.free 1); (have f2 := q11.free 2); (have f3 := q11.free 3); (have f4 := q11.free 4); (have lq11 := q11.lt); (have z11 := hb11.size); (have r11 := r10.below hb11 lb10); (have t0 := r11.cell (i := 0) rfl); (have t1 := r11.cell (i := 1) rfl); (have t2 := r11.cell (i := 2) rfl); (have t3 := r11.cell (i := 3) rfl); (have t4 := r11.cell (i := 4) rfl); (have o11 := o10.same (Same.of_below hb11 z10)); (have d11 := d10.same (Same.of_below hb11 z10))))
                    have R := ((((q11.set 0 (.string ⟨a.toArray⟩)).set 1 (.int .i64 eg)).set 2 (.int .i64 1)).set 3 (.slice A6 src.length c6)).set 4 (.slice A8 dst.length c8)
                    rw [HN.out]
                    exact bodyPost_ret (v := .tuple #[.agg #[.string ⟨a.toArray⟩, .int .i64 eg, .int .i64 1, .slice A6 src.length c6, .slice A8 dst.length c8], .bool true]) (by simp [results, Try.results43, go_sem, R.cell (i := 0) rfl, R.cell (i := 1) rfl, R.cell (i := 2) rfl, R.cell (i := 3) rfl, R.cell (i := 4) rfl]) rfl ⟨A6, c6, A8, c8, rfl, (o11.same (by (with_reducible repeat' first | exact Same.refl _ _ _ | assumption | (refine Same.setCell ?_ (by first | omega | (simp; omega) | (simp; done) | (dsimp only; omega)) _) | (refine Same.alloc ?_ (by first | omega | (simp; omega) | (simp; done) | (dsimp only; omega)) _) | (refine Same.drewN ?_ _) | (refine Same.drew ?_)))).mono (by first | omega | (simp; omega) | (simp; done) | (dsimp only; omega)) (by first | omega | (simp; omega) | (simp; done) | (dsimp only; omega)), (d11.same (by (with_reducible repeat' first | exact Same.refl _ _ _ | assumption | (refine Same.setCell ?_ (by first | omega | (simp; omega) | (simp; done) | (dsimp only; omega)) _) | (refine Same.alloc ?_ (by first | omega | (simp; omega) | (simp; done) | (dsimp only; omega)) _) | (refine Same.drewN ?_ _) | (refine Same.drew ?_)))).mono (by first | omega | (simp; omega) | (simp; done) | (dsimp only; omega)) (by first | omega | (simp; omega) | (simp; done) | (dsimp only; omega)), hap, by (with_reducible repeat' first | exact Below.refl _ _ | assumption | (refine Below.setCell ?_ (by first | omega | (simp; omega) | (simp; done) | (dsimp only; omega)) _) | (refine Below.alloc ?_ (by first | omega | (simp; omega) | (simp; done) | (dsimp only; omega)) _) | (refine below_drewN ?_ _) | (refine Below.drew ?_) | (refine Below.trans ?_ (hb11.mono (by first | omega | (simp; omega) | (simp; done) | (dsimp only; omega)))) | (refine Below.trans ?_ (hb10.mono (by first | omega | (simp; omega) | (simp; done) | (dsimp only; omega)))) | (refine Below.trans ?_ (hbw9.mono (by first | omega | (simp; omega) | (simp; done) | (dsimp only; omega)))))⟩
                  · have HN := Lib.hid (pRuleI_text HC.out (fun k => he (htx'.symm.trans k)))
                    have n9 : (!(tx.toList == s.toList)) = true := by
                      have : (tx.toList == s.toList) = false := by
                        rw [beq_eq_false_iff_ne, htl, hsl]
                        exact fun e => he (list_inj e)
                      rw [this]; rfl
                    clear hok he htx htx' htl hsl
                    go_wp2_with (first
                      | (go_at_call 129; (with_reducible refine (implIsRule_any ⟨a.toArray⟩ eg 1 A6 A8 c6 c8 wz.heap.size w9.heap.size src dst _ o9.read.as d9.read.as (Nat.le_refl _) hnz).mono ?_); rintro e w10 ⟨rfl, hb10⟩; simp only [HO.out]; (have q10 := q9.below hb10 lq9); (have r10 := r9.below hb10 lb9); (have o10 := o9.same (Same.of_below hb10 (Nat.le_refl _))); (have d10 := d9.same (Same.of_below hb10 (Nat.le_refl _))); (have t0 := r10.cell (i := 0) rfl); (have t1 := r10.cell (i := 1) rfl); (have t2 := r10.cell (i := 2) rfl); (have t3 := r10.cell (i := 3) rfl); (have t4 := r10.cell (i := 4) rfl); (have lb10 := r10.lt); (have z10 := hb10.size))
                      | (go_at_call 130; (with_reducible refine (implFormatRule_any ⟨a.toArray⟩ eg 1 A6 A8 c6 c8 wz.heap.size w9.heap.size src dst _ o10.read.as d10.read.as z10 hnz).mono ?_); rintro e w11 ⟨rfl, hb11⟩; rw [HTX.out]; (have q11 := q10.below hb11 q10.lt); (have e0 := q11.cell (i := 0) rfl); (have e1 := q11.cell (i := 1) rfl); (have e2 := q11.cell (i := 2) rfl); (have e3 := q11.cell (i := 3) rfl); (have e4 := q11.cell (i := 4) rfl); (have f0 := q11.free 0); (have f1 := q11.free 1); (have f2 := q11.free 2); (have f3 := q11.free 3); (have f4 := q11.free 4); (have lq11 := q11.lt); (have z11 := hb11.size)))
                    have R := (((((q11.set 0 (.string ⟨#[]⟩)).set 1 (.int .i64 0)).set 2 (.int .i64 0)).set 3 (.slice none 0 0)).set 4 (.slice none 0 0))
                    rw [HN.out]
                    exact bodyPost_ret (v := .tuple #[.agg #[.string ⟨#[]⟩, .int .i64 0, .int .i64 0, .slice none 0 0, .slice none 0 0], .bool false]) (by simp [results, Try.results43, go_sem, R.cell (i := 0) rfl, R.cell (i := 1) rfl, R.cell (i := 2) rfl, R.cell (i := 3) rfl, R.cell (i := 4) rfl]) rfl (RetRuleB.zero (by (with_reducible repeat' first | exact Below.refl _ _ | assumption | (refine Below.setCell ?_ (by first | omega | (simp; omega) | (simp; done) | (dsimp only; omega)) _) | (refine Below.alloc ?_ (by first | omega | (simp; omega) | (simp; done) | (dsimp only; omega)) _) | (refine below_drewN ?_ _) | (refine Below.drew ?_) | (refine Below.trans ?_ (hb11.mono (by first | omega | (simp; omega) | (simp; done) | (dsimp only; omega)))) | (refine Below.trans ?_ (hb10.mono (by first | omega | (simp; omega) | (simp; done) | (dsimp only; omega)))) | (refine Below.trans ?_ (hbw9.mono (by first | omega | (simp; omega) | (simp; done) | (dsimp only; omega)))))))
      | false =>
        have hfb : u2 = bl b := by rw [← hu2]; unfold Lib.trimPrefix; rw [hp]; rfl
        have HQ := Lib.hid (show Lib.hasSuffix b.data.toList (⟨#[36]⟩ : ByteArray).data.toList = q by rw [← hq, hfb]; rfl)
        have HU3 := Lib.hid (show Lib.trimSuffix b.data.toList (⟨#[36]⟩ : ByteArray).data.toList = u3 by rw [← hu3, hfb]; rfl)
        go_upto_region 11 with (go_at_call 128; refine (cutSuffix_any b ⟨#[36]⟩ _ sb (by decide)).mono ?_; rintro e w6 ⟨rfl, rfl⟩; rw [HQ.out, HU3.out]; simp only [])
        cases q with
        | true =>
          have HCC := Lib.hid (candI_at hc1 hc2 hcm hp hu2 hq hu3 rfl)
          simp only [if_true, Bool.false_eq_true, if_false] at HCC
          have HRO := Lib.hid (show readI (⟨u3.toArray⟩ : ByteArray).data.toList = readI u3 from rfl)
          have hx3 : (⟨u3.toArray⟩ : ByteArray).size ≤ 1048576 := by show u3.toArray.size ≤ _; simp; omega
          clear hc1 hc2 hcm hp hu2 hq hu3 hfb
          go_upto_region 16 with fail
          generalize hW : w4.setCell ⟨bx, 2, none⟩ (.int .i64 2) = w5
          have r5 : Blk w5 bx 58 #[.string ⟨a.toArray⟩, .int .i64 eg, .int .i64 2, .slice none 0 0, .slice none 0 0] := by subst hW; exact r4.set 2 _
          have z5 : w4.heap.size = w5.heap.size := by subst hW; simp [World.setCell]
          have q5 : Blk w5 w.heap.size 58 #[.string ⟨#[]⟩, .int .i64 0, .int .i64 0, .slice none 0 0, .slice none 0 0] := by subst hW; exact q4.far (by simp; omega) _
          have hbw5 : Below w.heap.size w w5 := by subst hW; (with_reducible repeat' first | exact Below.refl _ _ | assumption | (refine Below.setCell ?_ (by first | omega | (simp; omega) | (simp; done) | (dsimp only; omega)) _) | (refine Below.alloc ?_ (by first | omega | (simp; omega) | (simp; done) | (dsimp only; omega)) _) | (refine below_drewN ?_ _) | (refine Below.drew ?_) | (refine Below.trans ?_ (hbw4.mono (by first | omega | (simp; omega) | (simp; done) | (dsimp only; omega)))))
          have lb5 : bx < w5.heap.size := by omega
          clear hW r4 q4 hbw4 g2 h2
          have ndl : (⟨t.toArray⟩ : ByteArray).toList = t := by rw [ByteArray.toList_eq]
          cases hro : readI u3 with
          | none =>
            replace HRO := Lib.hid (HRO.out.trans hro)
            have HN := Lib.hid (pRuleI_none (s := s) (by rw [HCC.out, hro]))
            clear hro
            go_upto_region 17 with (go_at_call 121; refine (readSteps_any ⟨u3.toArray⟩ _ hx3).mono ?_; rintro e w6 ⟨A6, c6, rfl, o6, hb6⟩; rw [HRO.out] at o6 ⊢; dsimp only [Option.getD, Option.isSome] at o6 ⊢; (have r6 := r5.below hb6 lb5); (have g3 := r6.cell (i := 3) rfl); (have h3 := r6.free 3))
            have q6 := q5.below hb6 q5.lt
            have hbw6 := hbw5.trans (hb6.mono (by omega))
            have z6 := hb6.size
            generalize hW : w6.setCell ⟨bx, 3, none⟩ (.slice A6 ([] : List Step).length c6) = w7
            have r7 : Blk w7 bx 58 #[.string ⟨a.toArray⟩, .int .i64 eg, .int .i64 2, .slice A6 ([] : List Step).length c6, .slice none 0 0] := by subst hW; exact r6.set 3 _
            have o7 : EStep.OS w7 w5.heap.size w7.heap.size (.slice A6 ([] : List Step).length c6) ([] : List Step) := by subst hW; exact (o6.same (by (with_reducible repeat' first | exact Same.refl _ _ _ | assumption | (refine Same.setCell ?_ (by first | omega | (simp; omega) | (simp; done) | (dsimp only; omega)) _) | (refine Same.alloc ?_ (by first | omega | (simp; omega) | (simp; done) | (dsimp only; omega)) _) | (refine Same.drewN ?_ _) | (refine Same.drew ?_)))).mono (Nat.le_refl _) (by simp [World.setCell])
            have q7 : Blk w7 w.heap.size 58 #[.string ⟨#[]⟩, .int .i64 0, .int .i64 0, .slice none 0 0, .slice none 0 0] := by subst hW; exact q6.far (by simp; omega) _
            have z7 : w6.heap.size = w7.heap.size := by subst hW; simp [World.setCell]
            have hbw7 : Below w.heap.size w w7 := by subst hW; (with_reducible repeat' first | exact Below.refl _ _ | assumption | (refine Below.setCell ?_ (by first | omega | (simp; omega) | (simp; done) | (dsimp only; omega)) _) | (refine Below.alloc ?_ (by first | omega | (simp; omega) | (simp; done) | (dsimp only; omega)) _) | (refine below_drewN ?_ _) | (refine Below.drew ?_) | (refine Below.trans ?_ (hbw6.mono (by first | omega | (simp; omega) | (simp; done) | (dsimp only; omega)))))
            have lb7 : bx < w7.heap.size := by omega
            clear hW r6 q6 o6 hb6 g3 h3 hbw6
            have e0 := q7.cell (i := 0) rfl
            have e0 := q7.cell (i := 0) rfl
            have e1 := q7.cell (i := 1) rfl
            have e2 := q7.cell (i := 2) rfl
            have e3 := q7.cell (i := 3) rfl
            have e4 := q7.cell (i := 4) rfl
            have f0 := q7.free 0
            have f1 := q7.free 1
            have f2 := q7.free 2
            have f3 := q7.free 3
            have f4 := q7.free 4
            have lq7 := q7.lt
            by_cases hd : t = [46]
            · have nd : ((⟨t.toArray⟩ : ByteArray).toList == [46]) = true := by rw [ndl, hd]; rfl
              have nd2 : (t == [46]) = true := by rw [hd]; rfl
              clear hd ndl
              go_wp2_with fail
              have R := (((((q7.set 0 (.string ⟨#[]⟩)).set 1 (.int .i64 0)).set 2 (.int .i64 0)).set 3 (.slice none 0 0)).set 4 (.slice none 0 0))
              rw [HN.out]
              exact bodyPost_ret (v := .tuple #[.agg #[.string ⟨#[]⟩, .int .i64 0, .int .i64 0, .slice none 0 0, .slice none 0 0], .bool false]) (by simp [results, Try.results43, go_sem, R.cell (i := 0) rfl, R.cell (i := 1) rfl, R.cell (i := 2) rfl, R.cell (i := 3) rfl, R.cell (i := 4) rfl]) rfl (RetRuleB.zero (by (with_reducible repeat' first | exact Below.refl _ _ | assumption | (refine Below.setCell ?_ (by first | omega | (simp; omega) | (simp; done) | (dsimp only; omega)) _) | (refine Below.alloc ?_ (by first | omega | (simp; omega) | (simp; done) | (dsimp only; omega)) _) | (refine below_drewN ?_ _) | (refine Below.drew ?_) | (refine Below.trans ?_ (hbw7.mono (by first | omega | (simp; omega) | (simp; done) | (dsimp only; omega)))))))
            · have nd : ((⟨t.toArray⟩ : ByteArray).toList == [46]) = false := by rw [ndl]; simpa using hd
              have nd2 : (t == [46]) = false := by simpa using hd
              clear hd ndl
              obtain ⟨od, hod⟩ : ∃ od, readI t = od := ⟨_, rfl⟩
              have HOD := Lib.hid (show readI (⟨t.toArray⟩ : ByteArray).data.toList = od from hod)
              clear hod
              go_wp2_with (go_at_call 121; refine (readSteps_any ⟨t.toArray⟩ _ ht3).mono ?_; rintro e w8 ⟨A8, c8, rfl, o8, hb8⟩; (have r8 := r7.below hb8 lb7); (have g4 := r8.cell (i := 4) rfl); (have h4 := r8.free 4); (have q8 := q7.below hb8 lq7); (have e0 := q8.cell (i := 0) rfl); (have e1 := q8.cell (i := 1) rfl); (have e2 := q8.cell (i := 2) rfl); (have e3 := q8.cell (i := 3) rfl); (have e4 := q8.cell (i := 4) rfl); (have f0 := q8.free 0); (have f1 := q8.free 1); (have f2 := q8.free 2); (have f3 := q8.free 3); (have f4 := q8.free 4); (have lq8 := q8.lt))
              have R := ((((((q8.far (p := ⟨bx, 4, none⟩) (by simp; omega) (.slice A8 ((readI (⟨t.toArray⟩ : ByteArray).data.toList).getD []).length c8)).set 0 (.string ⟨#[]⟩)).set 1 (.int .i64 0)).set 2 (.int .i64 0)).set 3 (.slice none 0 0)).set 4 (.slice none 0 0))
              rw [HN.out]
              exact bodyPost_ret (v := .tuple #[.agg #[.string ⟨#[]⟩, .int .i64 0, .int .i64 0, .slice none 0 0, .slice none 0 0], .bool false]) (by simp [results, Try.results43, go_sem, R.cell (i := 0) rfl, R.cell (i := 1) rfl, R.cell (i := 2) rfl, R.cell (i := 3) rfl, R.cell (i := 4) rfl]) rfl (RetRuleB.zero (by (with_reducible repeat' first | exact Below.refl _ _ | assumption | (refine Below.setCell ?_ (by first | omega | (simp; omega) | (simp; done) | (dsimp only; omega)) _) | (refine Below.alloc ?_ (by first | omega | (simp; omega) | (simp; done) | (dsimp only; omega)) _) | (refine below_drewN ?_ _) | (refine Below.drew ?_) | (refine Below.trans ?_ (hb8.mono (by first | omega | (simp; omega) | (simp; done) | (dsimp only; omega)))) | (refine Below.trans ?_ (hbw7.mono (by first | omega | (simp; omega) | (simp; done) | (dsimp only; omega)))))))
          | some src =>
            replace HRO := Lib.hid (HRO.out.trans hro)
            have HCS := HCC.out
            rw [hro] at HCS
            clear hro
            go_upto_region 17 with (go_at_call 121; refine (readSteps_any ⟨u3.toArray⟩ _ hx3).mono ?_; rintro e w6 ⟨A6, c6, rfl, o6, hb6⟩; rw [HRO.out] at o6 ⊢; dsimp only [Option.getD, Option.isSome] at o6 ⊢; (have r6 := r5.below hb6 lb5); (have g3 := r6.cell (i := 3) rfl); (have h3 := r6.free 3))
            have q6 := q5.below hb6 q5.lt
            have hbw6 := hbw5.trans (hb6.mono (by omega))
            have z6 := hb6.size
            generalize hW : w6.setCell ⟨bx, 3, none⟩ (.slice A6 src.length c6) = w7
            have r7 : Blk w7 bx 58 #[.string ⟨a.toArray⟩, .int .i64 eg, .int .i64 2, .slice A6 src.length c6, .slice none 0 0] := by subst hW; exact r6.set 3 _
            have o7 : EStep.OS w7 w5.heap.size w7.heap.size (.slice A6 src.length c6) src := by subst hW; exact (o6.same (by (with_reducible repeat' first | exact Same.refl _ _ _ | assumption | (refine Same.setCell ?_ (by first | omega | (simp; omega) | (simp; done) | (dsimp only; omega)) _) | (refine Same.alloc ?_ (by first | omega | (simp; omega) | (simp; done) | (dsimp only; omega)) _) | (refine Same.drewN ?_ _) | (refine Same.drew ?_)))).mono (Nat.le_refl _) (by simp [World.setCell])
            have q7 : Blk w7 w.heap.size 58 #[.string ⟨#[]⟩, .int .i64 0, .int .i64 0, .slice none 0 0, .slice none 0 0] := by subst hW; exact q6.far (by simp; omega) _
            have z7 : w6.heap.size = w7.heap.size := by subst hW; simp [World.setCell]
            have hbw7 : Below w.heap.size w w7 := by subst hW; (with_reducible repeat' first | exact Below.refl _ _ | assumption | (refine Below.setCell ?_ (by first | omega | (simp; omega) | (simp; done) | (dsimp only; omega)) _) | (refine Below.alloc ?_ (by first | omega | (simp; omega) | (simp; done) | (dsimp only; omega)) _) | (refine below_drewN ?_ _) | (refine Below.drew ?_) | (refine Below.trans ?_ (hbw6.mono (by first | omega | (simp; omega) | (simp; done) | (dsimp only; omega)))))
            have lb7 : bx < w7.heap.size := by omega
            clear hW r6 q6 o6 hb6 g3 h3 hbw6
            by_cases hd : t = [46]
            · have nd : ((⟨t.toArray⟩ : ByteArray).toList == [46]) = true := by rw [ndl, hd]; rfl
              have nd2 : (t == [46]) = true := by rw [hd]; rfl
              rw [show toI t = some [] by rw [toI, if_pos hd]] at HCS
              have HC := Lib.hid HCS
              simp only at HC
              clear hd ndl HCS
              obtain ⟨w9, rfl⟩ : ∃ x, x = w7 := ⟨_, rfl⟩
              obtain ⟨wz, rfl⟩ : ∃ x, x = w5 := ⟨_, rfl⟩
              have r9 := r7; have q9 := q7; have hbw9 := hbw7; have lb9 := lb7; have lq9 := q7.lt
              have o9 := o7
              have d9 : EStep.OS w9 wz.heap.size w9.heap.size (.slice none 0 0) [] := Elem.OS.nil
              have hap : ∀ k, (Value.slice A6 src.length c6).ownBlock = some k → (Value.slice none ([] : List Step).length 0).ownBlock ≠ some k := fun k _ h2 => by simp [Value.ownBlock] at h2
              clear r7 q7 o7 hbw7
              have t0 := r9.cell (i := 0) rfl
              have t1 := r9.cell (i := 1) rfl
              have t2 := r9.cell (i := 2) rfl
              have t3 := r9.cell (i := 3) rfl
              have t4 := r9.cell (i := 4) rfl
              cases hok : ruleOk ⟨⟨a.toArray⟩, eg, 2, src, ([] : List Step)⟩ with
              | false =>
                have HO := Lib.hid hok
                have HN := Lib.hid (pRuleI_not HC.out hok)
                clear hok
                go_wp2_with (go_at_call 129; (refine (implIsRule_any ⟨a.toArray⟩ eg 2 A6 none c6 0 wz.heap.size w9.heap.size src ([] : List Step) _ o9.read.as d9.read.as (Nat.le_refl _) hnz).mono ?_); rintro e w10 ⟨rfl, hb10⟩; simp only [HO.out]; (have q10 := q9.below hb10 lq9); (have r10 := r9.below hb10 lb9); (have o10 := o9.same (Same.of_below hb10 (Nat.le_refl _))); (have d10 := d9.same (Same.of_below hb10 (Nat.le_refl _))); (have t0 := r10.cell (i := 0) rfl); (have t1 := r10.cell (i := 1) rfl); (have t2 := r10.cell (i := 2) rfl); (have t3 := r10.cell (i := 3) rfl); (have t4 := r10.cell (i := 4) rfl); (have lb10 := r10.lt); (have z10 := hb10.size); (have e0 := q10.cell (i := 0) rfl); (have e1 := q10.cell (i := 1) rfl); (have e2 := q10.cell (i := 2) rfl); (have e3 := q10.cell (i := 3) rfl); (have e4 := q10.cell (i := 4) rfl); (have f0 := q10.free 0); (have f1 := q10.free 1); (have f2 := q10.free 2); (have f3 := q10.free 3); (have f4 := q10.free 4))
                have R := (((((q10.set 0 (.string ⟨#[]⟩)).set 1 (.int .i64 0)).set 2 (.int .i64 0)).set 3 (.slice none 0 0)).set 4 (.slice none 0 0))
                rw [HN.out]
                exact bodyPost_ret (v := .tuple #[.agg #[.string ⟨#[]⟩, .int .i64 0, .int .i64 0, .slice none 0 0, .slice none 0 0], .bool false]) (by simp [results, Try.results43, go_sem, R.cell (i := 0) rfl, R.cell (i := 1) rfl, R.cell (i := 2) rfl, R.cell (i := 3) rfl, R.cell (i := 4) rfl]) rfl (RetRuleB.zero (by (with_reducible repeat' first | exact Below.refl _ _ | assumption | (refine Below.setCell ?_ (by first | omega | (simp; omega) | (simp; done) | (dsimp only; omega)) _) | (refine Below.alloc ?_ (by first | omega | (simp; omega) | (simp; done) | (dsimp only; omega)) _) | (refine below_drewN ?_ _) | (refine Below.drew ?_) | (refine Below.trans ?_ (hb10.mono (by first | omega | (simp; omega) | (simp; done) | (dsimp only; omega)))) | (refine Below.trans ?_ (hbw9.mono (by first | omega | (simp; omega) | (simp; done) | (dsimp only; omega)))))))
              | true =>
                have HO := Lib.hid hok
                obtain ⟨tx, htx⟩ : ∃ tx, ruleT ⟨⟨a.toArray⟩, eg, 2, src, ([] : List Step)⟩ = tx := ⟨_, rfl⟩
                have HTX := Lib.hid htx
                have htx' : ruleText ⟨⟨a.toArray⟩, eg, 2, src, ([] : List Step)⟩ = tx := by rw [← htx, ruleT, if_pos hok]
                have htl : tx.toList = tx.data.toList := by rw [ByteArray.toList_eq]
                have hsl : s.toList = s.data.toList := by rw [ByteArray.toList_eq]
                by_cases he : tx = s
                · have HN := Lib.hid (pRuleI_good HC.out hok (htx'.trans he))
                  have n9 : (!(tx.toList == s.toList)) = false := by rw [he]; simp
                  clear hok he htx htx' htl hsl
                  go_wp2_with (first
                    | (go_at_call 129; (refine (implIsRule_any ⟨a.toArray⟩ eg 2 A6 none c6 0 wz.heap.size w9.heap.size src ([] : List Step) _ o9.read.as d9.read.as (Nat.le_refl _) hnz).mono ?_); rintro e w10 ⟨rfl, hb10⟩; simp only [HO.out]; (have q10 := q9.below hb10 lq9); (have r10 := r9.below hb10 lb9); (have o10 := o9.same (Same.of_below hb10 (Nat.le_refl _))); (have d10 := d9.same (Same.of_below hb10 (Nat.le_refl _))); (have t0 := r10.cell (i := 0) rfl); (have t1 := r10.cell (i := 1) rfl); (have t2 := r10.cell (i := 2) rfl); (have t3 := r10.cell (i := 3) rfl); (have t4 := r10.cell (i := 4) rfl); (have lb10 := r10.lt); (have z10 := hb10.size))
                    | (go_at_call 130; (refine (implFormatRule_any ⟨a.toArray⟩ eg 2 A6 none c6 0 wz.heap.size w9.heap.size src ([] : List Step) _ o10.read.as d10.read.as z10 hnz).mono ?_); rintro e w11 ⟨rfl, hb11⟩; rw [HTX.out]; (have q11 := q10.below hb11 q10.lt); (have e0 := q11.cell (i := 0) rfl); (have e1 := q11.cell (i := 1) rfl); (have e2 := q11.cell (i := 2) rfl); (have e3 := q11.cell (i := 3) rfl); (have e4 := q11.cell (i := 4) rfl); (have f0 := q11.free 0); (have f1 := q11.free 1); (have f2 := q11.free 2); (have f3 := q11.free 3); (have f4 := q11.free 4); (have lq11 := q11.lt); (have z11 := hb11.size); (have r11 := r10.below hb11 lb10); (have t0 := r11.cell (i := 0) rfl); (have t1 := r11.cell (i := 1) rfl); (have t2 := r11.cell (i := 2) rfl); (have t3 := r11.cell (i := 3) rfl); (have t4 := r11.cell (i := 4) rfl); (have o11 := o10.same (Same.of_below hb11 z10)); (have d11 := d10.same (Same.of_below hb11 z10))))
                  have R := ((((q11.set 0 (.string ⟨a.toArray⟩)).set 1 (.int .i64 eg)).set 2 (.int .i64 2)).set 3 (.slice A6 src.length c6)).set 4 (.slice none 0 0)
                  rw [HN.out]
                  exact bodyPost_ret (v := .tuple #[.agg #[.string ⟨a.toArray⟩, .int .i64 eg, .int .i64 2, .slice A6 src.length c6, .slice none 0 0], .bool true]) (by simp [results, Try.results43, go_sem, R.cell (i := 0) rfl, R.cell (i := 1) rfl, R.cell (i := 2) rfl, R.cell (i := 3) rfl, R.cell (i := 4) rfl]) rfl ⟨A6, c6, none, 0, rfl, (o11.same (by (with_reducible repeat' first | exact Same.refl _ _ _ | assumption | (refine Same.setCell ?_ (by first | omega | (simp; omega) | (simp; done) | (dsimp only; omega)) _) | (refine Same.alloc ?_ (by first | omega | (simp; omega) | (simp; done) | (dsimp only; omega)) _) | (refine Same.drewN ?_ _) | (refine Same.drew ?_)))).mono (by first | omega | (simp; omega) | (simp; done) | (dsimp only; omega)) (by first | omega | (simp; omega) | (simp; done) | (dsimp only; omega)), (d11.same (by (with_reducible repeat' first | exact Same.refl _ _ _ | assumption | (refine Same.setCell ?_ (by first | omega | (simp; omega) | (simp; done) | (dsimp only; omega)) _) | (refine Same.alloc ?_ (by first | omega | (simp; omega) | (simp; done) | (dsimp only; omega)) _) | (refine Same.drewN ?_ _) | (refine Same.drew ?_)))).mono (by first | omega | (simp; omega) | (simp; done) | (dsimp only; omega)) (by first | omega | (simp; omega) | (simp; done) | (dsimp only; omega)), hap, by (with_reducible repeat' first | exact Below.refl _ _ | assumption | (refine Below.setCell ?_ (by first | omega | (simp; omega) | (simp; done) | (dsimp only; omega)) _) | (refine Below.alloc ?_ (by first | omega | (simp; omega) | (simp; done) | (dsimp only; omega)) _) | (refine below_drewN ?_ _) | (refine Below.drew ?_) | (refine Below.trans ?_ (hb11.mono (by first | omega | (simp; omega) | (simp; done) | (dsimp only; omega)))) | (refine Below.trans ?_ (hb10.mono (by first | omega | (simp; omega) | (simp; done) | (dsimp only; omega)))) | (refine Below.trans ?_ (hbw9.mono (by first | omega | (simp; omega) | (simp; done) | (dsimp only; omega)))))⟩
                · have HN := Lib.hid (pRuleI_text HC.out (fun k => he (htx'.symm.trans k)))
                  have n9 : (!(tx.toList == s.toList)) = true := by
                    have : (tx.toList == s.toList) = false := by
                      rw [beq_eq_false_iff_ne, htl, hsl]
                      exact fun e => he (list_inj e)
                    rw [this]; rfl
                  clear hok he htx htx' htl hsl
                  go_wp2_with (first
                    | (go_at_call 129; (refine (implIsRule_any ⟨a.toArray⟩ eg 2 A6 none c6 0 wz.heap.size w9.heap.size src ([] : List Step) _ o9.read.as d9.read.as (Nat.le_refl _) hnz).mono ?_); rintro e w10 ⟨rfl, hb10⟩; simp only [HO.out]; (have q10 := q9.below hb10 lq9); (have r10 := r9.below hb10 lb9); (have o10 := o9.same (Same.of_below hb10 (Nat.le_refl _))); (have d10 := d9.same (Same.of_below hb10 (Nat.le_refl _))); (have t0 := r10.cell (i := 0) rfl); (have t1 := r10.cell (i := 1) rfl); (have t2 := r10.cell (i := 2) rfl); (have t3 := r10.cell (i := 3) rfl); (have t4 := r10.cell (i := 4) rfl); (have lb10 := r10.lt); (have z10 := hb10.size))
                    | (go_at_call 130; (refine (implFormatRule_any ⟨a.toArray⟩ eg 2 A6 none c6 0 wz.heap.size w9.heap.size src ([] : List Step) _ o10.read.as d10.read.as z10 hnz).mono ?_); rintro e w11 ⟨rfl, hb11⟩; rw [HTX.out]; (have q11 := q10.below hb11 q10.lt); (have e0 := q11.cell (i := 0) rfl); (have e1 := q11.cell (i := 1) rfl); (have e2 := q11.cell (i := 2) rfl); (have e3 := q11.cell (i := 3) rfl); (have e4 := q11.cell (i := 4) rfl); (have f0 := q11.free 0); (have f1 := q11.free 1); (have f2 := q11.free 2); (have f3 := q11.free 3); (have f4 := q11.free 4); (have lq11 := q11.lt); (have z11 := hb11.size)))
                  have R := (((((q11.set 0 (.string ⟨#[]⟩)).set 1 (.int .i64 0)).set 2 (.int .i64 0)).set 3 (.slice none 0 0)).set 4 (.slice none 0 0))
                  rw [HN.out]
                  exact bodyPost_ret (v := .tuple #[.agg #[.string ⟨#[]⟩, .int .i64 0, .int .i64 0, .slice none 0 0, .slice none 0 0], .bool false]) (by simp [results, Try.results43, go_sem, R.cell (i := 0) rfl, R.cell (i := 1) rfl, R.cell (i := 2) rfl, R.cell (i := 3) rfl, R.cell (i := 4) rfl]) rfl (RetRuleB.zero (by (with_reducible repeat' first | exact Below.refl _ _ | assumption | (refine Below.setCell ?_ (by first | omega | (simp; omega) | (simp; done) | (dsimp only; omega)) _) | (refine Below.alloc ?_ (by first | omega | (simp; omega) | (simp; done) | (dsimp only; omega)) _) | (refine below_drewN ?_ _) | (refine Below.drew ?_) | (refine Below.trans ?_ (hb11.mono (by first | omega | (simp; omega) | (simp; done) | (dsimp only; omega)))) | (refine Below.trans ?_ (hb10.mono (by first | omega | (simp; omega) | (simp; done) | (dsimp only; omega)))) | (refine Below.trans ?_ (hbw9.mono (by first | omega | (simp; omega) | (simp; done) | (dsimp only; omega)))))))
            · have nd : ((⟨t.toArray⟩ : ByteArray).toList == [46]) = false := by rw [ndl]; simpa using hd
              have nd2 : (t == [46]) = false := by simpa using hd
              rw [show toI t = readI t by rw [toI, if_neg hd]] at HCS
              clear hd ndl
              cases hod : readI t with
              | none =>
                have HOD := Lib.hid (show readI (⟨t.toArray⟩ : ByteArray).data.toList = none from hod)
                have HN := Lib.hid (pRuleI_none (s := s) (by rw [HCS, hod]))
                clear hod HCS
                go_wp2_with (go_at_call 121; refine (readSteps_any ⟨t.toArray⟩ _ ht3).mono ?_; rintro e w8 ⟨A8, c8, rfl, o8, hb8⟩; rw [HOD.out] at o8 ⊢; dsimp only [Option.getD, Option.isSome] at o8 ⊢; (have r8 := r7.below hb8 lb7); (have g4 := r8.cell (i := 4) rfl); (have h4 := r8.free 4); (have q8 := q7.below hb8 q7.lt); (have e0 := q8.cell (i := 0) rfl); (have e1 := q8.cell (i := 1) rfl); (have e2 := q8.cell (i := 2) rfl); (have e3 := q8.cell (i := 3) rfl); (have e4 := q8.cell (i := 4) rfl); (have f0 := q8.free 0); (have f1 := q8.free 1); (have f2 := q8.free 2); (have f3 := q8.free 3); (have f4 := q8.free 4); (have lq8 := q8.lt))
                have R := ((((((q8.far (p := ⟨bx, 4, none⟩) (by simp; omega) (.slice A8 0 c8)).set 0 (.string ⟨#[]⟩)).set 1 (.int .i64 0)).set 2 (.int .i64 0)).set 3 (.slice none 0 0)).set 4 (.slice none 0 0))
                rw [HN.out]
                exact bodyPost_ret (v := .tuple #[.agg #[.string ⟨#[]⟩, .int .i64 0, .int .i64 0, .slice none 0 0, .slice none 0 0], .bool false]) (by simp [results, Try.results43, go_sem, R.cell (i := 0) rfl, R.cell (i := 1) rfl, R.cell (i := 2) rfl, R.cell (i := 3) rfl, R.cell (i := 4) rfl]) rfl (RetRuleB.zero (by (with_reducible repeat' first | exact Below.refl _ _ | assumption | (refine Below.setCell ?_ (by first | omega | (simp; omega) | (simp; done) | (dsimp only; omega)) _) | (refine Below.alloc ?_ (by first | omega | (simp; omega) | (simp; done) | (dsimp only; omega)) _) | (refine below_drewN ?_ _) | (refine Below.drew ?_) | (refine Below.trans ?_ (hb8.mono (by first | omega | (simp; omega) | (simp; done) | (dsimp only; omega)))) | (refine Below.trans ?_ (hbw7.mono (by first | omega | (simp; omega) | (simp; done) | (dsimp only; omega)))))))
              | some dst =>
                have HOD := Lib.hid (show readI (⟨t.toArray⟩ : ByteArray).data.toList = some dst from hod)
                rw [hod] at HCS
                have HC := Lib.hid HCS
                simp only at HC
                clear hod HCS
                go_upto_region 20 with (go_at_call 121; refine (readSteps_any ⟨t.toArray⟩ _ ht3).mono ?_; rintro e w8 ⟨A8, c8, rfl, o8, hb8⟩; rw [HOD.out] at o8 ⊢; dsimp only [Option.getD, Option.isSome] at o8 ⊢; (have r8 := r7.below hb8 lb7); (have g4 := r8.cell (i := 4) rfl); (have h4 := r8.free 4))
                have q8 := q7.below hb8 q7.lt
                have o8' := o7.same (Same.of_below hb8 (Nat.le_refl _))
                have hbw8 := hbw7.trans (hb8.mono (by omega))
                have z8 := hb8.size
                generalize hW : w8.setCell ⟨bx, 4, none⟩ (.slice A8 dst.length c8) = w9
                have r9 : Blk w9 bx 58 #[.string ⟨a.toArray⟩, .int .i64 eg, .int .i64 2, .slice A6 src.length c6, .slice A8 dst.length c8] := by subst hW; exact r8.set 4 _
                have o9n : EStep.OS w9 w5.heap.size w7.heap.size (.slice A6 src.length c6) src := by subst hW; exact o8'.same (by (with_reducible repeat' first | exact Same.refl _ _ _ | assumption | (refine Same.setCell ?_ (by first | omega | (simp; omega) | (simp; done) | (dsimp only; omega)) _) | (refine Same.alloc ?_ (by first | omega | (simp; omega) | (simp; done) | (dsimp only; omega)) _) | (refine Same.drewN ?_ _) | (refine Same.drew ?_)))
                have d9n : EStep.OS w9 w7.heap.size w9.heap.size (.slice A8 dst.length c8) dst := by subst hW; exact (o8.same (by (with_reducible repeat' first | exact Same.refl _ _ _ | assumption | (refine Same.setCell ?_ (by first | omega | (simp; omega) | (simp; done) | (dsimp only; omega)) _) | (refine Same.alloc ?_ (by first | omega | (simp; omega) | (simp; done) | (dsimp only; omega)) _) | (refine Same.drewN ?_ _) | (refine Same.drew ?_)))).mono (Nat.le_refl _) (by simp [World.setCell])
                have q9 : Blk w9 w.heap.size 58 #[.string ⟨#[]⟩, .int .i64 0, .int .i64 0, .slice none 0 0, .slice none 0 0] := by subst hW; exact q8.far (by simp; omega) _
                have z9 : w8.heap.size = w9.heap.size := by subst hW; simp [World.setCell]
                have hbw9 : Below w.heap.size w w9 := by subst hW; (with_reducible repeat' first | exact Below.refl _ _ | assumption | (refine Below.setCell ?_ (by first | omega | (simp; omega) | (simp; done) | (dsimp only; omega)) _) | (refine Below.alloc ?_ (by first | omega | (simp; omega) | (simp; done) | (dsimp only; omega)) _) | (refine below_drewN ?_ _) | (refine Below.drew ?_) | (refine Below.trans ?_ (hbw8.mono (by first | omega | (simp; omega) | (simp; done) | (dsimp only; omega)))))
                have lb9 : bx < w9.heap.size := by omega
                have lq9 := q9.lt
                have hap : ∀ k, (Value.slice A6 src.length c6).ownBlock = some k → (Value.slice A8 dst.length c8).ownBlock ≠ some k := fun k h1 h2 => by have := (o9n.blkv k h1).2; have := (d9n.blkv k h2).1; omega
                clear hW r7 r8 q7 q8 o7 o8 o8' hb8 g4 h4 hbw7 hbw8
                obtain ⟨wz, rfl⟩ : ∃ x, x = w5 := ⟨_, rfl⟩
                have o9 := o9n.mono (Nat.le_refl _) (by omega : w7.heap.size ≤ w9.heap.size)
                have d9 := d9n.mono (by omega : wz.heap.size ≤ w7.heap.size) (Nat.le_refl _)
                clear o9n d9n
                have t0 := r9.cell (i := 0) rfl
                have t1 := r9.cell (i := 1) rfl
                have t2 := r9.cell (i := 2) rfl
                have t3 := r9.cell (i := 3) rfl
                have t4 := r9.cell (i := 4) rfl
                cases hok : ruleOk ⟨⟨a.toArray⟩, eg, 2, src, dst⟩ with
                | false =>
                  have HO := Lib.hid hok
                  have HN := Lib.hid (pRuleI_not HC.out hok)
                  clear hok
                  go_wp2_with (go_at_call 129; (with_reducible refine (implIsRule_any ⟨a.toArray⟩ eg 2 A6 A8 c6 c8 wz.heap.size w9.heap.size src dst _ o9.read.as d9.read.as (Nat.le_refl _) hnz).mono ?_); rintro e w10 ⟨rfl, hb10⟩; simp only [HO.out]; (have q10 := q9.below hb10 lq9); (have r10 := r9.below hb10 lb9); (have o10 := o9.same (Same.of_below hb10 (Nat.le_refl _))); (have d10 := d9.same (Same.of_below hb10 (Nat.le_refl _))); (have t0 := r10.cell (i := 0) rfl); (have t1 := r10.cell (i := 1) rfl); (have t2 := r10.cell (i := 2) rfl); (have t3 := r10.cell (i := 3) rfl); (have t4 := r10.cell (i := 4) rfl); (have lb10 := r10.lt); (have z10 := hb10.size); (have e0 := q10.cell (i := 0) rfl); (have e1 := q10.cell (i := 1) rfl); (have e2 := q10.cell (i := 2) rfl); (have e3 := q10.cell (i := 3) rfl); (have e4 := q10.cell (i := 4) rfl); (have f0 := q10.free 0); (have f1 := q10.free 1); (have f2 := q10.free 2); (have f3 := q10.free 3); (have f4 := q10.free 4))
                  have R := (((((q10.set 0 (.string ⟨#[]⟩)).set 1 (.int .i64 0)).set 2 (.int .i64 0)).set 3 (.slice none 0 0)).set 4 (.slice none 0 0))
                  rw [HN.out]
                  exact bodyPost_ret (v := .tuple #[.agg #[.string ⟨#[]⟩, .int .i64 0, .int .i64 0, .slice none 0 0, .slice none 0 0], .bool false]) (by simp [results, Try.results43, go_sem, R.cell (i := 0) rfl, R.cell (i := 1) rfl, R.cell (i := 2) rfl, R.cell (i := 3) rfl, R.cell (i := 4) rfl]) rfl (RetRuleB.zero (by (with_reducible repeat' first | exact Below.refl _ _ | assumption | (refine Below.setCell ?_ (by first | omega | (simp; omega) | (simp; done) | (dsimp only; omega)) _) | (refine Below.alloc ?_ (by first | omega | (simp; omega) | (simp; done) | (dsimp only; omega)) _) | (refine below_drewN ?_ _) | (refine Below.drew ?_) | (refine Below.trans ?_ (hb10.mono (by first | omega | (simp; omega) | (simp; done) | (dsimp only; omega)))) | (refine Below.trans ?_ (hbw9.mono (by first | omega | (simp; omega) | (simp; done) | (dsimp only; omega)))))))
                | true =>
                  have HO := Lib.hid hok
                  obtain ⟨tx, htx⟩ : ∃ tx, ruleT ⟨⟨a.toArray⟩, eg, 2, src, dst⟩ = tx := ⟨_, rfl⟩
                  have HTX := Lib.hid htx
                  have htx' : ruleText ⟨⟨a.toArray⟩, eg, 2, src, dst⟩ = tx := by rw [← htx, ruleT, if_pos hok]
                  have htl : tx.toList = tx.data.toList := by rw [ByteArray.toList_eq]
                  have hsl : s.toList = s.data.toList := by rw [ByteArray.toList_eq]
                  by_cases he : tx = s
                  · have HN := Lib.hid (pRuleI_good HC.out hok (htx'.trans he))
                    have n9 : (!(tx.toList == s.toList)) = false := by rw [he]; simp
                    clear hok he htx htx' htl hsl
                    go_wp2_with (first
                      | (go_at_call 129; (with_reducible refine (implIsRule_any ⟨a.toArray⟩ eg 2 A6 A8 c6 c8 wz.heap.size w9.heap.size src dst _ o9.read.as d9.read.as (Nat.le_refl _) hnz).mono ?_); rintro e w10 ⟨rfl, hb10⟩; simp only [HO.out]; (have q10 := q9.below hb10 lq9); (have r10 := r9.below hb10 lb9); (have o10 := o9.same (Same.of_below hb10 (Nat.le_refl _))); (have d10 := d9.same (Same.of_below hb10 (Nat.le_refl _))); (have t0 := r10.cell (i := 0) rfl); (have t1 := r10.cell (i := 1) rfl); (have t2 := r10.cell (i := 2) rfl); (have t3 := r10.cell (i := 3) rfl); (have t4 := r10.cell (i := 4) rfl); (have lb10 := r10.lt); (have z10 := hb10.size))
                      | (go_at_call 130; (with_reducible refine (implFormatRule_any ⟨a.toArray⟩ eg 2 A6 A8 c6 c8 wz.heap.size w9.heap.size src dst _ o10.read.as d10.read.as z10 hnz).mono ?_); rintro e w11 ⟨rfl, hb11⟩; rw [HTX.out]; (have q11 := q10.below hb11 q10.lt); (have e0 := q11.cell (i := 0) rfl); (have e1 := q11.cell (i := 1) rfl); (have e2 := q11.cell (i := 2) rfl); (have e3 := q11.cell (i := 3) rfl); (have e4 := q11.cell (i := 4) rfl); (have f0 := q11.free 0); (have f1 := q11.free 1); (have f2 := q11.free 2); (have f3 := q11.free 3); (have f4 := q11.free 4); (have lq11 := q11.lt); (have z11 := hb11.size); (have r11 := r10.below hb11 lb10); (have t0 := r11.cell (i := 0) rfl); (have t1 := r11.cell (i := 1) rfl); (have t2 := r11.cell (i := 2) rfl); (have t3 := r11.cell (i := 3) rfl); (have t4 := r11.cell (i := 4) rfl); (have o11 := o10.same (Same.of_below hb11 z10)); (have d11 := d10.same (Same.of_below hb11 z10))))
                    have R := ((((q11.set 0 (.string ⟨a.toArray⟩)).set 1 (.int .i64 eg)).set 2 (.int .i64 2)).set 3 (.slice A6 src.length c6)).set 4 (.slice A8 dst.length c8)
                    rw [HN.out]
                    exact bodyPost_ret (v := .tuple #[.agg #[.string ⟨a.toArray⟩, .int .i64 eg, .int .i64 2, .slice A6 src.length c6, .slice A8 dst.length c8], .bool true]) (by simp [results, Try.results43, go_sem, R.cell (i := 0) rfl, R.cell (i := 1) rfl, R.cell (i := 2) rfl, R.cell (i := 3) rfl, R.cell (i := 4) rfl]) rfl ⟨A6, c6, A8, c8, rfl, (o11.same (by (with_reducible repeat' first | exact Same.refl _ _ _ | assumption | (refine Same.setCell ?_ (by first | omega | (simp; omega) | (simp; done) | (dsimp only; omega)) _) | (refine Same.alloc ?_ (by first | omega | (simp; omega) | (simp; done) | (dsimp only; omega)) _) | (refine Same.drewN ?_ _) | (refine Same.drew ?_)))).mono (by first | omega | (simp; omega) | (simp; done) | (dsimp only; omega)) (by first | omega | (simp; omega) | (simp; done) | (dsimp only; omega)), (d11.same (by (with_reducible repeat' first | exact Same.refl _ _ _ | assumption | (refine Same.setCell ?_ (by first | omega | (simp; omega) | (simp; done) | (dsimp only; omega)) _) | (refine Same.alloc ?_ (by first | omega | (simp; omega) | (simp; done) | (dsimp only; omega)) _) | (refine Same.drewN ?_ _) | (refine Same.drew ?_)))).mono (by first | omega | (simp; omega) | (simp; done) | (dsimp only; omega)) (by first | omega | (simp; omega) | (simp; done) | (dsimp only; omega)), hap, by (with_reducible repeat' first | exact Below.refl _ _ | assumption | (refine Below.setCell ?_ (by first | omega | (simp; omega) | (simp; done) | (dsimp only; omega)) _) | (refine Below.alloc ?_ (by first | omega | (simp; omega) | (simp; done) | (dsimp only; omega)) _) | (refine below_drewN ?_ _) | (refine Below.drew ?_) | (refine Below.trans ?_ (hb11.mono (by first | omega | (simp; omega) | (simp; done) | (dsimp only; omega)))) | (refine Below.trans ?_ (hb10.mono (by first | omega | (simp; omega) | (simp; done) | (dsimp only; omega)))) | (refine Below.trans ?_ (hbw9.mono (by first | omega | (simp; omega) | (simp; done) | (dsimp only; omega)))))⟩
                  · have HN := Lib.hid (pRuleI_text HC.out (fun k => he (htx'.symm.trans k)))
                    have n9 : (!(tx.toList == s.toList)) = true := by
                      have : (tx.toList == s.toList) = false := by
                        rw [beq_eq_false_iff_ne, htl, hsl]
                        exact fun e => he (list_inj e)
                      rw [this]; rfl
                    clear hok he htx htx' htl hsl
                    go_wp2_with (first
                      | (go_at_call 129; (with_reducible refine (implIsRule_any ⟨a.toArray⟩ eg 2 A6 A8 c6 c8 wz.heap.size w9.heap.size src dst _ o9.read.as d9.read.as (Nat.le_refl _) hnz).mono ?_); rintro e w10 ⟨rfl, hb10⟩; simp only [HO.out]; (have q10 := q9.below hb10 lq9); (have r10 := r9.below hb10 lb9); (have o10 := o9.same (Same.of_below hb10 (Nat.le_refl _))); (have d10 := d9.same (Same.of_below hb10 (Nat.le_refl _))); (have t0 := r10.cell (i := 0) rfl); (have t1 := r10.cell (i := 1) rfl); (have t2 := r10.cell (i := 2) rfl); (have t3 := r10.cell (i := 3) rfl); (have t4 := r10.cell (i := 4) rfl); (have lb10 := r10.lt); (have z10 := hb10.size))
                      | (go_at_call 130; (with_reducible refine (implFormatRule_any ⟨a.toArray⟩ eg 2 A6 A8 c6 c8 wz.heap.size w9.heap.size src dst _ o10.read.as d10.read.as z10 hnz).mono ?_); rintro e w11 ⟨rfl, hb11⟩; rw [HTX.out]; (have q11 := q10.below hb11 q10.lt); (have e0 := q11.cell (i := 0) rfl); (have e1 := q11.cell (i := 1) rfl); (have e2 := q11.cell (i := 2) rfl); (have e3 := q11.cell (i := 3) rfl); (have e4 := q11.cell (i := 4) rfl); (have f0 := q11.free 0); (have f1 := q11.free 1); (have f2 := q11.free 2); (have f3 := q11.free 3); (have f4 := q11.free 4); (have lq11 := q11.lt); (have z11 := hb11.size)))
                    have R := (((((q11.set 0 (.string ⟨#[]⟩)).set 1 (.int .i64 0)).set 2 (.int .i64 0)).set 3 (.slice none 0 0)).set 4 (.slice none 0 0))
                    rw [HN.out]
                    exact bodyPost_ret (v := .tuple #[.agg #[.string ⟨#[]⟩, .int .i64 0, .int .i64 0, .slice none 0 0, .slice none 0 0], .bool false]) (by simp [results, Try.results43, go_sem, R.cell (i := 0) rfl, R.cell (i := 1) rfl, R.cell (i := 2) rfl, R.cell (i := 3) rfl, R.cell (i := 4) rfl]) rfl (RetRuleB.zero (by (with_reducible repeat' first | exact Below.refl _ _ | assumption | (refine Below.setCell ?_ (by first | omega | (simp; omega) | (simp; done) | (dsimp only; omega)) _) | (refine Below.alloc ?_ (by first | omega | (simp; omega) | (simp; done) | (dsimp only; omega)) _) | (refine below_drewN ?_ _) | (refine Below.drew ?_) | (refine Below.trans ?_ (hb11.mono (by first | omega | (simp; omega) | (simp; done) | (dsimp only; omega)))) | (refine Below.trans ?_ (hb10.mono (by first | omega | (simp; omega) | (simp; done) | (dsimp only; omega)))) | (refine Below.trans ?_ (hbw9.mono (by first | omega | (simp; omega) | (simp; done) | (dsimp only; omega)))))))
        | false =>
          have hff : u3 = u2 := by rw [← hu3]; unfold Lib.trimSuffix; rw [hq]; rfl
          have HCC := Lib.hid (candI_at hc1 hc2 hcm hp hu2 hq hu3 rfl)
          simp only [Bool.false_eq_true, if_false] at HCC
          have HRO := Lib.hid (show readI b.data.toList = readI u3 by rw [hff, hfb]; rfl)
          have hx3 : b.size ≤ 1048576 := sb
          clear hc1 hc2 hcm hp hu2 hq hu3 hff hfb
          go_upto_region 16 with fail
          obtain ⟨w5, rfl⟩ : ∃ x, x = w4 := ⟨_, rfl⟩
          have r5 := r4; have q5 := q4; have hbw5 := hbw4; have lb5 := lb4
          clear r4 q4 hbw4 g2 h2
          have ndl : (⟨t.toArray⟩ : ByteArray).toList = t := by rw [ByteArray.toList_eq]
          cases hro : readI u3 with
          | none =>
            replace HRO := Lib.hid (HRO.out.trans hro)
            have HN := Lib.hid (pRuleI_none (s := s) (by rw [HCC.out, hro]))
            clear hro
            go_upto_region 17 with (go_at_call 121; refine (readSteps_any b _ hx3).mono ?_; rintro e w6 ⟨A6, c6, rfl, o6, hb6⟩; rw [HRO.out] at o6 ⊢; dsimp only [Option.getD, Option.isSome] at o6 ⊢; (have r6 := r5.below hb6 lb5); (have g3 := r6.cell (i := 3) rfl); (have h3 := r6.free 3))
            have q6 := q5.below hb6 q5.lt
            have hbw6 := hbw5.trans (hb6.mono (by omega))
            have z6 := hb6.size
            generalize hW : w6.setCell ⟨bx, 3, none⟩ (.slice A6 ([] : List Step).length c6) = w7
            have r7 : Blk w7 bx 58 #[.string ⟨a.toArray⟩, .int .i64 eg, .int .i64 0, .slice A6 ([] : List Step).length c6, .slice none 0 0] := by subst hW; exact r6.set 3 _
            have o7 : EStep.OS w7 w5.heap.size w7.heap.size (.slice A6 ([] : List Step).length c6) ([] : List Step) := by subst hW; exact (o6.same (by (with_reducible repeat' first | exact Same.refl _ _ _ | assumption | (refine Same.setCell ?_ (by first | omega | (simp; omega) | (simp; done) | (dsimp only; omega)) _) | (refine Same.alloc ?_ (by first | omega | (simp; omega) | (simp; done) | (dsimp only; omega)) _) | (refine Same.drewN ?_ _) | (refine Same.drew ?_)))).mono (Nat.le_refl _) (by simp [World.setCell])
            have q7 : Blk w7 w.heap.size 58 #[.string ⟨#[]⟩, .int .i64 0, .int .i64 0, .slice none 0 0, .slice none 0 0] := by subst hW; exact q6.far (by simp; omega) _
            have z7 : w6.heap.size = w7.heap.size := by subst hW; simp [World.setCell]
            have hbw7 : Below w.heap.size w w7 := by subst hW; (with_reducible repeat' first | exact Below.refl _ _ | assumption | (refine Below.setCell ?_ (by first | omega | (simp; omega) | (simp; done) | (dsimp only; omega)) _) | (refine Below.alloc ?_ (by first | omega | (simp; omega) | (simp; done) | (dsimp only; omega)) _) | (refine below_drewN ?_ _) | (refine Below.drew ?_) | (refine Below.trans ?_ (hbw6.mono (by first | omega | (simp; omega) | (simp; done) | (dsimp only; omega)))))
            have lb7 : bx < w7.heap.size := by omega
            clear hW r6 q6 o6 hb6 g3 h3 hbw6
            have e0 := q7.cell (i := 0) rfl
            have e0 := q7.cell (i := 0) rfl
            have e1 := q7.cell (i := 1) rfl
            have e2 := q7.cell (i := 2) rfl
            have e3 := q7.cell (i := 3) rfl
            have e4 := q7.cell (i := 4) rfl
            have f0 := q7.free 0
            have f1 := q7.free 1
            have f2 := q7.free 2
            have f3 := q7.free 3
            have f4 := q7.free 4
            have lq7 := q7.lt
            by_cases hd : t = [46]
            · have nd : ((⟨t.toArray⟩ : ByteArray).toList == [46]) = true := by rw [ndl, hd]; rfl
              have nd2 : (t == [46]) = true := by rw [hd]; rfl
              clear hd ndl
              go_wp2_with fail
              have R := (((((q7.set 0 (.string ⟨#[]⟩)).set 1 (.int .i64 0)).set 2 (.int .i64 0)).set 3 (.slice none 0 0)).set 4 (.slice none 0 0))
              rw [HN.out]
              exact bodyPost_ret (v := .tuple #[.agg #[.string ⟨#[]⟩, .int .i64 0, .int .i64 0, .slice none 0 0, .slice none 0 0], .bool false]) (by simp [results, Try.results43, go_sem, R.cell (i := 0) rfl, R.cell (i := 1) rfl, R.cell (i := 2) rfl, R.cell (i := 3) rfl, R.cell (i := 4) rfl]) rfl (RetRuleB.zero (by (with_reducible repeat' first | exact Below.refl _ _ | assumption | (refine Below.setCell ?_ (by first | omega | (simp; omega) | (simp; done) | (dsimp only; omega)) _) | (refine Below.alloc ?_ (by first | omega | (simp; omega) | (simp; done) | (dsimp only; omega)) _) | (refine below_drewN ?_ _) | (refine Below.drew ?_) | (refine Below.trans ?_ (hbw7.mono (by first | omega | (simp; omega) | (simp; done) | (dsimp only; omega)))))))
            · have nd : ((⟨t.toArray⟩ : ByteArray).toList == [46]) = false := by rw [ndl]; simpa using hd
              have nd2 : (t == [46]) = false := by simpa using hd
              clear hd ndl
              obtain ⟨od, hod⟩ : ∃ od, readI t = od := ⟨_, rfl⟩
              have HOD := Lib.hid (show readI (⟨t.toArray⟩ : ByteArray).data.toList = od from hod)
              clear hod
              go_wp2_with (go_at_call 121; refine (readSteps_any ⟨t.toArray⟩ _ ht3).mono ?_; rintro e w8 ⟨A8, c8, rfl, o8, hb8⟩; (have r8 := r7.below hb8 lb7); (have g4 := r8.cell (i := 4) rfl); (have h4 := r8.free 4); (have q8 := q7.below hb8 lq7); (have e0 := q8.cell (i := 0) rfl); (have e1 := q8.cell (i := 1) rfl); (have e2 := q8.cell (i := 2) rfl); (have e3 := q8.cell (i := 3) rfl); (have e4 := q8.cell (i := 4) rfl); (have f0 := q8.free 0); (have f1 := q8.free 1); (have f2 := q8.free 2); (have f3 := q8.free 3); (have f4 := q8.free 4); (have lq8 := q8.lt))
              have R := ((((((q8.far (p := ⟨bx, 4, none⟩) (by simp; omega) (.slice A8 ((readI (⟨t.toArray⟩ : ByteArray).data.toList).getD []).length c8)).set 0 (.string ⟨#[]⟩)).set 1 (.int .i64 0)).set 2 (.int .i64 0)).set 3 (.slice none 0 0)).set 4 (.slice none 0 0))
              rw [HN.out]
              exact bodyPost_ret (v := .tuple #[.agg #[.string ⟨#[]⟩, .int .i64 0, .int .i64 0, .slice none 0 0, .slice none 0 0], .bool false]) (by simp [results, Try.results43, go_sem, R.cell (i := 0) rfl, R.cell (i := 1) rfl, R.cell (i := 2) rfl, R.cell (i := 3) rfl, R.cell (i := 4) rfl]) rfl (RetRuleB.zero (by (with_reducible repeat' first | exact Below.refl _ _ | assumption | (refine Below.setCell ?_ (by first | omega | (simp; omega) | (simp; done) | (dsimp only; omega)) _) | (refine Below.alloc ?_ (by first | omega | (simp; omega) | (simp; done) | (dsimp only; omega)) _) | (refine below_drewN ?_ _) | (refine Below.drew ?_) | (refine Below.trans ?_ (hb8.mono (by first | omega | (simp; omega) | (simp; done) | (dsimp only; omega)))) | (refine Below.trans ?_ (hbw7.mono (by first | omega | (simp; omega) | (simp; done) | (dsimp only; omega)))))))
          | some src =>
            replace HRO := Lib.hid (HRO.out.trans hro)
            have HCS := HCC.out
            rw [hro] at HCS
            clear hro
            go_upto_region 17 with (go_at_call 121; refine (readSteps_any b _ hx3).mono ?_; rintro e w6 ⟨A6, c6, rfl, o6, hb6⟩; rw [HRO.out] at o6 ⊢; dsimp only [Option.getD, Option.isSome] at o6 ⊢; (have r6 := r5.below hb6 lb5); (have g3 := r6.cell (i := 3) rfl); (have h3 := r6.free 3))
            have q6 := q5.below hb6 q5.lt
            have hbw6 := hbw5.trans (hb6.mono (by omega))
            have z6 := hb6.size
            generalize hW : w6.setCell ⟨bx, 3, none⟩ (.slice A6 src.length c6) = w7
            have r7 : Blk w7 bx 58 #[.string ⟨a.toArray⟩, .int .i64 eg, .int .i64 0, .slice A6 src.length c6, .slice none 0 0] := by subst hW; exact r6.set 3 _
            have o7 : EStep.OS w7 w5.heap.size w7.heap.size (.slice A6 src.length c6) src := by subst hW; exact (o6.same (by (with_reducible repeat' first | exact Same.refl _ _ _ | assumption | (refine Same.setCell ?_ (by first | omega | (simp; omega) | (simp; done) | (dsimp only; omega)) _) | (refine Same.alloc ?_ (by first | omega | (simp; omega) | (simp; done) | (dsimp only; omega)) _) | (refine Same.drewN ?_ _) | (refine Same.drew ?_)))).mono (Nat.le_refl _) (by simp [World.setCell])
            have q7 : Blk w7 w.heap.size 58 #[.string ⟨#[]⟩, .int .i64 0, .int .i64 0, .slice none 0 0, .slice none 0 0] := by subst hW; exact q6.far (by simp; omega) _
            have z7 : w6.heap.size = w7.heap.size := by subst hW; simp [World.setCell]
            have hbw7 : Below w.heap.size w w7 := by subst hW; (with_reducible repeat' first | exact Below.refl _ _ | assumption | (refine Below.setCell ?_ (by first | omega | (simp; omega) | (simp; done) | (dsimp only; omega)) _) | (refine Below.alloc ?_ (by first | omega | (simp; omega) | (simp; done) | (dsimp only; omega)) _) | (refine below_drewN ?_ _) | (refine Below.drew ?_) | (refine Below.trans ?_ (hbw6.mono (by first | omega | (simp; omega) | (simp; done) | (dsimp only; omega)))))
            have lb7 : bx < w7.heap.size := by omega
            clear hW r6 q6 o6 hb6 g3 h3 hbw6
            by_cases hd : t = [46]
            · have nd : ((⟨t.toArray⟩ : ByteArray).toList == [46]) = true := by rw [ndl, hd]; rfl
              have nd2 : (t == [46]) = true := by rw [hd]; rfl
              rw [show toI t = some [] by rw [toI, if_pos hd]] at HCS
              have HC := Lib.hid HCS
              simp only at HC
              clear hd ndl HCS
              obtain ⟨w9, rfl⟩ : ∃ x, x = w7 := ⟨_, rfl⟩
              obtain ⟨wz, rfl⟩ : ∃ x, x = w5 := ⟨_, rfl⟩
              have r9 := r7; have q9 := q7; have hbw9 := hbw7; have lb9 := lb7; have lq9 := q7.lt
              have o9 := o7
              have d9 : EStep.OS w9 wz.heap.size w9.heap.size (.slice none 0 0) [] := Elem.OS.nil
              have hap : ∀ k, (Value.slice A6 src.length c6).ownBlock = some k → (Value.slice none ([] : List Step).length 0).ownBlock ≠ some k := fun k _ h2 => by simp [Value.ownBlock] at h2
              clear r7 q7 o7 hbw7
              have t0 := r9.cell (i := 0) rfl
              have t1 := r9.cell (i := 1) rfl
              have t2 := r9.cell (i := 2) rfl
              have t3 := r9.cell (i := 3) rfl
              have t4 := r9.cell (i := 4) rfl
              cases hok : ruleOk ⟨⟨a.toArray⟩, eg, 0, src, ([] : List Step)⟩ with
              | false =>
                have HO := Lib.hid hok
                have HN := Lib.hid (pRuleI_not HC.out hok)
                clear hok
                go_wp2_with (go_at_call 129; (refine (implIsRule_any ⟨a.toArray⟩ eg 0 A6 none c6 0 wz.heap.size w9.heap.size src ([] : List Step) _ o9.read.as d9.read.as (Nat.le_refl _) hnz).mono ?_); rintro e w10 ⟨rfl, hb10⟩; simp only [HO.out]; (have q10 := q9.below hb10 lq9); (have r10 := r9.below hb10 lb9); (have o10 := o9.same (Same.of_below hb10 (Nat.le_refl _))); (have d10 := d9.same (Same.of_below hb10 (Nat.le_refl _))); (have t0 := r10.cell (i := 0) rfl); (have t1 := r10.cell (i := 1) rfl); (have t2 := r10.cell (i := 2) rfl); (have t3 := r10.cell (i := 3) rfl); (have t4 := r10.cell (i := 4) rfl); (have lb10 := r10.lt); (have z10 := hb10.size); (have e0 := q10.cell (i := 0) rfl); (have e1 := q10.cell (i := 1) rfl); (have e2 := q10.cell (i := 2) rfl); (have e3 := q10.cell (i := 3) rfl); (have e4 := q10.cell (i := 4) rfl); (have f0 := q10.free 0); (have f1 := q10.free 1); (have f2 := q10.free 2); (have f3 := q10.free 3); (have f4 := q10.free 4))
                have R := (((((q10.set 0 (.string ⟨#[]⟩)).set 1 (.int .i64 0)).set 2 (.int .i64 0)).set 3 (.slice none 0 0)).set 4 (.slice none 0 0))
                rw [HN.out]
                exact bodyPost_ret (v := .tuple #[.agg #[.string ⟨#[]⟩, .int .i64 0, .int .i64 0, .slice none 0 0, .slice none 0 0], .bool false]) (by simp [results, Try.results43, go_sem, R.cell (i := 0) rfl, R.cell (i := 1) rfl, R.cell (i := 2) rfl, R.cell (i := 3) rfl, R.cell (i := 4) rfl]) rfl (RetRuleB.zero (by (with_reducible repeat' first | exact Below.refl _ _ | assumption | (refine Below.setCell ?_ (by first | omega | (simp; omega) | (simp; done) | (dsimp only; omega)) _) | (refine Below.alloc ?_ (by first | omega | (simp; omega) | (simp; done) | (dsimp only; omega)) _) | (refine below_drewN ?_ _) | (refine Below.drew ?_) | (refine Below.trans ?_ (hb10.mono (by first | omega | (simp; omega) | (simp; done) | (dsimp only; omega)))) | (refine Below.trans ?_ (hbw9.mono (by first | omega | (simp; omega) | (simp; done) | (dsimp only; omega)))))))
              | true =>
                have HO := Lib.hid hok
                obtain ⟨tx, htx⟩ : ∃ tx, ruleT ⟨⟨a.toArray⟩, eg, 0, src, ([] : List Step)⟩ = tx := ⟨_, rfl⟩
                have HTX := Lib.hid htx
                have htx' : ruleText ⟨⟨a.toArray⟩, eg, 0, src, ([] : List Step)⟩ = tx := by rw [← htx, ruleT, if_pos hok]
                have htl : tx.toList = tx.data.toList := by rw [ByteArray.toList_eq]
                have hsl : s.toList = s.data.toList := by rw [ByteArray.toList_eq]
                by_cases he : tx = s
                · have HN := Lib.hid (pRuleI_good HC.out hok (htx'.trans he))
                  have n9 : (!(tx.toList == s.toList)) = false := by rw [he]; simp
                  clear hok he htx htx' htl hsl
                  go_wp2_with (first
                    | (go_at_call 129; (refine (implIsRule_any ⟨a.toArray⟩ eg 0 A6 none c6 0 wz.heap.size w9.heap.size src ([] : List Step) _ o9.read.as d9.read.as (Nat.le_refl _) hnz).mono ?_); rintro e w10 ⟨rfl, hb10⟩; simp only [HO.out]; (have q10 := q9.below hb10 lq9); (have r10 := r9.below hb10 lb9); (have o10 := o9.same (Same.of_below hb10 (Nat.le_refl _))); (have d10 := d9.same (Same.of_below hb10 (Nat.le_refl _))); (have t0 := r10.cell (i := 0) rfl); (have t1 := r10.cell (i := 1) rfl); (have t2 := r10.cell (i := 2) rfl); (have t3 := r10.cell (i := 3) rfl); (have t4 := r10.cell (i := 4) rfl); (have lb10 := r10.lt); (have z10 := hb10.size))
                    | (go_at_call 130; (refine (implFormatRule_any ⟨a.toArray⟩ eg 0 A6 none c6 0 wz.heap.size w9.heap.size src ([] : List Step) _ o10.read.as d10.read.as z10 hnz).mono ?_); rintro e w11 ⟨rfl, hb11⟩; rw [HTX.out]; (have q11 := q10.below hb11 q10.lt); (have e0 := q11.cell (i := 0) rfl); (have e1 := q11.cell (i := 1) rfl); (have e2 := q11.cell (i := 2) rfl); (have e3 := q11.cell (i := 3) rfl); (have e4 := q11.cell (i := 4) rfl); (have f0 := q11.free 0); (have f1 := q11.free 1); (have f2 := q11.free 2); (have f3 := q11.free 3); (have f4 := q11.free 4); (have lq11 := q11.lt); (have z11 := hb11.size); (have r11 := r10.below hb11 lb10); (have t0 := r11.cell (i := 0) rfl); (have t1 := r11.cell (i := 1) rfl); (have t2 := r11.cell (i := 2) rfl); (have t3 := r11.cell (i := 3) rfl); (have t4 := r11.cell (i := 4) rfl); (have o11 := o10.same (Same.of_below hb11 z10)); (have d11 := d10.same (Same.of_below hb11 z10))))
                  have R := ((((q11.set 0 (.string ⟨a.toArray⟩)).set 1 (.int .i64 eg)).set 2 (.int .i64 0)).set 3 (.slice A6 src.length c6)).set 4 (.slice none 0 0)
                  rw [HN.out]
                  exact bodyPost_ret (v := .tuple #[.agg #[.string ⟨a.toArray⟩, .int .i64 eg, .int .i64 0, .slice A6 src.length c6, .slice none 0 0], .bool true]) (by simp [results, Try.results43, go_sem, R.cell (i := 0) rfl, R.cell (i := 1) rfl, R.cell (i := 2) rfl, R.cell (i := 3) rfl, R.cell (i := 4) rfl]) rfl ⟨A6, c6, none, 0, rfl, (o11.same (by (with_reducible repeat' first | exact Same.refl _ _ _ | assumption | (refine Same.setCell ?_ (by first | omega | (simp; omega) | (simp; done) | (dsimp only; omega)) _) | (refine Same.alloc ?_ (by first | omega | (simp; omega) | (simp; done) | (dsimp only; omega)) _) | (refine Same.drewN ?_ _) | (refine Same.drew ?_)))).mono (by first | omega | (simp; omega) | (simp; done) | (dsimp only; omega)) (by first | omega | (simp; omega) | (simp; done) | (dsimp only; omega)), (d11.same (by (with_reducible repeat' first | exact Same.refl _ _ _ | assumption | (refine Same.setCell ?_ (by first | omega | (simp; omega) | (simp; done) | (dsimp only; omega)) _) | (refine Same.alloc ?_ (by first | omega | (simp; omega) | (simp; done) | (dsimp only; omega)) _) | (refine Same.drewN ?_ _) | (refine Same.drew ?_)))).mono (by first | omega | (simp; omega) | (simp; done) | (dsimp only; omega)) (by first | omega | (simp; omega) | (simp; done) | (dsimp only; omega)), hap, by (with_reducible repeat' first | exact Below.refl _ _ | assumption | (refine Below.setCell ?_ (by first | omega | (simp; omega) | (simp; done) | (dsimp only; omega)) _) | (refine Below.alloc ?_ (by first | omega | (simp; omega) | (simp; done) | (dsimp only; omega)) _) | (refine below_drewN ?_ _) | (refine Below.drew ?_) | (refine Below.trans ?_ (hb11.mono (by first | omega | (simp; omega) | (simp; done) | (dsimp only; omega)))) | (refine Below.trans ?_ (hb10.mono (by first | omega | (simp; omega) | (simp; done) | (dsimp only; omega)))) | (refine Below.trans ?_ (hbw9.mono (by first | omega | (simp; omega) | (simp; done) | (dsimp only; omega)))))⟩
                · have HN := Lib.hid (pRuleI_text HC.out (fun k => he (htx'.symm.trans k)))
                  have n9 : (!(tx.toList == s.toList)) = true := by
                    have : (tx.toList == s.toList) = false := by
                      rw [beq_eq_false_iff_ne, htl, hsl]
                      exact fun e => he (list_inj e)
                    rw [this]; rfl
                  clear hok he htx htx' htl hsl
                  go_wp2_with (first
                    | (go_at_call 129; (refine (implIsRule_any ⟨a.toArray⟩ eg 0 A6 none c6 0 wz.heap.size w9.heap.size src ([] : List Step) _ o9.read.as d9.read.as (Nat.le_refl _) hnz).mono ?_); rintro e w10 ⟨rfl, hb10⟩; simp only [HO.out]; (have q10 := q9.below hb10 lq9); (have r10 := r9.below hb10 lb9); (have o10 := o9.same (Same.of_below hb10 (Nat.le_refl _))); (have d10 := d9.same (Same.of_below hb10 (Nat.le_refl _))); (have t0 := r10.cell (i := 0) rfl); (have t1 := r10.cell (i := 1) rfl); (have t2 := r10.cell (i := 2) rfl); (have t3 := r10.cell (i := 3) rfl); (have t4 := r10.cell (i := 4) rfl); (have lb10 := r10.lt); (have z10 := hb10.size))
                    | (go_at_call 130; (refine (implFormatRule_any ⟨a.toArray⟩ eg 0 A6 none c6 0 wz.heap.size w9.heap.size src ([] : List Step) _ o10.read.as d10.read.as z10 hnz).mono ?_); rintro e w11 ⟨rfl, hb11⟩; rw [HTX.out]; (have q11 := q10.below hb11 q10.lt); (have e0 := q11.cell (i := 0) rfl); (have e1 := q11.cell (i := 1) rfl); (have e2 := q11.cell (i := 2) rfl); (have e3 := q11.cell (i := 3) rfl); (have e4 := q11.cell (i := 4) rfl); (have f0 := q11.free 0); (have f1 := q11.free 1); (have f2 := q11.free 2); (have f3 := q11.free 3); (have f4 := q11.free 4); (have lq11 := q11.lt); (have z11 := hb11.size)))
                  have R := (((((q11.set 0 (.string ⟨#[]⟩)).set 1 (.int .i64 0)).set 2 (.int .i64 0)).set 3 (.slice none 0 0)).set 4 (.slice none 0 0))
                  rw [HN.out]
                  exact bodyPost_ret (v := .tuple #[.agg #[.string ⟨#[]⟩, .int .i64 0, .int .i64 0, .slice none 0 0, .slice none 0 0], .bool false]) (by simp [results, Try.results43, go_sem, R.cell (i := 0) rfl, R.cell (i := 1) rfl, R.cell (i := 2) rfl, R.cell (i := 3) rfl, R.cell (i := 4) rfl]) rfl (RetRuleB.zero (by (with_reducible repeat' first | exact Below.refl _ _ | assumption | (refine Below.setCell ?_ (by first | omega | (simp; omega) | (simp; done) | (dsimp only; omega)) _) | (refine Below.alloc ?_ (by first | omega | (simp; omega) | (simp; done) | (dsimp only; omega)) _) | (refine below_drewN ?_ _) | (refine Below.drew ?_) | (refine Below.trans ?_ (hb11.mono (by first | omega | (simp; omega) | (simp; done) | (dsimp only; omega)))) | (refine Below.trans ?_ (hb10.mono (by first | omega | (simp; omega) | (simp; done) | (dsimp only; omega)))) | (refine Below.trans ?_ (hbw9.mono (by first | omega | (simp; omega) | (simp; done) | (dsimp only; omega)))))))
            · have nd : ((⟨t.toArray⟩ : ByteArray).toList == [46]) = false := by rw [ndl]; simpa using hd
              have nd2 : (t == [46]) = false := by simpa using hd
              rw [show toI t = readI t by rw [toI, if_neg hd]] at HCS
              clear hd ndl
              cases hod : readI t with
              | none =>
                have HOD := Lib.hid (show readI (⟨t.toArray⟩ : ByteArray).data.toList = none from hod)
                have HN := Lib.hid (pRuleI_none (s := s) (by rw [HCS, hod]))
                clear hod HCS
                go_wp2_with (go_at_call 121; refine (readSteps_any ⟨t.toArray⟩ _ ht3).mono ?_; rintro e w8 ⟨A8, c8, rfl, o8, hb8⟩; rw [HOD.out] at o8 ⊢; dsimp only [Option.getD, Option.isSome] at o8 ⊢; (have r8 := r7.below hb8 lb7); (have g4 := r8.cell (i := 4) rfl); (have h4 := r8.free 4); (have q8 := q7.below hb8 q7.lt); (have e0 := q8.cell (i := 0) rfl); (have e1 := q8.cell (i := 1) rfl); (have e2 := q8.cell (i := 2) rfl); (have e3 := q8.cell (i := 3) rfl); (have e4 := q8.cell (i := 4) rfl); (have f0 := q8.free 0); (have f1 := q8.free 1); (have f2 := q8.free 2); (have f3 := q8.free 3); (have f4 := q8.free 4); (have lq8 := q8.lt))
                have R := ((((((q8.far (p := ⟨bx, 4, none⟩) (by simp; omega) (.slice A8 0 c8)).set 0 (.string ⟨#[]⟩)).set 1 (.int .i64 0)).set 2 (.int .i64 0)).set 3 (.slice none 0 0)).set 4 (.slice none 0 0))
                rw [HN.out]
                exact bodyPost_ret (v := .tuple #[.agg #[.string ⟨#[]⟩, .int .i64 0, .int .i64 0, .slice none 0 0, .slice none 0 0], .bool false]) (by simp [results, Try.results43, go_sem, R.cell (i := 0) rfl, R.cell (i := 1) rfl, R.cell (i := 2) rfl, R.cell (i := 3) rfl, R.cell (i := 4) rfl]) rfl (RetRuleB.zero (by (with_reducible repeat' first | exact Below.refl _ _ | assumption | (refine Below.setCell ?_ (by first | omega | (simp; omega) | (simp; done) | (dsimp only; omega)) _) | (refine Below.alloc ?_ (by first | omega | (simp; omega) | (simp; done) | (dsimp only; omega)) _) | (refine below_drewN ?_ _) | (refine Below.drew ?_) | (refine Below.trans ?_ (hb8.mono (by first | omega | (simp; omega) | (simp; done) | (dsimp only; omega)))) | (refine Below.trans ?_ (hbw7.mono (by first | omega | (simp; omega) | (simp; done) | (dsimp only; omega)))))))
              | some dst =>
                have HOD := Lib.hid (show readI (⟨t.toArray⟩ : ByteArray).data.toList = some dst from hod)
                rw [hod] at HCS
                have HC := Lib.hid HCS
                simp only at HC
                clear hod HCS
                go_upto_region 20 with (go_at_call 121; refine (readSteps_any ⟨t.toArray⟩ _ ht3).mono ?_; rintro e w8 ⟨A8, c8, rfl, o8, hb8⟩; rw [HOD.out] at o8 ⊢; dsimp only [Option.getD, Option.isSome] at o8 ⊢; (have r8 := r7.below hb8 lb7); (have g4 := r8.cell (i := 4) rfl); (have h4 := r8.free 4))
                have q8 := q7.below hb8 q7.lt
                have o8' := o7.same (Same.of_below hb8 (Nat.le_refl _))
                have hbw8 := hbw7.trans (hb8.mono (by omega))
                have z8 := hb8.size
                generalize hW : w8.setCell ⟨bx, 4, none⟩ (.slice A8 dst.length c8) = w9
                have r9 : Blk w9 bx 58 #[.string ⟨a.toArray⟩, .int .i64 eg, .int .i64 0, .slice A6 src.length c6, .slice A8 dst.length c8] := by subst hW; exact r8.set 4 _
                have o9n : EStep.OS w9 w5.heap.size w7.heap.size (.slice A6 src.length c6) src := by subst hW; exact o8'.same (by (with_reducible repeat' first | exact Same.refl _ _ _ | assumption | (refine Same.setCell ?_ (by first | omega | (simp; omega) | (simp; done) | (dsimp only; omega)) _) | (refine Same.alloc ?_ (by first | omega | (simp; omega) | (simp; done) | (dsimp only; omega)) _) | (refine Same.drewN ?_ _) | (refine Same.drew ?_)))
                have d9n : EStep.OS w9 w7.heap.size w9.heap.size (.slice A8 dst.length c8) dst := by subst hW; exact (o8.same (by (with_reducible repeat' first | exact Same.refl _ _ _ | assumption | (refine Same.setCell ?_ (by first | omega | (simp; omega) | (simp; done) | (dsimp only; omega)) _) | (refine Same.alloc ?_ (by first | omega | (simp; omega) | (simp; done) | (dsimp only; omega)) _) | (refine Same.drewN ?_ _) | (refine Same.drew ?_)))).mono (Nat.le_refl _) (by simp [World.setCell])
                have q9 : Blk w9 w.heap.size 58 #[.string ⟨#[]⟩, .int .i64 0, .int .i64 0, .slice none 0 0, .slice none 0 0] := by subst hW; exact q8.far (by simp; omega) _
                have z9 : w8.heap.size = w9.heap.size := by subst hW; simp [World.setCell]
                have hbw9 : Below w.heap.size w w9 := by subst hW; (with_reducible repeat' first | exact Below.refl _ _ | assumption | (refine Below.setCell ?_ (by first | omega | (simp; omega) | (simp; done) | (dsimp only; omega)) _) | (refine Below.alloc ?_ (by first | omega | (simp; omega) | (simp; done) | (dsimp only; omega)) _) | (refine below_drewN ?_ _) | (refine Below.drew ?_) | (refine Below.trans ?_ (hbw8.mono (by first | omega | (simp; omega) | (simp; done) | (dsimp only; omega)))))
                have lb9 : bx < w9.heap.size := by omega
                have lq9 := q9.lt
                have hap : ∀ k, (Value.slice A6 src.length c6).ownBlock = some k → (Value.slice A8 dst.length c8).ownBlock ≠ some k := fun k h1 h2 => by have := (o9n.blkv k h1).2; have := (d9n.blkv k h2).1; omega
                clear hW r7 r8 q7 q8 o7 o8 o8' hb8 g4 h4 hbw7 hbw8
                obtain ⟨wz, rfl⟩ : ∃ x, x = w5 := ⟨_, rfl⟩
                have o9 := o9n.mono (Nat.le_refl _) (by omega : w7.heap.size ≤ w9.heap.size)
                have d9 := d9n.mono (by omega : wz.heap.size ≤ w7.heap.size) (Nat.le_refl _)
                clear o9n d9n
                have t0 := r9.cell (i := 0) rfl
                have t1 := r9.cell (i := 1) rfl
                have t2 := r9.cell (i := 2) rfl
                have t3 := r9.cell (i := 3) rfl
                have t4 := r9.cell (i := 4) rfl
                cases hok : ruleOk ⟨⟨a.toArray⟩, eg, 0, src, dst⟩ with
                | false =>
                  have HO := Lib.hid hok
                  have HN := Lib.hid (pRuleI_not HC.out hok)
                  clear hok
                  go_wp2_with (go_at_call 129; (with_reducible refine (implIsRule_any ⟨a.toArray⟩ eg 0 A6 A8 c6 c8 wz.heap.size w9.heap.size src dst _ o9.read.as d9.read.as (Nat.le_refl _) hnz).mono ?_); rintro e w10 ⟨rfl, hb10⟩; simp only [HO.out]; (have q10 := q9.below hb10 lq9); (have r10 := r9.below hb10 lb9); (have o10 := o9.same (Same.of_below hb10 (Nat.le_refl _))); (have d10 := d9.same (Same.of_below hb10 (Nat.le_refl _))); (have t0 := r10.cell (i := 0) rfl); (have t1 := r10.cell (i := 1) rfl); (have t2 := r10.cell (i := 2) rfl); (have t3 := r10.cell (i := 3) rfl); (have t4 := r10.cell (i := 4) rfl); (have lb10 := r10.lt); (have z10 := hb10.size); (have e0 := q10.cell (i := 0) rfl); (have e1 := q10.cell (i := 1) rfl); (have e2 := q10.cell (i := 2) rfl); (have e3 := q10.cell (i := 3) rfl); (have e4 := q10.cell (i := 4) rfl); (have f0 := q10.free 0); (have f1 := q10.free 1); (have f2 := q10.free 2); (have f3 := q10.free 3); (have f4 := q10.free 4))
                  have R := (((((q10.set 0 (.string ⟨#[]⟩)).set 1 (.int .i64 0)).set 2 (.int .i64 0)).set 3 (.slice none 0 0)).set 4 (.slice none 0 0))
                  rw [HN.out]
                  exact bodyPost_ret (v := .tuple #[.agg #[.string ⟨#[]⟩, .int .i64 0, .int .i64 0, .slice none 0 0, .slice none 0 0], .bool false]) (by simp [results, Try.results43, go_sem, R.cell (i := 0) rfl, R.cell (i := 1) rfl, R.cell (i := 2) rfl, R.cell (i := 3) rfl, R.cell (i := 4) rfl]) rfl (RetRuleB.zero (by (with_reducible repeat' first | exact Below.refl _ _ | assumption | (refine Below.setCell ?_ (by first | omega | (simp; omega) | (simp; done) | (dsimp only; omega)) _) | (refine Below.alloc ?_ (by first | omega | (simp; omega) | (simp; done) | (dsimp only; omega)) _) | (refine below_drewN ?_ _) | (refine Below.drew ?_) | (refine Below.trans ?_ (hb10.mono (by first | omega | (simp; omega) | (simp; done) | (dsimp only; omega)))) | (refine Below.trans ?_ (hbw9.mono (by first | omega | (simp; omega) | (simp; done) | (dsimp only; omega)))))))
                | true =>
                  have HO := Lib.hid hok
                  obtain ⟨tx, htx⟩ : ∃ tx, ruleT ⟨⟨a.toArray⟩, eg, 0, src, dst⟩ = tx := ⟨_, rfl⟩
                  have HTX := Lib.hid htx
                  have htx' : ruleText ⟨⟨a.toArray⟩, eg, 0, src, dst⟩ = tx := by rw [← htx, ruleT, if_pos hok]
                  have htl : tx.toList = tx.data.toList := by rw [ByteArray.toList_eq]
                  have hsl : s.toList = s.data.toList := by rw [ByteArray.toList_eq]
                  by_cases he : tx = s
                  · have HN := Lib.hid (pRuleI_good HC.out hok (htx'.trans he))
                    have n9 : (!(tx.toList == s.toList)) = false := by rw [he]; simp
                    clear hok he htx htx' htl hsl
                    go_wp2_with (first
                      | (go_at_call 129; (with_reducible refine (implIsRule_any ⟨a.toArray⟩ eg 0 A6 A8 c6 c8 wz.heap.size w9.heap.size src dst _ o9.read.as d9.read.as (Nat.le_refl _) hnz).mono ?_); rintro e w10 ⟨rfl, hb10⟩; simp only [HO.out]; (have q10 := q9.below hb10 lq9); (have r10 := r9.below hb10 lb9); (have o10 := o9.same (Same.of_below hb10 (Nat.le_refl _))); (have d10 := d9.same (Same.of_below hb10 (Nat.le_refl _))); (have t0 := r10.cell (i := 0) rfl); (have t1 := r10.cell (i := 1) rfl); (have t2 := r10.cell (i := 2) rfl); (have t3 := r10.cell (i := 3) rfl); (have t4 := r10.cell (i := 4) rfl); (have lb10 := r10.lt); (have z10 := hb10.size))
                      | (go_at_call 130; (with_reducible refine (implFormatRule_any ⟨a.toArray⟩ eg 0 A6 A8 c6 c8 wz.heap.size w9.heap.size src dst _ o10.read.as d10.read.as z10 hnz).mono ?_); rintro e w11 ⟨rfl, hb11⟩; rw [HTX.out]; (have q11 := q10.below hb11 q10.lt); (have e0 := q11.cell (i := 0) rfl); (have e1 := q11.cell (i := 1) rfl); (have e2 := q11.cell (i := 2) rfl); (have e3 := q11.cell (i := 3) rfl); (have e4 := q11.cell (i := 4) rfl); (have f0 := q11.free 0); (have f1 := q11.free 1); (have f2 := q11.free 2); (have f3 := q11.free 3); (have f4 := q11.free 4); (have lq11 := q11.lt); (have z11 := hb11.size); (have r11 := r10.below hb11 lb10); (have t0 := r11.cell (i := 0) rfl); (have t1 := r11.cell (i := 1) rfl); (have t2 := r11.cell (i := 2) rfl); (have t3 := r11.cell (i := 3) rfl); (have t4 := r11.cell (i := 4) rfl); (have o11 := o10.same (Same.of_below hb11 z10)); (have d11 := d10.same (Same.of_below hb11 z10))))
                    have R := ((((q11.set 0 (.string ⟨a.toArray⟩)).set 1 (.int .i64 eg)).set 2 (.int .i64 0)).set 3 (.slice A6 src.length c6)).set 4 (.slice A8 dst.length c8)
                    rw [HN.out]
                    exact bodyPost_ret (v := .tuple #[.agg #[.string ⟨a.toArray⟩, .int .i64 eg, .int .i64 0, .slice A6 src.length c6, .slice A8 dst.length c8], .bool true]) (by simp [results, Try.results43, go_sem, R.cell (i := 0) rfl, R.cell (i := 1) rfl, R.cell (i := 2) rfl, R.cell (i := 3) rfl, R.cell (i := 4) rfl]) rfl ⟨A6, c6, A8, c8, rfl, (o11.same (by (with_reducible repeat' first | exact Same.refl _ _ _ | assumption | (refine Same.setCell ?_ (by first | omega | (simp; omega) | (simp; done) | (dsimp only; omega)) _) | (refine Same.alloc ?_ (by first | omega | (simp; omega) | (simp; done) | (dsimp only; omega)) _) | (refine Same.drewN ?_ _) | (refine Same.drew ?_)))).mono (by first | omega | (simp; omega) | (simp; done) | (dsimp only; omega)) (by first | omega | (simp; omega) | (simp; done) | (dsimp only; omega)), (d11.same (by (with_reducible repeat' first | exact Same.refl _ _ _ | assumption | (refine Same.setCell ?_ (by first | omega | (simp; omega) | (simp; done) | (dsimp only; omega)) _) | (refine Same.alloc ?_ (by first | omega | (simp; omega) | (simp; done) | (dsimp only; omega)) _) | (refine Same.drewN ?_ _) | (refine Same.drew ?_)))).mono (by first | omega | (simp; omega) | (simp; done) | (dsimp only; omega)) (by first | omega | (simp; omega) | (simp; done) | (dsimp only; omega)), hap, by (with_reducible repeat' first | exact Below.refl _ _ | assumption | (refine Below.setCell ?_ (by first | omega | (simp; omega) | (simp; done) | (dsimp only; omega)) _) | (refine Below.alloc ?_ (by first | omega | (simp; omega) | (simp; done) | (dsimp only; omega)) _) | (refine below_drewN ?_ _) | (refine Below.drew ?_) | (refine Below.trans ?_ (hb11.mono (by first | omega | (simp; omega) | (simp; done) | (dsimp only; omega)))) | (refine Below.trans ?_ (hb10.mono (by first | omega | (simp; omega) | (simp; done) | (dsimp only; omega)))) | (refine Below.trans ?_ (hbw9.mono (by first | omega | (simp; omega) | (simp; done) | (dsimp only; omega)))))⟩
                  · have HN := Lib.hid (pRuleI_text HC.out (fun k => he (htx'.symm.trans k)))
                    have n9 : (!(tx.toList == s.toList)) = true := by
                      have : (tx.toList == s.toList) = false := by
                        rw [beq_eq_false_iff_ne, htl, hsl]
                        exact fun e => he (list_inj e)
                      rw [this]; rfl
                    clear hok he htx htx' htl hsl
                    go_wp2_with (first
                      | (go_at_call 129; (with_reducible refine (implIsRule_any ⟨a.toArray⟩ eg 0 A6 A8 c6 c8 wz.heap.size w9.heap.size src dst _ o9.read.as d9.read.as (Nat.le_refl _) hnz).mono ?_); rintro e w10 ⟨rfl, hb10⟩; simp only [HO.out]; (have q10 := q9.below hb10 lq9); (have r10 := r9.below hb10 lb9); (have o10 := o9.same (Same.of_below hb10 (Nat.le_refl _))); (have d10 := d9.same (Same.of_below hb10 (Nat.le_refl _))); (have t0 := r10.cell (i := 0) rfl); (have t1 := r10.cell (i := 1) rfl); (have t2 := r10.cell (i := 2) rfl); (have t3 := r10.cell (i := 3) rfl); (have t4 := r10.cell (i := 4) rfl); (have lb10 := r10.lt); (have z10 := hb10.size))
                      | (go_at_call 130; (with_reducible refine (implFormatRule_any ⟨a.toArray⟩ eg 0 A6 A8 c6 c8 wz.heap.size w9.heap.size src dst _ o10.read.as d10.read.as z10 hnz).mono ?_); rintro e w11 ⟨rfl, hb11⟩; rw [HTX.out]; (have q11 := q10.below hb11 q10.lt); (have e0 := q11.cell (i := 0) rfl); (have e1 := q11.cell (i := 1) rfl); (have e2 := q11.cell (i := 2) rfl); (have e3 := q11.cell (i := 3) rfl); (have e4 := q11.cell (i := 4) rfl); (have f0 := q11.free 0); (have f1 := q11.free 1); (have f2 := q11.free 2); (have f3 := q11.free 3); (have f4 := q11.free 4); (have lq11 := q11.lt); (have z11 := hb11.size)))
                    have R := (((((q11.set 0 (.string ⟨#[]⟩)).set 1 (.int .i64 0)).set 2 (.int .i64 0)).set 3 (.slice none 0 0)).set 4 (.slice none 0 0))
                    rw [HN.out]
                    exact bodyPost_ret (v := .tuple #[.agg #[.string ⟨#[]⟩, .int .i64 0, .int .i64 0, .slice none 0 0, .slice none 0 0], .bool false]) (by simp [results, Try.results43, go_sem, R.cell (i := 0) rfl, R.cell (i := 1) rfl, R.cell (i := 2) rfl, R.cell (i := 3) rfl, R.cell (i := 4) rfl]) rfl (RetRuleB.zero (by (with_reducible repeat' first | exact Below.refl _ _ | assumption | (refine Below.setCell ?_ (by first | omega | (simp; omega) | (simp; done) | (dsimp only; omega)) _) | (refine Below.alloc ?_ (by first | omega | (simp; omega) | (simp; done) | (dsimp only; omega)) _) | (refine below_drewN ?_ _) | (refine Below.drew ?_) | (refine Below.trans ?_ (hb11.mono (by first | omega | (simp; omega) | (simp; done) | (dsimp only; omega)))) | (refine Below.trans ?_ (hb10.mono (by first | omega | (simp; omega) | (simp; done) | (dsimp only; omega)))) | (refine Below.trans ?_ (hbw9.mono (by first | omega | (simp; omega) | (simp; done) | (dsimp only; omega)))))))
end Go.Proofs.Ytnnjilkjjdiblaa
