/-
  Reading a rule from its text, in the reference.
-/
import Derived.Test.YtnnjilkjjdiblaaSplitS
import Derived.Test.YtnnjilkjjdiblaaIsRuleS
namespace Go.Proofs.Ytnnjilkjjdiblaa
set_option maxRecDepth 100000
open Go.RowKit

def RetRuleB (w : World) (m : Rule × Bool) (e : Ending) (w' : World) : Prop :=
  ∃ (A : Option Addr) (c : Nat) (B : Option Addr) (d : Nat), e = .returned (.tuple #[.agg #[.string m.1.name, .int .i64 m.1.sex, .int .i64 m.1.place, .slice A m.1.src.length c, .slice B m.1.dst.length d], .bool m.2]) ∧
    EStep.OS w' w.heap.size w'.heap.size (.slice A m.1.src.length c) m.1.src ∧ EStep.OS w' w.heap.size w'.heap.size (.slice B m.1.dst.length d) m.1.dst ∧
    (∀ b, (Value.slice A m.1.src.length c).ownBlock = some b → (Value.slice B m.1.dst.length d).ownBlock ≠ some b) ∧ Below w.heap.size w w'
theorem RetRuleB.zero {w w' : World} (h : Below w.heap.size w w') : RetRuleB w (zeroRule, false) (.returned (.tuple #[.agg #[.string ⟨#[]⟩, .int .i64 0, .int .i64 0, .slice none 0 0, .slice none 0 0], .bool false])) w' := ⟨none, 0, none, 0, rfl, Elem.OS.nil, Elem.OS.nil, fun b hb => by simp [Value.ownBlock] at hb, h⟩
def pRuleM (s : ByteArray) : Rule × Bool := finR s (candS s)
theorem pRule_few {s : ByteArray} {ws : List ByteArray} (h : ws.map bl = wordsS s) (hl : ws.length ≠ 4) : pRuleM s = (zeroRule, false) := by
  unfold pRuleM candS
  rw [← h]
  match ws, hl with
  | [], _ => rfl
  | [_], _ => rfl
  | [_, _], _ => rfl
  | [_, _, _], _ => rfl
  | _ :: _ :: _ :: _ :: _ :: _, _ => rfl
  | [_, _, _, _], hl => exact absurd rfl hl
theorem pRule_short {s a b c d : ByteArray} (h : [a, b, c, d].map bl = wordsS s) (hl : a.size < 2 ∨ b.size < 1) : pRuleM s = (zeroRule, false) := by
  unfold pRuleM candS
  rw [← h]
  simp only [List.map_cons, List.map_nil]
  rw [if_pos (by simpa [bl] using hl)]; rfl
theorem pRule_four {s a b c d : ByteArray} (h : [a, b, c, d].map bl = wordsS s) (hl : ¬ (a.size < 2 ∨ b.size < 1)) :
    candS s = some ⟨a.extract 0 (a.size - 1), (cutM b).1, placeS (bl (cutM b).2), stepsM (srcS (bl (cutM b).2)), stepsM (bl d)⟩ := by
  unfold candS
  rw [← h]
  simp only [List.map_cons, List.map_nil]
  rw [if_neg (by simpa [bl] using hl)]
  have e1 : (⟨((bl a).take ((bl a).length - 1)).toArray⟩ : ByteArray) = a.extract 0 (a.size - 1) := list_inj (by
    show (bl a).take ((bl a).length - 1) = bl (a.extract 0 (a.size - 1))
    rw [bl_extract, List.drop_zero, show (bl a).length = a.size by unfold bl; simp, Nat.sub_zero]; rfl)
  have e2 : (⟨(bl b).toArray⟩ : ByteArray) = b := list_inj (by unfold bl; simp)
  rw [e1, e2]; rfl
theorem pRule_good {s : ByteArray} {r : Rule} (h : candS s = some r) (ho : ruleOk r = true) (ht : ruleText r = s) : pRuleM s = (r, true) := by
  unfold pRuleM; rw [h]; exact if_pos ⟨ho, ht⟩
theorem pRule_not {s : ByteArray} {r : Rule} (h : candS s = some r) (ho : ruleOk r = false) : pRuleM s = (zeroRule, false) := by
  unfold pRuleM; rw [h]; exact if_neg fun k => by rw [ho] at k; cases k.1
theorem pRule_text {s : ByteArray} {r : Rule} (h : candS s = some r) (ht : ruleText r ≠ s) : pRuleM s = (zeroRule, false) := by
  unfold pRuleM; rw [h]; exact if_neg fun k => ht k.2

theorem split_le {c : UInt8} : ∀ {l acc x : List UInt8}, x ∈ splitL c acc l → x.length ≤ acc.length + l.length := by
  intro l
  induction l with
  | nil => intro acc x h; simp [splitL] at h; subst h; simp
  | cons y r ih =>
    intro acc x h
    rw [splitL] at h
    split at h
    · rcases List.mem_cons.1 h with h | h
      · subst h; simp
      · have := ih h; simp at this ⊢; omega
    · have := ih h; simp at this ⊢; omega
theorem words_le {s x : ByteArray} {ws : List ByteArray} (h : ws.map bl = wordsS s) (hx : x ∈ ws) : x.size ≤ s.size := by
  have h1 : bl x ∈ wordsS s := by rw [← h]; exact List.mem_map_of_mem hx
  have h2 := split_le h1
  simpa [bl] using h2

set_option maxHeartbeats 8000000 in
theorem specParseRule_any (s : ByteArray) (w : World) (hs : s.size ≤ 1048576) : Calls Try.prog 42 #[.string s] w (RetRuleB w (pRuleM s)) := by
  go_enter Try.func42, Try.ntmps42
  go_upto_region 2 with (go_at_call 123; refine (l1Split_any _ _ hs).mono ?_; rintro e w1 ⟨A1, c1, ws, rfl, o1, hws, hb1⟩)
  have r0 := (Blk.new (t := 58) (cs := #[.string ⟨#[]⟩, .int .i64 0, .int .i64 0, .slice none 0 0, .slice none 0 0]) w rfl).below hb1 (by simp)
  have hbw : Below w.heap.size w w1 := by (with_reducible repeat' first | exact Below.refl _ _ | assumption | (refine Below.setCell ?_ (by first | omega | (simp; omega) | (simp; done) | (dsimp only; omega)) _) | (refine Below.alloc ?_ (by first | omega | (simp; omega) | (simp; done) | (dsimp only; omega)) _) | (refine below_drewN ?_ _) | (refine Below.drew ?_) | (refine Below.trans ?_ (hb1.mono (by first | omega | (simp; omega) | (simp; done) | (dsimp only; omega)))))
  have z1 := hb1.size
  simp only [szs] at o1 z1
  clear hb1
  have a0 := r0.cell (i := 0) rfl; have a1 := r0.cell (i := 1) rfl; have a2 := r0.cell (i := 2) rfl; have a3 := r0.cell (i := 3) rfl; have a4 := r0.cell (i := 4) rfl
  have f0 := r0.free 0; have f1 := r0.free 1; have f2 := r0.free 2; have f3 := r0.free 3; have f4 := r0.free 4
  have lw1 := r0.lt
  by_cases h4 : ws.length = 4
  · obtain ⟨wa, wb, wc, wd, rfl⟩ : ∃ a b c d, ws = [a, b, c, d] := by
      match ws, h4 with
      | [a, b, c, d], _ => exact ⟨a, b, c, d, rfl⟩
    obtain ⟨g, off, x, rfl, j1, j2, -, hx, hca⟩ := AString.at_ (k := 0) o1.read.as (by simp)
    obtain rfl : wa = x := by simpa using hx
    obtain ⟨g', off', x, he, -, -, -, hx, hcb⟩ := AString.at_ (k := 1) o1.read.as (by simp)
    injection he with he
    injection he with he1 he2 _
    subst he1; subst he2
    obtain rfl : wb = x := by simpa using hx
    obtain ⟨g', off', x, he, -, -, -, hx, hcd⟩ := AString.at_ (k := 3) o1.read.as (by simp)
    injection he with he
    injection he with he1 he2 _
    subst he1; subst he2
    obtain rfl : wd = x := by simpa using hx
    simp only [Nat.add_zero] at hca
    have hws' := Lib.hid hws
    have sa := words_le hws (x := wa) (by simp); have sb := words_le hws (x := wb) (by simp); have sd := words_le hws (x := wd) (by simp)
    clear h4 hws o1 hx
    simp only [List.length_cons, List.length_nil, Nat.zero_add, Nat.reduceAdd]
    have lg : g < w1.heap.size := j2
    by_cases ha : wa.size < 2
    · have n1 : (wa.size : Int) < 2 := by omega
      have HN := Lib.hid (pRule_short hws'.out (.inl ha))
      clear ha
      go_wp2_with fail
      have R := (((((r0.set 0 (.string ⟨#[]⟩)).set 1 (.int .i64 0)).set 2 (.int .i64 0)).set 3 (.slice none 0 0)).set 4 (.slice none 0 0))
      rw [HN.out]
      exact bodyPost_ret (v := .tuple #[.agg #[.string ⟨#[]⟩, .int .i64 0, .int .i64 0, .slice none 0 0, .slice none 0 0], .bool false]) (by simp [results, Try.results42, go_sem, R.cell (i := 0) rfl, R.cell (i := 1) rfl, R.cell (i := 2) rfl, R.cell (i := 3) rfl, R.cell (i := 4) rfl]) rfl (RetRuleB.zero (by (with_reducible repeat' first | exact Below.refl _ _ | assumption | (refine Below.setCell ?_ (by first | omega | (simp; omega) | (simp; done) | (dsimp only; omega)) _) | (refine Below.alloc ?_ (by first | omega | (simp; omega) | (simp; done) | (dsimp only; omega)) _) | (refine below_drewN ?_ _) | (refine Below.drew ?_) | (refine Below.trans ?_ (hbw.mono (by first | omega | (simp; omega) | (simp; done) | (dsimp only; omega)))))))
    · by_cases hb : wb.size < 1
      · have n1 : ¬ (wa.size : Int) < 2 := by omega
        have n2 : (wb.size : Int) < 1 := by omega
        have HN := Lib.hid (pRule_short hws'.out (.inr hb))
        clear ha hb
        go_wp2_with fail
        have R := (((((r0.set 0 (.string ⟨#[]⟩)).set 1 (.int .i64 0)).set 2 (.int .i64 0)).set 3 (.slice none 0 0)).set 4 (.slice none 0 0))
        rw [HN.out]
        exact bodyPost_ret (v := .tuple #[.agg #[.string ⟨#[]⟩, .int .i64 0, .int .i64 0, .slice none 0 0, .slice none 0 0], .bool false]) (by simp [results, Try.results42, go_sem, R.cell (i := 0) rfl, R.cell (i := 1) rfl, R.cell (i := 2) rfl, R.cell (i := 3) rfl, R.cell (i := 4) rfl]) rfl (RetRuleB.zero (by (with_reducible repeat' first | exact Below.refl _ _ | assumption | (refine Below.setCell ?_ (by first | omega | (simp; omega) | (simp; done) | (dsimp only; omega)) _) | (refine Below.alloc ?_ (by first | omega | (simp; omega) | (simp; done) | (dsimp only; omega)) _) | (refine below_drewN ?_ _) | (refine Below.drew ?_) | (refine Below.trans ?_ (hbw.mono (by first | omega | (simp; omega) | (simp; done) | (dsimp only; omega)))))))
      · have n1 : ¬ (wa.size : Int) < 2 := by omega
        have n2 : ¬ (wb.size : Int) < 1 := by omega
        have n3 : (0 : Int) ≤ (wa.size : Int) - 1 ∧ (wa.size : Int) - 1 ≤ wa.size := by omega
        have n4 : IntKind.i64.wrap ((wa.size : Int) - 1) = ((wa.size - 1 : Nat) : Int) := by rw [IntKind.wrap_i64]; omega
        have n5 : wa.size - 1 ≤ wa.size := by omega
        have HC := Lib.hid (pRule_four hws'.out (by omega))
        clear ha hb
        go_upto_region 4 with fail
        obtain ⟨nm, hnm⟩ : ∃ nm, wa.extract 0 (wa.size - 1) = nm := ⟨_, rfl⟩
        obtain ⟨dst, hdst⟩ : ∃ dst, stepsM (bl wd) = dst := ⟨_, rfl⟩
        have HNM := Lib.hid hnm; have HDS := Lib.hid hdst
        rw [hnm, hdst] at HC
        go_cut [5] (fun v wx => ∃ (bx : Nat) (A2 : Option Addr) (c2 : Nat), v = .pointer (some ⟨bx, 0, none⟩) ∧ w1.heap.size ≤ bx ∧ Blk wx bx 58 #[.string nm, .int .i64 0, .int .i64 0, .slice none 0 0, .slice A2 dst.length c2] ∧ EStep.OS wx w1.heap.size wx.heap.size (.slice A2 dst.length c2) dst ∧ (∀ k, (Value.slice A2 dst.length c2).ownBlock = some k → k ≠ bx) ∧ Below w1.heap.size w1 wx)
        case first =>
          clear hnm hdst
          refine wp_region_held_drew (S := fun w' => w'.cell? ⟨g, off, none⟩ = some (.string wa) ∧ w'.cell? ⟨g, off + 3, none⟩ = some (.string wd)) (by kernel_rfl) ⟨hca, hcd⟩ (fun hHeld => ?_)
          refine wpAnyH_take (i := 0) (oi := { dst := some 28, op := _, type := _, pos := _, after := _, guard := _ }) (v := ?_) rfl (by kernel_rfl) (by kernel_rfl) (by kernel_rfl) (fun _ _ _ h => h) (Or.inl ⟨by rfl, ?_⟩) (by assumption) ?_; rotate_left; (intro w hSw; (try dsimp only at hSw); go_simp); (try with_reducible rfl); (try simp only [Act.put, List.setIfInBounds_toArray, List.set_cons_zero, List.set_cons_succ])
          refine wpAnyH_take (i := 1) (oi := { dst := some 29, op := _, type := _, pos := _, after := _, guard := _ }) (v := ?_) rfl (by kernel_rfl) (by kernel_rfl) (by kernel_rfl) (fun _ _ _ h => h) (Or.inl ⟨by rfl, ?_⟩) (by assumption) ?_; rotate_left; (intro w hSw; (try dsimp only at hSw); go_simp); (try with_reducible rfl); (try simp only [Act.put, List.setIfInBounds_toArray, List.set_cons_zero, List.set_cons_succ])
          refine wpAnyH_take (i := 2) (oi := { dst := some 30, op := _, type := _, pos := _, after := _, guard := _ }) (v := ?_) rfl (by kernel_rfl) (by kernel_rfl) (by kernel_rfl) (fun _ _ _ h => h) (Or.inl ⟨by rfl, ?_⟩) (by assumption) ?_; rotate_left; (intro w hSw; (try dsimp only at hSw); go_simp); (try with_reducible rfl); (try simp only [Act.put, List.setIfInBounds_toArray, List.set_cons_zero, List.set_cons_succ])
          refine wpAnyH_take (i := 3) (oi := { dst := some 31, op := _, type := _, pos := _, after := _, guard := _ }) (v := ?_) rfl (by kernel_rfl) (by kernel_rfl) (by kernel_rfl) (fun _ _ _ h => h) (Or.inl ⟨by rfl, ?_⟩) (by assumption) ?_; rotate_left; (intro w hSw; (try dsimp only at hSw); go_simp); (try with_reducible rfl); (try simp only [Act.put, List.setIfInBounds_toArray, List.set_cons_zero, List.set_cons_succ])
          refine wpAnyH_take (i := 4) (oi := { dst := some 32, op := _, type := _, pos := _, after := _, guard := _ }) (v := ?_) rfl (by kernel_rfl) (by kernel_rfl) (by kernel_rfl) (fun _ _ _ h => h) (Or.inl ⟨by rfl, ?_⟩) (by assumption) ?_; rotate_left; (intro w hSw; (try dsimp only at hSw); go_simp); (try with_reducible rfl); (try simp only [Act.put, List.setIfInBounds_toArray, List.set_cons_zero, List.set_cons_succ])
          refine wpAnyH_take (i := 5) (oi := { dst := some 33, op := _, type := _, pos := _, after := _, guard := _ }) (v := ?_) rfl (by kernel_rfl) (by kernel_rfl) (by kernel_rfl) (fun _ _ _ h => h) (Or.inl ⟨by rfl, ?_⟩) (by assumption) ?_; rotate_left; (intro w hSw; (try dsimp only at hSw); go_simp); (try with_reducible rfl); (try simp only [Act.put, List.setIfInBounds_toArray, List.set_cons_zero, List.set_cons_succ])
          refine wpAnyH_take (i := 6) (oi := { dst := some 34, op := _, type := _, pos := _, after := _, guard := _ }) (v := ?_) rfl (by kernel_rfl) (by kernel_rfl) (by kernel_rfl) (fun _ _ _ h => h) (Or.inl ⟨by rfl, ?_⟩) (by assumption) ?_; rotate_left; (intro w hSw; (try dsimp only at hSw); go_simp); (try with_reducible rfl); (try simp only [Act.put, List.setIfInBounds_toArray, List.set_cons_zero, List.set_cons_succ])
          refine wpAnyH_take (i := 7) (oi := { dst := some 35, op := _, type := _, pos := _, after := _, guard := _ }) (v := ?_) rfl (by kernel_rfl) (by kernel_rfl) (by kernel_rfl) (fun _ _ _ h => h) (Or.inl ⟨by rfl, ?_⟩) (by assumption) ?_; rotate_left; (intro w hSw; (try dsimp only at hSw); go_simp); (try with_reducible rfl); (try simp only [Act.put, List.setIfInBounds_toArray, List.set_cons_zero, List.set_cons_succ])
          refine wpAnyH_take (i := 8) (oi := { dst := some 36, op := _, type := _, pos := _, after := _, guard := _ }) (v := ?_) rfl (by kernel_rfl) (by kernel_rfl) (by kernel_rfl) (fun _ _ _ h => h) (Or.inl ⟨by rfl, ?_⟩) (by assumption) ?_; rotate_left; (intro w hSw; (try dsimp only at hSw); go_simp); (try with_reducible rfl); (try simp only [Act.put, List.setIfInBounds_toArray, List.set_cons_zero, List.set_cons_succ])
          refine wpAnyH_take (i := 9) (oi := { dst := some 37, op := _, type := _, pos := _, after := _, guard := _ }) (v := ?_) rfl (by kernel_rfl) (by kernel_rfl) (by kernel_rfl) (fun _ _ _ h => h) (Or.inl ⟨by rfl, ?_⟩) (by assumption) ?_; rotate_left; (intro w hSw; (try dsimp only at hSw); go_simp); (try with_reducible rfl); (try simp only [Act.put, List.setIfInBounds_toArray, List.set_cons_zero, List.set_cons_succ])
          refine wpAnyH_take (i := 10) (oi := { dst := some 38, op := _, type := _, pos := _, after := _, guard := _ }) (v := ?_) rfl (by kernel_rfl) (by kernel_rfl) (by kernel_rfl) (fun _ _ _ h => h) (Or.inl ⟨by rfl, ?_⟩) (by assumption) ?_; rotate_left; (intro w hSw; (try dsimp only at hSw); go_simp); (try with_reducible rfl); (try simp only [Act.put, List.setIfInBounds_toArray, List.set_cons_zero, List.set_cons_succ])
          refine wpAnyH_take (i := 11) (oi := { dst := some 39, op := _, type := _, pos := _, after := _, guard := _ }) (v := ?_) rfl (by kernel_rfl) (by kernel_rfl) (by kernel_rfl) (fun _ _ _ h => h) (Or.inl ⟨by rfl, ?_⟩) (by assumption) ?_; rotate_left; (intro w hSw; (try dsimp only at hSw); go_simp); (try with_reducible rfl); (try simp only [Act.put, List.setIfInBounds_toArray, List.set_cons_zero, List.set_cons_succ])
          refine wpAnyH_ready (rs := [12, 14]) (by kernel_rfl) (by simp) ?_
          refine AllReadyH.cons (o := { dst := some 40, op := _, type := _, pos := _, after := _, guard := _ }) rfl (fun K hK => ?_) (AllReadyH.cons (o := { dst := some 5, op := _, type := _, pos := _, after := _, guard := _ }) rfl (fun K hK => ?_) AllReadyH.nil)
          ·
            go_simp
            (go_at_call 118; refine (l3Read_any wd _ (by omega)).mono ?_; rintro e w2 ⟨A2, c2, rfl, o2, hb2⟩; rw [show stepsM wd.data.toList = dst from HDS.out] at o2 ⊢; replace hb2 := undrew hb2; (replace o2 : EStep.OS w2 w1.heap.size w2.heap.size (.slice A2 dst.length c2) dst := o2); (replace hca := (hb2.cell (p := ⟨g, off, none⟩) lg).trans hca); (replace hcd := (hb2.cell (p := ⟨g, off + 3, none⟩) lg).trans hcd); (have lg2 : g < w2.heap.size := Nat.lt_of_lt_of_le lg hb2.size); (have zz2 := hb2.size))
            try go_wp2_with fail
            refine hK.out _ _ ⟨hca, hcd⟩ (fun hHeld => ?_)
            clear hK K; (try simp only [Act.put, List.setIfInBounds_toArray, List.set_cons_zero, List.set_cons_succ])
            refine wpAnyH_take (i := 13) (oi := { dst := some 41, op := _, type := _, pos := _, after := _, guard := _ }) (v := ?_) rfl (by kernel_rfl) (by kernel_rfl) (by kernel_rfl) (fun _ _ _ h => h) (Or.inl ⟨by rfl, ?_⟩) (by assumption) ?_; rotate_left; (intro w hSw; (try dsimp only at hSw); go_simp); (try with_reducible rfl); (try simp only [Act.put, List.setIfInBounds_toArray, List.set_cons_zero, List.set_cons_succ])
            refine wpAnyH_ready (rs := [14]) (by kernel_rfl) (by simp) ?_
            refine AllReadyH.cons (o := { dst := some 5, op := _, type := _, pos := _, after := _, guard := _ }) rfl (fun K hK => ?_) AllReadyH.nil
            go_simp
            refine hK.out _ _ ⟨(((Below.refl _ w2).alloc (Nat.le_refl _) _).cell (p := ⟨g, off, none⟩) lg2).trans hca, (((Below.refl _ w2).alloc (Nat.le_refl _) _).cell (p := ⟨g, off + 3, none⟩) lg2).trans hcd⟩ (fun hHeld => ?_)
            clear hK K; (try simp only [Act.put, List.setIfInBounds_toArray, List.set_cons_zero, List.set_cons_succ])
            refine wpAnyH_ready (rs := [15]) (by kernel_rfl) (by simp) ?_
            refine AllReadyH.cons (o := { dst := none, op := _, type := _, pos := _, after := _, guard := _ }) rfl (fun K hK => ?_) AllReadyH.nil
            go_simp
            refine hK.out _ _ ⟨(((Below.refl _ w2).alloc (Nat.le_refl _) _).cell (p := ⟨g, off, none⟩) lg2).trans hca, (((Below.refl _ w2).alloc (Nat.le_refl _) _).cell (p := ⟨g, off + 3, none⟩) lg2).trans hcd⟩ (fun hHeld => ?_)
            clear hK K; (try simp only [Act.put, List.setIfInBounds_toArray, List.set_cons_zero, List.set_cons_succ])
            refine wpAnyH_done (by kernel_rfl) ?_ _
            go_wp2_with fail
            go_meet
            exact ⟨_, A2, c2, rfl, hb2.size, (by rw [← HNM.out]; exact Blk.new _ rfl), (o2.same (by (with_reducible repeat' first | exact Same.refl _ _ _ | assumption | (refine Same.setCell ?_ (by first | omega | (simp; omega) | (simp; done) | (dsimp only; omega)) _) | (refine Same.alloc ?_ (by first | omega | (simp; omega) | (simp; done) | (dsimp only; omega)) _) | (refine Same.drewN ?_ _) | (refine Same.drew ?_)))).mono (Nat.le_refl _) (by simp), (fun k hk e => by have := (o2.blkv k hk).2; omega), by (with_reducible repeat' first | exact Below.refl _ _ | assumption | (refine Below.setCell ?_ (by first | omega | (simp; omega) | (simp; done) | (dsimp only; omega)) _) | (refine Below.alloc ?_ (by first | omega | (simp; omega) | (simp; done) | (dsimp only; omega)) _) | (refine below_drewN ?_ _) | (refine Below.drew ?_) | (refine Below.trans ?_ (hb2.mono (by first | omega | (simp; omega) | (simp; done) | (dsimp only; omega)))))⟩
          ·
            go_simp
            refine hK.out _ _ ⟨(((Below.refl _ w1).alloc (Nat.le_refl _) _).cell (p := ⟨g, off, none⟩) lg).trans hca, (((Below.refl _ w1).alloc (Nat.le_refl _) _).cell (p := ⟨g, off + 3, none⟩) lg).trans hcd⟩ (fun hHeld => ?_)
            clear hK K; (try simp only [Act.put, List.setIfInBounds_toArray, List.set_cons_zero, List.set_cons_succ])
            refine wpAnyH_ready (rs := [12]) (by kernel_rfl) (by simp) ?_
            refine AllReadyH.cons (o := { dst := some 40, op := _, type := _, pos := _, after := _, guard := _ }) rfl (fun K hK => ?_) AllReadyH.nil
            go_simp
            (go_at_call 118; refine (l3Read_any wd _ (by omega)).mono ?_; rintro e w2 ⟨A2, c2, rfl, o2, hb2⟩; rw [show stepsM wd.data.toList = dst from HDS.out] at o2 ⊢; (have bx := ((Blk.new (t := 58) (cs := #[.string ⟨#[]⟩, .int .i64 0, .int .i64 0, .slice none 0 0, .slice none 0 0]) w1 rfl).drew).below hb2 (by simp)); (replace o2 : EStep.OS w2 (w1.heap.size + 1) w2.heap.size (.slice A2 dst.length c2) dst := by simpa using o2); (replace hb2 : Below w1.heap.size w1 w2 := by (with_reducible repeat' first | exact Below.refl _ _ | assumption | (refine Below.setCell ?_ (by first | omega | (simp; omega) | (simp; done) | (dsimp only; omega)) _) | (refine Below.alloc ?_ (by first | omega | (simp; omega) | (simp; done) | (dsimp only; omega)) _) | (refine below_drewN ?_ _) | (refine Below.drew ?_) | (refine Below.trans ?_ (hb2.mono (by first | omega | (simp; omega) | (simp; done) | (dsimp only; omega)))))); (replace hca := (hb2.cell (p := ⟨g, off, none⟩) lg).trans hca); (replace hcd := (hb2.cell (p := ⟨g, off + 3, none⟩) lg).trans hcd); (have lg2 : g < w2.heap.size := Nat.lt_of_lt_of_le lg hb2.size); (have zz2 := hb2.size); (have g0 := bx.cell (i := 0) rfl); (have h0 := bx.free 0); (have g1 := bx.cell (i := 1) rfl); (have h1 := bx.free 1); (have g2 := bx.cell (i := 2) rfl); (have h2 := bx.free 2); (have g3 := bx.cell (i := 3) rfl); (have h3 := bx.free 3); (have g4 := bx.cell (i := 4) rfl); (have h4 := bx.free 4); (have lbx := bx.lt))
            try go_wp2_with fail
            refine hK.out _ _ ⟨hca, hcd⟩ (fun hHeld => ?_)
            clear hK K; (try simp only [Act.put, List.setIfInBounds_toArray, List.set_cons_zero, List.set_cons_succ])
            refine wpAnyH_take (i := 13) (oi := { dst := some 41, op := _, type := _, pos := _, after := _, guard := _ }) (v := ?_) rfl (by kernel_rfl) (by kernel_rfl) (by kernel_rfl) (fun _ _ _ h => h) (Or.inl ⟨by rfl, ?_⟩) (by assumption) ?_; rotate_left; (intro w hSw; (try dsimp only at hSw); go_simp); (try with_reducible rfl); (try simp only [Act.put, List.setIfInBounds_toArray, List.set_cons_zero, List.set_cons_succ])
            refine wpAnyH_ready (rs := [15]) (by kernel_rfl) (by simp) ?_
            refine AllReadyH.cons (o := { dst := none, op := _, type := _, pos := _, after := _, guard := _ }) rfl (fun K hK => ?_) AllReadyH.nil
            go_simp
            refine hK.out _ _ ⟨(World.cell?_of_block (((((Below.heap_setCell _ _ _ _ (by first | omega | (simp; omega) | (simp; done) | (dsimp only; omega))).trans (Below.heap_setCell _ _ _ _ (by first | omega | (simp; omega) | (simp; done) | (dsimp only; omega)))).trans (Below.heap_setCell _ _ _ _ (by first | omega | (simp; omega) | (simp; done) | (dsimp only; omega)))).trans (Below.heap_setCell _ _ _ _ (by first | omega | (simp; omega) | (simp; done) | (dsimp only; omega)))).trans (Below.heap_setCell _ _ _ _ (by first | omega | (simp; omega) | (simp; done) | (dsimp only; omega))))).trans hca, (World.cell?_of_block (((((Below.heap_setCell _ _ _ _ (by first | omega | (simp; omega) | (simp; done) | (dsimp only; omega))).trans (Below.heap_setCell _ _ _ _ (by first | omega | (simp; omega) | (simp; done) | (dsimp only; omega)))).trans (Below.heap_setCell _ _ _ _ (by first | omega | (simp; omega) | (simp; done) | (dsimp only; omega)))).trans (Below.heap_setCell _ _ _ _ (by first | omega | (simp; omega) | (simp; done) | (dsimp only; omega)))).trans (Below.heap_setCell _ _ _ _ (by first | omega | (simp; omega) | (simp; done) | (dsimp only; omega))))).trans hcd⟩ (fun hHeld => ?_)
            clear hK K; (try simp only [Act.put, List.setIfInBounds_toArray, List.set_cons_zero, List.set_cons_succ])
            refine wpAnyH_done (by kernel_rfl) ?_ _
            go_wp2_with fail
            go_meet
            exact ⟨_, A2, c2, rfl, Nat.le_refl _, (by rw [← HNM.out]; exact ((((bx.set 0 _).set 1 _).set 2 _).set 3 _).set 4 _), (o2.same (by (with_reducible repeat' first | exact Same.refl _ _ _ | assumption | (refine Same.setCell ?_ (by first | omega | (simp; omega) | (simp; done) | (dsimp only; omega)) _) | (refine Same.alloc ?_ (by first | omega | (simp; omega) | (simp; done) | (dsimp only; omega)) _) | (refine Same.drewN ?_ _) | (refine Same.drew ?_)))).mono (by omega) (by simp [World.setCell]), (fun k hk e => by have := (o2.blkv k hk).1; omega), by (with_reducible repeat' first | exact Below.refl _ _ | assumption | (refine Below.setCell ?_ (by first | omega | (simp; omega) | (simp; done) | (dsimp only; omega)) _) | (refine Below.alloc ?_ (by first | omega | (simp; omega) | (simp; done) | (dsimp only; omega)) _) | (refine below_drewN ?_ _) | (refine Below.drew ?_) | (refine Below.trans ?_ (hb2.mono (by first | omega | (simp; omega) | (simp; done) | (dsimp only; omega)))))⟩
        case rest =>
          obtain ⟨bx, A2, c2, rfl, hbx1, hbx, o2, hne, hb2⟩ := hcut
          obtain ⟨w2, rfl⟩ : ∃ x, x = wc := ⟨_, rfl⟩
          obtain ⟨eg, heg⟩ : ∃ eg, (cutM wb).1 = eg := ⟨_, rfl⟩
          obtain ⟨b, hbb⟩ : ∃ b, (cutM wb).2 = b := ⟨_, rfl⟩
          have HCM := Lib.hid (show cutM wb = (eg, b) by rw [← heg, ← hbb])
          have sb2 : b.size ≤ 1048576 := by
            rw [← hbb]; unfold cutM
            split
            · simp; omega
            · split
              · simp; omega
              · exact Nat.le_trans sb hs
          rw [heg, hbb] at HC
          clear heg hbb hnm hdst
          have hcb2 := (hb2.cell (p := ⟨g, off + 1, none⟩) lg).trans hcb
          have z2 := hb2.size
          have q2 := r0.below hb2 lw1
          have lg2 : g < w2.heap.size := by omega
          have lbx := hbx.lt
          have g0 := hbx.cell (i := 1) rfl; have h0 := hbx.free 1
          have hbw2 := hbw.trans (hb2.mono (by omega))
          clear a0 a1 a2 a3 a4 f0 f1 f2 f3 f4 hca hcb hcd
          go_upto_region 7 with (go_at_call 117; refine (l3Cut_any _ _).mono ?_; rintro e w3 ⟨rfl, n, rfl⟩; rw [HCM.out])
          generalize hW : (w2.drewN n).setCell ⟨bx, 1, none⟩ (.int .i64 eg) = w3
          have r3 : Blk w3 bx 58 #[.string nm, .int .i64 eg, .int .i64 0, .slice none 0 0, .slice A2 dst.length c2] := by subst hW; exact Blk.set (w := w2.drewN n) hbx 1 _
          have hb3 : Below bx w2 w3 := by subst hW; exact Below.setCell (p := ⟨bx, 1, none⟩) (below_drewN (Below.refl bx w2) n) (Nat.le_refl _) _
          have o3 : EStep.OS w3 w1.heap.size w3.heap.size (.slice A2 dst.length c2) dst := by
            subst hW
            refine Elem.OS.mono (E := EStep) (flat_os.2 ((flat_os.1 (o2.same (w' := w2.drewN n) ((Same.refl _ _ _).drewN n))).loc fun k hk => ?_)) (Nat.le_refl _) (by simp [World.setCell])
            exact Below.heap_setCell _ _ _ _ (hne k hk)
          have z3 : w2.heap.size = w3.heap.size := by subst hW; simp [World.setCell]
          clear hW
          have q3 := q2.below hb3 (by omega)
          have hbw3 := hbw2.trans (hb3.mono (by omega))
          have g2 := r3.cell (i := 2) rfl; have h2 := r3.free 2
          have lb3 := r3.lt
          clear g0 h0 hcb2 hbx o2
          have hnz : nm.size ≤ 140737488355328 := by rw [← HNM.out]; simp; omega
          by_cases hz : 0 < b.size
          · obtain ⟨c0, hc0⟩ : ∃ c0, b[0] = c0 := ⟨_, rfl⟩
            have j0 : (0 : Int) < (b.size : Int) := by omega
            have hb0 : bl b = c0 :: (bl b).drop 1 := by have := bytes_drop hz; rw [hc0] at this; exact this
            by_cases h94 : c0 = 94
            · have n1 : ((c0.toNat : Int) == 94) = true := by rw [h94]; rfl
              have hp : placeS (bl b) = 1 := by unfold placeS; rw [hb0, h94]; rfl
              have hsS : srcS (bl b) = bl (b.extract 1 b.size) := by
                unfold srcS; rw [if_pos (by rw [hb0, h94]; rfl), bl_extract, List.take_of_length_le]; · rfl
                simp
              rw [hp, hsS] at HC
              have hsz : (b.extract 1 b.size).size ≤ 1048576 := by simp; omega
              clear hp hsS h94 hb0
              go_upto_region 13 with fail
              generalize hW : w3.setCell ⟨bx, 2, none⟩ (.int .i64 1) = w4
              have r4 : Blk w4 bx 58 #[.string nm, .int .i64 eg, .int .i64 1, .slice none 0 0, .slice A2 dst.length c2] := by subst hW; exact r3.set 2 _
              have z4 : w3.heap.size = w4.heap.size := by subst hW; simp [World.setCell]
              have o4 : EStep.OS w4 w1.heap.size w4.heap.size (.slice A2 dst.length c2) dst := by
                rw [← z4]; subst hW
                exact flat_os.2 ((flat_os.1 o3).loc fun k hk => Below.heap_setCell _ _ _ _ (hne k hk))
              have q4 : Blk w4 w.heap.size 58 #[.string ⟨#[]⟩, .int .i64 0, .int .i64 0, .slice none 0 0, .slice none 0 0] := by subst hW; exact q3.far (by simp; omega) _
              have hbw4 : Below w.heap.size w w4 := by subst hW; (with_reducible repeat' first | exact Below.refl _ _ | assumption | (refine Below.setCell ?_ (by first | omega | (simp; omega) | (simp; done) | (dsimp only; omega)) _) | (refine Below.alloc ?_ (by first | omega | (simp; omega) | (simp; done) | (dsimp only; omega)) _) | (refine below_drewN ?_ _) | (refine Below.drew ?_) | (refine Below.trans ?_ (hbw3.mono (by first | omega | (simp; omega) | (simp; done) | (dsimp only; omega)))))
              have lb4 : bx < w4.heap.size := by omega
              clear hW r3 q3 o3 hbw3 g2 h2
              obtain ⟨src, hsrc⟩ : ∃ src, stepsM (bl (b.extract 1 b.size)) = src := ⟨_, rfl⟩
              rw [hsrc] at HC
              have HSR := Lib.hid (show stepsM (b.extract 1 b.size).data.toList = src from hsrc)
              clear hsrc
              have g3 := r4.cell (i := 3) rfl; have h3 := r4.free 3
              go_upto_region 14 with (go_at_call 118; refine (l3Read_any (b.extract 1 b.size) _ hsz).mono ?_; rintro e w5 ⟨A5, c5, rfl, o5, hb5⟩; rw [HSR.out] at o5 ⊢; (have r5 := r4.below hb5 lb4); (have g3 := r5.cell (i := 3) rfl); (have h3 := r5.free 3); (have lb5 := r5.lt))
              have q5 := q4.below hb5 q4.lt
              have d5 := o4.same (Same.of_below hb5 (Nat.le_refl _))
              have hbw5 := hbw4.trans (hb5.mono (by omega))
              have z5 := hb5.size
              generalize hW : w5.setCell ⟨bx, 3, none⟩ (.slice A5 src.length c5) = w6
              have r6 : Blk w6 bx 58 #[.string nm, .int .i64 eg, .int .i64 1, .slice A5 src.length c5, .slice A2 dst.length c2] := by subst hW; exact r5.set 3 _
              have o6 : EStep.OS w6 w4.heap.size w6.heap.size (.slice A5 src.length c5) src := by subst hW; exact (o5.same (by (with_reducible repeat' first | exact Same.refl _ _ _ | assumption | (refine Same.setCell ?_ (by first | omega | (simp; omega) | (simp; done) | (dsimp only; omega)) _) | (refine Same.alloc ?_ (by first | omega | (simp; omega) | (simp; done) | (dsimp only; omega)) _) | (refine Same.drewN ?_ _) | (refine Same.drew ?_)))).mono (Nat.le_refl _) (by simp [World.setCell])
              have d6 : EStep.OS w6 w1.heap.size w4.heap.size (.slice A2 dst.length c2) dst := by
                subst hW
                exact flat_os.2 ((flat_os.1 d5).loc fun k hk => Below.heap_setCell _ _ _ _ (hne k hk))
              have q6 : Blk w6 w.heap.size 58 #[.string ⟨#[]⟩, .int .i64 0, .int .i64 0, .slice none 0 0, .slice none 0 0] := by subst hW; exact q5.far (by simp; omega) _
              have z6 : w5.heap.size = w6.heap.size := by subst hW; simp [World.setCell]
              have hbw6 : Below w.heap.size w w6 := by subst hW; (with_reducible repeat' first | exact Below.refl _ _ | assumption | (refine Below.setCell ?_ (by first | omega | (simp; omega) | (simp; done) | (dsimp only; omega)) _) | (refine Below.alloc ?_ (by first | omega | (simp; omega) | (simp; done) | (dsimp only; omega)) _) | (refine below_drewN ?_ _) | (refine Below.drew ?_) | (refine Below.trans ?_ (hbw5.mono (by first | omega | (simp; omega) | (simp; done) | (dsimp only; omega)))))
              have lb6 : bx < w6.heap.size := by omega
              have lq6 := q6.lt
              have hap : ∀ k, (Value.slice A5 src.length c5).ownBlock = some k → (Value.slice A2 dst.length c2).ownBlock ≠ some k := fun k h1 h2 => by have := (o6.blkv k h1).1; have := (d6.blkv k h2).2; omega
              clear hW r4 r5 q4 q5 o4 d5 o5 hb5 g3 h3 hbw4 hbw5
              have t0 := r6.cell (i := 0) rfl; have t1 := r6.cell (i := 1) rfl; have t2 := r6.cell (i := 2) rfl; have t3 := r6.cell (i := 3) rfl; have t4 := r6.cell (i := 4) rfl
              have o6' : EStep.OS w6 w1.heap.size w6.heap.size (.slice A5 src.length c5) src := o6.mono (by omega) (Nat.le_refl _)
              have d6' : EStep.OS w6 w1.heap.size w6.heap.size (.slice A2 dst.length c2) dst := d6.mono (Nat.le_refl _) (by omega)
              cases hok : ruleOk ⟨nm, eg, 1, src, dst⟩ with
              | false =>
                have HO := Lib.hid hok
                have HN := Lib.hid (pRule_not HC.out hok)
                clear hok
                go_wp2_with (go_at_call 124; (with_reducible refine (specIsRule_any nm eg 1 A5 A2 c5 c2 w1.heap.size w6.heap.size src dst _ o6'.read.as d6'.read.as (Nat.le_refl _) hnz).mono ?_); rintro e w7 ⟨rfl, hb7⟩; simp only [HO.out]; (have q7 := q6.below hb7 lq6); (have e0 := q7.cell (i := 0) rfl); (have e1 := q7.cell (i := 1) rfl); (have e2 := q7.cell (i := 2) rfl); (have e3 := q7.cell (i := 3) rfl); (have e4 := q7.cell (i := 4) rfl); (have f0 := q7.free 0); (have f1 := q7.free 1); (have f2 := q7.free 2); (have f3 := q7.free 3); (have f4 := q7.free 4); (have lq7 := q7.lt))
                have R := (((((q7.set 0 (.string ⟨#[]⟩)).set 1 (.int .i64 0)).set 2 (.int .i64 0)).set 3 (.slice none 0 0)).set 4 (.slice none 0 0))
                rw [HN.out]
                exact bodyPost_ret (v := .tuple #[.agg #[.string ⟨#[]⟩, .int .i64 0, .int .i64 0, .slice none 0 0, .slice none 0 0], .bool false]) (by simp [results, Try.results42, go_sem, R.cell (i := 0) rfl, R.cell (i := 1) rfl, R.cell (i := 2) rfl, R.cell (i := 3) rfl, R.cell (i := 4) rfl]) rfl (RetRuleB.zero (by (with_reducible repeat' first | exact Below.refl _ _ | assumption | (refine Below.setCell ?_ (by first | omega | (simp; omega) | (simp; done) | (dsimp only; omega)) _) | (refine Below.alloc ?_ (by first | omega | (simp; omega) | (simp; done) | (dsimp only; omega)) _) | (refine below_drewN ?_ _) | (refine Below.drew ?_) | (refine Below.trans ?_ (hb7.mono (by first | omega | (simp; omega) | (simp; done) | (dsimp only; omega)))) | (refine Below.trans ?_ (hbw6.mono (by first | omega | (simp; omega) | (simp; done) | (dsimp only; omega)))))))
              | true =>
                have HO := Lib.hid hok
                obtain ⟨tx, htx⟩ : ∃ tx, ruleT ⟨nm, eg, 1, src, dst⟩ = tx := ⟨_, rfl⟩
                have HTX := Lib.hid htx
                have htx' : ruleText ⟨nm, eg, 1, src, dst⟩ = tx := by rw [← htx, ruleT, if_pos hok]
                have htl : tx.toList = tx.data.toList := by rw [ByteArray.toList_eq]
                have hsl : s.toList = s.data.toList := by rw [ByteArray.toList_eq]
                by_cases he : tx = s
                · have HN := Lib.hid (pRule_good HC.out hok (by rw [htx']; exact he))
                  have n9 : (!(tx.toList == s.toList)) = false := by rw [he]; simp
                  clear hok he htx htx' htl hsl
                  go_wp2_with (first
                    | (go_at_call 124; (with_reducible refine (specIsRule_any nm eg 1 A5 A2 c5 c2 w1.heap.size w6.heap.size src dst _ o6'.read.as d6'.read.as (Nat.le_refl _) hnz).mono ?_); rintro e w7 ⟨rfl, hb7⟩; simp only [HO.out]; (have q7 := q6.below hb7 lq6); (have r7 := r6.below hb7 lb6); (have o7 := o6'.same (Same.of_below hb7 (Nat.le_refl _))); (have d7 := d6'.same (Same.of_below hb7 (Nat.le_refl _))); (have t0 := r7.cell (i := 0) rfl); (have t1 := r7.cell (i := 1) rfl); (have t2 := r7.cell (i := 2) rfl); (have t3 := r7.cell (i := 3) rfl); (have t4 := r7.cell (i := 4) rfl); (have lb7 := r7.lt); (have z7 := hb7.size))
                    | (go_at_call 125; (with_reducible refine (specFormatRule_any nm eg 1 A5 A2 c5 c2 w1.heap.size w6.heap.size src dst _ o7.read.as d7.read.as z7 hnz).mono ?_); rintro e w8 ⟨rfl, hb8⟩; rw [HTX.out]; (have q8 := q7.below hb8 q7.lt); (have r8 := r7.below hb8 lb7); (have o8 := o7.same (Same.of_below hb8 z7)); (have d8 := d7.same (Same.of_below hb8 z7)); (have t0 := r8.cell (i := 0) rfl); (have t1 := r8.cell (i := 1) rfl); (have t2 := r8.cell (i := 2) rfl); (have t3 := r8.cell (i := 3) rfl); (have t4 := r8.cell (i := 4) rfl); (have e0 := q8.cell (i := 0) rfl); (have e1 := q8.cell (i := 1) rfl); (have e2 := q8.cell (i := 2) rfl); (have e3 := q8.cell (i := 3) rfl); (have e4 := q8.cell (i := 4) rfl); (have f0 := q8.free 0); (have f1 := q8.free 1); (have f2 := q8.free 2); (have f3 := q8.free 3); (have f4 := q8.free 4); (have lq8 := q8.lt); (have z8 := hb8.size)))
                  have R := ((((q8.set 0 (.string nm)).set 1 (.int .i64 eg)).set 2 (.int .i64 1)).set 3 (.slice A5 src.length c5)).set 4 (.slice A2 dst.length c2)
                  rw [HN.out]
                  exact bodyPost_ret (v := .tuple #[.agg #[.string nm, .int .i64 eg, .int .i64 1, .slice A5 src.length c5, .slice A2 dst.length c2], .bool true]) (by simp [results, Try.results42, go_sem, R.cell (i := 0) rfl, R.cell (i := 1) rfl, R.cell (i := 2) rfl, R.cell (i := 3) rfl, R.cell (i := 4) rfl]) rfl ⟨A5, c5, A2, c2, rfl, (o8.same (by (with_reducible repeat' first | exact Same.refl _ _ _ | assumption | (refine Same.setCell ?_ (by first | omega | (simp; omega) | (simp; done) | (dsimp only; omega)) _) | (refine Same.alloc ?_ (by first | omega | (simp; omega) | (simp; done) | (dsimp only; omega)) _) | (refine Same.drewN ?_ _) | (refine Same.drew ?_)))).mono (by first | omega | (simp; omega) | (simp; done) | (dsimp only; omega)) (by first | omega | (simp; omega) | (simp; done) | (dsimp only; omega)), (d8.same (by (with_reducible repeat' first | exact Same.refl _ _ _ | assumption | (refine Same.setCell ?_ (by first | omega | (simp; omega) | (simp; done) | (dsimp only; omega)) _) | (refine Same.alloc ?_ (by first | omega | (simp; omega) | (simp; done) | (dsimp only; omega)) _) | (refine Same.drewN ?_ _) | (refine Same.drew ?_)))).mono (by first | omega | (simp; omega) | (simp; done) | (dsimp only; omega)) (by first | omega | (simp; omega) | (simp; done) | (dsimp only; omega)), hap, by (with_reducible repeat' first | exact Below.refl _ _ | assumption | (refine Below.setCell ?_ (by first | omega | (simp; omega) | (simp; done) | (dsimp only; omega)) _) | (refine Below.alloc ?_ (by first | omega | (simp; omega) | (simp; done) | (dsimp only; omega)) _) | (refine below_drewN ?_ _) | (refine Below.drew ?_) | (refine Below.trans ?_ (hb8.mono (by first | omega | (simp; omega) | (simp; done) | (dsimp only; omega)))) | (refine Below.trans ?_ (hb7.mono (by first | omega | (simp; omega) | (simp; done) | (dsimp only; omega)))) | (refine Below.trans ?_ (hbw6.mono (by first | omega | (simp; omega) | (simp; done) | (dsimp only; omega)))))⟩
                · have HN := Lib.hid (pRule_text HC.out (by rw [htx']; exact he))
                  have n9 : (!(tx.toList == s.toList)) = true := by
                    have : (tx.toList == s.toList) = false := by
                      rw [beq_eq_false_iff_ne, htl, hsl]
                      exact fun e => he (list_inj e)
                    rw [this]; rfl
                  clear hok he htx htx' htl hsl
                  go_wp2_with (first
                    | (go_at_call 124; (with_reducible refine (specIsRule_any nm eg 1 A5 A2 c5 c2 w1.heap.size w6.heap.size src dst _ o6'.read.as d6'.read.as (Nat.le_refl _) hnz).mono ?_); rintro e w7 ⟨rfl, hb7⟩; simp only [HO.out]; (have q7 := q6.below hb7 lq6); (have r7 := r6.below hb7 lb6); (have o7 := o6'.same (Same.of_below hb7 (Nat.le_refl _))); (have d7 := d6'.same (Same.of_below hb7 (Nat.le_refl _))); (have t0 := r7.cell (i := 0) rfl); (have t1 := r7.cell (i := 1) rfl); (have t2 := r7.cell (i := 2) rfl); (have t3 := r7.cell (i := 3) rfl); (have t4 := r7.cell (i := 4) rfl); (have lb7 := r7.lt); (have z7 := hb7.size))
                    | (go_at_call 125; (with_reducible refine (specFormatRule_any nm eg 1 A5 A2 c5 c2 w1.heap.size w6.heap.size src dst _ o7.read.as d7.read.as z7 hnz).mono ?_); rintro e w8 ⟨rfl, hb8⟩; rw [HTX.out]; (have q8 := q7.below hb8 q7.lt); (have e0 := q8.cell (i := 0) rfl); (have e1 := q8.cell (i := 1) rfl); (have e2 := q8.cell (i := 2) rfl); (have e3 := q8.cell (i := 3) rfl); (have e4 := q8.cell (i := 4) rfl); (have f0 := q8.free 0); (have f1 := q8.free 1); (have f2 := q8.free 2); (have f3 := q8.free 3); (have f4 := q8.free 4); (have lq8 := q8.lt); (have z8 := hb8.size)))
                  have R := (((((q8.set 0 (.string ⟨#[]⟩)).set 1 (.int .i64 0)).set 2 (.int .i64 0)).set 3 (.slice none 0 0)).set 4 (.slice none 0 0))
                  rw [HN.out]
                  exact bodyPost_ret (v := .tuple #[.agg #[.string ⟨#[]⟩, .int .i64 0, .int .i64 0, .slice none 0 0, .slice none 0 0], .bool false]) (by simp [results, Try.results42, go_sem, R.cell (i := 0) rfl, R.cell (i := 1) rfl, R.cell (i := 2) rfl, R.cell (i := 3) rfl, R.cell (i := 4) rfl]) rfl (RetRuleB.zero (by (with_reducible repeat' first | exact Below.refl _ _ | assumption | (refine Below.setCell ?_ (by first | omega | (simp; omega) | (simp; done) | (dsimp only; omega)) _) | (refine Below.alloc ?_ (by first | omega | (simp; omega) | (simp; done) | (dsimp only; omega)) _) | (refine below_drewN ?_ _) | (refine Below.drew ?_) | (refine Below.trans ?_ (hb8.mono (by first | omega | (simp; omega) | (simp; done) | (dsimp only; omega)))) | (refine Below.trans ?_ (hb7.mono (by first | omega | (simp; omega) | (simp; done) | (dsimp only; omega)))) | (refine Below.trans ?_ (hbw6.mono (by first | omega | (simp; omega) | (simp; done) | (dsimp only; omega)))))))
            · have n1 : ((c0.toNat : Int) == 94) = false := byte_ne h94
              have hh : ¬ (bl b).head? = some 94 := by rw [hb0]; simpa using h94
              obtain ⟨cl, hcl⟩ : ∃ cl, b[b.size - 1] = cl := ⟨_, rfl⟩
              have hlast : (bl b).getLast? = some cl := by
                rw [List.getLast?_eq_getElem?]
                have : (bl b).length = b.size := by simp [bl]
                rw [this, ← hcl]
                show b.data.toList[b.size - 1]? = _
                rw [List.getElem?_eq_getElem (by simpa using (by omega : b.size - 1 < b.size))]; rfl
              clear h94 hb0
              by_cases h36 : cl = 36
              · have n3 : ((cl.toNat : Int) == 36) = true := by rw [h36]; rfl
                have hp : placeS (bl b) = 2 := by unfold placeS; rw [if_neg hh, if_pos (by rw [hlast, h36])]
                have hsS : srcS (bl b) = bl (b.extract 0 (b.size - 1)) := by
                  unfold srcS; rw [if_neg hh, if_pos (by rw [hlast, h36]), bl_extract, List.drop_zero, Nat.sub_zero]
                  congr 1
                rw [hp, hsS] at HC
                have hsz : (b.extract 0 (b.size - 1)).size ≤ 1048576 := by simp; omega
                have n5 : IntKind.i64.wrap ((b.size : Int) - 1) = ((b.size - 1 : Nat) : Int) := by rw [IntKind.wrap_i64]; omega
                have n6 : b.size - 1 < b.size := by omega
                clear hp hsS h36 hh hlast
                go_upto_region 13 with fail
                generalize hW : w3.setCell ⟨bx, 2, none⟩ (.int .i64 2) = w4
                have r4 : Blk w4 bx 58 #[.string nm, .int .i64 eg, .int .i64 2, .slice none 0 0, .slice A2 dst.length c2] := by subst hW; exact r3.set 2 _
                have z4 : w3.heap.size = w4.heap.size := by subst hW; simp [World.setCell]
                have o4 : EStep.OS w4 w1.heap.size w4.heap.size (.slice A2 dst.length c2) dst := by
                  rw [← z4]; subst hW
                  exact flat_os.2 ((flat_os.1 o3).loc fun k hk => Below.heap_setCell _ _ _ _ (hne k hk))
                have q4 : Blk w4 w.heap.size 58 #[.string ⟨#[]⟩, .int .i64 0, .int .i64 0, .slice none 0 0, .slice none 0 0] := by subst hW; exact q3.far (by simp; omega) _
                have hbw4 : Below w.heap.size w w4 := by subst hW; (with_reducible repeat' first | exact Below.refl _ _ | assumption | (refine Below.setCell ?_ (by first | omega | (simp; omega) | (simp; done) | (dsimp only; omega)) _) | (refine Below.alloc ?_ (by first | omega | (simp; omega) | (simp; done) | (dsimp only; omega)) _) | (refine below_drewN ?_ _) | (refine Below.drew ?_) | (refine Below.trans ?_ (hbw3.mono (by first | omega | (simp; omega) | (simp; done) | (dsimp only; omega)))))
                have lb4 : bx < w4.heap.size := by omega
                clear hW r3 q3 o3 hbw3 g2 h2
                obtain ⟨src, hsrc⟩ : ∃ src, stepsM (bl (b.extract 0 (b.size - 1))) = src := ⟨_, rfl⟩
                rw [hsrc] at HC
                have HSR := Lib.hid (show stepsM (b.extract 0 (b.size - 1)).data.toList = src from hsrc)
                clear hsrc
                have g3 := r4.cell (i := 3) rfl; have h3 := r4.free 3
                go_upto_region 14 with (go_at_call 118; refine (l3Read_any (b.extract 0 (b.size - 1)) _ hsz).mono ?_; rintro e w5 ⟨A5, c5, rfl, o5, hb5⟩; rw [HSR.out] at o5 ⊢; (have r5 := r4.below hb5 lb4); (have g3 := r5.cell (i := 3) rfl); (have h3 := r5.free 3); (have lb5 := r5.lt))
                have q5 := q4.below hb5 q4.lt
                have d5 := o4.same (Same.of_below hb5 (Nat.le_refl _))
                have hbw5 := hbw4.trans (hb5.mono (by omega))
                have z5 := hb5.size
                generalize hW : w5.setCell ⟨bx, 3, none⟩ (.slice A5 src.length c5) = w6
                have r6 : Blk w6 bx 58 #[.string nm, .int .i64 eg, .int .i64 2, .slice A5 src.length c5, .slice A2 dst.length c2] := by subst hW; exact r5.set 3 _
                have o6 : EStep.OS w6 w4.heap.size w6.heap.size (.slice A5 src.length c5) src := by subst hW; exact (o5.same (by (with_reducible repeat' first | exact Same.refl _ _ _ | assumption | (refine Same.setCell ?_ (by first | omega | (simp; omega) | (simp; done) | (dsimp only; omega)) _) | (refine Same.alloc ?_ (by first | omega | (simp; omega) | (simp; done) | (dsimp only; omega)) _) | (refine Same.drewN ?_ _) | (refine Same.drew ?_)))).mono (Nat.le_refl _) (by simp [World.setCell])
                have d6 : EStep.OS w6 w1.heap.size w4.heap.size (.slice A2 dst.length c2) dst := by
                  subst hW
                  exact flat_os.2 ((flat_os.1 d5).loc fun k hk => Below.heap_setCell _ _ _ _ (hne k hk))
                have q6 : Blk w6 w.heap.size 58 #[.string ⟨#[]⟩, .int .i64 0, .int .i64 0, .slice none 0 0, .slice none 0 0] := by subst hW; exact q5.far (by simp; omega) _
                have z6 : w5.heap.size = w6.heap.size := by subst hW; simp [World.setCell]
                have hbw6 : Below w.heap.size w w6 := by subst hW; (with_reducible repeat' first | exact Below.refl _ _ | assumption | (refine Below.setCell ?_ (by first | omega | (simp; omega) | (simp; done) | (dsimp only; omega)) _) | (refine Below.alloc ?_ (by first | omega | (simp; omega) | (simp; done) | (dsimp only; omega)) _) | (refine below_drewN ?_ _) | (refine Below.drew ?_) | (refine Below.trans ?_ (hbw5.mono (by first | omega | (simp; omega) | (simp; done) | (dsimp only; omega)))))
                have lb6 : bx < w6.heap.size := by omega
                have lq6 := q6.lt
                have hap : ∀ k, (Value.slice A5 src.length c5).ownBlock = some k → (Value.slice A2 dst.length c2).ownBlock ≠ some k := fun k h1 h2 => by have := (o6.blkv k h1).1; have := (d6.blkv k h2).2; omega
                clear hW r4 r5 q4 q5 o4 d5 o5 hb5 g3 h3 hbw4 hbw5
                have t0 := r6.cell (i := 0) rfl; have t1 := r6.cell (i := 1) rfl; have t2 := r6.cell (i := 2) rfl; have t3 := r6.cell (i := 3) rfl; have t4 := r6.cell (i := 4) rfl
                have o6' : EStep.OS w6 w1.heap.size w6.heap.size (.slice A5 src.length c5) src := o6.mono (by omega) (Nat.le_refl _)
                have d6' : EStep.OS w6 w1.heap.size w6.heap.size (.slice A2 dst.length c2) dst := d6.mono (Nat.le_refl _) (by omega)
                cases hok : ruleOk ⟨nm, eg, 2, src, dst⟩ with
                | false =>
                  have HO := Lib.hid hok
                  have HN := Lib.hid (pRule_not HC.out hok)
                  clear hok
                  go_wp2_with (go_at_call 124; (with_reducible refine (specIsRule_any nm eg 2 A5 A2 c5 c2 w1.heap.size w6.heap.size src dst _ o6'.read.as d6'.read.as (Nat.le_refl _) hnz).mono ?_); rintro e w7 ⟨rfl, hb7⟩; simp only [HO.out]; (have q7 := q6.below hb7 lq6); (have e0 := q7.cell (i := 0) rfl); (have e1 := q7.cell (i := 1) rfl); (have e2 := q7.cell (i := 2) rfl); (have e3 := q7.cell (i := 3) rfl); (have e4 := q7.cell (i := 4) rfl); (have f0 := q7.free 0); (have f1 := q7.free 1); (have f2 := q7.free 2); (have f3 := q7.free 3); (have f4 := q7.free 4); (have lq7 := q7.lt))
                  have R := (((((q7.set 0 (.string ⟨#[]⟩)).set 1 (.int .i64 0)).set 2 (.int .i64 0)).set 3 (.slice none 0 0)).set 4 (.slice none 0 0))
                  rw [HN.out]
                  exact bodyPost_ret (v := .tuple #[.agg #[.string ⟨#[]⟩, .int .i64 0, .int .i64 0, .slice none 0 0, .slice none 0 0], .bool false]) (by simp [results, Try.results42, go_sem, R.cell (i := 0) rfl, R.cell (i := 1) rfl, R.cell (i := 2) rfl, R.cell (i := 3) rfl, R.cell (i := 4) rfl]) rfl (RetRuleB.zero (by (with_reducible repeat' first | exact Below.refl _ _ | assumption | (refine Below.setCell ?_ (by first | omega | (simp; omega) | (simp; done) | (dsimp only; omega)) _) | (refine Below.alloc ?_ (by first | omega | (simp; omega) | (simp; done) | (dsimp only; omega)) _) | (refine below_drewN ?_ _) | (refine Below.drew ?_) | (refine Below.trans ?_ (hb7.mono (by first | omega | (simp; omega) | (simp; done) | (dsimp only; omega)))) | (refine Below.trans ?_ (hbw6.mono (by first | omega | (simp; omega) | (simp; done) | (dsimp only; omega)))))))
                | true =>
                  have HO := Lib.hid hok
                  obtain ⟨tx, htx⟩ : ∃ tx, ruleT ⟨nm, eg, 2, src, dst⟩ = tx := ⟨_, rfl⟩
                  have HTX := Lib.hid htx
                  have htx' : ruleText ⟨nm, eg, 2, src, dst⟩ = tx := by rw [← htx, ruleT, if_pos hok]
                  have htl : tx.toList = tx.data.toList := by rw [ByteArray.toList_eq]
                  have hsl : s.toList = s.data.toList := by rw [ByteArray.toList_eq]
                  by_cases he : tx = s
                  · have HN := Lib.hid (pRule_good HC.out hok (by rw [htx']; exact he))
                    have n9 : (!(tx.toList == s.toList)) = false := by rw [he]; simp
                    clear hok he htx htx' htl hsl
                    go_wp2_with (first
                      | (go_at_call 124; (with_reducible refine (specIsRule_any nm eg 2 A5 A2 c5 c2 w1.heap.size w6.heap.size src dst _ o6'.read.as d6'.read.as (Nat.le_refl _) hnz).mono ?_); rintro e w7 ⟨rfl, hb7⟩; simp only [HO.out]; (have q7 := q6.below hb7 lq6); (have r7 := r6.below hb7 lb6); (have o7 := o6'.same (Same.of_below hb7 (Nat.le_refl _))); (have d7 := d6'.same (Same.of_below hb7 (Nat.le_refl _))); (have t0 := r7.cell (i := 0) rfl); (have t1 := r7.cell (i := 1) rfl); (have t2 := r7.cell (i := 2) rfl); (have t3 := r7.cell (i := 3) rfl); (have t4 := r7.cell (i := 4) rfl); (have lb7 := r7.lt); (have z7 := hb7.size))
                      | (go_at_call 125; (with_reducible refine (specFormatRule_any nm eg 2 A5 A2 c5 c2 w1.heap.size w6.heap.size src dst _ o7.read.as d7.read.as z7 hnz).mono ?_); rintro e w8 ⟨rfl, hb8⟩; rw [HTX.out]; (have q8 := q7.below hb8 q7.lt); (have r8 := r7.below hb8 lb7); (have o8 := o7.same (Same.of_below hb8 z7)); (have d8 := d7.same (Same.of_below hb8 z7)); (have t0 := r8.cell (i := 0) rfl); (have t1 := r8.cell (i := 1) rfl); (have t2 := r8.cell (i := 2) rfl); (have t3 := r8.cell (i := 3) rfl); (have t4 := r8.cell (i := 4) rfl); (have e0 := q8.cell (i := 0) rfl); (have e1 := q8.cell (i := 1) rfl); (have e2 := q8.cell (i := 2) rfl); (have e3 := q8.cell (i := 3) rfl); (have e4 := q8.cell (i := 4) rfl); (have f0 := q8.free 0); (have f1 := q8.free 1); (have f2 := q8.free 2); (have f3 := q8.free 3); (have f4 := q8.free 4); (have lq8 := q8.lt); (have z8 := hb8.size)))
                    have R := ((((q8.set 0 (.string nm)).set 1 (.int .i64 eg)).set 2 (.int .i64 2)).set 3 (.slice A5 src.length c5)).set 4 (.slice A2 dst.length c2)
                    rw [HN.out]
                    exact bodyPost_ret (v := .tuple #[.agg #[.string nm, .int .i64 eg, .int .i64 2, .slice A5 src.length c5, .slice A2 dst.length c2], .bool true]) (by simp [results, Try.results42, go_sem, R.cell (i := 0) rfl, R.cell (i := 1) rfl, R.cell (i := 2) rfl, R.cell (i := 3) rfl, R.cell (i := 4) rfl]) rfl ⟨A5, c5, A2, c2, rfl, (o8.same (by (with_reducible repeat' first | exact Same.refl _ _ _ | assumption | (refine Same.setCell ?_ (by first | omega | (simp; omega) | (simp; done) | (dsimp only; omega)) _) | (refine Same.alloc ?_ (by first | omega | (simp; omega) | (simp; done) | (dsimp only; omega)) _) | (refine Same.drewN ?_ _) | (refine Same.drew ?_)))).mono (by first | omega | (simp; omega) | (simp; done) | (dsimp only; omega)) (by first | omega | (simp; omega) | (simp; done) | (dsimp only; omega)), (d8.same (by (with_reducible repeat' first | exact Same.refl _ _ _ | assumption | (refine Same.setCell ?_ (by first | omega | (simp; omega) | (simp; done) | (dsimp only; omega)) _) | (refine Same.alloc ?_ (by first | omega | (simp; omega) | (simp; done) | (dsimp only; omega)) _) | (refine Same.drewN ?_ _) | (refine Same.drew ?_)))).mono (by first | omega | (simp; omega) | (simp; done) | (dsimp only; omega)) (by first | omega | (simp; omega) | (simp; done) | (dsimp only; omega)), hap, by (with_reducible repeat' first | exact Below.refl _ _ | assumption | (refine Below.setCell ?_ (by first | omega | (simp; omega) | (simp; done) | (dsimp only; omega)) _) | (refine Below.alloc ?_ (by first | omega | (simp; omega) | (simp; done) | (dsimp only; omega)) _) | (refine below_drewN ?_ _) | (refine Below.drew ?_) | (refine Below.trans ?_ (hb8.mono (by first | omega | (simp; omega) | (simp; done) | (dsimp only; omega)))) | (refine Below.trans ?_ (hb7.mono (by first | omega | (simp; omega) | (simp; done) | (dsimp only; omega)))) | (refine Below.trans ?_ (hbw6.mono (by first | omega | (simp; omega) | (simp; done) | (dsimp only; omega)))))⟩
                  · have HN := Lib.hid (pRule_text HC.out (by rw [htx']; exact he))
                    have n9 : (!(tx.toList == s.toList)) = true := by
                      have : (tx.toList == s.toList) = false := by
                        rw [beq_eq_false_iff_ne, htl, hsl]
                        exact fun e => he (list_inj e)
                      rw [this]; rfl
                    clear hok he htx htx' htl hsl
                    go_wp2_with (first
                      | (go_at_call 124; (with_reducible refine (specIsRule_any nm eg 2 A5 A2 c5 c2 w1.heap.size w6.heap.size src dst _ o6'.read.as d6'.read.as (Nat.le_refl _) hnz).mono ?_); rintro e w7 ⟨rfl, hb7⟩; simp only [HO.out]; (have q7 := q6.below hb7 lq6); (have r7 := r6.below hb7 lb6); (have o7 := o6'.same (Same.of_below hb7 (Nat.le_refl _))); (have d7 := d6'.same (Same.of_below hb7 (Nat.le_refl _))); (have t0 := r7.cell (i := 0) rfl); (have t1 := r7.cell (i := 1) rfl); (have t2 := r7.cell (i := 2) rfl); (have t3 := r7.cell (i := 3) rfl); (have t4 := r7.cell (i := 4) rfl); (have lb7 := r7.lt); (have z7 := hb7.size))
                      | (go_at_call 125; (with_reducible refine (specFormatRule_any nm eg 2 A5 A2 c5 c2 w1.heap.size w6.heap.size src dst _ o7.read.as d7.read.as z7 hnz).mono ?_); rintro e w8 ⟨rfl, hb8⟩; rw [HTX.out]; (have q8 := q7.below hb8 q7.lt); (have e0 := q8.cell (i := 0) rfl); (have e1 := q8.cell (i := 1) rfl); (have e2 := q8.cell (i := 2) rfl); (have e3 := q8.cell (i := 3) rfl); (have e4 := q8.cell (i := 4) rfl); (have f0 := q8.free 0); (have f1 := q8.free 1); (have f2 := q8.free 2); (have f3 := q8.free 3); (have f4 := q8.free 4); (have lq8 := q8.lt); (have z8 := hb8.size)))
                    have R := (((((q8.set 0 (.string ⟨#[]⟩)).set 1 (.int .i64 0)).set 2 (.int .i64 0)).set 3 (.slice none 0 0)).set 4 (.slice none 0 0))
                    rw [HN.out]
                    exact bodyPost_ret (v := .tuple #[.agg #[.string ⟨#[]⟩, .int .i64 0, .int .i64 0, .slice none 0 0, .slice none 0 0], .bool false]) (by simp [results, Try.results42, go_sem, R.cell (i := 0) rfl, R.cell (i := 1) rfl, R.cell (i := 2) rfl, R.cell (i := 3) rfl, R.cell (i := 4) rfl]) rfl (RetRuleB.zero (by (with_reducible repeat' first | exact Below.refl _ _ | assumption | (refine Below.setCell ?_ (by first | omega | (simp; omega) | (simp; done) | (dsimp only; omega)) _) | (refine Below.alloc ?_ (by first | omega | (simp; omega) | (simp; done) | (dsimp only; omega)) _) | (refine below_drewN ?_ _) | (refine Below.drew ?_) | (refine Below.trans ?_ (hb8.mono (by first | omega | (simp; omega) | (simp; done) | (dsimp only; omega)))) | (refine Below.trans ?_ (hb7.mono (by first | omega | (simp; omega) | (simp; done) | (dsimp only; omega)))) | (refine Below.trans ?_ (hbw6.mono (by first | omega | (simp; omega) | (simp; done) | (dsimp only; omega)))))))
              · have n3 : ((cl.toNat : Int) == 36) = false := byte_ne h36
                have hp : placeS (bl b) = 0 := by unfold placeS; rw [if_neg hh, if_neg (by rw [hlast]; simpa using h36)]
                have hsS : srcS (bl b) = bl b := by
                  unfold srcS; rw [if_neg hh, if_neg (by rw [hlast]; simpa using h36)]
                rw [hp, hsS] at HC
                have hsz : b.size ≤ 1048576 := sb2
                have n5 : IntKind.i64.wrap ((b.size : Int) - 1) = ((b.size - 1 : Nat) : Int) := by rw [IntKind.wrap_i64]; omega
                have n6 : b.size - 1 < b.size := by omega
                clear hp hsS h36 hh hlast
                go_upto_region 13 with fail
                obtain ⟨w4, rfl⟩ : ∃ x, x = w3 := ⟨_, rfl⟩
                have r4 := r3; have o4 := o3; have q4 := q3; have hbw4 := hbw3; have lb4 := lb3
                clear r3 q3 o3 hbw3 g2 h2
                obtain ⟨src, hsrc⟩ : ∃ src, stepsM (bl (b)) = src := ⟨_, rfl⟩
                rw [hsrc] at HC
                have HSR := Lib.hid (show stepsM (b).data.toList = src from hsrc)
                clear hsrc
                have g3 := r4.cell (i := 3) rfl; have h3 := r4.free 3
                go_upto_region 14 with (go_at_call 118; refine (l3Read_any (b) _ hsz).mono ?_; rintro e w5 ⟨A5, c5, rfl, o5, hb5⟩; rw [HSR.out] at o5 ⊢; (have r5 := r4.below hb5 lb4); (have g3 := r5.cell (i := 3) rfl); (have h3 := r5.free 3); (have lb5 := r5.lt))
                have q5 := q4.below hb5 q4.lt
                have d5 := o4.same (Same.of_below hb5 (Nat.le_refl _))
                have hbw5 := hbw4.trans (hb5.mono (by omega))
                have z5 := hb5.size
                generalize hW : w5.setCell ⟨bx, 3, none⟩ (.slice A5 src.length c5) = w6
                have r6 : Blk w6 bx 58 #[.string nm, .int .i64 eg, .int .i64 0, .slice A5 src.length c5, .slice A2 dst.length c2] := by subst hW; exact r5.set 3 _
                have o6 : EStep.OS w6 w4.heap.size w6.heap.size (.slice A5 src.length c5) src := by subst hW; exact (o5.same (by (with_reducible repeat' first | exact Same.refl _ _ _ | assumption | (refine Same.setCell ?_ (by first | omega | (simp; omega) | (simp; done) | (dsimp only; omega)) _) | (refine Same.alloc ?_ (by first | omega | (simp; omega) | (simp; done) | (dsimp only; omega)) _) | (refine Same.drewN ?_ _) | (refine Same.drew ?_)))).mono (Nat.le_refl _) (by simp [World.setCell])
                have d6 : EStep.OS w6 w1.heap.size w4.heap.size (.slice A2 dst.length c2) dst := by
                  subst hW
                  exact flat_os.2 ((flat_os.1 d5).loc fun k hk => Below.heap_setCell _ _ _ _ (hne k hk))
                have q6 : Blk w6 w.heap.size 58 #[.string ⟨#[]⟩, .int .i64 0, .int .i64 0, .slice none 0 0, .slice none 0 0] := by subst hW; exact q5.far (by simp; omega) _
                have z6 : w5.heap.size = w6.heap.size := by subst hW; simp [World.setCell]
                have hbw6 : Below w.heap.size w w6 := by subst hW; (with_reducible repeat' first | exact Below.refl _ _ | assumption | (refine Below.setCell ?_ (by first | omega | (simp; omega) | (simp; done) | (dsimp only; omega)) _) | (refine Below.alloc ?_ (by first | omega | (simp; omega) | (simp; done) | (dsimp only; omega)) _) | (refine below_drewN ?_ _) | (refine Below.drew ?_) | (refine Below.trans ?_ (hbw5.mono (by first | omega | (simp; omega) | (simp; done) | (dsimp only; omega)))))
                have lb6 : bx < w6.heap.size := by omega
                have lq6 := q6.lt
                have hap : ∀ k, (Value.slice A5 src.length c5).ownBlock = some k → (Value.slice A2 dst.length c2).ownBlock ≠ some k := fun k h1 h2 => by have := (o6.blkv k h1).1; have := (d6.blkv k h2).2; omega
                clear hW r4 r5 q4 q5 o4 d5 o5 hb5 g3 h3 hbw4 hbw5
                have t0 := r6.cell (i := 0) rfl; have t1 := r6.cell (i := 1) rfl; have t2 := r6.cell (i := 2) rfl; have t3 := r6.cell (i := 3) rfl; have t4 := r6.cell (i := 4) rfl
                have o6' : EStep.OS w6 w1.heap.size w6.heap.size (.slice A5 src.length c5) src := o6.mono (by omega) (Nat.le_refl _)
                have d6' : EStep.OS w6 w1.heap.size w6.heap.size (.slice A2 dst.length c2) dst := d6.mono (Nat.le_refl _) (by omega)
                cases hok : ruleOk ⟨nm, eg, 0, src, dst⟩ with
                | false =>
                  have HO := Lib.hid hok
                  have HN := Lib.hid (pRule_not HC.out hok)
                  clear hok
                  go_wp2_with (go_at_call 124; (with_reducible refine (specIsRule_any nm eg 0 A5 A2 c5 c2 w1.heap.size w6.heap.size src dst _ o6'.read.as d6'.read.as (Nat.le_refl _) hnz).mono ?_); rintro e w7 ⟨rfl, hb7⟩; simp only [HO.out]; (have q7 := q6.below hb7 lq6); (have e0 := q7.cell (i := 0) rfl); (have e1 := q7.cell (i := 1) rfl); (have e2 := q7.cell (i := 2) rfl); (have e3 := q7.cell (i := 3) rfl); (have e4 := q7.cell (i := 4) rfl); (have f0 := q7.free 0); (have f1 := q7.free 1); (have f2 := q7.free 2); (have f3 := q7.free 3); (have f4 := q7.free 4); (have lq7 := q7.lt))
                  have R := (((((q7.set 0 (.string ⟨#[]⟩)).set 1 (.int .i64 0)).set 2 (.int .i64 0)).set 3 (.slice none 0 0)).set 4 (.slice none 0 0))
                  rw [HN.out]
                  exact bodyPost_ret (v := .tuple #[.agg #[.string ⟨#[]⟩, .int .i64 0, .int .i64 0, .slice none 0 0, .slice none 0 0], .bool false]) (by simp [results, Try.results42, go_sem, R.cell (i := 0) rfl, R.cell (i := 1) rfl, R.cell (i := 2) rfl, R.cell (i := 3) rfl, R.cell (i := 4) rfl]) rfl (RetRuleB.zero (by (with_reducible repeat' first | exact Below.refl _ _ | assumption | (refine Below.setCell ?_ (by first | omega | (simp; omega) | (simp; done) | (dsimp only; omega)) _) | (refine Below.alloc ?_ (by first | omega | (simp; omega) | (simp; done) | (dsimp only; omega)) _) | (refine below_drewN ?_ _) | (refine Below.drew ?_) | (refine Below.trans ?_ (hb7.mono (by first | omega | (simp; omega) | (simp; done) | (dsimp only; omega)))) | (refine Below.trans ?_ (hbw6.mono (by first | omega | (simp; omega) | (simp; done) | (dsimp only; omega)))))))
                | true =>
                  have HO := Lib.hid hok
                  obtain ⟨tx, htx⟩ : ∃ tx, ruleT ⟨nm, eg, 0, src, dst⟩ = tx := ⟨_, rfl⟩
                  have HTX := Lib.hid htx
                  have htx' : ruleText ⟨nm, eg, 0, src, dst⟩ = tx := by rw [← htx, ruleT, if_pos hok]
                  have htl : tx.toList = tx.data.toList := by rw [ByteArray.toList_eq]
                  have hsl : s.toList = s.data.toList := by rw [ByteArray.toList_eq]
                  by_cases he : tx = s
                  · have HN := Lib.hid (pRule_good HC.out hok (by rw [htx']; exact he))
                    have n9 : (!(tx.toList == s.toList)) = false := by rw [he]; simp
                    clear hok he htx htx' htl hsl
                    go_wp2_with (first
                      | (go_at_call 124; (with_reducible refine (specIsRule_any nm eg 0 A5 A2 c5 c2 w1.heap.size w6.heap.size src dst _ o6'.read.as d6'.read.as (Nat.le_refl _) hnz).mono ?_); rintro e w7 ⟨rfl, hb7⟩; simp only [HO.out]; (have q7 := q6.below hb7 lq6); (have r7 := r6.below hb7 lb6); (have o7 := o6'.same (Same.of_below hb7 (Nat.le_refl _))); (have d7 := d6'.same (Same.of_below hb7 (Nat.le_refl _))); (have t0 := r7.cell (i := 0) rfl); (have t1 := r7.cell (i := 1) rfl); (have t2 := r7.cell (i := 2) rfl); (have t3 := r7.cell (i := 3) rfl); (have t4 := r7.cell (i := 4) rfl); (have lb7 := r7.lt); (have z7 := hb7.size))
                      | (go_at_call 125; (with_reducible refine (specFormatRule_any nm eg 0 A5 A2 c5 c2 w1.heap.size w6.heap.size src dst _ o7.read.as d7.read.as z7 hnz).mono ?_); rintro e w8 ⟨rfl, hb8⟩; rw [HTX.out]; (have q8 := q7.below hb8 q7.lt); (have r8 := r7.below hb8 lb7); (have o8 := o7.same (Same.of_below hb8 z7)); (have d8 := d7.same (Same.of_below hb8 z7)); (have t0 := r8.cell (i := 0) rfl); (have t1 := r8.cell (i := 1) rfl); (have t2 := r8.cell (i := 2) rfl); (have t3 := r8.cell (i := 3) rfl); (have t4 := r8.cell (i := 4) rfl); (have e0 := q8.cell (i := 0) rfl); (have e1 := q8.cell (i := 1) rfl); (have e2 := q8.cell (i := 2) rfl); (have e3 := q8.cell (i := 3) rfl); (have e4 := q8.cell (i := 4) rfl); (have f0 := q8.free 0); (have f1 := q8.free 1); (have f2 := q8.free 2); (have f3 := q8.free 3); (have f4 := q8.free 4); (have lq8 := q8.lt); (have z8 := hb8.size)))
                    have R := ((((q8.set 0 (.string nm)).set 1 (.int .i64 eg)).set 2 (.int .i64 0)).set 3 (.slice A5 src.length c5)).set 4 (.slice A2 dst.length c2)
                    rw [HN.out]
                    exact bodyPost_ret (v := .tuple #[.agg #[.string nm, .int .i64 eg, .int .i64 0, .slice A5 src.length c5, .slice A2 dst.length c2], .bool true]) (by simp [results, Try.results42, go_sem, R.cell (i := 0) rfl, R.cell (i := 1) rfl, R.cell (i := 2) rfl, R.cell (i := 3) rfl, R.cell (i := 4) rfl]) rfl ⟨A5, c5, A2, c2, rfl, (o8.same (by (with_reducible repeat' first | exact Same.refl _ _ _ | assumption | (refine Same.setCell ?_ (by first | omega | (simp; omega) | (simp; done) | (dsimp only; omega)) _) | (refine Same.alloc ?_ (by first | omega | (simp; omega) | (simp; done) | (dsimp only; omega)) _) | (refine Same.drewN ?_ _) | (refine Same.drew ?_)))).mono (by first | omega | (simp; omega) | (simp; done) | (dsimp only; omega)) (by first | omega | (simp; omega) | (simp; done) | (dsimp only; omega)), (d8.same (by (with_reducible repeat' first | exact Same.refl _ _ _ | assumption | (refine Same.setCell ?_ (by first | omega | (simp; omega) | (simp; done) | (dsimp only; omega)) _) | (refine Same.alloc ?_ (by first | omega | (simp; omega) | (simp; done) | (dsimp only; omega)) _) | (refine Same.drewN ?_ _) | (refine Same.drew ?_)))).mono (by first | omega | (simp; omega) | (simp; done) | (dsimp only; omega)) (by first | omega | (simp; omega) | (simp; done) | (dsimp only; omega)), hap, by (with_reducible repeat' first | exact Below.refl _ _ | assumption | (refine Below.setCell ?_ (by first | omega | (simp; omega) | (simp; done) | (dsimp only; omega)) _) | (refine Below.alloc ?_ (by first | omega | (simp; omega) | (simp; done) | (dsimp only; omega)) _) | (refine below_drewN ?_ _) | (refine Below.drew ?_) | (refine Below.trans ?_ (hb8.mono (by first | omega | (simp; omega) | (simp; done) | (dsimp only; omega)))) | (refine Below.trans ?_ (hb7.mono (by first | omega | (simp; omega) | (simp; done) | (dsimp only; omega)))) | (refine Below.trans ?_ (hbw6.mono (by first | omega | (simp; omega) | (simp; done) | (dsimp only; omega)))))⟩
                  · have HN := Lib.hid (pRule_text HC.out (by rw [htx']; exact he))
                    have n9 : (!(tx.toList == s.toList)) = true := by
                      have : (tx.toList == s.toList) = false := by
                        rw [beq_eq_false_iff_ne, htl, hsl]
                        exact fun e => he (list_inj e)
                      rw [this]; rfl
                    clear hok he htx htx' htl hsl
                    go_wp2_with (first
                      | (go_at_call 124; (with_reducible refine (specIsRule_any nm eg 0 A5 A2 c5 c2 w1.heap.size w6.heap.size src dst _ o6'.read.as d6'.read.as (Nat.le_refl _) hnz).mono ?_); rintro e w7 ⟨rfl, hb7⟩; simp only [HO.out]; (have q7 := q6.below hb7 lq6); (have r7 := r6.below hb7 lb6); (have o7 := o6'.same (Same.of_below hb7 (Nat.le_refl _))); (have d7 := d6'.same (Same.of_below hb7 (Nat.le_refl _))); (have t0 := r7.cell (i := 0) rfl); (have t1 := r7.cell (i := 1) rfl); (have t2 := r7.cell (i := 2) rfl); (have t3 := r7.cell (i := 3) rfl); (have t4 := r7.cell (i := 4) rfl); (have lb7 := r7.lt); (have z7 := hb7.size))
                      | (go_at_call 125; (with_reducible refine (specFormatRule_any nm eg 0 A5 A2 c5 c2 w1.heap.size w6.heap.size src dst _ o7.read.as d7.read.as z7 hnz).mono ?_); rintro e w8 ⟨rfl, hb8⟩; rw [HTX.out]; (have q8 := q7.below hb8 q7.lt); (have e0 := q8.cell (i := 0) rfl); (have e1 := q8.cell (i := 1) rfl); (have e2 := q8.cell (i := 2) rfl); (have e3 := q8.cell (i := 3) rfl); (have e4 := q8.cell (i := 4) rfl); (have f0 := q8.free 0); (have f1 := q8.free 1); (have f2 := q8.free 2); (have f3 := q8.free 3); (have f4 := q8.free 4); (have lq8 := q8.lt); (have z8 := hb8.size)))
                    have R := (((((q8.set 0 (.string ⟨#[]⟩)).set 1 (.int .i64 0)).set 2 (.int .i64 0)).set 3 (.slice none 0 0)).set 4 (.slice none 0 0))
                    rw [HN.out]
                    exact bodyPost_ret (v := .tuple #[.agg #[.string ⟨#[]⟩, .int .i64 0, .int .i64 0, .slice none 0 0, .slice none 0 0], .bool false]) (by simp [results, Try.results42, go_sem, R.cell (i := 0) rfl, R.cell (i := 1) rfl, R.cell (i := 2) rfl, R.cell (i := 3) rfl, R.cell (i := 4) rfl]) rfl (RetRuleB.zero (by (with_reducible repeat' first | exact Below.refl _ _ | assumption | (refine Below.setCell ?_ (by first | omega | (simp; omega) | (simp; done) | (dsimp only; omega)) _) | (refine Below.alloc ?_ (by first | omega | (simp; omega) | (simp; done) | (dsimp only; omega)) _) | (refine below_drewN ?_ _) | (refine Below.drew ?_) | (refine Below.trans ?_ (hb8.mono (by first | omega | (simp; omega) | (simp; done) | (dsimp only; omega)))) | (refine Below.trans ?_ (hb7.mono (by first | omega | (simp; omega) | (simp; done) | (dsimp only; omega)))) | (refine Below.trans ?_ (hbw6.mono (by first | omega | (simp; omega) | (simp; done) | (dsimp only; omega)))))))
          · have n1 : ¬ (0 : Int) < (b.size : Int) := by omega
            have hb0 : bl b = [] := List.length_eq_zero_iff.1 (by have : (bl b).length = b.size := (by simp [bl]); omega)
            have hp : placeS (bl b) = 0 := by rw [hb0]; rfl
            have hsS : srcS (bl b) = bl b := by rw [hb0]; rfl
            rw [hp, hsS] at HC
            have hsz : b.size ≤ 1048576 := sb2
            clear hp hsS hb0
            go_upto_region 13 with fail
            obtain ⟨w4, rfl⟩ : ∃ x, x = w3 := ⟨_, rfl⟩
            have r4 := r3; have o4 := o3; have q4 := q3; have hbw4 := hbw3; have lb4 := lb3
            clear r3 q3 o3 hbw3 g2 h2
            obtain ⟨src, hsrc⟩ : ∃ src, stepsM (bl (b)) = src := ⟨_, rfl⟩
            rw [hsrc] at HC
            have HSR := Lib.hid (show stepsM (b).data.toList = src from hsrc)
            clear hsrc
            have g3 := r4.cell (i := 3) rfl; have h3 := r4.free 3
            go_upto_region 14 with (go_at_call 118; refine (l3Read_any (b) _ hsz).mono ?_; rintro e w5 ⟨A5, c5, rfl, o5, hb5⟩; rw [HSR.out] at o5 ⊢; (have r5 := r4.below hb5 lb4); (have g3 := r5.cell (i := 3) rfl); (have h3 := r5.free 3); (have lb5 := r5.lt))
            have q5 := q4.below hb5 q4.lt
            have d5 := o4.same (Same.of_below hb5 (Nat.le_refl _))
            have hbw5 := hbw4.trans (hb5.mono (by omega))
            have z5 := hb5.size
            generalize hW : w5.setCell ⟨bx, 3, none⟩ (.slice A5 src.length c5) = w6
            have r6 : Blk w6 bx 58 #[.string nm, .int .i64 eg, .int .i64 0, .slice A5 src.length c5, .slice A2 dst.length c2] := by subst hW; exact r5.set 3 _
            have o6 : EStep.OS w6 w4.heap.size w6.heap.size (.slice A5 src.length c5) src := by subst hW; exact (o5.same (by (with_reducible repeat' first | exact Same.refl _ _ _ | assumption | (refine Same.setCell ?_ (by first | omega | (simp; omega) | (simp; done) | (dsimp only; omega)) _) | (refine Same.alloc ?_ (by first | omega | (simp; omega) | (simp; done) | (dsimp only; omega)) _) | (refine Same.drewN ?_ _) | (refine Same.drew ?_)))).mono (Nat.le_refl _) (by simp [World.setCell])
            have d6 : EStep.OS w6 w1.heap.size w4.heap.size (.slice A2 dst.length c2) dst := by
              subst hW
              exact flat_os.2 ((flat_os.1 d5).loc fun k hk => Below.heap_setCell _ _ _ _ (hne k hk))
            have q6 : Blk w6 w.heap.size 58 #[.string ⟨#[]⟩, .int .i64 0, .int .i64 0, .slice none 0 0, .slice none 0 0] := by subst hW; exact q5.far (by simp; omega) _
            have z6 : w5.heap.size = w6.heap.size := by subst hW; simp [World.setCell]
            have hbw6 : Below w.heap.size w w6 := by subst hW; (with_reducible repeat' first | exact Below.refl _ _ | assumption | (refine Below.setCell ?_ (by first | omega | (simp; omega) | (simp; done) | (dsimp only; omega)) _) | (refine Below.alloc ?_ (by first | omega | (simp; omega) | (simp; done) | (dsimp only; omega)) _) | (refine below_drewN ?_ _) | (refine Below.drew ?_) | (refine Below.trans ?_ (hbw5.mono (by first | omega | (simp; omega) | (simp; done) | (dsimp only; omega)))))
            have lb6 : bx < w6.heap.size := by omega
            have lq6 := q6.lt
            have hap : ∀ k, (Value.slice A5 src.length c5).ownBlock = some k → (Value.slice A2 dst.length c2).ownBlock ≠ some k := fun k h1 h2 => by have := (o6.blkv k h1).1; have := (d6.blkv k h2).2; omega
            clear hW r4 r5 q4 q5 o4 d5 o5 hb5 g3 h3 hbw4 hbw5
            have t0 := r6.cell (i := 0) rfl; have t1 := r6.cell (i := 1) rfl; have t2 := r6.cell (i := 2) rfl; have t3 := r6.cell (i := 3) rfl; have t4 := r6.cell (i := 4) rfl
            have o6' : EStep.OS w6 w1.heap.size w6.heap.size (.slice A5 src.length c5) src := o6.mono (by omega) (Nat.le_refl _)
            have d6' : EStep.OS w6 w1.heap.size w6.heap.size (.slice A2 dst.length c2) dst := d6.mono (Nat.le_refl _) (by omega)
            cases hok : ruleOk ⟨nm, eg, 0, src, dst⟩ with
            | false =>
              have HO := Lib.hid hok
              have HN := Lib.hid (pRule_not HC.out hok)
              clear hok
              go_wp2_with (go_at_call 124; (with_reducible refine (specIsRule_any nm eg 0 A5 A2 c5 c2 w1.heap.size w6.heap.size src dst _ o6'.read.as d6'.read.as (Nat.le_refl _) hnz).mono ?_); rintro e w7 ⟨rfl, hb7⟩; simp only [HO.out]; (have q7 := q6.below hb7 lq6); (have e0 := q7.cell (i := 0) rfl); (have e1 := q7.cell (i := 1) rfl); (have e2 := q7.cell (i := 2) rfl); (have e3 := q7.cell (i := 3) rfl); (have e4 := q7.cell (i := 4) rfl); (have f0 := q7.free 0); (have f1 := q7.free 1); (have f2 := q7.free 2); (have f3 := q7.free 3); (have f4 := q7.free 4); (have lq7 := q7.lt))
              have R := (((((q7.set 0 (.string ⟨#[]⟩)).set 1 (.int .i64 0)).set 2 (.int .i64 0)).set 3 (.slice none 0 0)).set 4 (.slice none 0 0))
              rw [HN.out]
              exact bodyPost_ret (v := .tuple #[.agg #[.string ⟨#[]⟩, .int .i64 0, .int .i64 0, .slice none 0 0, .slice none 0 0], .bool false]) (by simp [results, Try.results42, go_sem, R.cell (i := 0) rfl, R.cell (i := 1) rfl, R.cell (i := 2) rfl, R.cell (i := 3) rfl, R.cell (i := 4) rfl]) rfl (RetRuleB.zero (by (with_reducible repeat' first | exact Below.refl _ _ | assumption | (refine Below.setCell ?_ (by first | omega | (simp; omega) | (simp; done) | (dsimp only; omega)) _) | (refine Below.alloc ?_ (by first | omega | (simp; omega) | (simp; done) | (dsimp only; omega)) _) | (refine below_drewN ?_ _) | (refine Below.drew ?_) | (refine Below.trans ?_ (hb7.mono (by first | omega | (simp; omega) | (simp; done) | (dsimp only; omega)))) | (refine Below.trans ?_ (hbw6.mono (by first | omega | (simp; omega) | (simp; done) | (dsimp only; omega)))))))
            | true =>
              have HO := Lib.hid hok
              obtain ⟨tx, htx⟩ : ∃ tx, ruleT ⟨nm, eg, 0, src, dst⟩ = tx := ⟨_, rfl⟩
              have HTX := Lib.hid htx
              have htx' : ruleText ⟨nm, eg, 0, src, dst⟩ = tx := by rw [← htx, ruleT, if_pos hok]
              have htl : tx.toList = tx.data.toList := by rw [ByteArray.toList_eq]
              have hsl : s.toList = s.data.toList := by rw [ByteArray.toList_eq]
              by_cases he : tx = s
              · have HN := Lib.hid (pRule_good HC.out hok (by rw [htx']; exact he))
                have n9 : (!(tx.toList == s.toList)) = false := by rw [he]; simp
                clear hok he htx htx' htl hsl
                go_wp2_with (first
                  | (go_at_call 124; (with_reducible refine (specIsRule_any nm eg 0 A5 A2 c5 c2 w1.heap.size w6.heap.size src dst _ o6'.read.as d6'.read.as (Nat.le_refl _) hnz).mono ?_); rintro e w7 ⟨rfl, hb7⟩; simp only [HO.out]; (have q7 := q6.below hb7 lq6); (have r7 := r6.below hb7 lb6); (have o7 := o6'.same (Same.of_below hb7 (Nat.le_refl _))); (have d7 := d6'.same (Same.of_below hb7 (Nat.le_refl _))); (have t0 := r7.cell (i := 0) rfl); (have t1 := r7.cell (i := 1) rfl); (have t2 := r7.cell (i := 2) rfl); (have t3 := r7.cell (i := 3) rfl); (have t4 := r7.cell (i := 4) rfl); (have lb7 := r7.lt); (have z7 := hb7.size))
                  | (go_at_call 125; (with_reducible refine (specFormatRule_any nm eg 0 A5 A2 c5 c2 w1.heap.size w6.heap.size src dst _ o7.read.as d7.read.as z7 hnz).mono ?_); rintro e w8 ⟨rfl, hb8⟩; rw [HTX.out]; (have q8 := q7.below hb8 q7.lt); (have r8 := r7.below hb8 lb7); (have o8 := o7.same (Same.of_below hb8 z7)); (have d8 := d7.same (Same.of_below hb8 z7)); (have t0 := r8.cell (i := 0) rfl); (have t1 := r8.cell (i := 1) rfl); (have t2 := r8.cell (i := 2) rfl); (have t3 := r8.cell (i := 3) rfl); (have t4 := r8.cell (i := 4) rfl); (have e0 := q8.cell (i := 0) rfl); (have e1 := q8.cell (i := 1) rfl); (have e2 := q8.cell (i := 2) rfl); (have e3 := q8.cell (i := 3) rfl); (have e4 := q8.cell (i := 4) rfl); (have f0 := q8.free 0); (have f1 := q8.free 1); (have f2 := q8.free 2); (have f3 := q8.free 3); (have f4 := q8.free 4); (have lq8 := q8.lt); (have z8 := hb8.size)))
                have R := ((((q8.set 0 (.string nm)).set 1 (.int .i64 eg)).set 2 (.int .i64 0)).set 3 (.slice A5 src.length c5)).set 4 (.slice A2 dst.length c2)
                rw [HN.out]
                exact bodyPost_ret (v := .tuple #[.agg #[.string nm, .int .i64 eg, .int .i64 0, .slice A5 src.length c5, .slice A2 dst.length c2], .bool true]) (by simp [results, Try.results42, go_sem, R.cell (i := 0) rfl, R.cell (i := 1) rfl, R.cell (i := 2) rfl, R.cell (i := 3) rfl, R.cell (i := 4) rfl]) rfl ⟨A5, c5, A2, c2, rfl, (o8.same (by (with_reducible repeat' first | exact Same.refl _ _ _ | assumption | (refine Same.setCell ?_ (by first | omega | (simp; omega) | (simp; done) | (dsimp only; omega)) _) | (refine Same.alloc ?_ (by first | omega | (simp; omega) | (simp; done) | (dsimp only; omega)) _) | (refine Same.drewN ?_ _) | (refine Same.drew ?_)))).mono (by first | omega | (simp; omega) | (simp; done) | (dsimp only; omega)) (by first | omega | (simp; omega) | (simp; done) | (dsimp only; omega)), (d8.same (by (with_reducible repeat' first | exact Same.refl _ _ _ | assumption | (refine Same.setCell ?_ (by first | omega | (simp; omega) | (simp; done) | (dsimp only; omega)) _) | (refine Same.alloc ?_ (by first | omega | (simp; omega) | (simp; done) | (dsimp only; omega)) _) | (refine Same.drewN ?_ _) | (refine Same.drew ?_)))).mono (by first | omega | (simp; omega) | (simp; done) | (dsimp only; omega)) (by first | omega | (simp; omega) | (simp; done) | (dsimp only; omega)), hap, by (with_reducible repeat' first | exact Below.refl _ _ | assumption | (refine Below.setCell ?_ (by first | omega | (simp; omega) | (simp; done) | (dsimp only; omega)) _) | (refine Below.alloc ?_ (by first | omega | (simp; omega) | (simp; done) | (dsimp only; omega)) _) | (refine below_drewN ?_ _) | (refine Below.drew ?_) | (refine Below.trans ?_ (hb8.mono (by first | omega | (simp; omega) | (simp; done) | (dsimp only; omega)))) | (refine Below.trans ?_ (hb7.mono (by first | omega | (simp; omega) | (simp; done) | (dsimp only; omega)))) | (refine Below.trans ?_ (hbw6.mono (by first | omega | (simp; omega) | (simp; done) | (dsimp only; omega)))))⟩
              · have HN := Lib.hid (pRule_text HC.out (by rw [htx']; exact he))
                have n9 : (!(tx.toList == s.toList)) = true := by
                  have : (tx.toList == s.toList) = false := by
                    rw [beq_eq_false_iff_ne, htl, hsl]
                    exact fun e => he (list_inj e)
                  rw [this]; rfl
                clear hok he htx htx' htl hsl
                go_wp2_with (first
                  | (go_at_call 124; (with_reducible refine (specIsRule_any nm eg 0 A5 A2 c5 c2 w1.heap.size w6.heap.size src dst _ o6'.read.as d6'.read.as (Nat.le_refl _) hnz).mono ?_); rintro e w7 ⟨rfl, hb7⟩; simp only [HO.out]; (have q7 := q6.below hb7 lq6); (have r7 := r6.below hb7 lb6); (have o7 := o6'.same (Same.of_below hb7 (Nat.le_refl _))); (have d7 := d6'.same (Same.of_below hb7 (Nat.le_refl _))); (have t0 := r7.cell (i := 0) rfl); (have t1 := r7.cell (i := 1) rfl); (have t2 := r7.cell (i := 2) rfl); (have t3 := r7.cell (i := 3) rfl); (have t4 := r7.cell (i := 4) rfl); (have lb7 := r7.lt); (have z7 := hb7.size))
                  | (go_at_call 125; (with_reducible refine (specFormatRule_any nm eg 0 A5 A2 c5 c2 w1.heap.size w6.heap.size src dst _ o7.read.as d7.read.as z7 hnz).mono ?_); rintro e w8 ⟨rfl, hb8⟩; rw [HTX.out]; (have q8 := q7.below hb8 q7.lt); (have e0 := q8.cell (i := 0) rfl); (have e1 := q8.cell (i := 1) rfl); (have e2 := q8.cell (i := 2) rfl); (have e3 := q8.cell (i := 3) rfl); (have e4 := q8.cell (i := 4) rfl); (have f0 := q8.free 0); (have f1 := q8.free 1); (have f2 := q8.free 2); (have f3 := q8.free 3); (have f4 := q8.free 4); (have lq8 := q8.lt); (have z8 := hb8.size)))
                have R := (((((q8.set 0 (.string ⟨#[]⟩)).set 1 (.int .i64 0)).set 2 (.int .i64 0)).set 3 (.slice none 0 0)).set 4 (.slice none 0 0))
                rw [HN.out]
                exact bodyPost_ret (v := .tuple #[.agg #[.string ⟨#[]⟩, .int .i64 0, .int .i64 0, .slice none 0 0, .slice none 0 0], .bool false]) (by simp [results, Try.results42, go_sem, R.cell (i := 0) rfl, R.cell (i := 1) rfl, R.cell (i := 2) rfl, R.cell (i := 3) rfl, R.cell (i := 4) rfl]) rfl (RetRuleB.zero (by (with_reducible repeat' first | exact Below.refl _ _ | assumption | (refine Below.setCell ?_ (by first | omega | (simp; omega) | (simp; done) | (dsimp only; omega)) _) | (refine Below.alloc ?_ (by first | omega | (simp; omega) | (simp; done) | (dsimp only; omega)) _) | (refine below_drewN ?_ _) | (refine Below.drew ?_) | (refine Below.trans ?_ (hb8.mono (by first | omega | (simp; omega) | (simp; done) | (dsimp only; omega)))) | (refine Below.trans ?_ (hb7.mono (by first | omega | (simp; omega) | (simp; done) | (dsimp only; omega)))) | (refine Below.trans ?_ (hbw6.mono (by first | omega | (simp; omega) | (simp; done) | (dsimp only; omega)))))))
  · have n1 : ((ws.length : Int) != 4) = true := by rw [bne_iff_ne]; omega
    have HN := Lib.hid (pRule_few hws h4)
    clear h4 hws
    go_wp2_with fail
    have R := ((((r0.set 0 (.string ⟨#[]⟩)).set 1 (.int .i64 0)).set 2 (.int .i64 0)).set 3 (.slice none 0 0)).set 4 (.slice none 0 0)
    rw [HN.out]
    exact bodyPost_ret (v := .tuple #[.agg #[.string ⟨#[]⟩, .int .i64 0, .int .i64 0, .slice none 0 0, .slice none 0 0], .bool false]) (by simp [results, Try.results42, go_sem, R.cell (i := 0) rfl, R.cell (i := 1) rfl, R.cell (i := 2) rfl, R.cell (i := 3) rfl, R.cell (i := 4) rfl]) rfl (RetRuleB.zero (by (with_reducible repeat' first | exact Below.refl _ _ | assumption | (refine Below.setCell ?_ (by first | omega | (simp; omega) | (simp; done) | (dsimp only; omega)) _) | (refine Below.alloc ?_ (by first | omega | (simp; omega) | (simp; done) | (dsimp only; omega)) _) | (refine below_drewN ?_ _) | (refine Below.drew ?_) | (refine Below.trans ?_ (hbw.mono (by first | omega | (simp; omega) | (simp; done) | (dsimp only; omega)))))))
end Go.Proofs.Ytnnjilkjjdiblaa
