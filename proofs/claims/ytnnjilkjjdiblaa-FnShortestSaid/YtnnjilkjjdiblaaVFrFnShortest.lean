/-
  The law FnShortest: from the walk to the statement.
-/
import Derived.Test.YtnnjilkjjdiblaaVGShort
import Derived.Test.YtnnjilkjjdiblaaVBetwI
import Derived.Test.YtnnjilkjjdiblaaVRelvS
import Derived.Test.YtnnjilkjjdiblaaVWhoHas
import Derived.Test.YtnnjilkjjdiblaaVShortI
import Derived.Test.YtnnjilkjjdiblaaVShortS
import Derived.Test.YtnnjilkjjdiblaaVTypEq
import Derived.Test.YtnnjilkjjdiblaaOpen
import Derived.Deep.DeepCutAuto
import Derived.Deep.RegionHeld3
import Derived.Test.YtnnjilkjjdiblaaVOpenBytes
import Derived.Test.YtnnjilkjjdiblaaFacts
import Derived.JoinedOf
namespace Go.Proofs.Ytnnjilkjjdiblaa
set_option maxRecDepth 100000
open Go.RowKit

/-! ### Far and near -/
section
variable {n : Nat} {L : Nat → Nat → Nat → Bool} {M : Step → Nat → Nat → Bool} {b : Nat}
theorem farM_self : ∀ d, farM n L b d b = 0 := by
  intro d
  induction d with
  | zero => simp [farM]
  | succ d ih => rw [farM_keep (by omega)]; exact ih
theorem farM_zero {x : Nat} : ∀ {d : Nat}, farM n L b d x = 0 → x = b := by
  intro d
  induction d with
  | zero => intro h; simp only [farM] at h; split at h <;> first | assumption | omega
  | succ d ih =>
    intro h
    exact ih (farM_old h (Int.le_refl _) (by omega))
theorem walk_far (hM : ∀ i x y, L i x y = M (kindS i) x y) (hb : b < n) : ∀ {z : List Step} {x : Nat}, (∀ s ∈ z, ∃ i, i < 8 ∧ s = kindS i) → x < n → z.length ≤ 8 → walkP n M sameP z x b = true → 0 ≤ farM n L b 8 x ∧ farM n L b 8 x ≤ z.length := by
  intro z
  induction z with
  | nil =>
    intro x _ _ _ h
    have : x = b := by simpa [walkP, sameP] using h
    subst this
    rw [farM_self]; simp
  | cons s r ih =>
    intro x hk hx hl h
    simp only [List.length_cons] at hl ⊢
    obtain ⟨m, hm, h1, h2⟩ := (walk_cons hx hb).1 h
    obtain ⟨i, hi, rfl⟩ := hk s (by simp)
    obtain ⟨k1, k2⟩ := ih (fun t ht => hk t (by simp [ht])) hm (by omega) h2
    have := farM_step (n := n) (L := L) (b := b) (d := 8) hm hi (by rw [hM]; exact h1) rfl k1 (by omega)
    omega
theorem find_least {P : Nat → Bool} {i : Nat} : ∀ {m : Nat}, (List.range m).find? P = some i → ∀ j, j < i → P j = false := by
  intro m
  induction m with
  | zero => intro h; simp at h
  | succ m ih =>
    intro h j hj
    rw [List.range_succ, List.find?_append] at h
    cases hf : (List.range m).find? P with
    | some k =>
      rw [hf] at h
      simp only [Option.some_or, Option.some.injEq] at h
      subst h
      exact ih hf j hj
    | none =>
      rw [hf] at h
      simp only [Option.none_or] at h
      have hm : i = m := by
        have := List.mem_of_find?_eq_some h
        simpa using this
      subst hm
      rw [List.find?_eq_none] at hf
      have := hf j (List.mem_range.2 hj)
      simpa using this
theorem path_kinds {F : Nat → Int} : ∀ (l : Nat) (U : Nat → Bool), ∀ s ∈ pathI n L F l U, ∃ i, i < 8 ∧ s = kindS i := by
  intro l
  induction l with
  | zero => intro U s hs; simp [pathI] at hs
  | succ l ih =>
    intro U s hs
    simp only [pathI] at hs
    split at hs
    · rename_i i hi
      rcases List.mem_cons.1 hs with rfl | hs
      · exact ⟨i, List.mem_range.1 (List.mem_of_find?_eq_some hi), rfl⟩
      · exact ih _ s hs
    · exact ih _ s hs
/-- Nobody of U is nearer than l. -/
def Near (n : Nat) (F : Nat → Int) (l : Nat) (U : Nat → Bool) : Prop := ∀ x, x < n → U x = true → 0 ≤ F x → (l : Int) ≤ F x
theorem near_next {l : Nat} {U : Nat → Bool} {i : Nat} (hi : i < 8) (hl : l + 1 ≤ 8) (h : Near n (farM n L b 8) (l + 1) U) : Near n (farM n L b 8) l (reachP n U (L i)) := by
  intro x hx h1 h2
  obtain ⟨p, hp, k1, k2⟩ := reachP_iff.1 h1
  by_cases hlt : farM n L b 8 x < (l : Int)
  · obtain ⟨m1, _⟩ := farM_step (n := n) (L := L) (b := b) (v := farM n L b 8 x) (d := 8) hx hi k2 rfl h2 (by omega)
    obtain ⟨_, m2⟩ := farM_step (n := n) (L := L) (b := b) (v := farM n L b 8 x) (d := 8) hx hi k2 rfl h2 (by omega)
    have := h p hp k1 m1
    omega
  · omega
theorem find_hit {l : Nat} {U : Nat → Bool} (hx : ∃ x, x < n ∧ U x = true ∧ farM n L b 8 x = ((l + 1 : Nat) : Int)) : ∃ i, ((List.range 8).find? fun i => hitsB (farM n L b 8) l n (reachP n U (L i))) = some i ∧ i < 8 ∧ hitsB (farM n L b 8) l n (reachP n U (L i)) = true := by
  cases hfd : (List.range 8).find? fun i => hitsB (farM n L b 8) l n (reachP n U (L i)) with
  | none =>
    exfalso
    obtain ⟨x, hx, hS, hfx⟩ := hx
    obtain ⟨i, y, hi, hy, h1, h2⟩ := farM_from hfx (by omega)
    rw [List.find?_eq_none] at hfd
    exact hfd i (List.mem_range.2 hi) (hitsB_iff.2 ⟨y, hy, reachP_iff.2 ⟨x, hx, hS, h2⟩, by rw [h1]; omega⟩)
  | some i =>
    have hP := List.find?_some hfd
    exact ⟨i, rfl, List.mem_range.1 (List.mem_of_find?_eq_some hfd), hP⟩
theorem path_walk (hM : ∀ i x y, L i x y = M (kindS i) x y) (hb : b < n) : ∀ (l : Nat) (U : Nat → Bool), l ≤ 8 → Near n (farM n L b 8) l U → (∃ x, x < n ∧ U x = true ∧ farM n L b 8 x = (l : Int)) →
    (pathI n L (farM n L b 8) l U).length = l ∧ ∃ x, x < n ∧ U x = true ∧ walkP n M sameP (pathI n L (farM n L b 8) l U) x b = true := by
  intro l
  induction l with
  | zero =>
    intro U _ _ hx
    obtain ⟨x, hx, hU, hf⟩ := hx
    have := farM_zero hf
    subst this
    exact ⟨rfl, x, hx, hU, by simp [pathI, walkP, sameP]⟩
  | succ l ih =>
    intro U hl hn hx
    obtain ⟨i, hfd, hi, hP⟩ := find_hit hx
    simp only [pathI]
    rw [hfd]
    simp only
    obtain ⟨y, hy, k1, k2⟩ := hitsB_iff.1 hP
    obtain ⟨h1, z, hz, h2, h3⟩ := ih (reachP n U (L i)) (by omega) (near_next hi hl hn) ⟨y, hy, k1, k2⟩
    obtain ⟨p, hp, m1, m2⟩ := reachP_iff.1 h2
    refine ⟨by rw [List.length_cons, h1], p, hp, m1, ?_⟩
    exact (walk_cons hp hb).2 ⟨z, hz, by rw [← hM]; exact m2, h3⟩

/-! ### The first in order -/
def lexLt : List Step → List Step → Bool
  | x :: r, y :: s => decide (x.kind < y.kind) || (decide (x.kind = y.kind) && lexLt r s)
  | _, _ => false
theorem path_least (hM : ∀ i x y, L i x y = M (kindS i) x y) (hb : b < n) : ∀ (l : Nat) (U : Nat → Bool), l ≤ 8 → Near n (farM n L b 8) l U → (∃ x, x < n ∧ U x = true ∧ farM n L b 8 x = (l : Int)) →
    ∀ z : List Step, (∀ s ∈ z, ∃ i, i < 8 ∧ s = kindS i) → z.length = l → ∀ x, x < n → U x = true → walkP n M sameP z x b = true → lexLt z (pathI n L (farM n L b 8) l U) = false := by
  intro l
  induction l with
  | zero =>
    intro U _ _ _ z _ hz x _ _ _
    obtain rfl : z = [] := List.eq_nil_of_length_eq_zero hz
    rfl
  | succ l ih =>
    intro U hl hn hx z hk hz x hxn hU hw
    obtain ⟨i, hfd, hi, hP⟩ := find_hit hx
    simp only [pathI]
    rw [hfd]
    simp only
    cases z with
    | nil => simp at hz
    | cons s r =>
      simp only [List.length_cons, Nat.add_right_cancel_iff] at hz
      obtain ⟨j, hj, rfl⟩ := hk s (by simp)
      obtain ⟨y, hy, h1, h2⟩ := (walk_cons hxn hb).1 hw
      rw [← hM] at h1
      have hkr : ∀ t ∈ r, ∃ i, i < 8 ∧ t = kindS i := fun t ht => hk t (by simp [ht])
      obtain ⟨f1, f2⟩ := walk_far hM hb hkr hy (by omega) h2
      have hry : reachP n U (L j) y = true := reachP_iff.2 ⟨x, hxn, hU, h1⟩
      have f3 := near_next hj hl hn y hy hry f1
      have hit : hitsB (farM n L b 8) l n (reachP n U (L j)) = true := hitsB_iff.2 ⟨y, hy, hry, by omega⟩
      have hij : ¬ j < i := fun hlt => by
        have := find_least hfd j hlt
        rw [hit] at this; cases this
      rw [lexLt, Bool.or_eq_false_iff, Bool.and_eq_false_imp]
      refine ⟨decide_eq_false (by show ¬ ((j : Int) + 1 < (i : Int) + 1); omega), fun e => ?_⟩
      have e' : (j : Int) + 1 = (i : Int) + 1 := of_decide_eq_true e
      obtain rfl : j = i := by omega
      exact ih (reachP n U (L j)) (by omega) (near_next hj hl hn) ⟨y, hy, hry, by omega⟩ r hkr hz y hy hry h2
theorem lexLt_app {p q : List Step} : ∀ {r s : List Step}, p.length = q.length → lexLt p q = true → lexLt (p ++ r) (q ++ s) = true := by
  induction p generalizing q with
  | nil => intro r s _ h; cases q <;> cases h
  | cons x p ih =>
    intro r s hl h
    cases q with
    | nil => cases h
    | cons y q =>
      simp only [List.length_cons, Nat.add_right_cancel_iff] at hl
      simp only [List.cons_append, lexLt, Bool.or_eq_true, Bool.and_eq_true, decide_eq_true_eq] at h ⊢
      rcases h with h | ⟨h1, h2⟩
      · exact .inl h
      · exact .inr ⟨h1, ih hl h2⟩
theorem lexLt_last {p : List Step} {x y : Step} (h : x.kind < y.kind) : lexLt (p ++ [x]) (p ++ [y]) = true := by
  induction p with
  | nil => simp [lexLt, h]
  | cons z p ih => simp [lexLt, ih]
end
theorem moreTo_pair (t : KinType) : ∀ k, (moreTo t k).Pairwise fun u v => lexLt u.steps v.steps = true := by
  intro k
  induction k with
  | zero => exact List.Pairwise.nil
  | succ k ih =>
    rw [moreTo_succ]; split
    · rw [List.pairwise_append]
      refine ⟨ih, List.pairwise_singleton _ _, fun u hu v hv => ?_⟩
      obtain ⟨i, hi, _, rfl⟩ := moreTo_mem hu
      simp at hv; subst hv
      exact lexLt_last (by simp only [kindS]; omega)
    · exact ih
theorem lastM_steps {ego : Int} : ∀ {k : Nat} {t : KinType}, t ∈ lastM ego k → t.steps.length = k ∧ t.ego = ego := by
  intro k
  induction k with
  | zero => intro t h; simp [lastM] at h; subst h; exact ⟨rfl, rfl⟩
  | succ k ih =>
    intro t h
    simp only [lastM, List.mem_flatMap] at h
    obtain ⟨u, hu, ht⟩ := h
    obtain ⟨i, _, _, rfl⟩ := moreTo_mem ht
    obtain ⟨h1, h2⟩ := ih hu
    exact ⟨by simp [addS, h1], h2⟩
theorem lastM_pair (ego : Int) : ∀ k, (lastM ego k).Pairwise fun u v => lexLt u.steps v.steps = true := by
  intro k
  induction k with
  | zero => exact List.pairwise_singleton _ _
  | succ k ih =>
    simp only [lastM]
    rw [List.pairwise_flatMap]
    refine ⟨fun u _ => moreTo_pair u 8, ih.imp_of_mem fun {u v} hu hv h x hx y hy => ?_⟩
    obtain ⟨i, _, _, rfl⟩ := moreTo_mem hx
    obtain ⟨j, _, _, rfl⟩ := moreTo_mem hy
    exact lexLt_app (by rw [(lastM_steps hu).1, (lastM_steps hv).1]) h
theorem moreTo_has {t : KinType} {i : Nat} (h : stepOk (kindS i) (sexM t) = true) : ∀ {k : Nat}, i < k → addS t (kindS i) ∈ moreTo t k := by
  intro k
  induction k with
  | zero => intro hk; omega
  | succ k ih =>
    intro hk
    by_cases e : i = k
    · subst e; rw [moreTo_yes h]; simp
    · rw [moreTo_succ]; split
      · exact List.mem_append.2 (.inl (ih (by omega)))
      · exact ih (by omega)
theorem lastM_has {ego : Int} : ∀ {k : Nat} {z : List Step}, z.length = k → (∀ s ∈ z, ∃ i, i < 8 ∧ s = kindS i) → stepsOk ego z = true → (⟨ego, z⟩ : KinType) ∈ lastM ego k := by
  intro k
  induction k with
  | zero => intro z hz _ _; obtain rfl : z = [] := List.eq_nil_of_length_eq_zero hz; simp [lastM]
  | succ k ih =>
    intro z hz hk ho
    rcases List.eq_nil_or_concat z with rfl | ⟨l, s, rfl⟩
    · simp at hz
    · simp only [List.concat_eq_append, List.length_append, List.length_singleton, Nat.add_right_cancel_iff] at hz hk ho ⊢
      rw [stepsOk_snoc, Bool.and_eq_true] at ho
      obtain ⟨i, hi, rfl⟩ := hk s (by simp)
      simp only [lastM, List.mem_flatMap]
      exact ⟨⟨ego, l⟩, ih hz (fun t ht => hk t (by simp [ht])) ho.1, moreTo_has ho.2 hi⟩
theorem first_of {α : Type} {R : α → α → Bool} {l : List α} {t : α} (h : l.Pairwise fun u v => R u v = true) (ht : t ∈ l) (hm : ∀ u ∈ l, R u t = false) : ∃ r, l = t :: r := by
  cases l with
  | nil => cases ht
  | cons x r =>
    rcases List.mem_cons.1 ht with rfl | ht
    · exact ⟨r, rfl⟩
    · have h1 := (List.pairwise_cons.1 h).1 t ht
      rw [hm x (by simp)] at h1; cases h1
theorem walk_valid {xs : List Person} {ys : List Union} (h : famOk xs ys = true) {b : Nat} (hb : b < xs.length) : ∀ {z : List Step} {a : Nat}, (∀ s ∈ z, ∃ i, i < 8 ∧ s = kindS i) → a < xs.length → walkP xs.length (leadM xs ys) sameP z a b = true → stepsOk (sexAt xs a) z = true := by
  intro z
  induction z with
  | nil => intro a _ _ _; rfl
  | cons s r ih =>
    intro a hk ha hw
    obtain ⟨m, hm, h1, h2⟩ := (walk_cons ha hb).1 hw
    have h3 := ih (fun t ht => hk t (by simp [ht])) hm h2
    obtain ⟨i, hi, rfl⟩ := hk s (by simp)
    rw [stepsOk_cons, ← lead_sexAt h1, h3, Bool.and_true, stepOk, decide_eq_true_eq]
    simp only [kindS]
    refine ⟨by omega, by omega, by omega, by omega, .inl trivial, fun e => ?_, fun e => ?_⟩
    · have := lead_from7 h (s := kindS i) (by simp only [kindS]; exact e.1) h1
      omega
    · have := lead_from8 h (s := kindS i) (by simp only [kindS]; exact e.1) h1
      omega

/-! ### The law -/
theorem fam_sexes {xs : List Person} {ys : List Union} (h : famOk xs ys = true) {a : Nat} {x : Person} (hx : xs[a]? = some x) : x.sex = 1 ∨ x.sex = 2 := by
  have h1 := peopleOk_get (famOk_parts h).2.2.1 (List.getElem?_eq_some_iff.1 hx).1
  rw [personOk_of hx] at h1
  exact (aliveOk_parts (personOf_parts h1).2.1).1
section
variable {xs : List Person} {ys : List Union} {a b : Nat}
theorem leadK_eq (xs : List Person) (ys : List Union) : ∀ i x y, leadK xs ys i x y = leadM xs ys (kindS i) x y := fun _ _ _ => rfl
theorem hasOk_of (h : famOk xs ys = true) (ha : a < xs.length) : hasOk xs ys (a : Int) = true := by
  rw [hasOk, h, Bool.and_true]; exact inP_iff.2 ⟨by omega, by omega⟩
theorem betw_far (hx : a < xs.length) (hb : b < xs.length) {n : Int} {u : KinType} (hu : u ∈ betwM xs ys a b n) : 0 ≤ awayM xs ys b a ∧ awayM xs ys b a ≤ u.steps.length ∧ (b : Int) ∈ relsM xs ys a u := by
  cases ho : (hasOk xs ys a && hasOk xs ys b) with
  | false => rw [betwM_out ho] at hu; cases hu
  | true =>
    obtain ⟨x, hxa⟩ := getSome (l := xs) hx
    rw [betwM_in ho hxa, List.mem_filter] at hu
    obtain ⟨h1, h2⟩ := hu
    obtain ⟨k1, k2, k3, k4, k5⟩ := fromM_mem h1
    have hl := typeOk_len k1
    have hw := h2
    rw [betw_walk hxa hb k2] at hw
    obtain ⟨f1, f2⟩ := walk_far (leadK_eq xs ys) hb k3 hx hl hw
    simp only [Bool.and_eq_true] at ho
    refine ⟨f1, f2, ?_⟩
    rw [relsM_in ho.1 k1, mem_idxTo]
    exact ⟨b, hb, h2, rfl⟩
theorem short_no (hx : a < xs.length) (hb : b < xs.length) (h : (shortM xs ys a b).2 = false) : betwM xs ys a b 3 = [] := by
  rw [List.eq_nil_iff_forall_not_mem]
  intro u hu
  obtain ⟨f1, _, _⟩ := betw_far hx hb hu
  cases ho : (hasOk xs ys a && hasOk xs ys b) with
  | false => rw [betwM_out ho] at hu; cases hu
  | true =>
    simp only [Bool.and_eq_true] at ho
    rw [shortM, if_pos ⟨ho.1, ho.2, by simpa using f1⟩] at h; cases h
theorem short_parts (hx : a < xs.length) (h : (shortM xs ys a b).2 = true) : famOk xs ys = true ∧ 0 ≤ awayM xs ys b a ∧ (shortM xs ys a b).1 = ⟨sexAt xs a, pathI xs.length (leadK xs ys) (awayM xs ys b) (awayM xs ys b a).toNat (onlyP a)⟩ := by
  unfold shortM at h ⊢
  split at h
  · rename_i hc
    rw [if_pos hc]
    obtain ⟨h1, _, h3⟩ := hc
    simp only [Int.toNat_natCast] at h3 ⊢
    exact ⟨(hasOk_fam h1).1, h3, by rw [short_path xs ys hx h3]⟩
  · cases h
theorem only_near (h : 0 ≤ awayM xs ys b a) : Near xs.length (farM xs.length (leadK xs ys) b 8) (awayM xs ys b a).toNat (onlyP a) := fun x _ hU _ => by
  obtain rfl : x = a := by simpa [onlyP] using hU
  have e : awayM xs ys b x = farM xs.length (leadK xs ys) b 8 x := rfl
  rw [e] at h ⊢; omega
theorem short_path_ok (hx : a < xs.length) (hb : b < xs.length) (h : (shortM xs ys a b).2 = true) : ((shortM xs ys a b).1.steps.length : Int) = awayM xs ys b a ∧ (∀ s ∈ (shortM xs ys a b).1.steps, ∃ i, i < 8 ∧ s = kindS i) ∧ walkP xs.length (leadM xs ys) sameP (shortM xs ys a b).1.steps a b = true ∧
    stepsOk (sexAt xs a) (shortM xs ys a b).1.steps = true ∧ (shortM xs ys a b).1.ego = sexAt xs a ∧ famOk xs ys = true ∧ awayM xs ys b a ≤ 8 ∧
    ∀ z : List Step, (∀ s ∈ z, ∃ i, i < 8 ∧ s = kindS i) → (z.length : Int) = awayM xs ys b a → walkP xs.length (leadM xs ys) sameP z a b = true → lexLt z (shortM xs ys a b).1.steps = false := by
  obtain ⟨hf, h0, he⟩ := short_parts hx h
  rw [he]
  simp only
  have h8 := (farM_le (n := xs.length) (L := leadK xs ys) (b := b) a 8).2
  have e : awayM xs ys b = farM xs.length (leadK xs ys) b 8 := rfl
  have hn := only_near h0
  have hl : (awayM xs ys b a).toNat ≤ 8 := by rw [e]; omega
  have hex : ∃ x, x < xs.length ∧ onlyP a x = true ∧ farM xs.length (leadK xs ys) b 8 x = ((awayM xs ys b a).toNat : Int) := ⟨a, hx, by simp [onlyP], by rw [e] at h0 ⊢; omega⟩
  obtain ⟨p1, x, hxn, hU, p2⟩ := path_walk (leadK_eq xs ys) hb _ _ hl hn hex
  obtain rfl : x = a := by simpa [onlyP] using hU
  have pk := path_kinds (n := xs.length) (L := leadK xs ys) (F := farM xs.length (leadK xs ys) b 8) (awayM xs ys b x).toNat (onlyP x)
  have pl := path_least (leadK_eq xs ys) hb _ _ hl hn hex
  rw [← e] at p1 p2 pk pl
  refine ⟨by rw [p1]; omega, pk, p2, walk_valid hf hb pk hx p2, trivial, hf, by rw [e]; exact h8, fun z hz hzl hw => ?_⟩
  exact pl z hz (by omega) x hx hU hw
theorem short_law (hx : a < xs.length) (hb : b < xs.length) (h : (shortM xs ys a b).2 = true) : (b : Int) ∈ relsM xs ys a (shortM xs ys a b).1 ∧ ((shortM xs ys a b).1.steps.length = 0 ↔ a = b) ∧
    (∀ u ∈ betwM xs ys a b 3, (shortM xs ys a b).1.steps.length ≤ u.steps.length ∧ (b : Int) ∈ relsM xs ys a u) ∧
    (1 ≤ (shortM xs ys a b).1.steps.length → (shortM xs ys a b).1.steps.length ≤ 3 → ∃ r, betwM xs ys a b 3 = (shortM xs ys a b).1 :: r) := by
  obtain ⟨hl, hk, hw, hv, hg, hf, h8, hm⟩ := short_path_ok hx hb h
  generalize (shortM xs ys a b).1 = t at *
  obtain ⟨x, hxa⟩ := getSome (l := xs) hx
  have hsx : sexAt xs a = x.sex := sexAt_of hxa
  have hso : x.sex = 1 ∨ x.sex = 2 := fam_sexes hf hxa
  have hok : typeOk t = true := by
    simp only [typeOk, Bool.and_eq_true, decide_eq_true_eq]
    rw [hg]
    exact ⟨⟨by omega, by omega, by omega⟩, hv⟩
  have hbt : betwP xs ys a b t = true := by rw [betw_walk hxa hb (by rw [hg, hsx])]; exact hw
  refine ⟨?_, ?_, fun u hu => ?_, fun h1 h3 => ?_⟩
  · rw [relsM_in (hasOk_of hf hx) hok, mem_idxTo]; exact ⟨b, hb, hbt, rfl⟩
  · constructor
    · intro h0
      have : awayM xs ys b a = 0 := by omega
      exact farM_zero this
    · rintro rfl
      have : awayM xs ys a a = 0 := farM_self 8
      omega
  · obtain ⟨_, f2, f3⟩ := betw_far hx hb hu
    exact ⟨by omega, f3⟩
  · have ho : (hasOk xs ys a && hasOk xs ys b) = true := by rw [hasOk_of hf hx, hasOk_of hf hb]; rfl
    have key : ∀ k, k < t.steps.length → (lastM x.sex k).filter (betwP xs ys a b) = [] := fun k hk' => by
      rw [List.filter_eq_nil_iff]
      intro u hu hbu
      obtain ⟨m1, m2⟩ := lastM_steps hu
      rw [betw_walk hxa hb m2] at hbu
      obtain ⟨_, f2⟩ := walk_far (leadK_eq xs ys) hb (lastM_kinds hu) hx (by omega) hbu
      have e : awayM xs ys b a = farM xs.length (leadK xs ys) b 8 a := rfl
      rw [← e] at f2
      omega
    have hin : t ∈ (lastM x.sex t.steps.length).filter (betwP xs ys a b) := by
      rw [List.mem_filter]
      refine ⟨?_, hbt⟩
      have := lastM_has (ego := x.sex) (z := t.steps) rfl hk (by rw [← hsx]; exact hv)
      rw [← hsx, ← hg] at this ⊢; exact this
    obtain ⟨r, hr⟩ := first_of (R := fun u v => lexLt u.steps v.steps) ((lastM_pair x.sex t.steps.length).filter _) hin fun u hu => by
      rw [List.mem_filter] at hu
      obtain ⟨m1, m2⟩ := lastM_steps hu.1
      have hbu := hu.2
      rw [betw_walk hxa hb m2] at hbu
      exact hm u.steps (lastM_kinds hu.1) (by omega) hbu
    have hfr : fromM x.sex 3 = outM x.sex 3 := fromM_in (n := 3) hso (by omega) (Nat.le_refl _)
    rw [betwM_in ho hxa, hfr]
    simp only [outM, List.nil_append, List.filter_append]
    rcases (by omega : t.steps.length = 1 ∨ t.steps.length = 2 ∨ t.steps.length = 3) with e | e | e
    · rw [e] at hr; rw [hr]; exact ⟨_, rfl⟩
    · rw [e] at hr; rw [key 1 (by omega), hr]; exact ⟨_, rfl⟩
    · rw [e] at hr; rw [key 1 (by omega), key 2 (by omega), hr]; exact ⟨_, rfl⟩
end
end Go.Proofs.Ytnnjilkjjdiblaa

namespace Go.Proofs.Ytnnjilkjjdiblaa
set_option maxRecDepth 100000
open Go.ChangeShapes Go.WideShapes Go.ChangeAt Go.RowKit

set_option maxHeartbeats 16000000 in
theorem FnShortest_walk (A : Option Addr) (c : Nat) (bs : List Int) (w : World) (k0 : EByte.AS w 0 w.heap.size A bs) (hbs : ∀ x ∈ bs, 0 ≤ x ∧ x ≤ 255) :
    Calls Try.prog 4 #[.slice A bs.length c] w fun e w' => e = .returned (.bool true) ∧ Below w.heap.size w w' := by
  by_cases hl : bs.length ≤ 1048576
  rotate_left
  · have hl2 : (1048576 : Int) < (bs.length : Int) := by omega
    go_enter Try.func4, Try.ntmps4
    go_wp2
    go_ret
    exact ⟨rfl, Below.refl _ _⟩
  go_enter Try.func4, Try.ntmps4
  obtain ⟨klo, khi, k0, hk0⟩ : ∃ lo hi, EByte.AS w lo hi A bs ∧ hi ≤ w.heap.size := ⟨_, _, k0, Nat.le_refl _⟩
  have H := crowd_any A c klo khi 14 bs w k0 hk0 hl hbs (by omega)
  rw [show ((14 : Nat) : Int) = 14 from rfl] at H
  go_upto_region 4 with (go_at_call 18; (with_reducible refine H.mono ?_); rintro e w1 ⟨xs, ys, A1, B1, c1, d1, rfl, o1, u1, hx1, hx40, hy1, hnm, hb1⟩)
  have hdc := os_cap u1
  have hs : totP xs ≤ 1048576 := by have := totP_two hnm; omega
  generalize hV : World.alloc w1 (.cells #[.slice A1 xs.length c1, .slice B1 ys.length d1] 26) = W1
  obtain ⟨fb, hN⟩ : ∃ m, m = w1.heap.size := ⟨_, rfl⟩
  rw [← hN]
  have FB : Blk W1 fb 26 #[.slice A1 xs.length c1, .slice B1 ys.length d1] := by subst hV; rw [hN]; exact Blk.new _ rfl
  clear hN
  have z := hb1.size
  have hq : Below w.heap.size w W1 := by subst hV; (with_reducible repeat' first | exact Below.refl _ _ | assumption | (refine Below.setCell ?_ (by first | omega | (simp; omega) | (simp; done) | (dsimp only; omega)) _) | (refine Below.alloc ?_ (by first | omega | (simp; omega) | (simp; done) | (dsimp only; omega)) _) | (refine below_drewN ?_ _) | (refine Below.drew ?_) | (refine Below.trans ?_ (hb1.mono (by first | omega | (simp; omega) | (simp; done) | (dsimp only; omega)))))
  obtain ⟨hXlo, hXhi, hX, hY, hhX⟩ : ∃ lo hi, EPerson.AS W1 lo hi A1 xs ∧ EUnion.AS W1 lo hi B1 ys ∧ hi ≤ W1.heap.size := ⟨_, _, by subst hV; exact o1.read.as.same (by (with_reducible repeat' first | exact Same.refl _ _ _ | assumption | (refine Same.setCell ?_ (by first | omega | (simp; omega) | (simp; done) | (dsimp only; omega)) _) | (refine Same.alloc ?_ (by first | omega | (simp; omega) | (simp; done) | (dsimp only; omega)) _) | (refine Same.drewN ?_ _) | (refine Same.drew ?_))), by subst hV; exact u1.read.as.same (by (with_reducible repeat' first | exact Same.refl _ _ _ | assumption | (refine Same.setCell ?_ (by first | omega | (simp; omega) | (simp; done) | (dsimp only; omega)) _) | (refine Same.alloc ?_ (by first | omega | (simp; omega) | (simp; done) | (dsimp only; omega)) _) | (refine Same.drewN ?_ _) | (refine Same.drew ?_))), by subst hV; simp⟩
  have hhY := hhX
  replace k0 := k0.same (Same.of_below hq hk0)
  replace hk0 := Nat.le_trans hk0 hq.size
  have hbw := hq
  clear hV hq z hb1 o1 u1
  clear H hy1 hnm
  have qFB0 := FB.cell (i := 0) rfl
  have qFB1 := FB.cell (i := 1) rfl
  have lFB := FB.lt
  have H := who_any A1 B1 A c1 d1 c klo khi bs 1 xs ys W1 k0 hk0 hl hbs (by omega) (by omega) hx1 hx40
  go_upto_region 5 with (go_at_call 25; (with_reducible refine H.mono ?_); rintro e wa ⟨a, ha, rfl, hq⟩)
  replace k0 := k0.same (Same.of_below hq hk0)
  replace hk0 := Nat.le_trans hk0 hq.size
  replace hX := hX.same (Same.of_below hq hhX)
  replace hhX := Nat.le_trans hhX hq.size
  replace hY := hY.same (Same.of_below hq hhY)
  replace hhY := Nat.le_trans hhY hq.size
  replace FB := FB.below hq FB.lt
  replace hbw := hbw.trans (hq.mono hbw.size)
  clear H hq qFB0 qFB1 lFB
  have qFB0 := FB.cell (i := 0) rfl
  have qFB1 := FB.cell (i := 1) rfl
  have lFB := FB.lt
  have H := who_any A1 B1 A c1 d1 c klo khi bs 2 xs ys wa k0 hk0 hl hbs (by omega) (by omega) hx1 hx40
  go_upto_region 6 with (go_at_call 25; (with_reducible refine H.mono ?_); rintro e wb ⟨b, hb, rfl, hq⟩)
  replace k0 := k0.same (Same.of_below hq hk0)
  replace hk0 := Nat.le_trans hk0 hq.size
  replace hX := hX.same (Same.of_below hq hhX)
  replace hhX := Nat.le_trans hhX hq.size
  replace hY := hY.same (Same.of_below hq hhY)
  replace hhY := Nat.le_trans hhY hq.size
  replace FB := FB.below hq FB.lt
  replace hbw := hbw.trans (hq.mono hbw.size)
  clear H hq qFB0 qFB1 lFB
  obtain ⟨⟨⟨te, tz⟩, ok⟩, hsm⟩ : ∃ m, shortM xs ys (a : Int) (b : Int) = m := ⟨_, rfl⟩
  have qFB0 := FB.cell (i := 0) rfl
  have qFB1 := FB.cell (i := 1) rfl
  have lFB := FB.lt
  have H := implShortestType_any A1 B1 c1 d1 hXlo hXhi xs ys a b wb hX hY hhX hdc hs
  rw [hsm] at H
  go_upto_region 7 with (go_at_call 26; (with_reducible refine H.mono ?_); rintro e w4 ⟨A4, c4, rfl, o4, hb4⟩)
  replace o4 : EStep.OS w4 wb.heap.size w4.heap.size (.slice A4 tz.length c4) tz := o4
  clear H qFB0 qFB1 lFB
  generalize hV : World.alloc w4 (.cells #[.int .i64 te, .slice A4 tz.length c4] 30) = W4
  obtain ⟨tb, hN⟩ : ∃ m, m = w4.heap.size := ⟨_, rfl⟩
  rw [← hN]
  have TB : Blk W4 tb 30 #[.int .i64 te, .slice A4 tz.length c4] := by subst hV; rw [hN]; exact Blk.new _ rfl
  clear hN
  have z := hb4.size
  have hq : Below wb.heap.size wb W4 := by subst hV; (with_reducible repeat' first | exact Below.refl _ _ | assumption | (refine Below.setCell ?_ (by first | omega | (simp; omega) | (simp; done) | (dsimp only; omega)) _) | (refine Below.alloc ?_ (by first | omega | (simp; omega) | (simp; done) | (dsimp only; omega)) _) | (refine below_drewN ?_ _) | (refine Below.drew ?_) | (refine Below.trans ?_ (hb4.mono (by first | omega | (simp; omega) | (simp; done) | (dsimp only; omega)))))
  obtain ⟨hTlo, hThi, hT, hhT⟩ : ∃ lo hi, EStep.AS W4 lo hi A4 tz ∧ hi ≤ W4.heap.size := ⟨_, _, by subst hV; exact o4.read.as.same (by (with_reducible repeat' first | exact Same.refl _ _ _ | assumption | (refine Same.setCell ?_ (by first | omega | (simp; omega) | (simp; done) | (dsimp only; omega)) _) | (refine Same.alloc ?_ (by first | omega | (simp; omega) | (simp; done) | (dsimp only; omega)) _) | (refine Same.drewN ?_ _) | (refine Same.drew ?_))), by subst hV; simp⟩
  replace k0 := k0.same (Same.of_below hq hk0)
  replace hk0 := Nat.le_trans hk0 hq.size
  replace hX := hX.same (Same.of_below hq hhX)
  replace hhX := Nat.le_trans hhX hq.size
  replace hY := hY.same (Same.of_below hq hhY)
  replace hhY := Nat.le_trans hhY hq.size
  replace FB := FB.below hq FB.lt
  replace hbw := hbw.trans (hq.mono hbw.size)
  clear hV hq z hb4 o4
  have qFB0 := FB.cell (i := 0) rfl
  have qFB1 := FB.cell (i := 1) rfl
  have lFB := FB.lt
  have qTB0 := TB.cell (i := 0) rfl
  have qTB1 := TB.cell (i := 1) rfl
  have lTB := TB.lt
  have H := specShortestType_any A1 B1 c1 d1 hXlo hXhi xs ys a b W4 hX hY hhX hs
  rw [hsm] at H
  have HSM := Lib.hid hsm; clear hsm
  go_upto_region 8 with (go_at_call 27; (with_reducible refine H.mono ?_); rintro e w5 ⟨A5, c5, rfl, o5, hb5⟩)
  clear H qFB0 qFB1 lFB qTB0 qTB1 lTB
  generalize hV : World.alloc w5 (.cells #[.int .i64 te, .slice A5 tz.length c5] 30) = W5
  obtain ⟨sb, hN⟩ : ∃ m, m = w5.heap.size := ⟨_, rfl⟩
  rw [← hN]
  have SB : Blk W5 sb 30 #[.int .i64 te, .slice A5 tz.length c5] := by subst hV; rw [hN]; exact Blk.new _ rfl
  clear hN
  have z := hb5.size
  have hq : Below W4.heap.size W4 W5 := by subst hV; (with_reducible repeat' first | exact Below.refl _ _ | assumption | (refine Below.setCell ?_ (by first | omega | (simp; omega) | (simp; done) | (dsimp only; omega)) _) | (refine Below.alloc ?_ (by first | omega | (simp; omega) | (simp; done) | (dsimp only; omega)) _) | (refine below_drewN ?_ _) | (refine Below.drew ?_) | (refine Below.trans ?_ (hb5.mono (by first | omega | (simp; omega) | (simp; done) | (dsimp only; omega)))))
  replace k0 := k0.same (Same.of_below hq hk0)
  replace hk0 := Nat.le_trans hk0 hq.size
  replace hX := hX.same (Same.of_below hq hhX)
  replace hhX := Nat.le_trans hhX hq.size
  replace hY := hY.same (Same.of_below hq hhY)
  replace hhY := Nat.le_trans hhY hq.size
  replace hT := hT.same (Same.of_below hq hhT)
  replace hhT := Nat.le_trans hhT hq.size
  replace FB := FB.below hq FB.lt
  replace TB := TB.below hq TB.lt
  replace hbw := hbw.trans (hq.mono hbw.size)
  clear hV hq z hb5
  clear SB o5
  have H := implTypesBetween_any A1 B1 c1 d1 hXlo hXhi xs ys a b 3 W5 hX hY hhX hdc hs
  cases ok with
  | false =>
    rw [short_no ha hb (by rw [HSM.out])] at H
    have qFB0 := FB.cell (i := 0) rfl
    have qFB1 := FB.cell (i := 1) rfl
    have lFB := FB.lt
    have qTB0 := TB.cell (i := 0) rfl
    have qTB1 := TB.cell (i := 1) rfl
    have lTB := TB.lt
    go_wp2_with (go_at_call 28; (with_reducible refine H.mono ?_); rintro e w6 ⟨A6, c6, rfl, _, hb6⟩)
    go_ret
    exact ⟨rfl, hbw.trans (hb6.mono hbw.size)⟩
  | true =>
    obtain ⟨hin, hzero, hall, hfirst⟩ := short_law ha hb (by rw [HSM.out])
    rw [HSM.out] at hin hzero hall hfirst
    obtain ⟨hbn, _⟩ := betwM_bounds xs ys a b 3
    generalize betwM xs ys (a : Int) (b : Int) 3 = ts at *
    have HA := Lib.hid hall; have HF := Lib.hid hfirst; have HZ := Lib.hid hzero; have HI := Lib.hid hin
    clear hall hfirst hzero hin
    have qFB0 := FB.cell (i := 0) rfl
    have qFB1 := FB.cell (i := 1) rfl
    have lFB := FB.lt
    have qTB0 := TB.cell (i := 0) rfl
    have qTB1 := TB.cell (i := 1) rfl
    have lTB := TB.lt
    go_upto_region 11 with (go_at_call 28; (with_reducible refine H.mono ?_); rintro e w6 ⟨A6, c6, rfl, o6, hb6⟩)
    obtain ⟨llo, lhi, hL, hhL⟩ : ∃ lo hi, EKin.AS w6 lo hi A6 ts ∧ hi ≤ w6.heap.size := ⟨_, _, o6.read.as, Nat.le_refl _⟩
    replace k0 := k0.same (Same.of_below hb6 hk0)
    replace hk0 := Nat.le_trans hk0 hb6.size
    replace hX := hX.same (Same.of_below hb6 hhX)
    replace hhX := Nat.le_trans hhX hb6.size
    replace hY := hY.same (Same.of_below hb6 hhY)
    replace hhY := Nat.le_trans hhY hb6.size
    replace hT := hT.same (Same.of_below hb6 hhT)
    replace hhT := Nat.le_trans hhT hb6.size
    replace FB := FB.below hb6 FB.lt
    replace TB := TB.below hb6 TB.lt
    replace hbw := hbw.trans (hb6.mono hbw.size)
    clear H hb6 o6 qFB0 qFB1 lFB qTB0 qTB1 lTB
    have H := implRelativesOf_any A1 B1 A4 c1 d1 c4 hXlo hXhi hTlo hThi xs ys te tz a w6 hX hY hT hhX hhT hdc hs
    have hin := HI.out
    generalize relsM xs ys (a : Int) ⟨te, tz⟩ = rs at hin H
    have HM := Lib.hid (memB_of hin); clear hin
    have htz := hT.le
    unfold BIG at htz
    have hgd : (((tz.length : Int) == 0) != ((a : Int) == (b : Int))) = false := by
      have hz := HZ.out
      by_cases e : a = b
      · have h0 := hz.2 e
        replace h0 : tz.length = 0 := h0
        subst e; rw [h0]; simp
      · have h0 : ¬ tz.length = 0 := fun k => e (hz.1 k)
        have e1 : ((tz.length : Int) == 0) = false := by rw [beq_eq_false_iff_ne]; omega
        have e2 : ((a : Int) == (b : Int)) = false := by rw [beq_eq_false_iff_ne]; omega
        rw [e1, e2]; rfl
    have hge : (((tz.length : Int) == 0) == ((a : Int) == (b : Int))) = true := by simpa using hgd
    have qFB0 := FB.cell (i := 0) rfl
    have qFB1 := FB.cell (i := 1) rfl
    have lFB := FB.lt
    have qTB0 := TB.cell (i := 0) rfl
    have qTB1 := TB.cell (i := 1) rfl
    have lTB := TB.lt
    go_upto_region 17 with (first
      | (go_at_call 30; go_loud (with_reducible refine H.mono ?_); rintro e w7 ⟨A7, c7, rfl, o7, hb7⟩; (have H2 := lawHas_any A7 c7 _ _ rs b w7 o7.read.as); rw [HM.out] at H2)
      | (go_at_call 29; go_loud (with_reducible refine H2.mono ?_); rintro e w8 ⟨rfl, rfl⟩))
    replace k0 := k0.same (Same.of_below hb7 hk0)
    replace hk0 := Nat.le_trans hk0 hb7.size
    replace hX := hX.same (Same.of_below hb7 hhX)
    replace hhX := Nat.le_trans hhX hb7.size
    replace hY := hY.same (Same.of_below hb7 hhY)
    replace hhY := Nat.le_trans hhY hb7.size
    replace hT := hT.same (Same.of_below hb7 hhT)
    replace hhT := Nat.le_trans hhT hb7.size
    replace hL := hL.same (Same.of_below hb7 hhL)
    replace hhL := Nat.le_trans hhL hb7.size
    replace FB := FB.below hb7 FB.lt
    replace TB := TB.below hb7 TB.lt
    replace hbw := hbw.trans (hb7.mono hbw.size)
    clear H H2 o7 hb7 hgd hge qFB0 qFB1 lFB qTB0 qTB1 lTB
    go_loopw [71] (fun i wr => ∃ k : Nat, k ≤ ts.length ∧ i = .int .i64 k ∧ Below w7.heap.size w7 wr) (fun i _ => ts.length - (intOf i).toNat)
    case atStart => exact ⟨0, Nat.zero_le _, rfl, Below.refl _ _⟩
    case round =>
      obtain ⟨k, hk, rfl, hbk⟩ := hrel
      replace k0 := k0.same (Same.of_below hbk hk0)
      replace hk0 := Nat.le_trans hk0 hbk.size
      replace hX := hX.same (Same.of_below hbk hhX)
      replace hhX := Nat.le_trans hhX hbk.size
      replace hY := hY.same (Same.of_below hbk hhY)
      replace hhY := Nat.le_trans hhY hbk.size
      replace hT := hT.same (Same.of_below hbk hhT)
      replace hhT := Nat.le_trans hhT hbk.size
      replace hL := hL.same (Same.of_below hbk hhL)
      replace hhL := Nat.le_trans hhL hbk.size
      replace FB := FB.below hbk FB.lt
      replace TB := TB.below hbk TB.lt
      replace hbw := hbw.trans (hbk.mono hbw.size)
      have zk := hbk.size
      by_cases hlt : k < ts.length
      · have i1 : (k : Int) < (ts.length : Int) := by omega
        obtain ⟨ub, uo, ⟨ue, uz⟩, A9, c9, rfl, _, hu2, _, hxk, hc0, hc1, hU⟩ := AKin.at_ hL hlt
        obtain ⟨hlen, hin⟩ := HA.out _ (List.mem_of_getElem? hxk)
        clear hxk
        simp only at hc0 hc1 hU hlen
        have hul := hU.le
        unfold BIG at hul
        have i2 : ¬ (uz.length : Int) < (tz.length : Int) := by omega
        have lub : ub < wr.heap.size := by omega
        have qFB0 := FB.cell (i := 0) rfl
        have qFB1 := FB.cell (i := 1) rfl
        have lFB := FB.lt
        have qTB0 := TB.cell (i := 0) rfl
        have qTB1 := TB.cell (i := 1) rfl
        have lTB := TB.lt
        go_upto_region 19 with fail
        generalize hV : World.alloc wr (.cells #[.int .i64 ue, .slice A9 uz.length c9] 30) = Wu
        obtain ⟨bb, hN⟩ : ∃ m, m = wr.heap.size := ⟨_, rfl⟩
        rw [← hN]
        have UB : Blk Wu bb 30 #[.int .i64 ue, .slice A9 uz.length c9] := by subst hV; rw [hN]; exact Blk.new _ rfl
        clear hN
        have hq : Below wr.heap.size wr Wu := by subst hV; (with_reducible repeat' first | exact Below.refl _ _ | assumption | (refine Below.setCell ?_ (by first | omega | (simp; omega) | (simp; done) | (dsimp only; omega)) _) | (refine Below.alloc ?_ (by first | omega | (simp; omega) | (simp; done) | (dsimp only; omega)) _) | (refine below_drewN ?_ _) | (refine Below.drew ?_))
        clear hV qFB0 qFB1 lFB qTB0 qTB1 lTB
        have hX2 := hX.same (Same.of_below hq hhX); have hY2 := hY.same (Same.of_below hq hhY); have hU2 := hU.same (Same.of_below hq hhL)
        have FB2 := FB.below hq FB.lt; have TB2 := TB.below hq TB.lt
        have H := implRelativesOf_any A1 B1 A9 c1 d1 c9 hXlo hXhi llo lhi xs ys ue uz a Wu hX2 hY2 hU2 (Nat.le_trans hhX hq.size) (Nat.le_trans hhL hq.size) hdc hs
        generalize relsM xs ys (a : Int) ⟨ue, uz⟩ = rs2 at hin H
        have HM2 := Lib.hid (memB_of hin); clear hin hlen
        have qFB20 := FB2.cell (i := 0) rfl
        have qFB21 := FB2.cell (i := 1) rfl
        have lFB2 := FB2.lt
        have qUB0 := UB.cell (i := 0) rfl
        have qUB1 := UB.cell (i := 1) rfl
        have lUB := UB.lt
        go_wp2_with (first
          | (go_at_call 30; (with_reducible refine H.mono ?_); rintro e w8 ⟨A8, c8, rfl, o8, hb8⟩; (have H2 := lawHas_any A8 c8 _ _ rs2 b w8 o8.read.as); rw [HM2.out] at H2)
          | (go_at_call 29; (with_reducible refine H2.mono ?_); rintro e w9 ⟨rfl, rfl⟩))
        exact ⟨⟨k + 1, by omega, by go_num, (hbk.trans (hq.mono zk)).trans (hb8.mono (Nat.le_trans zk hq.size))⟩, by simp [intOf]; omega⟩
      · have i1 : ¬ (k : Int) < (ts.length : Int) := by omega
        by_cases hn1 : tz.length < 1
        · have i2 : (tz.length : Int) < 1 := by omega
          go_wp2
          go_ret
          exact ⟨rfl, hbw⟩
        · by_cases hn3 : 3 < tz.length
          · have i2 : ¬ (tz.length : Int) < 1 := by omega
            have i3 : (3 : Int) < (tz.length : Int) := by omega
            go_wp2
            go_ret
            exact ⟨rfl, hbw⟩
          · have i2 : ¬ (tz.length : Int) < 1 := by omega
            have i3 : ¬ (3 : Int) < (tz.length : Int) := by omega
            obtain ⟨rr, hts⟩ := HF.out (by show 1 ≤ tz.length; omega) (by show tz.length ≤ 3; omega)
            have hl0 : 0 < ts.length := by rw [hts]; simp
            obtain ⟨ub, uo, ⟨ue, uz⟩, A9, c9, rfl, _, hu2, _, hxk, hc0, hc1, hU⟩ := AKin.at_ hL hl0
            rw [hts] at hxk
            injection hxk with hxk
            injection hxk with hxk1 hxk2
            subst hxk1; subst hxk2
            simp only [Nat.zero_mul, Nat.add_zero] at hc0 hc1 hU
            have HTS := Lib.hid hts; clear hts
            have i4 : (0 : Int) < (ts.length : Int) := by omega
            have H := specEqualTypes_any A9 A4 c9 c4 llo lhi hTlo hThi te te tz tz wr.drew (hU.same ⟨Nat.le_refl _, fun _ _ _ => rfl⟩) (hT.same ⟨Nat.le_refl _, fun _ _ _ => rfl⟩) hhL hhT
            rw [eqB_refl] at H
            go_upto_region 24 with fail
            have ct0 : wr.drew.cell? ⟨tb, 0, none⟩ = some (.int .i64 te) := TB.cell (i := 0) rfl
            have ct1 : wr.drew.cell? ⟨tb, 1, none⟩ = some (.slice A4 tz.length c4) := TB.cell (i := 1) rfl
            have cu0 : wr.drew.cell? ⟨ub, uo, none⟩ = some (.int .i64 te) := hc0
            have cu1 : wr.drew.cell? ⟨ub, uo + 1, none⟩ = some (.slice A9 tz.length c9) := hc1
            have lub : ub < wr.drew.heap.size := by show ub < wr.heap.size; omega
            have ltb : tb < wr.drew.heap.size := TB.lt
            refine wp_region_held_drew (S := fun w' => w'.cell? ⟨tb, 0, none⟩ = some (.int .i64 te) ∧ w'.cell? ⟨tb, 1, none⟩ = some (.slice A4 tz.length c4) ∧ w'.cell? ⟨ub, uo, none⟩ = some (.int .i64 te) ∧ w'.cell? ⟨ub, uo + 1, none⟩ = some (.slice A9 tz.length c9)) (by kernel_rfl) ⟨ct0, ct1, cu0, cu1⟩ (fun hHeld => ?_)
            refine wpAnyH_take (i := 0) (oi := { dst := some 96, op := _, type := _, pos := _, after := _, guard := _ }) (v := ?_) rfl (by kernel_rfl) (by kernel_rfl) (by kernel_rfl) (fun _ _ _ h => h) (Or.inl ⟨by rfl, ?_⟩) (by assumption) ?_; rotate_left; (intro w hSw; (try dsimp only at hSw); go_simp); (try with_reducible rfl); (try simp only [Act.put, List.setIfInBounds_toArray, List.set_cons_zero, List.set_cons_succ])
            refine wpAnyH_take (i := 1) (oi := { dst := some 97, op := _, type := _, pos := _, after := _, guard := _ }) (v := ?_) rfl (by kernel_rfl) (by kernel_rfl) (by kernel_rfl) (fun _ _ _ h => h) (Or.inl ⟨by rfl, ?_⟩) (by assumption) ?_; rotate_left; (intro w hSw; (try dsimp only at hSw); go_simp); (try with_reducible rfl); (try simp only [Act.put, List.setIfInBounds_toArray, List.set_cons_zero, List.set_cons_succ])
            refine wpAnyH_take (i := 2) (oi := { dst := some 98, op := _, type := _, pos := _, after := _, guard := _ }) (v := ?_) rfl (by kernel_rfl) (by kernel_rfl) (by kernel_rfl) (fun _ _ _ h => h) (Or.inl ⟨by rfl, ?_⟩) (by assumption) ?_; rotate_left; (intro w hSw; (try dsimp only at hSw); go_simp); (try with_reducible rfl); (try simp only [Act.put, List.setIfInBounds_toArray, List.set_cons_zero, List.set_cons_succ])
            refine wpAnyH_take (i := 3) (oi := { dst := some 99, op := _, type := _, pos := _, after := _, guard := _ }) (v := ?_) rfl (by kernel_rfl) (by kernel_rfl) (by kernel_rfl) (fun _ _ _ h => h) (Or.inl ⟨by rfl, ?_⟩) (by assumption) ?_; rotate_left; (intro w hSw; (try dsimp only at hSw); go_simp); (try with_reducible rfl); (try simp only [Act.put, List.setIfInBounds_toArray, List.set_cons_zero, List.set_cons_succ])
            refine wpAnyH_take (i := 4) (oi := { dst := some 100, op := _, type := _, pos := _, after := _, guard := _ }) (v := ?_) rfl (by kernel_rfl) (by kernel_rfl) (by kernel_rfl) (fun _ _ _ h => h) (Or.inl ⟨by rfl, ?_⟩) (by assumption) ?_; rotate_left; (intro w hSw; (try dsimp only at hSw); go_simp); (try with_reducible rfl); (try simp only [Act.put, List.setIfInBounds_toArray, List.set_cons_zero, List.set_cons_succ])
            refine wpAnyH_take (i := 5) (oi := { dst := some 101, op := _, type := _, pos := _, after := _, guard := _ }) (v := ?_) rfl (by kernel_rfl) (by kernel_rfl) (by kernel_rfl) (fun _ _ _ h => h) (Or.inl ⟨by rfl, ?_⟩) (by assumption) ?_; rotate_left; (intro w hSw; (try dsimp only at hSw); go_simp); (try with_reducible rfl); (try simp only [Act.put, List.setIfInBounds_toArray, List.set_cons_zero, List.set_cons_succ])
            refine wpAnyH_take (i := 6) (oi := { dst := some 102, op := _, type := _, pos := _, after := _, guard := _ }) (v := ?_) rfl (by kernel_rfl) (by kernel_rfl) (by kernel_rfl) (fun _ _ _ h => h) (Or.inl ⟨by rfl, ?_⟩) (by assumption) ?_; rotate_left; (intro w hSw; (try dsimp only at hSw); go_simp); (try with_reducible rfl); (try simp only [Act.put, List.setIfInBounds_toArray, List.set_cons_zero, List.set_cons_succ])
            refine wpAnyH_take (i := 7) (oi := { dst := some 103, op := _, type := _, pos := _, after := _, guard := _ }) (v := ?_) rfl (by kernel_rfl) (by kernel_rfl) (by kernel_rfl) (fun _ _ _ h => h) (Or.inl ⟨by rfl, ?_⟩) (by assumption) ?_; rotate_left; (intro w hSw; (try dsimp only at hSw); go_simp); (try with_reducible rfl); (try simp only [Act.put, List.setIfInBounds_toArray, List.set_cons_zero, List.set_cons_succ])
            refine wpAnyH_ready (rs := [8]) (by kernel_rfl) (by simp) ?_
            refine AllReadyH.cons (o := { dst := some 104, op := _, type := _, pos := _, after := _, guard := _ }) rfl (fun K hK => ?_) (AllReadyH.nil)
            go_simp
            (go_at_call 31; (with_reducible refine H.mono ?_); rintro e w9 ⟨rfl, hb9⟩)
            try go_wp2_with fail
            refine hK.out _ _ ⟨(hb9.cell (p := ⟨tb, 0, none⟩) ltb).trans ct0, (hb9.cell (p := ⟨tb, 1, none⟩) ltb).trans ct1, (hb9.cell (p := ⟨ub, uo, none⟩) lub).trans cu0, (hb9.cell (p := ⟨ub, uo + 1, none⟩) lub).trans cu1⟩ (fun hHeld => ?_)
            clear hK K; (try simp only [Act.put, List.setIfInBounds_toArray, List.set_cons_zero, List.set_cons_succ])
            refine wpAnyH_take (i := 9) (oi := { dst := some 105, op := _, type := _, pos := _, after := _, guard := _ }) (v := ?_) rfl (by kernel_rfl) (by kernel_rfl) (by kernel_rfl) (fun _ _ _ h => h) (Or.inl ⟨by rfl, ?_⟩) (by assumption) ?_; rotate_left; (intro w hSw; (try dsimp only at hSw); go_simp); (try with_reducible rfl); (try simp only [Act.put, List.setIfInBounds_toArray, List.set_cons_zero, List.set_cons_succ])
            refine wpAnyH_take (i := 10) (oi := { dst := some 2, op := _, type := _, pos := _, after := _, guard := _ }) (v := ?_) rfl (by kernel_rfl) (by kernel_rfl) (by kernel_rfl) (fun _ _ _ h => h) (Or.inl ⟨by rfl, ?_⟩) (by assumption) ?_; rotate_left; (intro w hSw; (try dsimp only at hSw); go_simp); (try with_reducible rfl); (try simp only [Act.put, List.setIfInBounds_toArray, List.set_cons_zero, List.set_cons_succ])
            refine wpAnyH_done (by kernel_rfl) ?_ _
            go_wp2_with fail
            go_ret
            exact ⟨rfl, hbw.trans ((undrew hb9).mono hbw.size)⟩
end Go.Proofs.Ytnnjilkjjdiblaa

namespace Go.Proofs.Ytnnjilkjjdiblaa
set_option maxRecDepth 100000
open Go.ChangeShapes Go.WideShapes Go.ChangeAt Go.RowKit

theorem FnShortest_all (A : Option Addr) (c n : Nat) (w : World) (k : n ≤ BIG → ∃ xs : List Int, xs.length = n ∧ EByte.AS w 0 w.heap.size A xs ∧ ∀ x ∈ xs, 0 ≤ x ∧ x ≤ 255) :
    Calls Try.prog 4 #[.slice A n c] w fun e w' => e = .returned (.bool true) ∧ Below w.heap.size w w' := by
  by_cases hl : n ≤ 1048576
  · obtain ⟨bs, rfl, hA, hb⟩ := k (by unfold BIG; omega)
    exact FnShortest_walk A c bs w hA hb
  · have hl2 : (1048576 : Int) < (n : Int) := by omega
    go_enter Try.func4, Try.ntmps4
    go_wp2
    go_ret
    exact ⟨rfl, Below.refl _ _⟩

set_option maxRecDepth 100000 in
theorem FnShortest_lifted (os : Os) (started : os.Started) (H : Type) (enc : TypeId × Value → H) :
    ReturnsInHanded {} Try.checked os 4 .any (Rows.fnShortestSpec.pre6 enc Try.prog Try.f4 Rows.fnShortestRow.domain false) (Rows.fnShortestSpec.post enc Try.prog Try.f4 false true false false) := by
  refine returnsInHanded_of_change_sized (C := Try.checked) own started (by kernel_rfl) Try.func4
    (ChangeSpec.witness6 (enc := enc) (C := Try.checked) false ⟨#[], #[.slice none 0 0], []⟩ 8 (by kernel_rfl) (by kernel_rfl) (by kernel_rfl) (by kernel_rfl)) ?_
  intro W base args ds gs before hval0 hW hcnd hsz0 _
  have hval : ∀ (j : Nat) t v, Try.f4.params[j]? = some t → args[j]? = some v → Value.okWide Try.prog W .any base t v := hval0
  have hW' := hW
  obtain ⟨p, q, hA0, hV, rfl, hfz, hnd⟩ := hW
  have hA : DataW.TrodAll enc Try.prog W 0 (fun _ => true) true Try.f4.params.toList args.toList ds p := hA0
  obtain ⟨rfl, rfl⟩ := trodVars_none hV
  have hsz : (DataW.weightsEach Try.prog Try.f4.params.toList ds).all (· ≤ reachBytes) = true := by
    have h := hsz0
    rw [List.append_nil] at h
    exact h
  rw [Try.params4] at hA hval hsz
  obtain ⟨v0, vs0, d0, ds0, p0, q0, hargs, rfl, rfl, j0, r0⟩ := trodAll_cons hA
  obtain ⟨rfl, rfl, rfl⟩ := trodAll_nil r0
  obtain rfl : args = #[v0] := Array.toList_inj.1 hargs
  obtain ⟨A0, c0, x0, rfl, k0⟩ := open_Bytes (hval 0 22 v0 rfl rfl) j0 (fits_of hsz (j := 0) rfl rfl)
  refine (FnShortest_all A0 c0 x0 W k0).mono fun e W' ⟨he, hb⟩ => ?_
  subst he
  exact ⟨_, rfl, law_post laidOut hW' rfl rfl rfl Try.underlying4 (by rw [Try.params4]; decide +kernel) hb⟩
theorem FnShortest_closed : joinedFacts Try.prog 4 Try.f4 Rows.fnShortestSpec Rows.fnShortestRow = true := by
  simp only [joinedFacts, Bool.and_eq_true]
  (with_reducible repeat' apply And.intro) <;> first | with_reducible exact f_laid | with_reducible exact f_maps | with_reducible exact f_heard | with_reducible exact f_enter | with_reducible exact f_lift _ rfl | with_reducible exact f_make _ rfl | (with_reducible refine f_lift _ ?_; rfl) | (with_reducible refine f_make _ ?_; rfl) | kernel_rfl
theorem FnShortest_holds : Rows.FnShortestSaid :=
  OpenClaim.holds_of_wide 4 Try.f4 rfl rfl rfl rfl rfl rfl rfl ⟨rfl, rfl, rfl, rfl, rfl⟩ rfl rfl rfl rfl rfl (by kernel_rfl) Try.func4 FnShortest_closed
    (of_decide_eq_true (by kernel_rfl)) (by unfold Func.isWrapper; first | (rw [if_pos (by decide +kernel)]; kernel_rfl) | (rw [if_neg (by decide +kernel)]; exact ⟨rfl, rfl⟩))
    (fun os started H enc _ => FnShortest_lifted os started H enc)
#print axioms FnShortest_holds
end Go.Proofs.Ytnnjilkjjdiblaa
