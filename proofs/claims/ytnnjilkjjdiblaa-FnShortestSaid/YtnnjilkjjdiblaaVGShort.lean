/-
  The shortest kin type between two persons: models, and that the reference's way and the program's way give the same steps. No program in sight.
  To whom a kin type leads from one person, in the program.
-/
import Derived.Test.YtnnjilkjjdiblaaVGLead
import Derived.Test.YtnnjilkjjdiblaaVGFrom
import Derived.Test.YtnnjilkjjdiblaaVReach
import Derived.Test.YtnnjilkjjdiblaaVTypesLaw
import Derived.Test.YtnnjilkjjdiblaaVWaysI
import Derived.Test.YtnnjilkjjdiblaaVRelvS
import Derived.Test.YtnnjilkjjdiblaaVGFamI
import Derived.Deep.Cut
import Derived.Deep.DeepCutAuto

/-! ## ShortM -/
namespace Go.Proofs.Ytnnjilkjjdiblaa
set_option maxRecDepth 100000
open Go.RowKit

section
variable (n : Nat) (L : Nat → Nat → Nat → Bool)
def hitAny (F : Nat → Int) (d : Int) (x : Nat) : Bool := (List.range 8).any fun i => (List.range n).any fun y => decide (F y = d) && L i x y
def gOf (F : Nat → Int) (d : Int) (h : Nat → Bool) : Nat → Int := fun x => if F x < 0 ∧ h x = true then d else F x
/-- How far each person is from b, after d rounds; -1 for whom no round has reached. -/
def farM (b : Nat) : Nat → Nat → Int
  | 0 => fun x => if x = b then 0 else -1
  | d + 1 => gOf (farM b d) ((d : Int) + 1) (hitAny n L (farM b d) (d : Int))
end
section
variable {n : Nat} {L : Nat → Nat → Nat → Bool} {b : Nat}
theorem hitAny_iff {F : Nat → Int} {d : Int} {x : Nat} : hitAny n L F d x = true ↔ ∃ i y, i < 8 ∧ y < n ∧ F y = d ∧ L i x y = true := by
  simp only [hitAny, List.any_eq_true, List.mem_range, Bool.and_eq_true, decide_eq_true_eq]
  constructor
  · rintro ⟨i, hi, y, hy, h1, h2⟩; exact ⟨i, y, hi, hy, h1, h2⟩
  · rintro ⟨i, y, hi, hy, h1, h2⟩; exact ⟨i, hi, y, hy, h1, h2⟩
theorem farM_le (x : Nat) : ∀ d : Nat, -1 ≤ farM n L b d x ∧ farM n L b d x ≤ d := by
  intro d
  induction d with
  | zero => simp only [farM]; split <;> omega
  | succ d ih =>
    simp only [farM, gOf]
    split <;> omega
theorem farM_keep {x d : Nat} (h : 0 ≤ farM n L b d x) : farM n L b (d + 1) x = farM n L b d x := by
  simp only [farM, gOf]; rw [if_neg (by omega)]
theorem farM_old {x d : Nat} {v : Int} (h : farM n L b (d + 1) x = v) (_h0 : 0 ≤ v) (hv : v ≤ d) : farM n L b d x = v := by
  simp only [farM, gOf] at h
  split at h
  · omega
  · exact h
theorem farM_step {x y i : Nat} {v : Int} (hy : y < n) (hi : i < 8) (hL : L i x y = true) : ∀ {d : Nat}, farM n L b d y = v → 0 ≤ v → v < d → 0 ≤ farM n L b d x ∧ farM n L b d x ≤ v + 1 := by
  intro d
  induction d with
  | zero => intro h h0 h1; omega
  | succ d ih =>
    intro h h0 h1
    have ho := farM_old h h0 (by omega)
    by_cases hvd : v < d
    · obtain ⟨k1, k2⟩ := ih ho h0 hvd
      rw [farM_keep k1]; exact ⟨k1, k2⟩
    · have hle := farM_le (n := n) (L := L) (b := b) x d
      by_cases hx : 0 ≤ farM n L b d x
      · rw [farM_keep hx]; omega
      · have hh : hitAny n L (farM n L b d) (d : Int) x = true := hitAny_iff.2 ⟨i, y, hi, hy, by omega, hL⟩
        simp only [farM, gOf]
        rw [if_pos ⟨by omega, hh⟩]; omega
theorem farM_from {x : Nat} {v : Int} : ∀ {d : Nat}, farM n L b d x = v → 1 ≤ v → ∃ i y, i < 8 ∧ y < n ∧ farM n L b d y = v - 1 ∧ L i x y = true := by
  intro d
  induction d with
  | zero =>
    intro h h1
    simp only [farM] at h
    split at h <;> omega
  | succ d ih =>
    intro h h1
    by_cases hc : farM n L b d x < 0 ∧ hitAny n L (farM n L b d) (d : Int) x = true
    · obtain ⟨i, y, hi, hy, h2, h3⟩ := hitAny_iff.1 hc.2
      simp only [farM, gOf] at h
      rw [if_pos hc] at h
      exact ⟨i, y, hi, hy, by rw [farM_keep (by omega)]; omega, h3⟩
    · have hx : farM n L b d x = v := by
        simp only [farM, gOf] at h
        rw [if_neg hc] at h; exact h
      obtain ⟨i, y, hi, hy, h2, h3⟩ := ih hx h1
      exact ⟨i, y, hi, hy, by rw [farM_keep (by omega)]; exact h2, h3⟩

/-! ### The steps that lead there -/
def hitsB (F : Nat → Int) (l : Int) (n : Nat) (q : Nat → Bool) : Bool := (List.range n).any fun x => q x && decide (F x = l)
theorem hitsB_iff {F : Nat → Int} {l : Int} {q : Nat → Bool} : hitsB F l n q = true ↔ ∃ x, x < n ∧ q x = true ∧ F x = l := by
  simp [hitsB]
def atS (n : Nat) (L : Nat → Nat → Nat → Bool) (F : Nat → Int) (l : Int) (q : Nat → Bool) (i : Nat) : Nat → Bool := fun x => reachP n q (L i) x && decide (F x = l)
/-- The reference's way: only who is as far as he should be is followed. -/
def pathS (n : Nat) (L : Nat → Nat → Nat → Bool) (F : Nat → Int) : Nat → (Nat → Bool) → List Step
  | 0, _ => []
  | l + 1, q => match (List.range 8).find? fun i => hitsB F l n (reachP n q (L i)) with
    | some i => kindS i :: pathS n L F l (atS n L F l q i)
    | none => pathS n L F l q
/-- The program's way: everybody is followed. -/
def pathI (n : Nat) (L : Nat → Nat → Nat → Bool) (F : Nat → Int) : Nat → (Nat → Bool) → List Step
  | 0, _ => []
  | l + 1, q => match (List.range 8).find? fun i => hitsB F l n (reachP n q (L i)) with
    | some i => kindS i :: pathI n L F l (reachP n q (L i))
    | none => pathI n L F l q
theorem find_some {P : Nat → Bool} {i : Nat} (hi : i < 8) (h : P i = true) (hb : ∀ j, j < i → P j = false) : (List.range 8).find? P = some i := by
  have e : ∀ m, (List.range m).find? P = if i < m then some i else none := by
    intro m
    induction m with
    | zero => rfl
    | succ m ih =>
      rw [List.range_succ, List.find?_append, ih]
      by_cases h1 : i < m
      · rw [if_pos h1, if_pos (by omega)]; rfl
      · rw [if_neg h1]
        by_cases h2 : i = m
        · subst h2; rw [if_pos (by omega)]; simp [h]
        · rw [if_neg (by omega)]
          simp [hb m (by omega)]
  rw [e 8, if_pos hi]
theorem find_none {P : Nat → Bool} (hb : ∀ j, j < 8 → P j = false) : (List.range 8).find? P = none := by
  rw [List.find?_eq_none]
  intro j hj
  rw [hb j (List.mem_range.1 hj)]; simp
theorem find_congr {P Q : Nat → Bool} (h : ∀ i, i < 8 → P i = Q i) : (List.range 8).find? P = (List.range 8).find? Q := by
  have e : ∀ l : List Nat, (∀ i ∈ l, i < 8) → l.find? P = l.find? Q := by
    intro l
    induction l with
    | nil => intro _; rfl
    | cons x r ih =>
      intro hl
      rw [List.find?_cons, List.find?_cons, h x (hl x (by simp)), ih fun i hi => hl i (by simp [hi])]
  exact e _ fun i hi => List.mem_range.1 hi
theorem reachP_iff {q : Nat → Bool} {M : Nat → Nat → Bool} {x : Nat} : reachP n q M x = true ↔ ∃ y, y < n ∧ q y = true ∧ M y x = true := by simp [reachP]
theorem path_eq {F : Nat → Int} (hF : ∃ b, F = farM n L b 8) : ∀ (l : Nat) (S U : Nat → Bool), l ≤ 8 → (∀ x, x < n → S x = (U x && decide (F x = (l : Int)))) → (∀ x, x < n → U x = true → 0 ≤ F x → (l : Int) ≤ F x) → (∃ x, x < n ∧ S x = true) →
    pathS n L F l S = pathI n L F l U := by
  obtain ⟨b, rfl⟩ := hF
  intro l
  induction l with
  | zero => intros; rfl
  | succ l ih =>
    intro S U hl ha hb hc
    have hSU : ∀ x, x < n → S x = true → U x = true ∧ farM n L b 8 x = ((l + 1 : Nat) : Int) := fun x hx h => by
      rw [ha x hx] at h
      simpa using h
    -- who is reached at the distance l is reached from S
    have key : ∀ i q, i < 8 → q < n → farM n L b 8 q = (l : Int) → reachP n S (L i) q = reachP n U (L i) q := fun i q hi hq hf => by
      rw [Bool.eq_iff_iff, reachP_iff, reachP_iff]
      constructor
      · rintro ⟨p, hp, h1, h2⟩; exact ⟨p, hp, (hSU p hp h1).1, h2⟩
      · rintro ⟨p, hp, h1, h2⟩
        obtain ⟨k1, k2⟩ := farM_step (n := n) (L := L) (b := b) (v := (l : Int)) hq hi h2 hf (by omega) (by omega)
        have k3 := hb p hp h1 k1
        refine ⟨p, hp, ?_, h2⟩
        rw [ha p hp, h1]; simp; omega
    have hfind : ((List.range 8).find? fun i => hitsB (farM n L b 8) l n (reachP n S (L i))) = (List.range 8).find? fun i => hitsB (farM n L b 8) l n (reachP n U (L i)) := by
      refine find_congr fun i hi => ?_
      rw [Bool.eq_iff_iff, hitsB_iff, hitsB_iff]
      constructor
      · rintro ⟨x, hx, h1, h2⟩; exact ⟨x, hx, by rw [← key i x hi hx h2]; exact h1, h2⟩
      · rintro ⟨x, hx, h1, h2⟩; exact ⟨x, hx, by rw [key i x hi hx h2]; exact h1, h2⟩
    simp only [pathS, pathI]
    rw [← hfind]
    cases hfd : (List.range 8).find? fun i => hitsB (farM n L b 8) l n (reachP n S (L i)) with
    | none =>
      -- there is somebody at the distance l + 1, so a step leads on
      exfalso
      obtain ⟨x, hx, hS⟩ := hc
      obtain ⟨_, hfx⟩ := hSU x hx hS
      obtain ⟨i, y, hi, hy, h1, h2⟩ := farM_from hfx (by omega)
      rw [List.find?_eq_none] at hfd
      have := hfd i (List.mem_range.2 hi)
      exact this (hitsB_iff.2 ⟨y, hy, reachP_iff.2 ⟨x, hx, hS, h2⟩, by rw [h1]; omega⟩)
    | some i =>
      have hi : i < 8 := List.mem_range.1 (List.mem_of_find?_eq_some hfd)
      have hP := List.find?_some hfd
      simp only
      congr 1
      refine ih _ _ (by omega) (fun x hx => ?_) (fun x hx h1 h2 => ?_) ?_
      · unfold atS
        by_cases hf : farM n L b 8 x = (l : Int)
        · rw [key i x hi hx hf]
        · simp [hf]
      · obtain ⟨p, hp, k1, k2⟩ := reachP_iff.1 h1
        have hle := farM_le (n := n) (L := L) (b := b) x 8
        rcases Nat.lt_or_ge 0 1 with _ | h
        · by_cases hlt : farM n L b 8 x < (l : Int)
          · obtain ⟨m1, m2⟩ := farM_step (n := n) (L := L) (b := b) (v := farM n L b 8 x) hx hi k2 rfl h2 (by omega)
            have := hb p hp k1 m1
            omega
          · omega
        · omega
      · obtain ⟨x, hx, k1, k2⟩ := hitsB_iff.1 hP
        exact ⟨x, hx, by unfold atS; rw [k1]; simp [k2]⟩
end
def leadK (xs : List Person) (ys : List Union) : Nat → Nat → Nat → Bool := fun i a b => leadM xs ys (kindS i) a b
def awayM (xs : List Person) (ys : List Union) (b : Nat) : Nat → Int := farM xs.length (leadK xs ys) b 8
def onlyP (a : Nat) : Nat → Bool := fun x => decide (x = a)
def shortM (xs : List Person) (ys : List Union) (a b : Int) : KinType × Bool :=
  if hasOk xs ys a = true ∧ hasOk xs ys b = true ∧ 0 ≤ awayM xs ys b.toNat a.toNat then
    (⟨sexAt xs a.toNat, pathS xs.length (leadK xs ys) (awayM xs ys b.toNat) (awayM xs ys b.toNat a.toNat).toNat (onlyP a.toNat)⟩, true)
  else (zeroT, false)
theorem short_path (xs : List Person) (ys : List Union) {a b : Nat} (ha : a < xs.length) (h : 0 ≤ awayM xs ys b a) :
    pathS xs.length (leadK xs ys) (awayM xs ys b) (awayM xs ys b a).toNat (onlyP a) = pathI xs.length (leadK xs ys) (awayM xs ys b) (awayM xs ys b a).toNat (onlyP a) := by
  have hle := farM_le (n := xs.length) (L := leadK xs ys) (b := b) a 8
  have e : ∀ x, awayM xs ys b x = farM xs.length (leadK xs ys) b 8 x := fun _ => rfl
  rw [e] at h
  have e' : awayM xs ys b = farM xs.length (leadK xs ys) b 8 := rfl
  rw [e']
  refine path_eq ⟨b, rfl⟩ _ _ _ (by omega) (fun x hx => ?_) (fun x hx h1 h2 => ?_) ⟨a, ha, by simp [onlyP]⟩
  · by_cases hxa : x = a
    · subst hxa; simp [onlyP]; omega
    · simp [onlyP, hxa]
  · have : x = a := by simpa [onlyP] using h1
    subst this; omega
end Go.Proofs.Ytnnjilkjjdiblaa

/-! ## RelvI -/
namespace Go.Proofs.Ytnnjilkjjdiblaa
set_option maxRecDepth 100000
open Go.RowKit

theorem relationForP_any (A B D : Option Addr) (c d e lo hi lo' hi' : Nat) (xs : List Person) (ys : List Union) (ego : Int) (zs : List Step) (w : World) (h : EPerson.AS w lo hi A xs) (h' : EUnion.AS w lo hi B ys) (h'' : EStep.AS w lo' hi' D zs) (hh : hi ≤ w.heap.size) (hh' : hi' ≤ w.heap.size) (hdc : ys.length ≤ d ∧ d ≤ maxLen) (hs : totP xs ≤ 1048576)
    (ho : famOk xs ys = true) (ht : typeOk ⟨ego, zs⟩ = true) :
    Calls Try.prog 23 #[.agg #[.slice A xs.length c, .slice B ys.length d], .agg #[.int .i64 ego, .slice D zs.length e]] w fun e w' => ∃ A' c', e = .returned (.agg #[.int .i64 xs.length, .slice A' xs.length c']) ∧
      EIntS.OS w' w.heap.size w'.heap.size (.slice A' xs.length c') (relM xs.length (waysP xs ys ⟨ego, zs⟩ zs.length)) ∧ Below w.heap.size w w' := by
  have H := implRelationFor_any A B D c d e lo hi lo' hi' xs ys ego zs w h h' h'' hh hh' hdc hs
  rw [relForM_in ho ht] at H
  refine H.mono ?_
  rintro e w' ⟨A', c', rfl, ho', hb⟩
  exact ⟨A', c', by simp only [relM_len], by simpa only [relM_len] using ho', hb⟩
theorem rel_field (n v : Value) (w : World) : (Instr.field 38 (.agg #[n, v]) 1).run Try.prog w = .ok v w := by rfl
/-- One row of a relation that the call owns. -/
theorem row_own {w : World} {lo hi n c p : Nat} {A : Option Addr} {P : Nat → Nat → Bool} (h : EIntS.OS w lo hi (.slice A n c) (relM n P)) (hp : p < n) (hhs : hi ≤ w.heap.size) :
    ∃ g A1 c1, A = some ⟨g, 0, none⟩ ∧ lo ≤ g ∧ g < hi ∧ w.cell? ⟨g, p, none⟩ = some (.slice A1 (idxTo (P p) n).length c1) ∧ EInt.OS w lo hi (.slice A1 (idxTo (P p) n).length c1) (idxTo (P p) n) := by
  obtain ⟨g, c', x, cs, hv, g1, g2, g3, hx, ⟨v, rfl, hv1⟩, hcell, _, _⟩ := h.elem (i := p) (by rw [relM_len]; exact hp) hhs
  injection hv with hv _ _
  subst hv
  rw [relM_at P hp] at hx
  injection hx with hx
  subst hx
  obtain ⟨A1, c1, rfl, _, _, _⟩ := hv1.read.open_
  have h2 := (hcell 0 _ rfl).1
  simp only [EIntS, Elem.slice, Nat.mul_one, Nat.add_zero] at h2
  exact ⟨g, A1, c1, rfl, g1, g2, h2, hv1⟩

set_option maxHeartbeats 4000000 in
theorem implRelativesOf_any (A B D : Option Addr) (c d e lo hi lo' hi' : Nat) (xs : List Person) (ys : List Union) (ego : Int) (zs : List Step) (p : Int) (w : World) (h : EPerson.AS w lo hi A xs) (h' : EUnion.AS w lo hi B ys) (h'' : EStep.AS w lo' hi' D zs) (hh : hi ≤ w.heap.size) (hh' : hi' ≤ w.heap.size) (hdc : ys.length ≤ d ∧ d ≤ maxLen) (hs : totP xs ≤ 1048576) :
    Calls Try.prog 30 #[.agg #[.slice A xs.length c, .slice B ys.length d], .int .i64 p, .agg #[.int .i64 ego, .slice D zs.length e]] w (RetIntS w (relsM xs ys p ⟨ego, zs⟩)) := by
  cases ho : hasOk xs ys p with
  | false =>
    have HO := Lib.hid ho
    have HN := Lib.hid (relsM_has (t := ⟨ego, zs⟩) ho)
    clear ho
    rw [HN.out]
    go_enter Try.func30, Try.ntmps30
    go_wp2_with (go_at_call 101; refine (has_any _ _ _ _ lo hi xs ys (some ⟨w.heap.size + 1 + 1, 0, none⟩) _ _ _ [p] _ (h.same (by (with_reducible repeat' first | exact Same.refl _ _ _ | assumption | (refine Same.setCell ?_ (by first | omega | (simp; omega) | (simp; done) | (dsimp only; omega)) _) | (refine Same.alloc ?_ (by first | omega | (simp; omega) | (simp; done) | (dsimp only; omega)) _) | (refine Same.drewN ?_ _) | (refine Same.drew ?_)))) (h'.same (by (with_reducible repeat' first | exact Same.refl _ _ _ | assumption | (refine Same.setCell ?_ (by first | omega | (simp; omega) | (simp; done) | (dsimp only; omega)) _) | (refine Same.alloc ?_ (by first | omega | (simp; omega) | (simp; done) | (dsimp only; omega)) _) | (refine Same.drewN ?_ _) | (refine Same.drew ?_)))) (by first | omega | (simp; omega) | (simp; done) | (dsimp only; omega)) hdc hs (ints_as' _ _ [p] (by simp) (by simp [BIG]) _ (by simp)) (by first | omega | (simp; omega) | (simp; done) | (dsimp only; omega))).mono ?_; rintro e w1 ⟨rfl, hb1⟩; simp only [hasOk_all, HO.out]; (obtain ⟨hb1c, hb1f⟩ := bcell hb1); (have hb1z := hb1.size); (try simp only [szs] at hb1c hb1f hb1z); have lt1 : w.heap.size < w1.heap.size := (by omega))
    go_ret
    exact ⟨none, 0, rfl, Elem.OS.nil, by (with_reducible repeat' first | exact Below.refl _ _ | assumption | (refine Below.setCell ?_ (by first | omega | (simp; omega) | (simp; done) | (dsimp only; omega)) _) | (refine Below.alloc ?_ (by first | omega | (simp; omega) | (simp; done) | (dsimp only; omega)) _) | (refine below_drewN ?_ _) | (refine Below.drew ?_) | (refine Below.trans ?_ (hb1.mono (by first | omega | (simp; omega) | (simp; done) | (dsimp only; omega)))))⟩
  | true =>
    have HO := Lib.hid ho
    obtain ⟨hfam, p1, p2⟩ := hasOk_fam ho
    have hn := (famOk_parts hfam).1
    cases ht : typeOk ⟨ego, zs⟩ with
    | false =>
      have HT := Lib.hid ht
      have HN := Lib.hid (relsM_typ (xs := xs) (ys := ys) (p := p) ht)
      clear ho ht hfam
      rw [HN.out]
      go_enter Try.func30, Try.ntmps30
      go_wp2_with (first
        | (go_at_call 101; refine (has_any _ _ _ _ lo hi xs ys (some ⟨w.heap.size + 1 + 1, 0, none⟩) _ _ _ [p] _ (h.same (by (with_reducible repeat' first | exact Same.refl _ _ _ | assumption | (refine Same.setCell ?_ (by first | omega | (simp; omega) | (simp; done) | (dsimp only; omega)) _) | (refine Same.alloc ?_ (by first | omega | (simp; omega) | (simp; done) | (dsimp only; omega)) _) | (refine Same.drewN ?_ _) | (refine Same.drew ?_)))) (h'.same (by (with_reducible repeat' first | exact Same.refl _ _ _ | assumption | (refine Same.setCell ?_ (by first | omega | (simp; omega) | (simp; done) | (dsimp only; omega)) _) | (refine Same.alloc ?_ (by first | omega | (simp; omega) | (simp; done) | (dsimp only; omega)) _) | (refine Same.drewN ?_ _) | (refine Same.drew ?_)))) (by first | omega | (simp; omega) | (simp; done) | (dsimp only; omega)) hdc hs (ints_as' _ _ [p] (by simp) (by simp [BIG]) _ (by simp)) (by first | omega | (simp; omega) | (simp; done) | (dsimp only; omega))).mono ?_; rintro e w1 ⟨rfl, hb1⟩; simp only [hasOk_all, HO.out]; (obtain ⟨hb1c, hb1f⟩ := bcell hb1); (have hb1z := hb1.size); (try simp only [szs] at hb1c hb1f hb1z); (have lt1 : w.heap.size < w1.heap.size := (by omega)); (have lu1 : w.heap.size + 1 < w1.heap.size := (by omega)))
        | (go_at_call 86; (with_reducible refine (implIsType_any ego _ _ _ _ zs _ (h''.same (by (with_reducible repeat' first | exact Same.refl _ _ _ | assumption | (refine Same.setCell ?_ (by first | omega | (simp; omega) | (simp; done) | (dsimp only; omega)) _) | (refine Same.alloc ?_ (by first | omega | (simp; omega) | (simp; done) | (dsimp only; omega)) _) | (refine Same.drewN ?_ _) | (refine Same.drew ?_) | (refine Same.trans ?_ (Same.of_below hb1 (by first | omega | (simp; omega) | (simp; done) | (dsimp only; omega))))))) (by first | omega | (simp; omega) | (simp; done) | (dsimp only; omega))).mono ?_); rintro e w2 ⟨rfl, hb2⟩; simp only [HT.out]; (obtain ⟨hb2c, hb2f⟩ := bcell hb2); (have hb2z := hb2.size); (try simp only [szs] at hb2c hb2f hb2z)))
      go_ret
      exact ⟨none, 0, rfl, Elem.OS.nil, by (with_reducible repeat' first | exact Below.refl _ _ | assumption | (refine Below.setCell ?_ (by first | omega | (simp; omega) | (simp; done) | (dsimp only; omega)) _) | (refine Below.alloc ?_ (by first | omega | (simp; omega) | (simp; done) | (dsimp only; omega)) _) | (refine below_drewN ?_ _) | (refine Below.drew ?_) | (refine Below.trans ?_ (hb2.mono (by first | omega | (simp; omega) | (simp; done) | (dsimp only; omega)))) | (refine Below.trans ?_ (hb1.mono (by first | omega | (simp; omega) | (simp; done) | (dsimp only; omega)))))⟩
    | true =>
      obtain ⟨p, rfl⟩ := Int.eq_ofNat_of_zero_le p1
      have hp : p < xs.length := by omega
      have HF := Lib.hid hfam
      have HT := Lib.hid ht
      have HN := Lib.hid (relsM_in ho ht)
      clear ho ht hfam
      rw [HN.out]
      have hfd := rel_field
      go_enter Try.func30, Try.ntmps30
      go_wp2_with (first
        | (go_at_call 101; refine (has_any _ _ _ _ lo hi xs ys (some ⟨w.heap.size + 1 + 1, 0, none⟩) _ _ _ [(p : Int)] _ (h.same (by (with_reducible repeat' first | exact Same.refl _ _ _ | assumption | (refine Same.setCell ?_ (by first | omega | (simp; omega) | (simp; done) | (dsimp only; omega)) _) | (refine Same.alloc ?_ (by first | omega | (simp; omega) | (simp; done) | (dsimp only; omega)) _) | (refine Same.drewN ?_ _) | (refine Same.drew ?_)))) (h'.same (by (with_reducible repeat' first | exact Same.refl _ _ _ | assumption | (refine Same.setCell ?_ (by first | omega | (simp; omega) | (simp; done) | (dsimp only; omega)) _) | (refine Same.alloc ?_ (by first | omega | (simp; omega) | (simp; done) | (dsimp only; omega)) _) | (refine Same.drewN ?_ _) | (refine Same.drew ?_)))) (by first | omega | (simp; omega) | (simp; done) | (dsimp only; omega)) hdc hs (ints_as' _ _ [(p : Int)] (by simp) (by simp [BIG]) _ (by simp)) (by first | omega | (simp; omega) | (simp; done) | (dsimp only; omega))).mono ?_; rintro e w1 ⟨rfl, hb1⟩; simp only [hasOk_all, HO.out]; (obtain ⟨hb1c, hb1f⟩ := bcell hb1); (have hb1z := hb1.size); (try simp only [szs] at hb1c hb1f hb1z); (have lt1 : w.heap.size < w1.heap.size := (by omega)); (have lu1 : w.heap.size + 1 < w1.heap.size := (by omega)))
        | (go_at_call 86; (with_reducible refine (implIsType_any ego _ _ _ _ zs _ (h''.same (by (with_reducible repeat' first | exact Same.refl _ _ _ | assumption | (refine Same.setCell ?_ (by first | omega | (simp; omega) | (simp; done) | (dsimp only; omega)) _) | (refine Same.alloc ?_ (by first | omega | (simp; omega) | (simp; done) | (dsimp only; omega)) _) | (refine Same.drewN ?_ _) | (refine Same.drew ?_) | (refine Same.trans ?_ (Same.of_below hb1 (by first | omega | (simp; omega) | (simp; done) | (dsimp only; omega))))))) (by first | omega | (simp; omega) | (simp; done) | (dsimp only; omega))).mono ?_); rintro e w2 ⟨rfl, hb2⟩; simp only [HT.out]; (obtain ⟨hb2c, hb2f⟩ := bcell hb2); (have hb2z := hb2.size); (try simp only [szs] at hb2c hb2f hb2z); (have lt2 : w.heap.size < w2.heap.size := (by omega)); (have lu2 : w.heap.size + 1 < w2.heap.size := (by omega)))
        | (go_at_call 23; (with_reducible refine (relationForP_any _ _ _ _ _ _ lo hi lo' hi' xs ys ego zs _ (h.same (by (with_reducible repeat' first | exact Same.refl _ _ _ | assumption | (refine Same.setCell ?_ (by first | omega | (simp; omega) | (simp; done) | (dsimp only; omega)) _) | (refine Same.alloc ?_ (by first | omega | (simp; omega) | (simp; done) | (dsimp only; omega)) _) | (refine Same.drewN ?_ _) | (refine Same.drew ?_) | (refine Same.trans ?_ (Same.of_below hb2 (by first | omega | (simp; omega) | (simp; done) | (dsimp only; omega)))) | (refine Same.trans ?_ (Same.of_below hb1 (by first | omega | (simp; omega) | (simp; done) | (dsimp only; omega))))))) (h'.same (by (with_reducible repeat' first | exact Same.refl _ _ _ | assumption | (refine Same.setCell ?_ (by first | omega | (simp; omega) | (simp; done) | (dsimp only; omega)) _) | (refine Same.alloc ?_ (by first | omega | (simp; omega) | (simp; done) | (dsimp only; omega)) _) | (refine Same.drewN ?_ _) | (refine Same.drew ?_) | (refine Same.trans ?_ (Same.of_below hb2 (by first | omega | (simp; omega) | (simp; done) | (dsimp only; omega)))) | (refine Same.trans ?_ (Same.of_below hb1 (by first | omega | (simp; omega) | (simp; done) | (dsimp only; omega))))))) (h''.same (by (with_reducible repeat' first | exact Same.refl _ _ _ | assumption | (refine Same.setCell ?_ (by first | omega | (simp; omega) | (simp; done) | (dsimp only; omega)) _) | (refine Same.alloc ?_ (by first | omega | (simp; omega) | (simp; done) | (dsimp only; omega)) _) | (refine Same.drewN ?_ _) | (refine Same.drew ?_) | (refine Same.trans ?_ (Same.of_below hb2 (by first | omega | (simp; omega) | (simp; done) | (dsimp only; omega)))) | (refine Same.trans ?_ (Same.of_below hb1 (by first | omega | (simp; omega) | (simp; done) | (dsimp only; omega))))))) (by first | omega | (simp; omega) | (simp; done) | (dsimp only; omega)) (by first | omega | (simp; omega) | (simp; done) | (dsimp only; omega)) hdc hs HF.out HT.out).mono ?_); rintro e w3 ⟨A3, c3, rfl, ho3, hb3⟩; (obtain ⟨hb3c, hb3f⟩ := bcell hb3); (have hb3z := hb3.size); (try simp only [szs] at hb3c hb3f hb3z); obtain ⟨g, A4, c4, rfl, g1, g2, q1, ho4⟩ := row_own ho3 hp (Nat.le_refl _)))
      go_ret
      exact ⟨A4, c4, rfl, ho4.mono (by first | omega | (simp; omega) | (simp; done) | (dsimp only; omega)) (Nat.le_refl _), by (with_reducible repeat' first | exact Below.refl _ _ | assumption | (refine Below.setCell ?_ (by first | omega | (simp; omega) | (simp; done) | (dsimp only; omega)) _) | (refine Below.alloc ?_ (by first | omega | (simp; omega) | (simp; done) | (dsimp only; omega)) _) | (refine below_drewN ?_ _) | (refine Below.drew ?_) | (refine Below.trans ?_ (hb3.mono (by first | omega | (simp; omega) | (simp; done) | (dsimp only; omega)))) | (refine Below.trans ?_ (hb2.mono (by first | omega | (simp; omega) | (simp; done) | (dsimp only; omega)))) | (refine Below.trans ?_ (hb1.mono (by first | omega | (simp; omega) | (simp; done) | (dsimp only; omega)))))⟩
end Go.Proofs.Ytnnjilkjjdiblaa
