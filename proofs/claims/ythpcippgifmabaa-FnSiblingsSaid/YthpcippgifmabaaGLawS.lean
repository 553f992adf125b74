/-
  Small functions of the laws: a person of a family, and whether a number is in a list.
  Siblings: the plain law.
  The law FnSiblings: the walk.
-/
import Derived.Test.YthpcippgifmabaaVil
import Derived.Deep.DeepCutAuto
import Derived.Deep.RegionHeld3
import Derived.Test.YthpcippgifmabaaGSort
import Derived.Test.YthpcippgifmabaaSibM
import Derived.Test.YthpcippgifmabaaGFam
import Derived.Test.YthpcippgifmabaaSibJ
import Derived.Test.YthpcippgifmabaaSibS
import Derived.Test.YthpcippgifmabaaGFamI
import Derived.Test.YthpcippgifmabaaOpen

/-! ## Who2 -/
namespace Go.Proofs.Ythpcippgifmabaa
set_option maxRecDepth 100000
open Go.RowKit

def memB (xs : List Int) (x : Int) : Bool := decide (x ∈ xs)
theorem memB_of {xs : List Int} {x : Int} (h : x ∈ xs) : memB xs x = true := decide_eq_true h
theorem lawHas_any (A : Option Addr) (c lo hi : Nat) (xs : List Int) (x : Int) (w : World) (h : EInt.AS w lo hi A xs) :
    Calls Try.prog 11 #[.slice A xs.length c, .int .i64 x] w fun e w' => e = .returned (.bool (memB xs x)) ∧ w = w' := by
  have hx := h.le
  unfold BIG at hx
  generalize hR : memB xs x = R
  have HR := Lib.hid hR; clear hR
  go_enter Try.func11, Try.ntmps11
  go_wp2
  go_loopw [9] (fun i wr => ∃ k : Nat, k ≤ xs.length ∧ i = .int .i64 k ∧ w = wr ∧ ∀ j, j < k → xs[j]? ≠ some x) (fun i _ => xs.length - (intOf i).toNat)
  case atStart => exact ⟨0, Nat.zero_le _, rfl, rfl, fun j hj => absurd hj (Nat.not_lt_zero _)⟩
  case round =>
    obtain ⟨k, hk, rfl, rfl, hn⟩ := hrel
    have HN := Lib.hid hn; clear hn
    by_cases hlt : k < xs.length
    · obtain ⟨b, off, y, rfl, _, _, _, hy, hc⟩ := AInt.at_ h hlt
      have HY := Lib.hid hy; clear hy
      by_cases he : x = y
      · subst he
        have e1 : (x == x) = true := by simp
        go_wp2
        go_ret
        exact ⟨ret_bool (by rw [← HR.out]; exact (memB_of (List.mem_of_getElem? HY.out)).symm), rfl⟩
      · have e1 : (x == y) = false := by simpa using he
        go_wp2
        refine ⟨⟨k + 1, by omega, by go_num, by first | trivial | rfl, fun j hj => ?_⟩, by simp [intOf]; omega⟩
        by_cases hjk : j < k
        · exact HN.out j hjk
        · obtain rfl : j = k := by omega
          rw [HY.out]; intro e; injection e with e; exact he e.symm
    · have i1 : ¬ (k : Int) < (xs.length : Int) := by omega
      go_wp2
      go_ret
      refine ⟨ret_bool ?_, rfl⟩
      rw [← HR.out, memB, decide_eq_false]
      intro hm
      obtain ⟨j, hj, e⟩ := List.mem_iff_getElem.1 hm
      exact HN.out j (by omega) (by rw [List.getElem?_eq_getElem hj, e])
/-- The index of a person is returned. -/
def RetWho (n : Nat) (w : World) (e : Ending) (w' : World) : Prop := ∃ x : Nat, x < n ∧ e = .returned (.int .i64 x) ∧ Below w.heap.size w w'
theorem who_any (A B D : Option Addr) (c d k lo hi : Nat) (bs : List Int) (i : Int) (xs : List Person) (ys : List Union) (w : World) (h : EByte.AS w lo hi D bs) (hh : hi ≤ w.heap.size) (hbs : bs.length ≤ 1048576) (hb8 : ∀ x ∈ bs, (0 : Int) ≤ x ∧ x ≤ 255) (h0 : 0 ≤ i) (h1 : i ≤ 1000) (hx : 1 ≤ xs.length) (hx40 : xs.length ≤ 40) :
    Calls Try.prog 8 #[.slice D bs.length k, .int .i64 i, .agg #[.slice A xs.length c, .slice B ys.length d]] w (RetWho xs.length w) := by
  go_enter Try.func8, Try.ntmps8
  go_upto_region 1 with fail
  generalize hW : w.alloc (.cells #[.slice A xs.length c, .slice B ys.length d] 26) = W
  have F : Blk W w.heap.size 26 #[.slice A xs.length c, .slice B ys.length d] := by subst hW; exact Blk.new _ rfl
  have hb : Below w.heap.size w W := by subst hW; (with_reducible repeat' first | exact Below.refl _ _ | assumption | (refine Below.setCell ?_ (by first | omega | (simp; omega) | (simp; done) | (dsimp only; omega)) _) | (refine Below.alloc ?_ (by first | omega | (simp; omega) | (simp; done) | (dsimp only; omega)) _) | (refine below_drewN ?_ _) | (refine Below.drew ?_))
  clear hW
  replace h : EByte.AS W.drew lo hi D bs := (h.same (Same.of_below hb hh)).same ⟨Nat.le_refl _, fun _ _ _ => rfl⟩
  have c0 : W.drew.cell? ⟨w.heap.size, 0, none⟩ = some (.slice A xs.length c) := F.cell (i := 0) rfl
  have n0 : ¬ xs.length = 0 := by omega
  have n1 : ((xs.length : Int) == 0) = false := by rw [beq_eq_false_iff_ne]; omega
  refine wp_region_held_drew (S := fun w' => w'.cell? ⟨w.heap.size, 0, none⟩ = some (.slice A xs.length c)) (by kernel_rfl) c0 (fun hHeld => ?_)
  refine wpAnyH_take (i := 0) (oi := { dst := some 7, op := _, type := _, pos := _, after := _, guard := _ }) (v := ?_) rfl (by kernel_rfl) (by kernel_rfl) (by kernel_rfl) (fun _ _ _ h => h) (Or.inl ⟨by rfl, ?_⟩) (by assumption) ?_; rotate_left; (intro w hSw; (try dsimp only at hSw); go_simp); (try with_reducible rfl); (try simp only [Act.put, List.setIfInBounds_toArray, List.set_cons_zero, List.set_cons_succ])
  refine wpAnyH_take (i := 1) (oi := { dst := some 8, op := _, type := _, pos := _, after := _, guard := _ }) (v := ?_) rfl (by kernel_rfl) (by kernel_rfl) (by kernel_rfl) (fun _ _ _ h => h) (Or.inl ⟨by rfl, ?_⟩) (by assumption) ?_; rotate_left; (intro w hSw; (try dsimp only at hSw); go_simp); (try with_reducible rfl); (try simp only [Act.put, List.setIfInBounds_toArray, List.set_cons_zero, List.set_cons_succ])
  refine wpAnyH_take (i := 3) (oi := { dst := some 10, op := _, type := _, pos := _, after := _, guard := _ }) (v := ?_) rfl (by kernel_rfl) (by kernel_rfl) (by kernel_rfl) (fun _ _ _ h => h) (Or.inl ⟨by rfl, ?_⟩) (by assumption) ?_; rotate_left; (intro w hSw; (try dsimp only at hSw); go_simp); (try with_reducible rfl); (try simp only [Act.put, List.setIfInBounds_toArray, List.set_cons_zero, List.set_cons_succ])
  refine wpAnyH_take (i := 4) (oi := { dst := some 11, op := _, type := _, pos := _, after := _, guard := _ }) (v := ?_) rfl (by kernel_rfl) (by kernel_rfl) (by kernel_rfl) (fun _ _ _ h => h) (Or.inl ⟨by rfl, ?_⟩) (by assumption) ?_; rotate_left; (intro w hSw; (try dsimp only at hSw); go_simp); (try with_reducible rfl); (try simp only [Act.put, List.setIfInBounds_toArray, List.set_cons_zero, List.set_cons_succ])
  refine wpAnyH_take (i := 5) (oi := { dst := some 12, op := _, type := _, pos := _, after := _, guard := _ }) (v := ?_) rfl (by kernel_rfl) (by kernel_rfl) (by kernel_rfl) (fun _ _ _ h => h) (Or.inl ⟨by rfl, ?_⟩) (by assumption) ?_; rotate_left; (intro w hSw; (try dsimp only at hSw); go_simp); (try with_reducible rfl); (try simp only [Act.put, List.setIfInBounds_toArray, List.set_cons_zero, List.set_cons_succ])
  refine wpAnyH_ready (rs := [2]) (by kernel_rfl) (by simp) ?_
  refine AllReadyH.cons (o := { dst := some 9, op := _, type := _, pos := _, after := _, guard := _ }) rfl (fun K hK => ?_) (AllReadyH.nil)
  go_simp
  (go_at_call 26; refine (at_any D k lo hi bs i _ h hbs hb8 h0 h1).mono ?_; rintro e w2 ⟨x, hx0, hx1, rfl, rfl⟩)
  try go_wp2_with fail
  refine hK.out _ _ c0 (fun hHeld => ?_)
  clear hK K; (try simp only [Act.put, List.setIfInBounds_toArray, List.set_cons_zero, List.set_cons_succ])
  refine wpAnyH_take (i := 6) (oi := { dst := some 13, op := _, type := _, pos := _, after := _, guard := _ }) (v := ?_) rfl (by kernel_rfl) (by kernel_rfl) (by kernel_rfl) (fun _ _ _ h => h) (Or.inl ⟨by rfl, ?_⟩) (by assumption) ?_; rotate_left; (intro w hSw; (try dsimp only at hSw); go_simp); (try with_reducible rfl); (try simp only [Act.put, List.setIfInBounds_toArray, List.set_cons_zero, List.set_cons_succ])
  refine wpAnyH_take (i := 7) (oi := { dst := some 6, op := _, type := _, pos := _, after := _, guard := _ }) (v := ?_) rfl (by kernel_rfl) (by kernel_rfl) (by kernel_rfl) (fun _ _ _ h => h) (Or.inl ⟨by rfl, ?_⟩) (by assumption) ?_; rotate_left; (intro w hSw; (try dsimp only at hSw); go_simp); (try with_reducible rfl); (try simp only [Act.put, List.setIfInBounds_toArray, List.set_cons_zero, List.set_cons_succ])
  refine wpAnyH_done (by kernel_rfl) ?_ _
  go_wp2_with fail
  go_ret
  have hp : (0 : Int) < xs.length := by omega
  have k1 := Int.emod_nonneg x (by omega : (xs.length : Int) ≠ 0)
  have k2 := Int.emod_lt_of_pos x hp
  have hm : x.tmod xs.length = x % xs.length := Int.tmod_eq_emod_of_nonneg hx0
  exact ⟨(x % (xs.length : Int)).toNat, by omega, ret_int (by rw [hm, Int.toNat_of_nonneg k1]), hb.drew⟩
end Go.Proofs.Ythpcippgifmabaa

/-! ## SibLaw -/
namespace Go.Proofs.Ythpcippgifmabaa
set_option maxRecDepth 100000
open Go.RowKit

theorem hasOk_in {xs : List Person} {ys : List Union} {a : Nat} (h : famOk xs ys = true) (ha : a < xs.length) : hasOk xs ys a = true := by
  rw [hasOk, h, inP_iff.2 (by omega)]; rfl
theorem kids_at {xs : List Person} {P : Nat → Bool} {b : Nat} (hb : b < xs.length) : ((b : Int) ∈ kidsM xs P xs.length) ↔ P b = true := by
  rw [kidsM_mem]
  constructor
  · rintro ⟨i, _, h2, h3⟩
    have : b = i := by omega
    rwa [this]
  · intro h; exact ⟨b, hb, h, rfl⟩
section
variable {xs : List Person} {ys : List Union} {a b : Nat}
theorem full_mem (h : famOk xs ys = true) (ha : a < xs.length) (hb : b < xs.length) : ((b : Int) ∈ fullsM xs ys a) ↔ fullAt xs a b = true := by
  rw [fullsM, if_pos (hasOk_in h ha), kids_at hb, Int.toNat_natCast]
theorem half_mem (h : famOk xs ys = true) (ha : a < xs.length) (hb : b < xs.length) : ((b : Int) ∈ halvesM xs ys a) ↔ halfAt xs a b = true := by
  rw [halvesM, if_pos (hasOk_in h ha), kids_at hb, Int.toNat_natCast]
theorem child_mem (h : famOk xs ys = true) (ha : a < xs.length) (hb : b < xs.length) : ((b : Int) ∈ childM xs ys a) ↔ kidP xs a b = true := by
  rw [childM, if_pos (hasOk_in h ha), kids_at hb]
theorem fullOf_comm (x y : Person) (a b : Nat) : fullOf x y a b = fullOf y x b a := by
  unfold fullOf
  rw [decide_eq_decide]
  constructor
  · rintro ⟨h1, h2, h3, h4, h5⟩; exact ⟨fun e => h1 e.symm, by omega, by omega, h4.symm, h5.symm⟩
  · rintro ⟨h1, h2, h3, h4, h5⟩; exact ⟨fun e => h1 e.symm, by omega, by omega, h4.symm, h5.symm⟩
theorem halfOf_comm (x y : Person) (a b : Nat) : halfOf x y a b = halfOf y x b a := by
  unfold halfOf
  rw [fullOf_comm x y a b]
  have e1 : decide (b ≠ a) = decide (a ≠ b) := by rw [decide_eq_decide]; exact ⟨fun h e => h e.symm, fun h e => h e.symm⟩
  have e2 : decide (0 ≤ x.father ∧ x.father = y.father) = decide (0 ≤ y.father ∧ y.father = x.father) := by rw [decide_eq_decide]; omega
  have e3 : decide (0 ≤ x.mother ∧ x.mother = y.mother) = decide (0 ≤ y.mother ∧ y.mother = x.mother) := by rw [decide_eq_decide]; omega
  rw [e1, e2, e3]
theorem fullAt_comm (ha : a < xs.length) (hb : b < xs.length) : fullAt xs a b = fullAt xs b a := by
  rw [fullAt_of (List.getElem?_eq_getElem ha) (List.getElem?_eq_getElem hb), fullAt_of (List.getElem?_eq_getElem hb) (List.getElem?_eq_getElem ha), fullOf_comm]
theorem halfAt_comm (ha : a < xs.length) (hb : b < xs.length) : halfAt xs a b = halfAt xs b a := by
  rw [halfAt_of (List.getElem?_eq_getElem ha) (List.getElem?_eq_getElem hb), halfAt_of (List.getElem?_eq_getElem hb) (List.getElem?_eq_getElem ha), halfOf_comm]
/-- Full siblings are so of each other. -/
theorem full_comm (h : famOk xs ys = true) (ha : a < xs.length) (hb : b < xs.length) : decide ((b : Int) ∈ fullsM xs ys a) = decide ((a : Int) ∈ fullsM xs ys b) := by
  rw [decide_eq_decide, full_mem h ha hb, full_mem h hb ha, fullAt_comm ha hb]
theorem half_comm (h : famOk xs ys = true) (ha : a < xs.length) (hb : b < xs.length) : decide ((b : Int) ∈ halvesM xs ys a) = decide ((a : Int) ∈ halvesM xs ys b) := by
  rw [decide_eq_decide, half_mem h ha hb, half_mem h hb ha, halfAt_comm ha hb]
/-- Nobody is both. -/
theorem not_both (h : famOk xs ys = true) (ha : a < xs.length) (hb : b < xs.length) (h1 : (b : Int) ∈ fullsM xs ys a) : ¬ (b : Int) ∈ halvesM xs ys a := by
  rw [full_mem h ha hb] at h1
  rw [half_mem h ha hb]
  rw [fullAt_of (List.getElem?_eq_getElem ha) (List.getElem?_eq_getElem hb)] at h1
  rw [halfAt_of (List.getElem?_eq_getElem ha) (List.getElem?_eq_getElem hb), halfOf, h1]
  simp
theorem not_own_full (h : famOk xs ys = true) (ha : a < xs.length) : ¬ (a : Int) ∈ fullsM xs ys a := by
  rw [full_mem h ha ha, fullAt_of (List.getElem?_eq_getElem ha) (List.getElem?_eq_getElem ha), fullOf]
  simp
theorem not_own_half (h : famOk xs ys = true) (ha : a < xs.length) : ¬ (a : Int) ∈ halvesM xs ys a := by
  rw [half_mem h ha ha, halfAt_of (List.getElem?_eq_getElem ha) (List.getElem?_eq_getElem ha), halfOf]
  simp
theorem elder_at (h : famOk xs ys = true) (ha : a < xs.length) (hb : b < xs.length) : isElderM xs ys a b = lessM xs a b := by
  rw [isElderM, hasOk_in h ha, hasOk_in h hb, Int.toNat_natCast, Int.toNat_natCast, lessM_eq ha hb]
  rfl
/-- Of two persons one is elder. -/
theorem elder_one (h : famOk xs ys = true) (ha : a < xs.length) (hb : b < xs.length) (hn : a ≠ b) : isElderM xs ys a b = !(isElderM xs ys b a) := by
  rw [elder_at h ha hb, elder_at h hb ha]
  cases h1 : lessM xs a b <;> cases h2 : lessM xs b a
  · exact absurd (lessM_total h1 h2) (by omega)
  · rfl
  · rfl
  · have := (lessM_swo xs).trans a b a h1 h2
    rw [(lessM_swo xs).irrefl] at this
    cases this
theorem listM_nodup {P : Nat → Bool} : ∀ k : Nat, (listM P k).Nodup := by
  intro k
  induction k with
  | zero => exact List.nodup_nil
  | succ k ih =>
    rw [listM]; split
    · rw [List.nodup_append]
      refine ⟨ih, by simp, fun x hx y hy e => ?_⟩
      rw [List.mem_singleton] at hy
      subst hy
      obtain ⟨i, h1, _, h3⟩ := listM_mem.1 hx
      omega
    · exact ih
/-- Children stand in the order of their age. -/
theorem child_order {p i : Nat} {x y : Int} (h : famOk xs ys = true) (hp : p < xs.length) (hx : (childM xs ys p)[i]? = some x) (hy : (childM xs ys p)[i + 1]? = some y) : isElderM xs ys x y = true := by
  rw [childM, if_pos (hasOk_in h hp)] at hx hy
  obtain ⟨a, ha, _, rfl⟩ := kidsM_mem.1 (List.mem_of_getElem? hx)
  obtain ⟨b, hb, _, rfl⟩ := kidsM_mem.1 (List.mem_of_getElem? hy)
  obtain ⟨hi, ex⟩ := List.getElem?_eq_some_iff.1 hx
  obtain ⟨hj, ey⟩ := List.getElem?_eq_some_iff.1 hy
  have hs := List.pairwise_iff_getElem.1 (kidsM_sorted (xs := xs) (P := kidP xs p) xs.length (Nat.le_refl _)) i (i + 1) hi hj (Nat.lt_succ_self _)
  have hn := List.pairwise_iff_getElem.1 ((kidsM_perm (xs := xs) (P := kidP xs p) xs.length).nodup_iff.2 (listM_nodup _)) i (i + 1) hi hj (Nat.lt_succ_self _)
  rw [ex, ey] at hs hn
  rw [elder_at h ha hb]
  cases h1 : lessM xs a b with
  | true => rfl
  | false => exact absurd (lessM_total h1 (by simpa using hs)) hn
/-- Whoever is a parent has the child. -/
theorem parent_child {q : Int} (h : famOk xs ys = true) (hb : b < xs.length) (hq : q ∈ parentsM xs ys b) : (b : Int) ∈ childM xs ys q := by
  rw [parentsM, if_pos (hasOk_in h hb), Int.toNat_natCast, parentsAt_of (List.getElem?_eq_getElem hb)] at hq
  have hf := peopleOk_get (famOk_parts h).2.2.1 hb
  rw [personOk_of (List.getElem?_eq_getElem hb)] at hf
  have hp : ∃ c : Nat, q = c ∧ c < xs.length ∧ (xs[b].father = q ∨ xs[b].mother = q) := by
    simp only [personOf, Bool.and_eq_true] at hf
    unfold parentsL at hq
    rcases List.mem_append.1 hq with hq | hq
    · split at hq
      · rename_i h0
        rw [List.mem_singleton] at hq
        subst hq
        have hk := hf.1.2
        rw [parentOk, if_neg (by omega)] at hk
        split at hk
        · cases hk
        · exact ⟨xs[b].father.toNat, by omega, by omega, .inl rfl⟩
      · cases hq
    · split at hq
      · rename_i h0
        rw [List.mem_singleton] at hq
        subst hq
        have hk := hf.2
        rw [parentOk, if_neg (by omega)] at hk
        split at hk
        · cases hk
        · exact ⟨xs[b].mother.toNat, by omega, by omega, .inr rfl⟩
      · cases hq
  obtain ⟨c, rfl, hc, hd⟩ := hp
  rw [child_mem h hc hb, kidP_of (List.getElem?_eq_getElem hb), decide_eq_true_eq]
  exact hd
theorem parents_known {q : Int} (h : famOk xs ys = true) (hb : b < xs.length) (hq : q ∈ parentsM xs ys b) : 0 ≤ q ∧ q < xs.length := by
  by_cases hok : hasOk xs ys q = true
  · have := hasOk_fam hok
    exact ⟨this.2.1, this.2.2⟩
  · have := parent_child h hb hq
    rw [childM, if_neg hok] at this
    cases this
end
end Go.Proofs.Ythpcippgifmabaa

/-! ## LawFnSiblings -/
namespace Go.Proofs.Ythpcippgifmabaa
set_option maxRecDepth 100000
open Go.ChangeShapes Go.WideShapes Go.ChangeAt Go.RowKit

theorem lawHas_lit (xs : List Int) (x : Int) (A : Option Addr) (c lo hi : Nat) (w : World) (v : Bool) (h : EInt.AS w lo hi A xs) (hv : decide (x ∈ xs) = v) :
    Calls Try.prog 11 #[.slice A xs.length c, .int .i64 x] w fun e w' => e = .returned (.bool v) ∧ w = w' := by
  subst hv
  exact lawHas_any A c lo hi xs x w h
theorem famOk_tot {xs : List Person} {ys : List Union} (h : famOk xs ys = true) : totP xs ≤ 1048576 := by
  have h0 := famOk_parts h
  have hall : ∀ x ∈ xs, x.name.size ≤ 12 := by
    intro x hx
    obtain ⟨k, hk⟩ := List.getElem?_of_mem hx
    have h1 := peopleOk_get h0.2.2.1 (List.getElem?_eq_some_iff.1 hk).1
    rw [personOk_of hk] at h1
    simp only [personOf, Bool.and_eq_true] at h1
    have h2 := h1.1.1.1.1
    unfold nameOk at h2
    rw [Bool.and_eq_true, decide_eq_true_eq] at h2
    exact h2.1.2
  have h3 : ∀ l : List Person, (∀ x ∈ l, x.name.size ≤ 12) → totP l ≤ 12 * l.length := by
    intro l
    induction l with
    | nil => intro _; exact Nat.le_refl _
    | cons y r ih =>
      intro hl
      have := ih fun x hx => hl x (List.mem_cons_of_mem _ hx)
      have := hl y (List.mem_cons_self ..)
      rw [totP, List.length_cons]; omega
  have := h3 xs hall
  omega
set_option maxHeartbeats 16000000 in
theorem FnSiblings_walk (A : Option Addr) (c : Nat) (bs : List Int) (w : World) (k0 : EByte.AS w 0 w.heap.size A bs) (hbs : ∀ x ∈ bs, 0 ≤ x ∧ x ≤ 255) :
    Calls Try.prog 3 #[.slice A bs.length c] w fun e w' => e = .returned (.bool true) ∧ Below w.heap.size w w' := by
  by_cases hl : bs.length ≤ 1048576
  rotate_left
  · have hl2 : (1048576 : Int) < (bs.length : Int) := by omega
    go_enter Try.func3, Try.ntmps3
    go_wp2
    go_ret
    exact ⟨rfl, Below.refl _ _⟩
  go_enter Try.func3, Try.ntmps3
  have H := crowd_is A c 0 w.heap.size 18 bs w k0 (Nat.le_refl _) hl (by omega)
  rw [show ((18 : Nat) : Int) = 18 from rfl] at H
  go_upto_region 4 with (go_at_call 7; (with_reducible refine H.mono ?_); rintro e w1 ⟨xs, ys, A1, B1, c1, d1, rfl, o1, u1, hx1, hok, hb1⟩)
  generalize hV : w1.alloc (.cells #[.slice A1 xs.length c1, .slice B1 ys.length d1] 26) = W1
  obtain ⟨fb, hfb⟩ : ∃ m, m = w1.heap.size := ⟨_, rfl⟩
  rw [← hfb]
  have FB : Blk W1 fb 26 #[.slice A1 xs.length c1, .slice B1 ys.length d1] := by subst hV; rw [hfb]; exact Blk.new _ rfl
  clear hfb
  have hdc := os_cap u1
  have hs := famOk_tot hok
  have hx40 := (famOk_parts hok).1
  have HOK := Lib.hid hok
  clear hok
  have z1 := hb1.size
  have hbW : Below w.heap.size w W1 := by subst hV; (with_reducible repeat' first | exact Below.refl _ _ | assumption | (refine Below.setCell ?_ (by first | omega | (simp; omega) | (simp; done) | (dsimp only; omega)) _) | (refine Below.alloc ?_ (by first | omega | (simp; omega) | (simp; done) | (dsimp only; omega)) _) | (refine below_drewN ?_ _) | (refine Below.drew ?_) | (refine Below.trans ?_ (hb1.mono (by first | omega | (simp; omega) | (simp; done) | (dsimp only; omega)))))
  have hX1 : EPerson.AS W1 w.heap.size w1.heap.size A1 xs := by subst hV; exact o1.read.as.same (by (with_reducible repeat' first | exact Same.refl _ _ _ | assumption | (refine Same.setCell ?_ (by first | omega | (simp; omega) | (simp; done) | (dsimp only; omega)) _) | (refine Same.alloc ?_ (by first | omega | (simp; omega) | (simp; done) | (dsimp only; omega)) _) | (refine Same.drewN ?_ _) | (refine Same.drew ?_)))
  have hY1 : EUnion.AS W1 w.heap.size w1.heap.size B1 ys := by subst hV; exact u1.read.as.same (by (with_reducible repeat' first | exact Same.refl _ _ _ | assumption | (refine Same.setCell ?_ (by first | omega | (simp; omega) | (simp; done) | (dsimp only; omega)) _) | (refine Same.alloc ?_ (by first | omega | (simp; omega) | (simp; done) | (dsimp only; omega)) _) | (refine Same.drewN ?_ _) | (refine Same.drew ?_)))
  have hxw1 : w1.heap.size ≤ W1.heap.size := by subst hV; simp
  clear hV H o1 u1 hb1
  replace k0 := k0.same (Same.of_below hbW (Nat.le_refl _))
  have zW1 := hbW.size
  have e0 := FB.cell (i := 0) rfl; have e1 := FB.cell (i := 1) rfl; have lF := FB.lt
  have H := who_any A1 B1 A c1 d1 c 0 w.heap.size bs 1 xs ys W1 k0 zW1 hl hbs (by omega) (by omega) hx1 hx40
  go_upto_region 5 with (go_at_call 8; (with_reducible refine H.mono ?_); rintro e w2 ⟨a, ha, rfl, hb2⟩)
  have FB2 := FB.below hb2 lF
  have k02 := k0.same (Same.of_below hb2 zW1)
  have z2 := hb2.size
  clear e0 e1 H k0
  have e0 := FB2.cell (i := 0) rfl; have e1 := FB2.cell (i := 1) rfl; have lF2 := FB2.lt
  have H := who_any A1 B1 A c1 d1 c 0 w.heap.size bs 2 xs ys w2 k02 (by omega) hl hbs (by omega) (by omega) hx1 hx40
  go_upto_region 6 with (go_at_call 8; (with_reducible refine H.mono ?_); rintro e w3 ⟨b, hb, rfl, hb3⟩)
  have hb13 : Below W1.heap.size W1 w3 := hb2.trans (hb3.mono z2)
  have z13 := hb13.size
  have FB3 := FB.below hb13 lF
  have hX3 := hX1.same (Same.of_below hb13 hxw1)
  have hY3 := hY1.same (Same.of_below hb13 hxw1)
  have hbw3 : Below w.heap.size w w3 := hbW.trans (hb13.mono zW1)
  have hxw3 : w1.heap.size ≤ w3.heap.size := by omega
  clear e0 e1 H k02 FB2 FB hX1 hY1 hb2 hb3 hb13 hbW
  have e0 := FB3.cell (i := 0) rfl; have e1 := FB3.cell (i := 1) rfl; have lF3 := FB3.lt
  have H := implFullSiblings_any A1 B1 c1 d1 w.heap.size w1.heap.size xs ys a w3 hX3 hY3 hxw3 hdc hs
  go_upto_region 7 with (go_at_call 9; (with_reducible refine H.mono ?_); rintro e w4 ⟨F1, f1, rfl, oF1, hb4⟩)
  have FB4 := FB3.below hb4 lF3
  have hX4 := hX3.same (Same.of_below hb4 hxw3)
  have hY4 := hY3.same (Same.of_below hb4 hxw3)
  have z4 := hb4.size
  have hxw4 : w1.heap.size ≤ w4.heap.size := by omega
  clear e0 e1 H
  have e0 := FB4.cell (i := 0) rfl; have e1 := FB4.cell (i := 1) rfl; have lF4 := FB4.lt
  have H := implHalfSiblings_any A1 B1 c1 d1 w.heap.size w1.heap.size xs ys a w4 hX4 hY4 hxw4 hdc hs
  go_upto_region 8 with (go_at_call 10; (with_reducible refine H.mono ?_); rintro e V ⟨G1, g1, rfl, oG1, hb5⟩)
  have z5 := hb5.size
  have FB5 := FB4.below hb5 lF4
  have hX := hX4.same (Same.of_below hb5 hxw4)
  have hY := hY4.same (Same.of_below hb5 hxw4)
  have hF : EInt.AS V w3.heap.size w4.heap.size F1 (fullsM xs ys a) := oF1.read.as.same (Same.of_below hb5 (Nat.le_refl _))
  have hG : EInt.AS V w4.heap.size V.heap.size G1 (halvesM xs ys a) := oG1.read.as
  have hbV : Below w.heap.size w V := hbw3.trans ((hb4.trans (hb5.mono z4)).mono (by omega))
  have hxV : w1.heap.size ≤ V.heap.size := by omega
  clear e0 e1 H FB3 FB4 hX3 hY3 hX4 hY4 hb4 hb5 hbw3 oF1 oG1
  have e0 := FB5.cell (i := 0) rfl; have e1 := FB5.cell (i := 1) rfl
  replace lF := FB5.lt
  have mf := full_comm HOK.out ha hb
  have mh := half_comm HOK.out ha hb
  have mff := decide_eq_false (not_own_full HOK.out ha)
  have mhh := decide_eq_false (not_own_half HOK.out ha)
  have KF := fun (W' : World) (hb0 : Below V.heap.size V W') => implFullSiblings_any A1 B1 c1 d1 w.heap.size w1.heap.size xs ys b W' (hX.same (Same.of_below hb0 hxV)) (hY.same (Same.of_below hb0 hxV)) (Nat.le_trans hxV hb0.size) hdc hs
  have KH := fun (W' : World) (hb0 : Below V.heap.size V W') => implHalfSiblings_any A1 B1 c1 d1 w.heap.size w1.heap.size xs ys b W' (hX.same (Same.of_below hb0 hxV)) (hY.same (Same.of_below hb0 hxV)) (Nat.le_trans hxV hb0.size) hdc hs
  have KFa := fun (W' : World) (hb0 : Below V.heap.size V W') => lawHas_lit (fullsM xs ys a) a F1 f1 w3.heap.size w4.heap.size W' false (hF.same (Same.of_below hb0 (by omega))) mff
  have KHa := fun (W' : World) (hb0 : Below V.heap.size V W') => lawHas_lit (halvesM xs ys a) a G1 g1 w4.heap.size V.heap.size W' false (hG.same (Same.of_below hb0 (Nat.le_refl _))) mhh
  obtain ⟨lcut, hlcut⟩ : ∃ m, m = V.heap.size := ⟨_, rfl⟩
  go_upto_region 8 with fail
  go_cut [68] from 29 to 68 (fun v wc => v = .bool false ∧ Below V.heap.size V wc)
  case first =>
    cases ep : decide ((b : Int) ∈ fullsM xs ys a) with
    | true =>
      have eh : decide ((b : Int) ∈ halvesM xs ys a) = false := decide_eq_false (not_both HOK.out ha hb (of_decide_eq_true ep))
      have KFb := fun (W' : World) (hb0 : Below V.heap.size V W') => lawHas_lit (fullsM xs ys a) b F1 f1 w3.heap.size w4.heap.size W' true (hF.same (Same.of_below hb0 (by omega))) ep
      have KHb := fun (W' : World) (hb0 : Below V.heap.size V W') => lawHas_lit (halvesM xs ys a) b G1 g1 w4.heap.size V.heap.size W' false (hG.same (Same.of_below hb0 (Nat.le_refl _))) eh
      have NF : decide ((a : Int) ∈ fullsM xs ys b) = true := mf.symm.trans ep
      have NH : decide ((a : Int) ∈ halvesM xs ys b) = false := mh.symm.trans eh
      clear mf mh mff mhh ep eh
      have hq : Below V.heap.size V V := Below.refl _ _
      refine wp_region_held_drew (S := fun w' => w'.cell? ⟨fb, 0, none⟩ = some (.slice A1 xs.length c1) ∧ w'.cell? ⟨fb, 1, none⟩ = some (.slice B1 ys.length d1)) (by kernel_rfl) ⟨e0, e1⟩ (fun hHeld => ?_)
      refine wpAnyH_take (i := 0) (oi := { dst := some 29, op := _, type := _, pos := _, after := _, guard := _ }) (v := ?_) rfl (by kernel_rfl) (by kernel_rfl) (by kernel_rfl) (fun _ _ _ h => h) (Or.inl ⟨by rfl, ?_⟩) (by assumption) ?_; rotate_left; (intro w hSw; (try dsimp only at hSw); go_simp); (try with_reducible rfl); (try simp only [Act.put, List.setIfInBounds_toArray, List.set_cons_zero, List.set_cons_succ])
      refine wpAnyH_take (i := 1) (oi := { dst := some 30, op := _, type := _, pos := _, after := _, guard := _ }) (v := ?_) rfl (by kernel_rfl) (by kernel_rfl) (by kernel_rfl) (fun _ _ _ h => h) (Or.inl ⟨by rfl, ?_⟩) (by assumption) ?_; rotate_left; (intro w hSw; (try dsimp only at hSw); go_simp); (try with_reducible rfl); (try simp only [Act.put, List.setIfInBounds_toArray, List.set_cons_zero, List.set_cons_succ])
      refine wpAnyH_take (i := 3) (oi := { dst := some 32, op := _, type := _, pos := _, after := _, guard := _ }) (v := ?_) rfl (by kernel_rfl) (by kernel_rfl) (by kernel_rfl) (fun _ _ _ h => h) (Or.inl ⟨by rfl, ?_⟩) (by assumption) ?_; rotate_left; (intro w hSw; (try dsimp only at hSw); go_simp); (try with_reducible rfl); (try simp only [Act.put, List.setIfInBounds_toArray, List.set_cons_zero, List.set_cons_succ])
      refine wpAnyH_take (i := 4) (oi := { dst := some 33, op := _, type := _, pos := _, after := _, guard := _ }) (v := ?_) rfl (by kernel_rfl) (by kernel_rfl) (by kernel_rfl) (fun _ _ _ h => h) (Or.inl ⟨by rfl, ?_⟩) (by assumption) ?_; rotate_left; (intro w hSw; (try dsimp only at hSw); go_simp); (try with_reducible rfl); (try simp only [Act.put, List.setIfInBounds_toArray, List.set_cons_zero, List.set_cons_succ])
      refine wpAnyH_take (i := 6) (oi := { dst := some 35, op := _, type := _, pos := _, after := _, guard := _ }) (v := ?_) rfl (by kernel_rfl) (by kernel_rfl) (by kernel_rfl) (fun _ _ _ h => h) (Or.inl ⟨by rfl, ?_⟩) (by assumption) ?_; rotate_left; (intro w hSw; (try dsimp only at hSw); go_simp); (try with_reducible rfl); (try simp only [Act.put, List.setIfInBounds_toArray, List.set_cons_zero, List.set_cons_succ])
      refine wpAnyH_ready (rs := [2]) (by kernel_rfl) (by simp) ?_
      refine AllReadyH.cons (o := { dst := some 31, op := _, type := _, pos := _, after := _, guard := _ }) rfl (fun K hK => ?_) AllReadyH.nil
      go_simp
      (go_at_call 11; (with_reducible refine (KFb _ (by first | exact hq | exact hq.drew)).mono ?_); rintro e v ⟨rfl, rfl⟩)
      try go_wp2_with fail
      refine hK.out _ _ (by first | exact ⟨(hq.cell (p := ⟨fb, 0, none⟩) lF).trans e0, (hq.cell (p := ⟨fb, 1, none⟩) lF).trans e1⟩ | exact ⟨(hq.drew.cell (p := ⟨fb, 0, none⟩) lF).trans e0, (hq.drew.cell (p := ⟨fb, 1, none⟩) lF).trans e1⟩) (fun hHeld => ?_)
      clear hK K; (try simp only [Act.put, List.setIfInBounds_toArray, List.set_cons_zero, List.set_cons_succ])
      refine wpAnyH_ready (rs := [5]) (by kernel_rfl) (by simp) ?_
      refine AllReadyH.cons (o := { dst := some 34, op := _, type := _, pos := _, after := _, guard := _ }) rfl (fun K hK => ?_) AllReadyH.nil
      go_simp
      (go_at_call 9; (with_reducible refine (KF _ (by first | exact hq | exact hq.drew)).mono ?_); rintro e v ⟨QF, qf, rfl, oF, hv⟩; replace oF := oF.read.as; (first | (replace hv := undrew hv) | skip); replace hq := hq.trans (hv.mono hq.size))
      try go_wp2_with fail
      refine hK.out _ _ (by first | exact ⟨(hq.cell (p := ⟨fb, 0, none⟩) lF).trans e0, (hq.cell (p := ⟨fb, 1, none⟩) lF).trans e1⟩ | exact ⟨(hq.drew.cell (p := ⟨fb, 0, none⟩) lF).trans e0, (hq.drew.cell (p := ⟨fb, 1, none⟩) lF).trans e1⟩) (fun hHeld => ?_)
      clear hK K; (try simp only [Act.put, List.setIfInBounds_toArray, List.set_cons_zero, List.set_cons_succ])
      refine wpAnyH_ready (rs := [7]) (by kernel_rfl) (by simp) ?_
      refine AllReadyH.cons (o := { dst := some 36, op := _, type := _, pos := _, after := _, guard := _ }) rfl (fun K hK => ?_) AllReadyH.nil
      go_simp
      (go_at_call 11; (with_reducible refine (lawHas_lit (fullsM xs ys b) a _ _ _ _ _ true oF NF).mono ?_); rintro e v ⟨rfl, rfl⟩)
      try go_wp2_with fail
      refine hK.out _ _ (by first | exact ⟨(hq.cell (p := ⟨fb, 0, none⟩) lF).trans e0, (hq.cell (p := ⟨fb, 1, none⟩) lF).trans e1⟩ | exact ⟨(hq.drew.cell (p := ⟨fb, 0, none⟩) lF).trans e0, (hq.drew.cell (p := ⟨fb, 1, none⟩) lF).trans e1⟩) (fun hHeld => ?_)
      clear hK K; (try simp only [Act.put, List.setIfInBounds_toArray, List.set_cons_zero, List.set_cons_succ])
      refine wpAnyH_take (i := 8) (oi := { dst := some 37, op := _, type := _, pos := _, after := _, guard := _ }) (v := ?_) rfl (by kernel_rfl) (by kernel_rfl) (by kernel_rfl) (fun _ _ _ h => h) (Or.inl ⟨by rfl, ?_⟩) (by assumption) ?_; rotate_left; (intro w hSw; (try dsimp only at hSw); go_simp); (try with_reducible rfl); (try simp only [Act.put, List.setIfInBounds_toArray, List.set_cons_zero, List.set_cons_succ])
      refine wpAnyH_take (i := 9) (oi := { dst := some 38, op := _, type := _, pos := _, after := _, guard := _ }) (v := ?_) rfl (by kernel_rfl) (by kernel_rfl) (by kernel_rfl) (fun _ _ _ h => h) (Or.inl ⟨by rfl, ?_⟩) (by assumption) ?_; rotate_left; (intro w hSw; (try dsimp only at hSw); go_simp); (try with_reducible rfl); (try simp only [Act.put, List.setIfInBounds_toArray, List.set_cons_zero, List.set_cons_succ])
      refine wpAnyH_take (i := 10) (oi := { dst := some 39, op := _, type := _, pos := _, after := _, guard := _ }) (v := ?_) rfl (by kernel_rfl) (by kernel_rfl) (by kernel_rfl) (fun _ _ _ h => h) (Or.inl ⟨by rfl, ?_⟩) (by assumption) ?_; rotate_left; (intro w hSw; (try dsimp only at hSw); go_simp); (try with_reducible rfl); (try simp only [Act.put, List.setIfInBounds_toArray, List.set_cons_zero, List.set_cons_succ])
      refine wpAnyH_take (i := 11) (oi := { dst := some 40, op := _, type := _, pos := _, after := _, guard := _ }) (v := ?_) rfl (by kernel_rfl) (by kernel_rfl) (by kernel_rfl) (fun _ _ _ h => h) (Or.inl ⟨by rfl, ?_⟩) (by assumption) ?_; rotate_left; (intro w hSw; (try dsimp only at hSw); go_simp); (try with_reducible rfl); (try simp only [Act.put, List.setIfInBounds_toArray, List.set_cons_zero, List.set_cons_succ])
      refine wpAnyH_take (i := 13) (oi := { dst := some 42, op := _, type := _, pos := _, after := _, guard := _ }) (v := ?_) rfl (by kernel_rfl) (by kernel_rfl) (by kernel_rfl) (fun _ _ _ h => h) (Or.inl ⟨by rfl, ?_⟩) (by assumption) ?_; rotate_left; (intro w hSw; (try dsimp only at hSw); go_simp); (try with_reducible rfl); (try simp only [Act.put, List.setIfInBounds_toArray, List.set_cons_zero, List.set_cons_succ])
      refine wpAnyH_take (i := 14) (oi := { dst := some 43, op := _, type := _, pos := _, after := _, guard := _ }) (v := ?_) rfl (by kernel_rfl) (by kernel_rfl) (by kernel_rfl) (fun _ _ _ h => h) (Or.inl ⟨by rfl, ?_⟩) (by assumption) ?_; rotate_left; (intro w hSw; (try dsimp only at hSw); go_simp); (try with_reducible rfl); (try simp only [Act.put, List.setIfInBounds_toArray, List.set_cons_zero, List.set_cons_succ])
      refine wpAnyH_take (i := 16) (oi := { dst := some 45, op := _, type := _, pos := _, after := _, guard := _ }) (v := ?_) rfl (by kernel_rfl) (by kernel_rfl) (by kernel_rfl) (fun _ _ _ h => h) (Or.inl ⟨by rfl, ?_⟩) (by assumption) ?_; rotate_left; (intro w hSw; (try dsimp only at hSw); go_simp); (try with_reducible rfl); (try simp only [Act.put, List.setIfInBounds_toArray, List.set_cons_zero, List.set_cons_succ])
      refine wpAnyH_ready (rs := [12]) (by kernel_rfl) (by simp) ?_
      refine AllReadyH.cons (o := { dst := some 41, op := _, type := _, pos := _, after := _, guard := _ }) rfl (fun K hK => ?_) AllReadyH.nil
      go_simp
      (go_at_call 11; (with_reducible refine (KHb _ (by first | exact hq | exact hq.drew)).mono ?_); rintro e v ⟨rfl, rfl⟩)
      try go_wp2_with fail
      refine hK.out _ _ (by first | exact ⟨(hq.cell (p := ⟨fb, 0, none⟩) lF).trans e0, (hq.cell (p := ⟨fb, 1, none⟩) lF).trans e1⟩ | exact ⟨(hq.drew.cell (p := ⟨fb, 0, none⟩) lF).trans e0, (hq.drew.cell (p := ⟨fb, 1, none⟩) lF).trans e1⟩) (fun hHeld => ?_)
      clear hK K; (try simp only [Act.put, List.setIfInBounds_toArray, List.set_cons_zero, List.set_cons_succ])
      refine wpAnyH_ready (rs := [15]) (by kernel_rfl) (by simp) ?_
      refine AllReadyH.cons (o := { dst := some 44, op := _, type := _, pos := _, after := _, guard := _ }) rfl (fun K hK => ?_) AllReadyH.nil
      go_simp
      (go_at_call 10; (with_reducible refine (KH _ (by first | exact hq | exact hq.drew)).mono ?_); rintro e v ⟨QH, qh, rfl, oH, hv⟩; replace oH := oH.read.as; (first | (replace hv := undrew hv) | skip); replace hq := hq.trans (hv.mono hq.size))
      try go_wp2_with fail
      refine hK.out _ _ (by first | exact ⟨(hq.cell (p := ⟨fb, 0, none⟩) lF).trans e0, (hq.cell (p := ⟨fb, 1, none⟩) lF).trans e1⟩ | exact ⟨(hq.drew.cell (p := ⟨fb, 0, none⟩) lF).trans e0, (hq.drew.cell (p := ⟨fb, 1, none⟩) lF).trans e1⟩) (fun hHeld => ?_)
      clear hK K; (try simp only [Act.put, List.setIfInBounds_toArray, List.set_cons_zero, List.set_cons_succ])
      refine wpAnyH_ready (rs := [17]) (by kernel_rfl) (by simp) ?_
      refine AllReadyH.cons (o := { dst := some 46, op := _, type := _, pos := _, after := _, guard := _ }) rfl (fun K hK => ?_) AllReadyH.nil
      go_simp
      (go_at_call 11; (with_reducible refine (lawHas_lit (halvesM xs ys b) a _ _ _ _ _ false oH NH).mono ?_); rintro e v ⟨rfl, rfl⟩)
      try go_wp2_with fail
      refine hK.out _ _ (by first | exact ⟨(hq.cell (p := ⟨fb, 0, none⟩) lF).trans e0, (hq.cell (p := ⟨fb, 1, none⟩) lF).trans e1⟩ | exact ⟨(hq.drew.cell (p := ⟨fb, 0, none⟩) lF).trans e0, (hq.drew.cell (p := ⟨fb, 1, none⟩) lF).trans e1⟩) (fun hHeld => ?_)
      clear hK K; (try simp only [Act.put, List.setIfInBounds_toArray, List.set_cons_zero, List.set_cons_succ])
      refine wpAnyH_take (i := 18) (oi := { dst := some 47, op := _, type := _, pos := _, after := _, guard := _ }) (v := ?_) rfl (by kernel_rfl) (by kernel_rfl) (by kernel_rfl) (fun _ _ _ h => h) (Or.inl ⟨by rfl, ?_⟩) (by assumption) ?_; rotate_left; (intro w hSw; (try dsimp only at hSw); go_simp); (try with_reducible rfl); (try simp only [Act.put, List.setIfInBounds_toArray, List.set_cons_zero, List.set_cons_succ])
      refine wpAnyH_take (i := 19) (oi := { dst := some 48, op := _, type := _, pos := _, after := _, guard := _ }) (v := ?_) rfl (by kernel_rfl) (by kernel_rfl) (by kernel_rfl) (fun _ _ _ h => h) (Or.inl ⟨by rfl, ?_⟩) (by assumption) ?_; rotate_left; (intro w hSw; (try dsimp only at hSw); go_simp); (try with_reducible rfl); (try simp only [Act.put, List.setIfInBounds_toArray, List.set_cons_zero, List.set_cons_succ])
      refine wpAnyH_take (i := 20) (oi := { dst := some 49, op := _, type := _, pos := _, after := _, guard := _ }) (v := ?_) rfl (by kernel_rfl) (by kernel_rfl) (by kernel_rfl) (fun _ _ _ h => h) (Or.inl ⟨by rfl, ?_⟩) (by assumption) ?_; rotate_left; (intro w hSw; (try dsimp only at hSw); go_simp); (try with_reducible rfl); (try simp only [Act.put, List.setIfInBounds_toArray, List.set_cons_zero, List.set_cons_succ])
      refine wpAnyH_take (i := 21) (oi := { dst := some 50, op := _, type := _, pos := _, after := _, guard := _ }) (v := ?_) rfl (by kernel_rfl) (by kernel_rfl) (by kernel_rfl) (fun _ _ _ h => h) (Or.inl ⟨by rfl, ?_⟩) (by assumption) ?_; rotate_left; (intro w hSw; (try dsimp only at hSw); go_simp); (try with_reducible rfl); (try simp only [Act.put, List.setIfInBounds_toArray, List.set_cons_zero, List.set_cons_succ])
      refine wpAnyH_take (i := 22) (oi := { dst := some 51, op := _, type := _, pos := _, after := _, guard := _ }) (v := ?_) rfl (by kernel_rfl) (by kernel_rfl) (by kernel_rfl) (fun _ _ _ h => h) (Or.inl ⟨by rfl, ?_⟩) (by assumption) ?_; rotate_left; (intro w hSw; (try dsimp only at hSw); go_simp); (try with_reducible rfl); (try simp only [Act.put, List.setIfInBounds_toArray, List.set_cons_zero, List.set_cons_succ])
      refine wpAnyH_ready (rs := [23]) (by kernel_rfl) (by simp) ?_
      refine AllReadyH.cons (o := { dst := some 52, op := _, type := _, pos := _, after := _, guard := _ }) rfl (fun K hK => ?_) AllReadyH.nil
      go_simp
      (go_at_call 11; (with_reducible refine (KFb _ (by first | exact hq | exact hq.drew)).mono ?_); rintro e v ⟨rfl, rfl⟩)
      try go_wp2_with fail
      refine hK.out _ _ (by first | exact ⟨(hq.cell (p := ⟨fb, 0, none⟩) lF).trans e0, (hq.cell (p := ⟨fb, 1, none⟩) lF).trans e1⟩ | exact ⟨(hq.drew.cell (p := ⟨fb, 0, none⟩) lF).trans e0, (hq.drew.cell (p := ⟨fb, 1, none⟩) lF).trans e1⟩) (fun hHeld => ?_)
      clear hK K; (try simp only [Act.put, List.setIfInBounds_toArray, List.set_cons_zero, List.set_cons_succ])
      refine wpAnyH_take (i := 24) (oi := { dst := some 53, op := _, type := _, pos := _, after := _, guard := _ }) (v := ?_) rfl (by kernel_rfl) (by kernel_rfl) (by kernel_rfl) (fun _ _ _ h => h) (Or.inl ⟨by rfl, ?_⟩) (by assumption) ?_; rotate_left; (intro w hSw; (try dsimp only at hSw); go_simp); (try with_reducible rfl); (try simp only [Act.put, List.setIfInBounds_toArray, List.set_cons_zero, List.set_cons_succ])
      refine wpAnyH_take (i := 25) (oi := { dst := some 54, op := _, type := _, pos := _, after := _, guard := _ }) (v := ?_) rfl (by kernel_rfl) (by kernel_rfl) (by kernel_rfl) (fun _ _ _ h => h) (Or.inl ⟨by rfl, ?_⟩) (by assumption) ?_; rotate_left; (intro w hSw; (try dsimp only at hSw); go_simp); (try with_reducible rfl); (try simp only [Act.put, List.setIfInBounds_toArray, List.set_cons_zero, List.set_cons_succ])
      refine wpAnyH_take (i := 26) (oi := { dst := some 55, op := _, type := _, pos := _, after := _, guard := _ }) (v := ?_) rfl (by kernel_rfl) (by kernel_rfl) (by kernel_rfl) (fun _ _ _ h => h) (Or.inl ⟨by rfl, ?_⟩) (by assumption) ?_; rotate_left; (intro w hSw; (try dsimp only at hSw); go_simp); (try with_reducible rfl); (try simp only [Act.put, List.setIfInBounds_toArray, List.set_cons_zero, List.set_cons_succ])
      refine wpAnyH_ready (rs := [27]) (by kernel_rfl) (by simp) ?_
      refine AllReadyH.cons (o := { dst := some 56, op := _, type := _, pos := _, after := _, guard := _ }) rfl (fun K hK => ?_) AllReadyH.nil
      go_simp
      (go_at_call 11; (with_reducible refine (KHb _ (by first | exact hq | exact hq.drew)).mono ?_); rintro e v ⟨rfl, rfl⟩)
      try go_wp2_with fail
      refine hK.out _ _ (by first | exact ⟨(hq.cell (p := ⟨fb, 0, none⟩) lF).trans e0, (hq.cell (p := ⟨fb, 1, none⟩) lF).trans e1⟩ | exact ⟨(hq.drew.cell (p := ⟨fb, 0, none⟩) lF).trans e0, (hq.drew.cell (p := ⟨fb, 1, none⟩) lF).trans e1⟩) (fun hHeld => ?_)
      clear hK K; (try simp only [Act.put, List.setIfInBounds_toArray, List.set_cons_zero, List.set_cons_succ])
      refine wpAnyH_take (i := 28) (oi := { dst := some 57, op := _, type := _, pos := _, after := _, guard := _ }) (v := ?_) rfl (by kernel_rfl) (by kernel_rfl) (by kernel_rfl) (fun _ _ _ h => h) (Or.inl ⟨by rfl, ?_⟩) (by assumption) ?_; rotate_left; (intro w hSw; (try dsimp only at hSw); go_simp); (try with_reducible rfl); (try simp only [Act.put, List.setIfInBounds_toArray, List.set_cons_zero, List.set_cons_succ])
      refine wpAnyH_take (i := 29) (oi := { dst := some 58, op := _, type := _, pos := _, after := _, guard := _ }) (v := ?_) rfl (by kernel_rfl) (by kernel_rfl) (by kernel_rfl) (fun _ _ _ h => h) (Or.inl ⟨by rfl, ?_⟩) (by assumption) ?_; rotate_left; (intro w hSw; (try dsimp only at hSw); go_simp); (try with_reducible rfl); (try simp only [Act.put, List.setIfInBounds_toArray, List.set_cons_zero, List.set_cons_succ])
      refine wpAnyH_take (i := 30) (oi := { dst := some 59, op := _, type := _, pos := _, after := _, guard := _ }) (v := ?_) rfl (by kernel_rfl) (by kernel_rfl) (by kernel_rfl) (fun _ _ _ h => h) (Or.inl ⟨by rfl, ?_⟩) (by assumption) ?_; rotate_left; (intro w hSw; (try dsimp only at hSw); go_simp); (try with_reducible rfl); (try simp only [Act.put, List.setIfInBounds_toArray, List.set_cons_zero, List.set_cons_succ])
      refine wpAnyH_take (i := 31) (oi := { dst := some 60, op := _, type := _, pos := _, after := _, guard := _ }) (v := ?_) rfl (by kernel_rfl) (by kernel_rfl) (by kernel_rfl) (fun _ _ _ h => h) (Or.inl ⟨by rfl, ?_⟩) (by assumption) ?_; rotate_left; (intro w hSw; (try dsimp only at hSw); go_simp); (try with_reducible rfl); (try simp only [Act.put, List.setIfInBounds_toArray, List.set_cons_zero, List.set_cons_succ])
      refine wpAnyH_take (i := 32) (oi := { dst := some 61, op := _, type := _, pos := _, after := _, guard := _ }) (v := ?_) rfl (by kernel_rfl) (by kernel_rfl) (by kernel_rfl) (fun _ _ _ h => h) (Or.inl ⟨by rfl, ?_⟩) (by assumption) ?_; rotate_left; (intro w hSw; (try dsimp only at hSw); go_simp); (try with_reducible rfl); (try simp only [Act.put, List.setIfInBounds_toArray, List.set_cons_zero, List.set_cons_succ])
      refine wpAnyH_ready (rs := [33]) (by kernel_rfl) (by simp) ?_
      refine AllReadyH.cons (o := { dst := some 62, op := _, type := _, pos := _, after := _, guard := _ }) rfl (fun K hK => ?_) AllReadyH.nil
      go_simp
      (go_at_call 11; (with_reducible refine (KFa _ (by first | exact hq | exact hq.drew)).mono ?_); rintro e v ⟨rfl, rfl⟩)
      try go_wp2_with fail
      refine hK.out _ _ (by first | exact ⟨(hq.cell (p := ⟨fb, 0, none⟩) lF).trans e0, (hq.cell (p := ⟨fb, 1, none⟩) lF).trans e1⟩ | exact ⟨(hq.drew.cell (p := ⟨fb, 0, none⟩) lF).trans e0, (hq.drew.cell (p := ⟨fb, 1, none⟩) lF).trans e1⟩) (fun hHeld => ?_)
      clear hK K; (try simp only [Act.put, List.setIfInBounds_toArray, List.set_cons_zero, List.set_cons_succ])
      refine wpAnyH_take (i := 34) (oi := { dst := some 63, op := _, type := _, pos := _, after := _, guard := _ }) (v := ?_) rfl (by kernel_rfl) (by kernel_rfl) (by kernel_rfl) (fun _ _ _ h => h) (Or.inl ⟨by rfl, ?_⟩) (by assumption) ?_; rotate_left; (intro w hSw; (try dsimp only at hSw); go_simp); (try with_reducible rfl); (try simp only [Act.put, List.setIfInBounds_toArray, List.set_cons_zero, List.set_cons_succ])
      refine wpAnyH_take (i := 35) (oi := { dst := some 64, op := _, type := _, pos := _, after := _, guard := _ }) (v := ?_) rfl (by kernel_rfl) (by kernel_rfl) (by kernel_rfl) (fun _ _ _ h => h) (Or.inl ⟨by rfl, ?_⟩) (by assumption) ?_; rotate_left; (intro w hSw; (try dsimp only at hSw); go_simp); (try with_reducible rfl); (try simp only [Act.put, List.setIfInBounds_toArray, List.set_cons_zero, List.set_cons_succ])
      refine wpAnyH_take (i := 36) (oi := { dst := some 65, op := _, type := _, pos := _, after := _, guard := _ }) (v := ?_) rfl (by kernel_rfl) (by kernel_rfl) (by kernel_rfl) (fun _ _ _ h => h) (Or.inl ⟨by rfl, ?_⟩) (by assumption) ?_; rotate_left; (intro w hSw; (try dsimp only at hSw); go_simp); (try with_reducible rfl); (try simp only [Act.put, List.setIfInBounds_toArray, List.set_cons_zero, List.set_cons_succ])
      refine wpAnyH_take (i := 37) (oi := { dst := some 66, op := _, type := _, pos := _, after := _, guard := _ }) (v := ?_) rfl (by kernel_rfl) (by kernel_rfl) (by kernel_rfl) (fun _ _ _ h => h) (Or.inl ⟨by rfl, ?_⟩) (by assumption) ?_; rotate_left; (intro w hSw; (try dsimp only at hSw); go_simp); (try with_reducible rfl); (try simp only [Act.put, List.setIfInBounds_toArray, List.set_cons_zero, List.set_cons_succ])
      refine wpAnyH_ready (rs := [38]) (by kernel_rfl) (by simp) ?_
      refine AllReadyH.cons (o := { dst := some 67, op := _, type := _, pos := _, after := _, guard := _ }) rfl (fun K hK => ?_) AllReadyH.nil
      go_simp
      (go_at_call 11; (with_reducible refine (KHa _ (by first | exact hq | exact hq.drew)).mono ?_); rintro e v ⟨rfl, rfl⟩)
      try go_wp2_with fail
      refine hK.out _ _ (by first | exact ⟨(hq.cell (p := ⟨fb, 0, none⟩) lF).trans e0, (hq.cell (p := ⟨fb, 1, none⟩) lF).trans e1⟩ | exact ⟨(hq.drew.cell (p := ⟨fb, 0, none⟩) lF).trans e0, (hq.drew.cell (p := ⟨fb, 1, none⟩) lF).trans e1⟩) (fun hHeld => ?_)
      clear hK K; (try simp only [Act.put, List.setIfInBounds_toArray, List.set_cons_zero, List.set_cons_succ])
      refine wpAnyH_take (i := 39) (oi := { dst := some 68, op := _, type := _, pos := _, after := _, guard := _ }) (v := ?_) rfl (by kernel_rfl) (by kernel_rfl) (by kernel_rfl) (fun _ _ _ h => h) (Or.inl ⟨by rfl, ?_⟩) (by assumption) ?_; rotate_left; (intro w hSw; (try dsimp only at hSw); go_simp); (try with_reducible rfl); (try simp only [Act.put, List.setIfInBounds_toArray, List.set_cons_zero, List.set_cons_succ])
      refine wpAnyH_done (by kernel_rfl) ?_ _
      all_goals try go_wp2_with fail
      all_goals (go_meet; exact ⟨rfl, hq⟩)
    | false =>
      cases eh : decide ((b : Int) ∈ halvesM xs ys a) with
      | true =>
        have KFb := fun (W' : World) (hb0 : Below V.heap.size V W') => lawHas_lit (fullsM xs ys a) b F1 f1 w3.heap.size w4.heap.size W' false (hF.same (Same.of_below hb0 (by omega))) ep
        have KHb := fun (W' : World) (hb0 : Below V.heap.size V W') => lawHas_lit (halvesM xs ys a) b G1 g1 w4.heap.size V.heap.size W' true (hG.same (Same.of_below hb0 (Nat.le_refl _))) eh
        have NF : decide ((a : Int) ∈ fullsM xs ys b) = false := mf.symm.trans ep
        have NH : decide ((a : Int) ∈ halvesM xs ys b) = true := mh.symm.trans eh
        clear mf mh mff mhh ep eh
        have hq : Below V.heap.size V V := Below.refl _ _
        refine wp_region_held_drew (S := fun w' => w'.cell? ⟨fb, 0, none⟩ = some (.slice A1 xs.length c1) ∧ w'.cell? ⟨fb, 1, none⟩ = some (.slice B1 ys.length d1)) (by kernel_rfl) ⟨e0, e1⟩ (fun hHeld => ?_)
        refine wpAnyH_take (i := 0) (oi := { dst := some 29, op := _, type := _, pos := _, after := _, guard := _ }) (v := ?_) rfl (by kernel_rfl) (by kernel_rfl) (by kernel_rfl) (fun _ _ _ h => h) (Or.inl ⟨by rfl, ?_⟩) (by assumption) ?_; rotate_left; (intro w hSw; (try dsimp only at hSw); go_simp); (try with_reducible rfl); (try simp only [Act.put, List.setIfInBounds_toArray, List.set_cons_zero, List.set_cons_succ])
        refine wpAnyH_take (i := 1) (oi := { dst := some 30, op := _, type := _, pos := _, after := _, guard := _ }) (v := ?_) rfl (by kernel_rfl) (by kernel_rfl) (by kernel_rfl) (fun _ _ _ h => h) (Or.inl ⟨by rfl, ?_⟩) (by assumption) ?_; rotate_left; (intro w hSw; (try dsimp only at hSw); go_simp); (try with_reducible rfl); (try simp only [Act.put, List.setIfInBounds_toArray, List.set_cons_zero, List.set_cons_succ])
        refine wpAnyH_take (i := 3) (oi := { dst := some 32, op := _, type := _, pos := _, after := _, guard := _ }) (v := ?_) rfl (by kernel_rfl) (by kernel_rfl) (by kernel_rfl) (fun _ _ _ h => h) (Or.inl ⟨by rfl, ?_⟩) (by assumption) ?_; rotate_left; (intro w hSw; (try dsimp only at hSw); go_simp); (try with_reducible rfl); (try simp only [Act.put, List.setIfInBounds_toArray, List.set_cons_zero, List.set_cons_succ])
        refine wpAnyH_take (i := 4) (oi := { dst := some 33, op := _, type := _, pos := _, after := _, guard := _ }) (v := ?_) rfl (by kernel_rfl) (by kernel_rfl) (by kernel_rfl) (fun _ _ _ h => h) (Or.inl ⟨by rfl, ?_⟩) (by assumption) ?_; rotate_left; (intro w hSw; (try dsimp only at hSw); go_simp); (try with_reducible rfl); (try simp only [Act.put, List.setIfInBounds_toArray, List.set_cons_zero, List.set_cons_succ])
        refine wpAnyH_take (i := 6) (oi := { dst := some 35, op := _, type := _, pos := _, after := _, guard := _ }) (v := ?_) rfl (by kernel_rfl) (by kernel_rfl) (by kernel_rfl) (fun _ _ _ h => h) (Or.inl ⟨by rfl, ?_⟩) (by assumption) ?_; rotate_left; (intro w hSw; (try dsimp only at hSw); go_simp); (try with_reducible rfl); (try simp only [Act.put, List.setIfInBounds_toArray, List.set_cons_zero, List.set_cons_succ])
        refine wpAnyH_ready (rs := [2]) (by kernel_rfl) (by simp) ?_
        refine AllReadyH.cons (o := { dst := some 31, op := _, type := _, pos := _, after := _, guard := _ }) rfl (fun K hK => ?_) AllReadyH.nil
        go_simp
        (go_at_call 11; (with_reducible refine (KFb _ (by first | exact hq | exact hq.drew)).mono ?_); rintro e v ⟨rfl, rfl⟩)
        try go_wp2_with fail
        refine hK.out _ _ (by first | exact ⟨(hq.cell (p := ⟨fb, 0, none⟩) lF).trans e0, (hq.cell (p := ⟨fb, 1, none⟩) lF).trans e1⟩ | exact ⟨(hq.drew.cell (p := ⟨fb, 0, none⟩) lF).trans e0, (hq.drew.cell (p := ⟨fb, 1, none⟩) lF).trans e1⟩) (fun hHeld => ?_)
        clear hK K; (try simp only [Act.put, List.setIfInBounds_toArray, List.set_cons_zero, List.set_cons_succ])
        refine wpAnyH_ready (rs := [5]) (by kernel_rfl) (by simp) ?_
        refine AllReadyH.cons (o := { dst := some 34, op := _, type := _, pos := _, after := _, guard := _ }) rfl (fun K hK => ?_) AllReadyH.nil
        go_simp
        (go_at_call 9; (with_reducible refine (KF _ (by first | exact hq | exact hq.drew)).mono ?_); rintro e v ⟨QF, qf, rfl, oF, hv⟩; replace oF := oF.read.as; (first | (replace hv := undrew hv) | skip); replace hq := hq.trans (hv.mono hq.size))
        try go_wp2_with fail
        refine hK.out _ _ (by first | exact ⟨(hq.cell (p := ⟨fb, 0, none⟩) lF).trans e0, (hq.cell (p := ⟨fb, 1, none⟩) lF).trans e1⟩ | exact ⟨(hq.drew.cell (p := ⟨fb, 0, none⟩) lF).trans e0, (hq.drew.cell (p := ⟨fb, 1, none⟩) lF).trans e1⟩) (fun hHeld => ?_)
        clear hK K; (try simp only [Act.put, List.setIfInBounds_toArray, List.set_cons_zero, List.set_cons_succ])
        refine wpAnyH_ready (rs := [7]) (by kernel_rfl) (by simp) ?_
        refine AllReadyH.cons (o := { dst := some 36, op := _, type := _, pos := _, after := _, guard := _ }) rfl (fun K hK => ?_) AllReadyH.nil
        go_simp
        (go_at_call 11; (with_reducible refine (lawHas_lit (fullsM xs ys b) a _ _ _ _ _ false oF NF).mono ?_); rintro e v ⟨rfl, rfl⟩)
        try go_wp2_with fail
        refine hK.out _ _ (by first | exact ⟨(hq.cell (p := ⟨fb, 0, none⟩) lF).trans e0, (hq.cell (p := ⟨fb, 1, none⟩) lF).trans e1⟩ | exact ⟨(hq.drew.cell (p := ⟨fb, 0, none⟩) lF).trans e0, (hq.drew.cell (p := ⟨fb, 1, none⟩) lF).trans e1⟩) (fun hHeld => ?_)
        clear hK K; (try simp only [Act.put, List.setIfInBounds_toArray, List.set_cons_zero, List.set_cons_succ])
        refine wpAnyH_take (i := 8) (oi := { dst := some 37, op := _, type := _, pos := _, after := _, guard := _ }) (v := ?_) rfl (by kernel_rfl) (by kernel_rfl) (by kernel_rfl) (fun _ _ _ h => h) (Or.inl ⟨by rfl, ?_⟩) (by assumption) ?_; rotate_left; (intro w hSw; (try dsimp only at hSw); go_simp); (try with_reducible rfl); (try simp only [Act.put, List.setIfInBounds_toArray, List.set_cons_zero, List.set_cons_succ])
        refine wpAnyH_take (i := 9) (oi := { dst := some 38, op := _, type := _, pos := _, after := _, guard := _ }) (v := ?_) rfl (by kernel_rfl) (by kernel_rfl) (by kernel_rfl) (fun _ _ _ h => h) (Or.inl ⟨by rfl, ?_⟩) (by assumption) ?_; rotate_left; (intro w hSw; (try dsimp only at hSw); go_simp); (try with_reducible rfl); (try simp only [Act.put, List.setIfInBounds_toArray, List.set_cons_zero, List.set_cons_succ])
        refine wpAnyH_take (i := 10) (oi := { dst := some 39, op := _, type := _, pos := _, after := _, guard := _ }) (v := ?_) rfl (by kernel_rfl) (by kernel_rfl) (by kernel_rfl) (fun _ _ _ h => h) (Or.inl ⟨by rfl, ?_⟩) (by assumption) ?_; rotate_left; (intro w hSw; (try dsimp only at hSw); go_simp); (try with_reducible rfl); (try simp only [Act.put, List.setIfInBounds_toArray, List.set_cons_zero, List.set_cons_succ])
        refine wpAnyH_take (i := 11) (oi := { dst := some 40, op := _, type := _, pos := _, after := _, guard := _ }) (v := ?_) rfl (by kernel_rfl) (by kernel_rfl) (by kernel_rfl) (fun _ _ _ h => h) (Or.inl ⟨by rfl, ?_⟩) (by assumption) ?_; rotate_left; (intro w hSw; (try dsimp only at hSw); go_simp); (try with_reducible rfl); (try simp only [Act.put, List.setIfInBounds_toArray, List.set_cons_zero, List.set_cons_succ])
        refine wpAnyH_take (i := 13) (oi := { dst := some 42, op := _, type := _, pos := _, after := _, guard := _ }) (v := ?_) rfl (by kernel_rfl) (by kernel_rfl) (by kernel_rfl) (fun _ _ _ h => h) (Or.inl ⟨by rfl, ?_⟩) (by assumption) ?_; rotate_left; (intro w hSw; (try dsimp only at hSw); go_simp); (try with_reducible rfl); (try simp only [Act.put, List.setIfInBounds_toArray, List.set_cons_zero, List.set_cons_succ])
        refine wpAnyH_take (i := 14) (oi := { dst := some 43, op := _, type := _, pos := _, after := _, guard := _ }) (v := ?_) rfl (by kernel_rfl) (by kernel_rfl) (by kernel_rfl) (fun _ _ _ h => h) (Or.inl ⟨by rfl, ?_⟩) (by assumption) ?_; rotate_left; (intro w hSw; (try dsimp only at hSw); go_simp); (try with_reducible rfl); (try simp only [Act.put, List.setIfInBounds_toArray, List.set_cons_zero, List.set_cons_succ])
        refine wpAnyH_take (i := 16) (oi := { dst := some 45, op := _, type := _, pos := _, after := _, guard := _ }) (v := ?_) rfl (by kernel_rfl) (by kernel_rfl) (by kernel_rfl) (fun _ _ _ h => h) (Or.inl ⟨by rfl, ?_⟩) (by assumption) ?_; rotate_left; (intro w hSw; (try dsimp only at hSw); go_simp); (try with_reducible rfl); (try simp only [Act.put, List.setIfInBounds_toArray, List.set_cons_zero, List.set_cons_succ])
        refine wpAnyH_ready (rs := [12]) (by kernel_rfl) (by simp) ?_
        refine AllReadyH.cons (o := { dst := some 41, op := _, type := _, pos := _, after := _, guard := _ }) rfl (fun K hK => ?_) AllReadyH.nil
        go_simp
        (go_at_call 11; (with_reducible refine (KHb _ (by first | exact hq | exact hq.drew)).mono ?_); rintro e v ⟨rfl, rfl⟩)
        try go_wp2_with fail
        refine hK.out _ _ (by first | exact ⟨(hq.cell (p := ⟨fb, 0, none⟩) lF).trans e0, (hq.cell (p := ⟨fb, 1, none⟩) lF).trans e1⟩ | exact ⟨(hq.drew.cell (p := ⟨fb, 0, none⟩) lF).trans e0, (hq.drew.cell (p := ⟨fb, 1, none⟩) lF).trans e1⟩) (fun hHeld => ?_)
        clear hK K; (try simp only [Act.put, List.setIfInBounds_toArray, List.set_cons_zero, List.set_cons_succ])
        refine wpAnyH_ready (rs := [15]) (by kernel_rfl) (by simp) ?_
        refine AllReadyH.cons (o := { dst := some 44, op := _, type := _, pos := _, after := _, guard := _ }) rfl (fun K hK => ?_) AllReadyH.nil
        go_simp
        (go_at_call 10; (with_reducible refine (KH _ (by first | exact hq | exact hq.drew)).mono ?_); rintro e v ⟨QH, qh, rfl, oH, hv⟩; replace oH := oH.read.as; (first | (replace hv := undrew hv) | skip); replace hq := hq.trans (hv.mono hq.size))
        try go_wp2_with fail
        refine hK.out _ _ (by first | exact ⟨(hq.cell (p := ⟨fb, 0, none⟩) lF).trans e0, (hq.cell (p := ⟨fb, 1, none⟩) lF).trans e1⟩ | exact ⟨(hq.drew.cell (p := ⟨fb, 0, none⟩) lF).trans e0, (hq.drew.cell (p := ⟨fb, 1, none⟩) lF).trans e1⟩) (fun hHeld => ?_)
        clear hK K; (try simp only [Act.put, List.setIfInBounds_toArray, List.set_cons_zero, List.set_cons_succ])
        refine wpAnyH_ready (rs := [17]) (by kernel_rfl) (by simp) ?_
        refine AllReadyH.cons (o := { dst := some 46, op := _, type := _, pos := _, after := _, guard := _ }) rfl (fun K hK => ?_) AllReadyH.nil
        go_simp
        (go_at_call 11; (with_reducible refine (lawHas_lit (halvesM xs ys b) a _ _ _ _ _ true oH NH).mono ?_); rintro e v ⟨rfl, rfl⟩)
        try go_wp2_with fail
        refine hK.out _ _ (by first | exact ⟨(hq.cell (p := ⟨fb, 0, none⟩) lF).trans e0, (hq.cell (p := ⟨fb, 1, none⟩) lF).trans e1⟩ | exact ⟨(hq.drew.cell (p := ⟨fb, 0, none⟩) lF).trans e0, (hq.drew.cell (p := ⟨fb, 1, none⟩) lF).trans e1⟩) (fun hHeld => ?_)
        clear hK K; (try simp only [Act.put, List.setIfInBounds_toArray, List.set_cons_zero, List.set_cons_succ])
        refine wpAnyH_take (i := 18) (oi := { dst := some 47, op := _, type := _, pos := _, after := _, guard := _ }) (v := ?_) rfl (by kernel_rfl) (by kernel_rfl) (by kernel_rfl) (fun _ _ _ h => h) (Or.inl ⟨by rfl, ?_⟩) (by assumption) ?_; rotate_left; (intro w hSw; (try dsimp only at hSw); go_simp); (try with_reducible rfl); (try simp only [Act.put, List.setIfInBounds_toArray, List.set_cons_zero, List.set_cons_succ])
        refine wpAnyH_take (i := 19) (oi := { dst := some 48, op := _, type := _, pos := _, after := _, guard := _ }) (v := ?_) rfl (by kernel_rfl) (by kernel_rfl) (by kernel_rfl) (fun _ _ _ h => h) (Or.inl ⟨by rfl, ?_⟩) (by assumption) ?_; rotate_left; (intro w hSw; (try dsimp only at hSw); go_simp); (try with_reducible rfl); (try simp only [Act.put, List.setIfInBounds_toArray, List.set_cons_zero, List.set_cons_succ])
        refine wpAnyH_take (i := 20) (oi := { dst := some 49, op := _, type := _, pos := _, after := _, guard := _ }) (v := ?_) rfl (by kernel_rfl) (by kernel_rfl) (by kernel_rfl) (fun _ _ _ h => h) (Or.inl ⟨by rfl, ?_⟩) (by assumption) ?_; rotate_left; (intro w hSw; (try dsimp only at hSw); go_simp); (try with_reducible rfl); (try simp only [Act.put, List.setIfInBounds_toArray, List.set_cons_zero, List.set_cons_succ])
        refine wpAnyH_take (i := 21) (oi := { dst := some 50, op := _, type := _, pos := _, after := _, guard := _ }) (v := ?_) rfl (by kernel_rfl) (by kernel_rfl) (by kernel_rfl) (fun _ _ _ h => h) (Or.inl ⟨by rfl, ?_⟩) (by assumption) ?_; rotate_left; (intro w hSw; (try dsimp only at hSw); go_simp); (try with_reducible rfl); (try simp only [Act.put, List.setIfInBounds_toArray, List.set_cons_zero, List.set_cons_succ])
        refine wpAnyH_take (i := 22) (oi := { dst := some 51, op := _, type := _, pos := _, after := _, guard := _ }) (v := ?_) rfl (by kernel_rfl) (by kernel_rfl) (by kernel_rfl) (fun _ _ _ h => h) (Or.inl ⟨by rfl, ?_⟩) (by assumption) ?_; rotate_left; (intro w hSw; (try dsimp only at hSw); go_simp); (try with_reducible rfl); (try simp only [Act.put, List.setIfInBounds_toArray, List.set_cons_zero, List.set_cons_succ])
        refine wpAnyH_ready (rs := [23]) (by kernel_rfl) (by simp) ?_
        refine AllReadyH.cons (o := { dst := some 52, op := _, type := _, pos := _, after := _, guard := _ }) rfl (fun K hK => ?_) AllReadyH.nil
        go_simp
        (go_at_call 11; (with_reducible refine (KFb _ (by first | exact hq | exact hq.drew)).mono ?_); rintro e v ⟨rfl, rfl⟩)
        try go_wp2_with fail
        refine hK.out _ _ (by first | exact ⟨(hq.cell (p := ⟨fb, 0, none⟩) lF).trans e0, (hq.cell (p := ⟨fb, 1, none⟩) lF).trans e1⟩ | exact ⟨(hq.drew.cell (p := ⟨fb, 0, none⟩) lF).trans e0, (hq.drew.cell (p := ⟨fb, 1, none⟩) lF).trans e1⟩) (fun hHeld => ?_)
        clear hK K; (try simp only [Act.put, List.setIfInBounds_toArray, List.set_cons_zero, List.set_cons_succ])
        refine wpAnyH_take (i := 24) (oi := { dst := some 53, op := _, type := _, pos := _, after := _, guard := _ }) (v := ?_) rfl (by kernel_rfl) (by kernel_rfl) (by kernel_rfl) (fun _ _ _ h => h) (Or.inl ⟨by rfl, ?_⟩) (by assumption) ?_; rotate_left; (intro w hSw; (try dsimp only at hSw); go_simp); (try with_reducible rfl); (try simp only [Act.put, List.setIfInBounds_toArray, List.set_cons_zero, List.set_cons_succ])
        refine wpAnyH_take (i := 25) (oi := { dst := some 54, op := _, type := _, pos := _, after := _, guard := _ }) (v := _) rfl (by kernel_rfl) (by kernel_rfl) (by kernel_rfl) (fun _ _ _ h => h) (Or.inr ⟨by kernel_rfl, rfl⟩) (by assumption) ?_; (try simp only [Act.put, List.setIfInBounds_toArray, List.set_cons_zero, List.set_cons_succ])
        refine wpAnyH_take (i := 26) (oi := { dst := some 55, op := _, type := _, pos := _, after := _, guard := _ }) (v := _) rfl (by kernel_rfl) (by kernel_rfl) (by kernel_rfl) (fun _ _ _ h => h) (Or.inr ⟨by kernel_rfl, rfl⟩) (by assumption) ?_; (try simp only [Act.put, List.setIfInBounds_toArray, List.set_cons_zero, List.set_cons_succ])
        refine wpAnyH_take (i := 27) (oi := { dst := some 56, op := _, type := _, pos := _, after := _, guard := _ }) (v := _) rfl (by kernel_rfl) (by kernel_rfl) (by kernel_rfl) (fun _ _ _ h => h) (Or.inr ⟨by kernel_rfl, rfl⟩) (by assumption) ?_; (try simp only [Act.put, List.setIfInBounds_toArray, List.set_cons_zero, List.set_cons_succ])
        refine wpAnyH_take (i := 28) (oi := { dst := some 57, op := _, type := _, pos := _, after := _, guard := _ }) (v := ?_) rfl (by kernel_rfl) (by kernel_rfl) (by kernel_rfl) (fun _ _ _ h => h) (Or.inl ⟨by rfl, ?_⟩) (by assumption) ?_; rotate_left; (intro w hSw; (try dsimp only at hSw); go_simp); (try with_reducible rfl); (try simp only [Act.put, List.setIfInBounds_toArray, List.set_cons_zero, List.set_cons_succ])
        refine wpAnyH_take (i := 29) (oi := { dst := some 58, op := _, type := _, pos := _, after := _, guard := _ }) (v := ?_) rfl (by kernel_rfl) (by kernel_rfl) (by kernel_rfl) (fun _ _ _ h => h) (Or.inl ⟨by rfl, ?_⟩) (by assumption) ?_; rotate_left; (intro w hSw; (try dsimp only at hSw); go_simp); (try with_reducible rfl); (try simp only [Act.put, List.setIfInBounds_toArray, List.set_cons_zero, List.set_cons_succ])
        refine wpAnyH_take (i := 30) (oi := { dst := some 59, op := _, type := _, pos := _, after := _, guard := _ }) (v := ?_) rfl (by kernel_rfl) (by kernel_rfl) (by kernel_rfl) (fun _ _ _ h => h) (Or.inl ⟨by rfl, ?_⟩) (by assumption) ?_; rotate_left; (intro w hSw; (try dsimp only at hSw); go_simp); (try with_reducible rfl); (try simp only [Act.put, List.setIfInBounds_toArray, List.set_cons_zero, List.set_cons_succ])
        refine wpAnyH_take (i := 31) (oi := { dst := some 60, op := _, type := _, pos := _, after := _, guard := _ }) (v := ?_) rfl (by kernel_rfl) (by kernel_rfl) (by kernel_rfl) (fun _ _ _ h => h) (Or.inl ⟨by rfl, ?_⟩) (by assumption) ?_; rotate_left; (intro w hSw; (try dsimp only at hSw); go_simp); (try with_reducible rfl); (try simp only [Act.put, List.setIfInBounds_toArray, List.set_cons_zero, List.set_cons_succ])
        refine wpAnyH_take (i := 32) (oi := { dst := some 61, op := _, type := _, pos := _, after := _, guard := _ }) (v := ?_) rfl (by kernel_rfl) (by kernel_rfl) (by kernel_rfl) (fun _ _ _ h => h) (Or.inl ⟨by rfl, ?_⟩) (by assumption) ?_; rotate_left; (intro w hSw; (try dsimp only at hSw); go_simp); (try with_reducible rfl); (try simp only [Act.put, List.setIfInBounds_toArray, List.set_cons_zero, List.set_cons_succ])
        refine wpAnyH_ready (rs := [33]) (by kernel_rfl) (by simp) ?_
        refine AllReadyH.cons (o := { dst := some 62, op := _, type := _, pos := _, after := _, guard := _ }) rfl (fun K hK => ?_) AllReadyH.nil
        go_simp
        (go_at_call 11; (with_reducible refine (KFa _ (by first | exact hq | exact hq.drew)).mono ?_); rintro e v ⟨rfl, rfl⟩)
        try go_wp2_with fail
        refine hK.out _ _ (by first | exact ⟨(hq.cell (p := ⟨fb, 0, none⟩) lF).trans e0, (hq.cell (p := ⟨fb, 1, none⟩) lF).trans e1⟩ | exact ⟨(hq.drew.cell (p := ⟨fb, 0, none⟩) lF).trans e0, (hq.drew.cell (p := ⟨fb, 1, none⟩) lF).trans e1⟩) (fun hHeld => ?_)
        clear hK K; (try simp only [Act.put, List.setIfInBounds_toArray, List.set_cons_zero, List.set_cons_succ])
        refine wpAnyH_take (i := 34) (oi := { dst := some 63, op := _, type := _, pos := _, after := _, guard := _ }) (v := ?_) rfl (by kernel_rfl) (by kernel_rfl) (by kernel_rfl) (fun _ _ _ h => h) (Or.inl ⟨by rfl, ?_⟩) (by assumption) ?_; rotate_left; (intro w hSw; (try dsimp only at hSw); go_simp); (try with_reducible rfl); (try simp only [Act.put, List.setIfInBounds_toArray, List.set_cons_zero, List.set_cons_succ])
        refine wpAnyH_take (i := 35) (oi := { dst := some 64, op := _, type := _, pos := _, after := _, guard := _ }) (v := ?_) rfl (by kernel_rfl) (by kernel_rfl) (by kernel_rfl) (fun _ _ _ h => h) (Or.inl ⟨by rfl, ?_⟩) (by assumption) ?_; rotate_left; (intro w hSw; (try dsimp only at hSw); go_simp); (try with_reducible rfl); (try simp only [Act.put, List.setIfInBounds_toArray, List.set_cons_zero, List.set_cons_succ])
        refine wpAnyH_take (i := 36) (oi := { dst := some 65, op := _, type := _, pos := _, after := _, guard := _ }) (v := ?_) rfl (by kernel_rfl) (by kernel_rfl) (by kernel_rfl) (fun _ _ _ h => h) (Or.inl ⟨by rfl, ?_⟩) (by assumption) ?_; rotate_left; (intro w hSw; (try dsimp only at hSw); go_simp); (try with_reducible rfl); (try simp only [Act.put, List.setIfInBounds_toArray, List.set_cons_zero, List.set_cons_succ])
        refine wpAnyH_take (i := 37) (oi := { dst := some 66, op := _, type := _, pos := _, after := _, guard := _ }) (v := ?_) rfl (by kernel_rfl) (by kernel_rfl) (by kernel_rfl) (fun _ _ _ h => h) (Or.inl ⟨by rfl, ?_⟩) (by assumption) ?_; rotate_left; (intro w hSw; (try dsimp only at hSw); go_simp); (try with_reducible rfl); (try simp only [Act.put, List.setIfInBounds_toArray, List.set_cons_zero, List.set_cons_succ])
        refine wpAnyH_ready (rs := [38]) (by kernel_rfl) (by simp) ?_
        refine AllReadyH.cons (o := { dst := some 67, op := _, type := _, pos := _, after := _, guard := _ }) rfl (fun K hK => ?_) AllReadyH.nil
        go_simp
        (go_at_call 11; (with_reducible refine (KHa _ (by first | exact hq | exact hq.drew)).mono ?_); rintro e v ⟨rfl, rfl⟩)
        try go_wp2_with fail
        refine hK.out _ _ (by first | exact ⟨(hq.cell (p := ⟨fb, 0, none⟩) lF).trans e0, (hq.cell (p := ⟨fb, 1, none⟩) lF).trans e1⟩ | exact ⟨(hq.drew.cell (p := ⟨fb, 0, none⟩) lF).trans e0, (hq.drew.cell (p := ⟨fb, 1, none⟩) lF).trans e1⟩) (fun hHeld => ?_)
        clear hK K; (try simp only [Act.put, List.setIfInBounds_toArray, List.set_cons_zero, List.set_cons_succ])
        refine wpAnyH_take (i := 39) (oi := { dst := some 68, op := _, type := _, pos := _, after := _, guard := _ }) (v := ?_) rfl (by kernel_rfl) (by kernel_rfl) (by kernel_rfl) (fun _ _ _ h => h) (Or.inl ⟨by rfl, ?_⟩) (by assumption) ?_; rotate_left; (intro w hSw; (try dsimp only at hSw); go_simp); (try with_reducible rfl); (try simp only [Act.put, List.setIfInBounds_toArray, List.set_cons_zero, List.set_cons_succ])
        refine wpAnyH_done (by kernel_rfl) ?_ _
        all_goals try go_wp2_with fail
        all_goals (go_meet; exact ⟨rfl, hq⟩)
      | false =>
        have KFb := fun (W' : World) (hb0 : Below V.heap.size V W') => lawHas_lit (fullsM xs ys a) b F1 f1 w3.heap.size w4.heap.size W' false (hF.same (Same.of_below hb0 (by omega))) ep
        have KHb := fun (W' : World) (hb0 : Below V.heap.size V W') => lawHas_lit (halvesM xs ys a) b G1 g1 w4.heap.size V.heap.size W' false (hG.same (Same.of_below hb0 (Nat.le_refl _))) eh
        have NF : decide ((a : Int) ∈ fullsM xs ys b) = false := mf.symm.trans ep
        have NH : decide ((a : Int) ∈ halvesM xs ys b) = false := mh.symm.trans eh
        clear mf mh mff mhh ep eh
        have hq : Below V.heap.size V V := Below.refl _ _
        refine wp_region_held_drew (S := fun w' => w'.cell? ⟨fb, 0, none⟩ = some (.slice A1 xs.length c1) ∧ w'.cell? ⟨fb, 1, none⟩ = some (.slice B1 ys.length d1)) (by kernel_rfl) ⟨e0, e1⟩ (fun hHeld => ?_)
        refine wpAnyH_take (i := 0) (oi := { dst := some 29, op := _, type := _, pos := _, after := _, guard := _ }) (v := ?_) rfl (by kernel_rfl) (by kernel_rfl) (by kernel_rfl) (fun _ _ _ h => h) (Or.inl ⟨by rfl, ?_⟩) (by assumption) ?_; rotate_left; (intro w hSw; (try dsimp only at hSw); go_simp); (try with_reducible rfl); (try simp only [Act.put, List.setIfInBounds_toArray, List.set_cons_zero, List.set_cons_succ])
        refine wpAnyH_take (i := 1) (oi := { dst := some 30, op := _, type := _, pos := _, after := _, guard := _ }) (v := ?_) rfl (by kernel_rfl) (by kernel_rfl) (by kernel_rfl) (fun _ _ _ h => h) (Or.inl ⟨by rfl, ?_⟩) (by assumption) ?_; rotate_left; (intro w hSw; (try dsimp only at hSw); go_simp); (try with_reducible rfl); (try simp only [Act.put, List.setIfInBounds_toArray, List.set_cons_zero, List.set_cons_succ])
        refine wpAnyH_take (i := 3) (oi := { dst := some 32, op := _, type := _, pos := _, after := _, guard := _ }) (v := ?_) rfl (by kernel_rfl) (by kernel_rfl) (by kernel_rfl) (fun _ _ _ h => h) (Or.inl ⟨by rfl, ?_⟩) (by assumption) ?_; rotate_left; (intro w hSw; (try dsimp only at hSw); go_simp); (try with_reducible rfl); (try simp only [Act.put, List.setIfInBounds_toArray, List.set_cons_zero, List.set_cons_succ])
        refine wpAnyH_take (i := 4) (oi := { dst := some 33, op := _, type := _, pos := _, after := _, guard := _ }) (v := ?_) rfl (by kernel_rfl) (by kernel_rfl) (by kernel_rfl) (fun _ _ _ h => h) (Or.inl ⟨by rfl, ?_⟩) (by assumption) ?_; rotate_left; (intro w hSw; (try dsimp only at hSw); go_simp); (try with_reducible rfl); (try simp only [Act.put, List.setIfInBounds_toArray, List.set_cons_zero, List.set_cons_succ])
        refine wpAnyH_take (i := 6) (oi := { dst := some 35, op := _, type := _, pos := _, after := _, guard := _ }) (v := ?_) rfl (by kernel_rfl) (by kernel_rfl) (by kernel_rfl) (fun _ _ _ h => h) (Or.inl ⟨by rfl, ?_⟩) (by assumption) ?_; rotate_left; (intro w hSw; (try dsimp only at hSw); go_simp); (try with_reducible rfl); (try simp only [Act.put, List.setIfInBounds_toArray, List.set_cons_zero, List.set_cons_succ])
        refine wpAnyH_ready (rs := [2]) (by kernel_rfl) (by simp) ?_
        refine AllReadyH.cons (o := { dst := some 31, op := _, type := _, pos := _, after := _, guard := _ }) rfl (fun K hK => ?_) AllReadyH.nil
        go_simp
        (go_at_call 11; (with_reducible refine (KFb _ (by first | exact hq | exact hq.drew)).mono ?_); rintro e v ⟨rfl, rfl⟩)
        try go_wp2_with fail
        refine hK.out _ _ (by first | exact ⟨(hq.cell (p := ⟨fb, 0, none⟩) lF).trans e0, (hq.cell (p := ⟨fb, 1, none⟩) lF).trans e1⟩ | exact ⟨(hq.drew.cell (p := ⟨fb, 0, none⟩) lF).trans e0, (hq.drew.cell (p := ⟨fb, 1, none⟩) lF).trans e1⟩) (fun hHeld => ?_)
        clear hK K; (try simp only [Act.put, List.setIfInBounds_toArray, List.set_cons_zero, List.set_cons_succ])
        refine wpAnyH_ready (rs := [5]) (by kernel_rfl) (by simp) ?_
        refine AllReadyH.cons (o := { dst := some 34, op := _, type := _, pos := _, after := _, guard := _ }) rfl (fun K hK => ?_) AllReadyH.nil
        go_simp
        (go_at_call 9; (with_reducible refine (KF _ (by first | exact hq | exact hq.drew)).mono ?_); rintro e v ⟨QF, qf, rfl, oF, hv⟩; replace oF := oF.read.as; (first | (replace hv := undrew hv) | skip); replace hq := hq.trans (hv.mono hq.size))
        try go_wp2_with fail
        refine hK.out _ _ (by first | exact ⟨(hq.cell (p := ⟨fb, 0, none⟩) lF).trans e0, (hq.cell (p := ⟨fb, 1, none⟩) lF).trans e1⟩ | exact ⟨(hq.drew.cell (p := ⟨fb, 0, none⟩) lF).trans e0, (hq.drew.cell (p := ⟨fb, 1, none⟩) lF).trans e1⟩) (fun hHeld => ?_)
        clear hK K; (try simp only [Act.put, List.setIfInBounds_toArray, List.set_cons_zero, List.set_cons_succ])
        refine wpAnyH_ready (rs := [7]) (by kernel_rfl) (by simp) ?_
        refine AllReadyH.cons (o := { dst := some 36, op := _, type := _, pos := _, after := _, guard := _ }) rfl (fun K hK => ?_) AllReadyH.nil
        go_simp
        (go_at_call 11; (with_reducible refine (lawHas_lit (fullsM xs ys b) a _ _ _ _ _ false oF NF).mono ?_); rintro e v ⟨rfl, rfl⟩)
        try go_wp2_with fail
        refine hK.out _ _ (by first | exact ⟨(hq.cell (p := ⟨fb, 0, none⟩) lF).trans e0, (hq.cell (p := ⟨fb, 1, none⟩) lF).trans e1⟩ | exact ⟨(hq.drew.cell (p := ⟨fb, 0, none⟩) lF).trans e0, (hq.drew.cell (p := ⟨fb, 1, none⟩) lF).trans e1⟩) (fun hHeld => ?_)
        clear hK K; (try simp only [Act.put, List.setIfInBounds_toArray, List.set_cons_zero, List.set_cons_succ])
        refine wpAnyH_take (i := 8) (oi := { dst := some 37, op := _, type := _, pos := _, after := _, guard := _ }) (v := ?_) rfl (by kernel_rfl) (by kernel_rfl) (by kernel_rfl) (fun _ _ _ h => h) (Or.inl ⟨by rfl, ?_⟩) (by assumption) ?_; rotate_left; (intro w hSw; (try dsimp only at hSw); go_simp); (try with_reducible rfl); (try simp only [Act.put, List.setIfInBounds_toArray, List.set_cons_zero, List.set_cons_succ])
        refine wpAnyH_take (i := 9) (oi := { dst := some 38, op := _, type := _, pos := _, after := _, guard := _ }) (v := ?_) rfl (by kernel_rfl) (by kernel_rfl) (by kernel_rfl) (fun _ _ _ h => h) (Or.inl ⟨by rfl, ?_⟩) (by assumption) ?_; rotate_left; (intro w hSw; (try dsimp only at hSw); go_simp); (try with_reducible rfl); (try simp only [Act.put, List.setIfInBounds_toArray, List.set_cons_zero, List.set_cons_succ])
        refine wpAnyH_take (i := 10) (oi := { dst := some 39, op := _, type := _, pos := _, after := _, guard := _ }) (v := ?_) rfl (by kernel_rfl) (by kernel_rfl) (by kernel_rfl) (fun _ _ _ h => h) (Or.inl ⟨by rfl, ?_⟩) (by assumption) ?_; rotate_left; (intro w hSw; (try dsimp only at hSw); go_simp); (try with_reducible rfl); (try simp only [Act.put, List.setIfInBounds_toArray, List.set_cons_zero, List.set_cons_succ])
        refine wpAnyH_take (i := 11) (oi := { dst := some 40, op := _, type := _, pos := _, after := _, guard := _ }) (v := ?_) rfl (by kernel_rfl) (by kernel_rfl) (by kernel_rfl) (fun _ _ _ h => h) (Or.inl ⟨by rfl, ?_⟩) (by assumption) ?_; rotate_left; (intro w hSw; (try dsimp only at hSw); go_simp); (try with_reducible rfl); (try simp only [Act.put, List.setIfInBounds_toArray, List.set_cons_zero, List.set_cons_succ])
        refine wpAnyH_take (i := 13) (oi := { dst := some 42, op := _, type := _, pos := _, after := _, guard := _ }) (v := ?_) rfl (by kernel_rfl) (by kernel_rfl) (by kernel_rfl) (fun _ _ _ h => h) (Or.inl ⟨by rfl, ?_⟩) (by assumption) ?_; rotate_left; (intro w hSw; (try dsimp only at hSw); go_simp); (try with_reducible rfl); (try simp only [Act.put, List.setIfInBounds_toArray, List.set_cons_zero, List.set_cons_succ])
        refine wpAnyH_take (i := 14) (oi := { dst := some 43, op := _, type := _, pos := _, after := _, guard := _ }) (v := ?_) rfl (by kernel_rfl) (by kernel_rfl) (by kernel_rfl) (fun _ _ _ h => h) (Or.inl ⟨by rfl, ?_⟩) (by assumption) ?_; rotate_left; (intro w hSw; (try dsimp only at hSw); go_simp); (try with_reducible rfl); (try simp only [Act.put, List.setIfInBounds_toArray, List.set_cons_zero, List.set_cons_succ])
        refine wpAnyH_take (i := 16) (oi := { dst := some 45, op := _, type := _, pos := _, after := _, guard := _ }) (v := ?_) rfl (by kernel_rfl) (by kernel_rfl) (by kernel_rfl) (fun _ _ _ h => h) (Or.inl ⟨by rfl, ?_⟩) (by assumption) ?_; rotate_left; (intro w hSw; (try dsimp only at hSw); go_simp); (try with_reducible rfl); (try simp only [Act.put, List.setIfInBounds_toArray, List.set_cons_zero, List.set_cons_succ])
        refine wpAnyH_ready (rs := [12]) (by kernel_rfl) (by simp) ?_
        refine AllReadyH.cons (o := { dst := some 41, op := _, type := _, pos := _, after := _, guard := _ }) rfl (fun K hK => ?_) AllReadyH.nil
        go_simp
        (go_at_call 11; (with_reducible refine (KHb _ (by first | exact hq | exact hq.drew)).mono ?_); rintro e v ⟨rfl, rfl⟩)
        try go_wp2_with fail
        refine hK.out _ _ (by first | exact ⟨(hq.cell (p := ⟨fb, 0, none⟩) lF).trans e0, (hq.cell (p := ⟨fb, 1, none⟩) lF).trans e1⟩ | exact ⟨(hq.drew.cell (p := ⟨fb, 0, none⟩) lF).trans e0, (hq.drew.cell (p := ⟨fb, 1, none⟩) lF).trans e1⟩) (fun hHeld => ?_)
        clear hK K; (try simp only [Act.put, List.setIfInBounds_toArray, List.set_cons_zero, List.set_cons_succ])
        refine wpAnyH_ready (rs := [15]) (by kernel_rfl) (by simp) ?_
        refine AllReadyH.cons (o := { dst := some 44, op := _, type := _, pos := _, after := _, guard := _ }) rfl (fun K hK => ?_) AllReadyH.nil
        go_simp
        (go_at_call 10; (with_reducible refine (KH _ (by first | exact hq | exact hq.drew)).mono ?_); rintro e v ⟨QH, qh, rfl, oH, hv⟩; replace oH := oH.read.as; (first | (replace hv := undrew hv) | skip); replace hq := hq.trans (hv.mono hq.size))
        try go_wp2_with fail
        refine hK.out _ _ (by first | exact ⟨(hq.cell (p := ⟨fb, 0, none⟩) lF).trans e0, (hq.cell (p := ⟨fb, 1, none⟩) lF).trans e1⟩ | exact ⟨(hq.drew.cell (p := ⟨fb, 0, none⟩) lF).trans e0, (hq.drew.cell (p := ⟨fb, 1, none⟩) lF).trans e1⟩) (fun hHeld => ?_)
        clear hK K; (try simp only [Act.put, List.setIfInBounds_toArray, List.set_cons_zero, List.set_cons_succ])
        refine wpAnyH_ready (rs := [17]) (by kernel_rfl) (by simp) ?_
        refine AllReadyH.cons (o := { dst := some 46, op := _, type := _, pos := _, after := _, guard := _ }) rfl (fun K hK => ?_) AllReadyH.nil
        go_simp
        (go_at_call 11; (with_reducible refine (lawHas_lit (halvesM xs ys b) a _ _ _ _ _ false oH NH).mono ?_); rintro e v ⟨rfl, rfl⟩)
        try go_wp2_with fail
        refine hK.out _ _ (by first | exact ⟨(hq.cell (p := ⟨fb, 0, none⟩) lF).trans e0, (hq.cell (p := ⟨fb, 1, none⟩) lF).trans e1⟩ | exact ⟨(hq.drew.cell (p := ⟨fb, 0, none⟩) lF).trans e0, (hq.drew.cell (p := ⟨fb, 1, none⟩) lF).trans e1⟩) (fun hHeld => ?_)
        clear hK K; (try simp only [Act.put, List.setIfInBounds_toArray, List.set_cons_zero, List.set_cons_succ])
        refine wpAnyH_take (i := 18) (oi := { dst := some 47, op := _, type := _, pos := _, after := _, guard := _ }) (v := ?_) rfl (by kernel_rfl) (by kernel_rfl) (by kernel_rfl) (fun _ _ _ h => h) (Or.inl ⟨by rfl, ?_⟩) (by assumption) ?_; rotate_left; (intro w hSw; (try dsimp only at hSw); go_simp); (try with_reducible rfl); (try simp only [Act.put, List.setIfInBounds_toArray, List.set_cons_zero, List.set_cons_succ])
        refine wpAnyH_take (i := 19) (oi := { dst := some 48, op := _, type := _, pos := _, after := _, guard := _ }) (v := ?_) rfl (by kernel_rfl) (by kernel_rfl) (by kernel_rfl) (fun _ _ _ h => h) (Or.inl ⟨by rfl, ?_⟩) (by assumption) ?_; rotate_left; (intro w hSw; (try dsimp only at hSw); go_simp); (try with_reducible rfl); (try simp only [Act.put, List.setIfInBounds_toArray, List.set_cons_zero, List.set_cons_succ])
        refine wpAnyH_take (i := 20) (oi := { dst := some 49, op := _, type := _, pos := _, after := _, guard := _ }) (v := ?_) rfl (by kernel_rfl) (by kernel_rfl) (by kernel_rfl) (fun _ _ _ h => h) (Or.inl ⟨by rfl, ?_⟩) (by assumption) ?_; rotate_left; (intro w hSw; (try dsimp only at hSw); go_simp); (try with_reducible rfl); (try simp only [Act.put, List.setIfInBounds_toArray, List.set_cons_zero, List.set_cons_succ])
        refine wpAnyH_take (i := 21) (oi := { dst := some 50, op := _, type := _, pos := _, after := _, guard := _ }) (v := ?_) rfl (by kernel_rfl) (by kernel_rfl) (by kernel_rfl) (fun _ _ _ h => h) (Or.inl ⟨by rfl, ?_⟩) (by assumption) ?_; rotate_left; (intro w hSw; (try dsimp only at hSw); go_simp); (try with_reducible rfl); (try simp only [Act.put, List.setIfInBounds_toArray, List.set_cons_zero, List.set_cons_succ])
        refine wpAnyH_take (i := 22) (oi := { dst := some 51, op := _, type := _, pos := _, after := _, guard := _ }) (v := ?_) rfl (by kernel_rfl) (by kernel_rfl) (by kernel_rfl) (fun _ _ _ h => h) (Or.inl ⟨by rfl, ?_⟩) (by assumption) ?_; rotate_left; (intro w hSw; (try dsimp only at hSw); go_simp); (try with_reducible rfl); (try simp only [Act.put, List.setIfInBounds_toArray, List.set_cons_zero, List.set_cons_succ])
        refine wpAnyH_ready (rs := [23]) (by kernel_rfl) (by simp) ?_
        refine AllReadyH.cons (o := { dst := some 52, op := _, type := _, pos := _, after := _, guard := _ }) rfl (fun K hK => ?_) AllReadyH.nil
        go_simp
        (go_at_call 11; (with_reducible refine (KFb _ (by first | exact hq | exact hq.drew)).mono ?_); rintro e v ⟨rfl, rfl⟩)
        try go_wp2_with fail
        refine hK.out _ _ (by first | exact ⟨(hq.cell (p := ⟨fb, 0, none⟩) lF).trans e0, (hq.cell (p := ⟨fb, 1, none⟩) lF).trans e1⟩ | exact ⟨(hq.drew.cell (p := ⟨fb, 0, none⟩) lF).trans e0, (hq.drew.cell (p := ⟨fb, 1, none⟩) lF).trans e1⟩) (fun hHeld => ?_)
        clear hK K; (try simp only [Act.put, List.setIfInBounds_toArray, List.set_cons_zero, List.set_cons_succ])
        refine wpAnyH_take (i := 24) (oi := { dst := some 53, op := _, type := _, pos := _, after := _, guard := _ }) (v := ?_) rfl (by kernel_rfl) (by kernel_rfl) (by kernel_rfl) (fun _ _ _ h => h) (Or.inl ⟨by rfl, ?_⟩) (by assumption) ?_; rotate_left; (intro w hSw; (try dsimp only at hSw); go_simp); (try with_reducible rfl); (try simp only [Act.put, List.setIfInBounds_toArray, List.set_cons_zero, List.set_cons_succ])
        refine wpAnyH_take (i := 25) (oi := { dst := some 54, op := _, type := _, pos := _, after := _, guard := _ }) (v := _) rfl (by kernel_rfl) (by kernel_rfl) (by kernel_rfl) (fun _ _ _ h => h) (Or.inr ⟨by kernel_rfl, rfl⟩) (by assumption) ?_; (try simp only [Act.put, List.setIfInBounds_toArray, List.set_cons_zero, List.set_cons_succ])
        refine wpAnyH_take (i := 26) (oi := { dst := some 55, op := _, type := _, pos := _, after := _, guard := _ }) (v := _) rfl (by kernel_rfl) (by kernel_rfl) (by kernel_rfl) (fun _ _ _ h => h) (Or.inr ⟨by kernel_rfl, rfl⟩) (by assumption) ?_; (try simp only [Act.put, List.setIfInBounds_toArray, List.set_cons_zero, List.set_cons_succ])
        refine wpAnyH_take (i := 27) (oi := { dst := some 56, op := _, type := _, pos := _, after := _, guard := _ }) (v := _) rfl (by kernel_rfl) (by kernel_rfl) (by kernel_rfl) (fun _ _ _ h => h) (Or.inr ⟨by kernel_rfl, rfl⟩) (by assumption) ?_; (try simp only [Act.put, List.setIfInBounds_toArray, List.set_cons_zero, List.set_cons_succ])
        refine wpAnyH_take (i := 28) (oi := { dst := some 57, op := _, type := _, pos := _, after := _, guard := _ }) (v := ?_) rfl (by kernel_rfl) (by kernel_rfl) (by kernel_rfl) (fun _ _ _ h => h) (Or.inl ⟨by rfl, ?_⟩) (by assumption) ?_; rotate_left; (intro w hSw; (try dsimp only at hSw); go_simp); (try with_reducible rfl); (try simp only [Act.put, List.setIfInBounds_toArray, List.set_cons_zero, List.set_cons_succ])
        refine wpAnyH_take (i := 29) (oi := { dst := some 58, op := _, type := _, pos := _, after := _, guard := _ }) (v := ?_) rfl (by kernel_rfl) (by kernel_rfl) (by kernel_rfl) (fun _ _ _ h => h) (Or.inl ⟨by rfl, ?_⟩) (by assumption) ?_; rotate_left; (intro w hSw; (try dsimp only at hSw); go_simp); (try with_reducible rfl); (try simp only [Act.put, List.setIfInBounds_toArray, List.set_cons_zero, List.set_cons_succ])
        refine wpAnyH_take (i := 30) (oi := { dst := some 59, op := _, type := _, pos := _, after := _, guard := _ }) (v := ?_) rfl (by kernel_rfl) (by kernel_rfl) (by kernel_rfl) (fun _ _ _ h => h) (Or.inl ⟨by rfl, ?_⟩) (by assumption) ?_; rotate_left; (intro w hSw; (try dsimp only at hSw); go_simp); (try with_reducible rfl); (try simp only [Act.put, List.setIfInBounds_toArray, List.set_cons_zero, List.set_cons_succ])
        refine wpAnyH_take (i := 31) (oi := { dst := some 60, op := _, type := _, pos := _, after := _, guard := _ }) (v := ?_) rfl (by kernel_rfl) (by kernel_rfl) (by kernel_rfl) (fun _ _ _ h => h) (Or.inl ⟨by rfl, ?_⟩) (by assumption) ?_; rotate_left; (intro w hSw; (try dsimp only at hSw); go_simp); (try with_reducible rfl); (try simp only [Act.put, List.setIfInBounds_toArray, List.set_cons_zero, List.set_cons_succ])
        refine wpAnyH_take (i := 32) (oi := { dst := some 61, op := _, type := _, pos := _, after := _, guard := _ }) (v := ?_) rfl (by kernel_rfl) (by kernel_rfl) (by kernel_rfl) (fun _ _ _ h => h) (Or.inl ⟨by rfl, ?_⟩) (by assumption) ?_; rotate_left; (intro w hSw; (try dsimp only at hSw); go_simp); (try with_reducible rfl); (try simp only [Act.put, List.setIfInBounds_toArray, List.set_cons_zero, List.set_cons_succ])
        refine wpAnyH_ready (rs := [33]) (by kernel_rfl) (by simp) ?_
        refine AllReadyH.cons (o := { dst := some 62, op := _, type := _, pos := _, after := _, guard := _ }) rfl (fun K hK => ?_) AllReadyH.nil
        go_simp
        (go_at_call 11; (with_reducible refine (KFa _ (by first | exact hq | exact hq.drew)).mono ?_); rintro e v ⟨rfl, rfl⟩)
        try go_wp2_with fail
        refine hK.out _ _ (by first | exact ⟨(hq.cell (p := ⟨fb, 0, none⟩) lF).trans e0, (hq.cell (p := ⟨fb, 1, none⟩) lF).trans e1⟩ | exact ⟨(hq.drew.cell (p := ⟨fb, 0, none⟩) lF).trans e0, (hq.drew.cell (p := ⟨fb, 1, none⟩) lF).trans e1⟩) (fun hHeld => ?_)
        clear hK K; (try simp only [Act.put, List.setIfInBounds_toArray, List.set_cons_zero, List.set_cons_succ])
        refine wpAnyH_take (i := 34) (oi := { dst := some 63, op := _, type := _, pos := _, after := _, guard := _ }) (v := ?_) rfl (by kernel_rfl) (by kernel_rfl) (by kernel_rfl) (fun _ _ _ h => h) (Or.inl ⟨by rfl, ?_⟩) (by assumption) ?_; rotate_left; (intro w hSw; (try dsimp only at hSw); go_simp); (try with_reducible rfl); (try simp only [Act.put, List.setIfInBounds_toArray, List.set_cons_zero, List.set_cons_succ])
        refine wpAnyH_take (i := 35) (oi := { dst := some 64, op := _, type := _, pos := _, after := _, guard := _ }) (v := ?_) rfl (by kernel_rfl) (by kernel_rfl) (by kernel_rfl) (fun _ _ _ h => h) (Or.inl ⟨by rfl, ?_⟩) (by assumption) ?_; rotate_left; (intro w hSw; (try dsimp only at hSw); go_simp); (try with_reducible rfl); (try simp only [Act.put, List.setIfInBounds_toArray, List.set_cons_zero, List.set_cons_succ])
        refine wpAnyH_take (i := 36) (oi := { dst := some 65, op := _, type := _, pos := _, after := _, guard := _ }) (v := ?_) rfl (by kernel_rfl) (by kernel_rfl) (by kernel_rfl) (fun _ _ _ h => h) (Or.inl ⟨by rfl, ?_⟩) (by assumption) ?_; rotate_left; (intro w hSw; (try dsimp only at hSw); go_simp); (try with_reducible rfl); (try simp only [Act.put, List.setIfInBounds_toArray, List.set_cons_zero, List.set_cons_succ])
        refine wpAnyH_take (i := 37) (oi := { dst := some 66, op := _, type := _, pos := _, after := _, guard := _ }) (v := ?_) rfl (by kernel_rfl) (by kernel_rfl) (by kernel_rfl) (fun _ _ _ h => h) (Or.inl ⟨by rfl, ?_⟩) (by assumption) ?_; rotate_left; (intro w hSw; (try dsimp only at hSw); go_simp); (try with_reducible rfl); (try simp only [Act.put, List.setIfInBounds_toArray, List.set_cons_zero, List.set_cons_succ])
        refine wpAnyH_ready (rs := [38]) (by kernel_rfl) (by simp) ?_
        refine AllReadyH.cons (o := { dst := some 67, op := _, type := _, pos := _, after := _, guard := _ }) rfl (fun K hK => ?_) AllReadyH.nil
        go_simp
        (go_at_call 11; (with_reducible refine (KHa _ (by first | exact hq | exact hq.drew)).mono ?_); rintro e v ⟨rfl, rfl⟩)
        try go_wp2_with fail
        refine hK.out _ _ (by first | exact ⟨(hq.cell (p := ⟨fb, 0, none⟩) lF).trans e0, (hq.cell (p := ⟨fb, 1, none⟩) lF).trans e1⟩ | exact ⟨(hq.drew.cell (p := ⟨fb, 0, none⟩) lF).trans e0, (hq.drew.cell (p := ⟨fb, 1, none⟩) lF).trans e1⟩) (fun hHeld => ?_)
        clear hK K; (try simp only [Act.put, List.setIfInBounds_toArray, List.set_cons_zero, List.set_cons_succ])
        refine wpAnyH_take (i := 39) (oi := { dst := some 68, op := _, type := _, pos := _, after := _, guard := _ }) (v := ?_) rfl (by kernel_rfl) (by kernel_rfl) (by kernel_rfl) (fun _ _ _ h => h) (Or.inl ⟨by rfl, ?_⟩) (by assumption) ?_; rotate_left; (intro w hSw; (try dsimp only at hSw); go_simp); (try with_reducible rfl); (try simp only [Act.put, List.setIfInBounds_toArray, List.set_cons_zero, List.set_cons_succ])
        refine wpAnyH_done (by kernel_rfl) ?_ _
        all_goals try go_wp2_with fail
        all_goals (go_meet; exact ⟨rfl, hq⟩)
  case rest =>
    obtain ⟨rfl, hq⟩ := hcut
    have zc := hq.size
    have FBc := FB5.below hq lF
    have hXc := hX.same (Same.of_below hq hxV)
    have hYc := hY.same (Same.of_below hq hxV)
    have hxc : w1.heap.size ≤ wc.heap.size := by omega
    have hbc : Below w.heap.size w wc := hbV.trans (hq.mono hbV.size)
    clear e0 e1 KF KH KFa KHa mf mh mff mhh hF hG hq FB5 hX hY hbV lF
    have e0 := FBc.cell (i := 0) rfl; have e1 := FBc.cell (i := 1) rfl; have lFc := FBc.lt
    have H := implChildrenOf_any A1 B1 c1 d1 w.heap.size w1.heap.size xs ys a wc hXc hYc hxc hdc hs
    go_upto_region 11 with (go_at_call 12; (with_reducible refine H.mono ?_); rintro e w6 ⟨L, lc, rfl, oL, hb6⟩)
    have z6 := hb6.size
    have FB6 := FBc.below hb6 lFc
    have hX6 := hXc.same (Same.of_below hb6 hxc)
    have hY6 := hYc.same (Same.of_below hb6 hxc)
    have hx6 : w1.heap.size ≤ w6.heap.size := by omega
    have hb06 : Below w.heap.size w w6 := hbc.trans (hb6.mono hbc.size)
    have hL := oL.read.as
    have HCH := Lib.hid (fun (i : Nat) (x y : Int) hx hy => child_order (p := a) (i := i) (x := x) (y := y) HOK.out ha hx hy)
    have hlen := childM_len xs ys a
    clear e0 e1 H FBc hXc hYc hb6 oL hbc lFc
    have lF6 := FB6.lt
    go_wp2
    go_loopw [9] (fun i wr => ∃ k : Nat, 1 ≤ k ∧ i = .int .i64 k ∧ Below w6.heap.size w6 wr) (fun i _ => (childM xs ys a).length - (intOf i).toNat)
    case atStart => exact ⟨1, Nat.le_refl _, rfl, Below.refl _ _⟩
    case round =>
      obtain ⟨k, hk1, rfl, hbr⟩ := hrel
      have zr := hbr.size
      have FBr := FB6.below hbr lF6
      have hXr := hX6.same (Same.of_below hbr hx6)
      have hYr := hY6.same (Same.of_below hbr hx6)
      have hLr := hL.same (Same.of_below hbr (Nat.le_refl _))
      have hxr : w1.heap.size ≤ wr.heap.size := by omega
      have hbx : Below w.heap.size w wr := hb06.trans (hbr.mono hb06.size)
      have e0 := FBr.cell (i := 0) rfl; have e1 := FBr.cell (i := 1) rfl; have lFr := FBr.lt
      by_cases hlt : k < (childM xs ys a).length
      · obtain ⟨j, rfl⟩ : ∃ j, k = j + 1 := ⟨k - 1, by omega⟩
        have i2 : ((j : Int) + 1) < ((childM xs ys a).length : Int) := by omega
        obtain ⟨lb, lo, y, rfl, g1, g2, _, hy, cy⟩ := AInt.at_ hLr hlt
        obtain ⟨lb', lo', x, he, _, _, _, hx, cx⟩ := AInt.at_ hLr (k := j) (by omega)
        injection he with he; injection he with he1 he2 _; subst he1; subst he2
        have hel := HCH.out j x y hx hy
        have KE := fun (W' : World) (hb0 : Below wr.heap.size wr W') => implIsElder_any A1 B1 c1 d1 w.heap.size w1.heap.size xs ys x y W' (hXr.same (Same.of_below hb0 hxr)) (hYr.same (Same.of_below hb0 hxr)) (Nat.le_trans hxr hb0.size) hdc hs
        rw [hel] at KE
        have lLb : lb < wr.heap.size := by omega
        have i3 : (j : Int) < ((childM xs ys a).length : Int) := by omega
        have n1 : IntKind.i64.wrap ((j : Int) + 1 - 1) = (j : Int) := by rw [IntKind.wrap_i64]; omega
        have n2 : ((j : Int) + 1).toNat = j + 1 := by omega
        have n3 : IntKind.i64.wrap (j : Int) = (j : Int) := by rw [IntKind.wrap_i64]; omega
        have i4 : (0 : Int) ≤ (j : Int) + 1 := by omega
        have hq : Below wr.heap.size wr wr := Below.refl _ _
        clear hx hy hel hk1 hlt
        go_upto_region 14 with fail
        refine wp_region_held_drew (S := fun w' => w'.cell? ⟨fb, 0, none⟩ = some (.slice A1 xs.length c1) ∧ w'.cell? ⟨fb, 1, none⟩ = some (.slice B1 ys.length d1) ∧ w'.cell? ⟨lb, lo + j, none⟩ = some (.int .i64 x) ∧ w'.cell? ⟨lb, lo + (j + 1), none⟩ = some (.int .i64 y)) (by kernel_rfl) ⟨e0, e1, cx, cy⟩ (fun hHeld => ?_)
        refine wpAnyH_take (i := 0) (oi := { dst := some 78, op := _, type := _, pos := _, after := _, guard := _ }) (v := ?_) rfl (by kernel_rfl) (by kernel_rfl) (by kernel_rfl) (fun _ _ _ h => h) (Or.inl ⟨by rfl, ?_⟩) (by assumption) ?_; rotate_left; (intro w hSw; (try dsimp only at hSw); go_simp); (try with_reducible rfl); (try simp only [Act.put, List.setIfInBounds_toArray, List.set_cons_zero, List.set_cons_succ])
        refine wpAnyH_take (i := 1) (oi := { dst := some 79, op := _, type := _, pos := _, after := _, guard := _ }) (v := ?_) rfl (by kernel_rfl) (by kernel_rfl) (by kernel_rfl) (fun _ _ _ h => h) (Or.inl ⟨by rfl, ?_⟩) (by assumption) ?_; rotate_left; (intro w hSw; (try dsimp only at hSw); go_simp); (try with_reducible rfl); (try simp only [Act.put, List.setIfInBounds_toArray, List.set_cons_zero, List.set_cons_succ])
        refine wpAnyH_take (i := 2) (oi := { dst := some 80, op := _, type := _, pos := _, after := _, guard := _ }) (v := ?_) rfl (by kernel_rfl) (by kernel_rfl) (by kernel_rfl) (fun _ _ _ h => h) (Or.inl ⟨by rfl, ?_⟩) (by assumption) ?_; rotate_left; (intro w hSw; (try dsimp only at hSw); go_simp); (try with_reducible rfl); (try simp only [Act.put, List.setIfInBounds_toArray, List.set_cons_zero, List.set_cons_succ])
        refine wpAnyH_take (i := 3) (oi := { dst := some 81, op := _, type := _, pos := _, after := _, guard := _ }) (v := ?_) rfl (by kernel_rfl) (by kernel_rfl) (by kernel_rfl) (fun _ _ _ h => h) (Or.inl ⟨by rfl, ?_⟩) (by assumption) ?_; rotate_left; (intro w hSw; (try dsimp only at hSw); go_simp); (try with_reducible rfl); (try simp only [Act.put, List.setIfInBounds_toArray, List.set_cons_zero, List.set_cons_succ])
        refine wpAnyH_take (i := 4) (oi := { dst := some 82, op := _, type := _, pos := _, after := _, guard := _ }) (v := ?_) rfl (by kernel_rfl) (by kernel_rfl) (by kernel_rfl) (fun _ _ _ h => h) (Or.inl ⟨by rfl, ?_⟩) (by assumption) ?_; rotate_left; (intro w hSw; (try dsimp only at hSw); go_simp); (try with_reducible rfl); (try simp only [Act.put, List.setIfInBounds_toArray, List.set_cons_zero, List.set_cons_succ])
        refine wpAnyH_take (i := 5) (oi := { dst := some 83, op := _, type := _, pos := _, after := _, guard := _ }) (v := ?_) rfl (by kernel_rfl) (by kernel_rfl) (by kernel_rfl) (fun _ _ _ h => h) (Or.inl ⟨by rfl, ?_⟩) (by assumption) ?_; rotate_left; (intro w hSw; (try dsimp only at hSw); go_simp); (try with_reducible rfl); (try simp only [Act.put, List.setIfInBounds_toArray, List.set_cons_zero, List.set_cons_succ])
        refine wpAnyH_take (i := 6) (oi := { dst := some 84, op := _, type := _, pos := _, after := _, guard := _ }) (v := ?_) rfl (by kernel_rfl) (by kernel_rfl) (by kernel_rfl) (fun _ _ _ h => h) (Or.inl ⟨by rfl, ?_⟩) (by assumption) ?_; rotate_left; (intro w hSw; (try dsimp only at hSw); go_simp); (try with_reducible rfl); (try simp only [Act.put, List.setIfInBounds_toArray, List.set_cons_zero, List.set_cons_succ])
        refine wpAnyH_take (i := 7) (oi := { dst := some 85, op := _, type := _, pos := _, after := _, guard := _ }) (v := ?_) rfl (by kernel_rfl) (by kernel_rfl) (by kernel_rfl) (fun _ _ _ h => h) (Or.inl ⟨by rfl, ?_⟩) (by assumption) ?_; rotate_left; (intro w hSw; (try dsimp only at hSw); go_simp); (try with_reducible rfl); (try simp only [Act.put, List.setIfInBounds_toArray, List.set_cons_zero, List.set_cons_succ])
        refine wpAnyH_take (i := 8) (oi := { dst := some 86, op := _, type := _, pos := _, after := _, guard := _ }) (v := ?_) rfl (by kernel_rfl) (by kernel_rfl) (by kernel_rfl) (fun _ _ _ h => h) (Or.inl ⟨by rfl, ?_⟩) (by assumption) ?_; rotate_left; (intro w hSw; (try dsimp only at hSw); go_simp); (try with_reducible rfl); (try simp only [Act.put, List.setIfInBounds_toArray, List.set_cons_zero, List.set_cons_succ])
        refine wpAnyH_take (i := 9) (oi := { dst := some 87, op := _, type := _, pos := _, after := _, guard := _ }) (v := ?_) rfl (by kernel_rfl) (by kernel_rfl) (by kernel_rfl) (fun _ _ _ h => h) (Or.inl ⟨by rfl, ?_⟩) (by assumption) ?_; rotate_left; (intro w hSw; (try dsimp only at hSw); go_simp); (try with_reducible rfl); (try simp only [Act.put, List.setIfInBounds_toArray, List.set_cons_zero, List.set_cons_succ])
        refine wpAnyH_ready (rs := [10]) (by kernel_rfl) (by simp) ?_
        refine AllReadyH.cons (o := { dst := some 88, op := _, type := _, pos := _, after := _, guard := _ }) rfl (fun K hK => ?_) AllReadyH.nil
        go_simp
        (go_at_call 13; (with_reducible refine (KE _ (by first | exact hq | exact hq.drew)).mono ?_); rintro e v ⟨rfl, hv⟩; (first | (replace hv := undrew hv) | skip); replace hq := hq.trans (hv.mono hq.size))
        try go_wp2_with fail
        refine hK.out _ _ (by first | exact ⟨(hq.cell (p := ⟨fb, 0, none⟩) lFr).trans e0, (hq.cell (p := ⟨fb, 1, none⟩) lFr).trans e1, (hq.cell (p := ⟨lb, lo + j, none⟩) lLb).trans cx, (hq.cell (p := ⟨lb, lo + (j + 1), none⟩) lLb).trans cy⟩) (fun hHeld => ?_)
        clear hK K; (try simp only [Act.put, List.setIfInBounds_toArray, List.set_cons_zero, List.set_cons_succ])
        refine wpAnyH_take (i := 11) (oi := { dst := some 89, op := _, type := _, pos := _, after := _, guard := _ }) (v := ?_) rfl (by kernel_rfl) (by kernel_rfl) (by kernel_rfl) (fun _ _ _ h => h) (Or.inl ⟨by rfl, ?_⟩) (by assumption) ?_; rotate_left; (intro w hSw; (try dsimp only at hSw); go_simp); (try with_reducible rfl); (try simp only [Act.put, List.setIfInBounds_toArray, List.set_cons_zero, List.set_cons_succ])
        refine wpAnyH_done (by kernel_rfl) ?_ _
        clear n1 n2 n3
        go_wp2_with fail
        exact ⟨⟨j + 1 + 1, by omega, by go_num, hbr.trans (hq.mono zr)⟩, by simp [intOf]; omega⟩
      · have i2 : ¬ (k : Int) < ((childM xs ys a).length : Int) := by omega
        obtain ⟨w7, rfl⟩ : ∃ w7 : World, w7 = wr := ⟨_, rfl⟩
        have H := implParentsOf_any A1 B1 c1 d1 w.heap.size w1.heap.size xs ys b w7 hXr hYr hxr hdc hs
        go_upto_region 17 with (go_at_call 14; (with_reducible refine H.mono ?_); rintro e w8 ⟨P, pc, rfl, oP, hb8⟩)
        have z8 := hb8.size
        have FB8 := FBr.below hb8 lFr
        have hX8 := hXr.same (Same.of_below hb8 hxr)
        have hY8 := hYr.same (Same.of_below hb8 hxr)
        have hx8 : w1.heap.size ≤ w8.heap.size := by omega
        have hb08 : Below w.heap.size w w8 := hbx.trans (hb8.mono hbx.size)
        have hP := oP.read.as
        have HPC := Lib.hid (fun (q : Int) hq => parent_child (b := b) (q := q) HOK.out hb hq)
        have hpl := parentsM_len xs ys b
        clear e0 e1 H FBr hXr hYr hb8 oP hbx lFr hbr FB6 hX6 hY6 hLr hL
        have lF8 := FB8.lt
        go_wp2
        go_loopw [94] (fun i wq => ∃ m : Nat, m ≤ (parentsM xs ys b).length ∧ i = .int .i64 m ∧ Below w8.heap.size w8 wq) (fun i _ => (parentsM xs ys b).length - (intOf i).toNat)
        case atStart => exact ⟨0, Nat.zero_le _, rfl, Below.refl _ _⟩
        case round =>
          obtain ⟨m, hm, rfl, hbq⟩ := hrel
          have zq := hbq.size
          have FBq := FB8.below hbq lF8
          have hXq := hX8.same (Same.of_below hbq hx8)
          have hYq := hY8.same (Same.of_below hbq hx8)
          have hPq := hP.same (Same.of_below hbq (Nat.le_refl _))
          have hxq : w1.heap.size ≤ wr.heap.size := by omega
          have hbx : Below w.heap.size w wr := hb08.trans (hbq.mono hb08.size)
          have e0 := FBq.cell (i := 0) rfl; have e1 := FBq.cell (i := 1) rfl; have lFq := FBq.lt
          by_cases hml : m < (parentsM xs ys b).length
          · have i3 : (m : Int) < ((parentsM xs ys b).length : Int) := by omega
            obtain ⟨pb, po, q, rfl, g1, g2, _, hqm, cq⟩ := AInt.at_ hPq hml
            have HC := Lib.hid (decide_eq_true (HPC.out q (List.mem_of_getElem? hqm)))
            clear hqm
            have lPb : pb < wr.heap.size := by omega
            have H := implChildrenOf_any A1 B1 c1 d1 w.heap.size w1.heap.size xs ys q wr hXq hYq hxq hdc hs
            go_wp2_with (first
              | (go_at_call 12; (with_reducible refine H.mono ?_); rintro e v1 ⟨C, cC, rfl, oC, hv1⟩)
              | (go_at_call 11; (with_reducible refine (lawHas_lit (childM xs ys q) b _ _ _ _ _ true oC.read.as HC.out).mono ?_); rintro e v2 ⟨rfl, rfl⟩))
            exact ⟨⟨m + 1, hml, by go_num, hbq.trans (hv1.mono zq)⟩, by simp [intOf]; omega⟩
          · have i3 : ¬ (m : Int) < ((parentsM xs ys b).length : Int) := by omega
            have KC := fun (W' : World) (hb0 : Below wr.heap.size wr W') => specChildrenOf_any A1 B1 c1 d1 w.heap.size w1.heap.size xs ys a W' (hXq.same (Same.of_below hb0 hxq)) (hYq.same (Same.of_below hb0 hxq)) (Nat.le_trans hxq hb0.size) hs
            have KEab := fun (W' : World) (hb0 : Below wr.heap.size wr W') => implIsElder_any A1 B1 c1 d1 w.heap.size w1.heap.size xs ys a b W' (hXq.same (Same.of_below hb0 hxq)) (hYq.same (Same.of_below hb0 hxq)) (Nat.le_trans hxq hb0.size) hdc hs
            have KEba := fun (W' : World) (hb0 : Below wr.heap.size wr W') => implIsElder_any A1 B1 c1 d1 w.heap.size w1.heap.size xs ys b a W' (hXq.same (Same.of_below hb0 hxq)) (hYq.same (Same.of_below hb0 hxq)) (Nat.le_trans hxq hb0.size) hdc hs
            have hq : Below wr.heap.size wr wr := Below.refl _ _
            clear FB8 hX8 hY8 hP hPq hml hm
            by_cases hab : a = b
            · subst hab
              go_upto_region 22 with fail
              refine wp_region_held_drew (S := fun w' => w'.cell? ⟨fb, 0, none⟩ = some (.slice A1 xs.length c1) ∧ w'.cell? ⟨fb, 1, none⟩ = some (.slice B1 ys.length d1)) (by kernel_rfl) ⟨e0, e1⟩ (fun hHeld => ?_)
              refine wpAnyH_take (i := 0) (oi := { dst := some 105, op := _, type := _, pos := _, after := _, guard := _ }) (v := ?_) rfl (by kernel_rfl) (by kernel_rfl) (by kernel_rfl) (fun _ _ _ h => h) (Or.inl ⟨by rfl, ?_⟩) (by assumption) ?_; rotate_left; (intro w hSw; (try dsimp only at hSw); go_simp); (try with_reducible rfl); (try simp only [Act.put, List.setIfInBounds_toArray, List.set_cons_zero, List.set_cons_succ])
              refine wpAnyH_take (i := 1) (oi := { dst := some 106, op := _, type := _, pos := _, after := _, guard := _ }) (v := ?_) rfl (by kernel_rfl) (by kernel_rfl) (by kernel_rfl) (fun _ _ _ h => h) (Or.inl ⟨by rfl, ?_⟩) (by assumption) ?_; rotate_left; (intro w hSw; (try dsimp only at hSw); go_simp); (try with_reducible rfl); (try simp only [Act.put, List.setIfInBounds_toArray, List.set_cons_zero, List.set_cons_succ])
              refine wpAnyH_take (i := 2) (oi := { dst := some 107, op := _, type := _, pos := _, after := _, guard := _ }) (v := ?_) rfl (by kernel_rfl) (by kernel_rfl) (by kernel_rfl) (fun _ _ _ h => h) (Or.inl ⟨by rfl, ?_⟩) (by assumption) ?_; rotate_left; (intro w hSw; (try dsimp only at hSw); go_simp); (try with_reducible rfl); (try simp only [Act.put, List.setIfInBounds_toArray, List.set_cons_zero, List.set_cons_succ])
              refine wpAnyH_take (i := 3) (oi := { dst := some 108, op := _, type := _, pos := _, after := _, guard := _ }) (v := ?_) rfl (by kernel_rfl) (by kernel_rfl) (by kernel_rfl) (fun _ _ _ h => h) (Or.inl ⟨by rfl, ?_⟩) (by assumption) ?_; rotate_left; (intro w hSw; (try dsimp only at hSw); go_simp); (try with_reducible rfl); (try simp only [Act.put, List.setIfInBounds_toArray, List.set_cons_zero, List.set_cons_succ])
              refine wpAnyH_ready (rs := [4]) (by kernel_rfl) (by simp) ?_
              refine AllReadyH.cons (o := { dst := some 109, op := _, type := _, pos := _, after := _, guard := _ }) rfl (fun K hK => ?_) AllReadyH.nil
              go_simp
              (go_at_call 15; (with_reducible refine (KC _ (by first | exact hq | exact hq.drew)).mono ?_); rintro e v ⟨Q1, q1, rfl, oQ, hv⟩; clear oQ; (first | (replace hv := undrew hv) | skip); replace hq := hq.trans (hv.mono hq.size))
              try go_wp2_with fail
              refine hK.out _ _ (by first | exact ⟨(hq.cell (p := ⟨fb, 0, none⟩) lFq).trans e0, (hq.cell (p := ⟨fb, 1, none⟩) lFq).trans e1⟩ | exact ⟨(hq.drew.cell (p := ⟨fb, 0, none⟩) lFq).trans e0, (hq.drew.cell (p := ⟨fb, 1, none⟩) lFq).trans e1⟩) (fun hHeld => ?_)
              clear hK K; (try simp only [Act.put, List.setIfInBounds_toArray, List.set_cons_zero, List.set_cons_succ])
              refine wpAnyH_take (i := 5) (oi := { dst := some 110, op := _, type := _, pos := _, after := _, guard := _ }) (v := ?_) rfl (by kernel_rfl) (by kernel_rfl) (by kernel_rfl) (fun _ _ _ h => h) (Or.inl ⟨by rfl, ?_⟩) (by assumption) ?_; rotate_left; (intro w hSw; (try dsimp only at hSw); go_simp); (try with_reducible rfl); (try simp only [Act.put, List.setIfInBounds_toArray, List.set_cons_zero, List.set_cons_succ])
              refine wpAnyH_take (i := 6) (oi := { dst := some 111, op := _, type := _, pos := _, after := _, guard := _ }) (v := ?_) rfl (by kernel_rfl) (by kernel_rfl) (by kernel_rfl) (fun _ _ _ h => h) (Or.inl ⟨by rfl, ?_⟩) (by assumption) ?_; rotate_left; (intro w hSw; (try dsimp only at hSw); go_simp); (try with_reducible rfl); (try simp only [Act.put, List.setIfInBounds_toArray, List.set_cons_zero, List.set_cons_succ])
              refine wpAnyH_take (i := 7) (oi := { dst := some 112, op := _, type := _, pos := _, after := _, guard := _ }) (v := ?_) rfl (by kernel_rfl) (by kernel_rfl) (by kernel_rfl) (fun _ _ _ h => h) (Or.inl ⟨by rfl, ?_⟩) (by assumption) ?_; rotate_left; (intro w hSw; (try dsimp only at hSw); go_simp); (try with_reducible rfl); (try simp only [Act.put, List.setIfInBounds_toArray, List.set_cons_zero, List.set_cons_succ])
              refine wpAnyH_take (i := 8) (oi := { dst := some 113, op := _, type := _, pos := _, after := _, guard := _ }) (v := ?_) rfl (by kernel_rfl) (by kernel_rfl) (by kernel_rfl) (fun _ _ _ h => h) (Or.inl ⟨by rfl, ?_⟩) (by assumption) ?_; rotate_left; (intro w hSw; (try dsimp only at hSw); go_simp); (try with_reducible rfl); (try simp only [Act.put, List.setIfInBounds_toArray, List.set_cons_zero, List.set_cons_succ])
              refine wpAnyH_take (i := 9) (oi := { dst := some 114, op := _, type := _, pos := _, after := _, guard := _ }) (v := ?_) rfl (by kernel_rfl) (by kernel_rfl) (by kernel_rfl) (fun _ _ _ h => h) (Or.inl ⟨by rfl, ?_⟩) (by assumption) ?_; rotate_left; (intro w hSw; (try dsimp only at hSw); go_simp); (try with_reducible rfl); (try simp only [Act.put, List.setIfInBounds_toArray, List.set_cons_zero, List.set_cons_succ])
              refine wpAnyH_take (i := 10) (oi := { dst := some 115, op := _, type := _, pos := _, after := _, guard := _ }) (v := ?_) rfl (by kernel_rfl) (by kernel_rfl) (by kernel_rfl) (fun _ _ _ h => h) (Or.inl ⟨by rfl, ?_⟩) (by assumption) ?_; rotate_left; (intro w hSw; (try dsimp only at hSw); go_simp); (try with_reducible rfl); (try simp only [Act.put, List.setIfInBounds_toArray, List.set_cons_zero, List.set_cons_succ])
              refine wpAnyH_take (i := 11) (oi := { dst := some 116, op := _, type := _, pos := _, after := _, guard := _ }) (v := ?_) rfl (by kernel_rfl) (by kernel_rfl) (by kernel_rfl) (fun _ _ _ h => h) (Or.inl ⟨by rfl, ?_⟩) (by assumption) ?_; rotate_left; (intro w hSw; (try dsimp only at hSw); go_simp); (try with_reducible rfl); (try simp only [Act.put, List.setIfInBounds_toArray, List.set_cons_zero, List.set_cons_succ])
              refine wpAnyH_take (i := 12) (oi := { dst := some 117, op := _, type := _, pos := _, after := _, guard := _ }) (v := _) rfl (by kernel_rfl) (by kernel_rfl) (by kernel_rfl) (fun _ _ _ h => h) (Or.inr ⟨by kernel_rfl, rfl⟩) (by assumption) ?_; (try simp only [Act.put, List.setIfInBounds_toArray, List.set_cons_zero, List.set_cons_succ])
              refine wpAnyH_take (i := 13) (oi := { dst := some 118, op := _, type := _, pos := _, after := _, guard := _ }) (v := _) rfl (by kernel_rfl) (by kernel_rfl) (by kernel_rfl) (fun _ _ _ h => h) (Or.inr ⟨by kernel_rfl, rfl⟩) (by assumption) ?_; (try simp only [Act.put, List.setIfInBounds_toArray, List.set_cons_zero, List.set_cons_succ])
              refine wpAnyH_take (i := 14) (oi := { dst := some 119, op := _, type := _, pos := _, after := _, guard := _ }) (v := _) rfl (by kernel_rfl) (by kernel_rfl) (by kernel_rfl) (fun _ _ _ h => h) (Or.inr ⟨by kernel_rfl, rfl⟩) (by assumption) ?_; (try simp only [Act.put, List.setIfInBounds_toArray, List.set_cons_zero, List.set_cons_succ])
              refine wpAnyH_take (i := 16) (oi := { dst := some 121, op := _, type := _, pos := _, after := _, guard := _ }) (v := _) rfl (by kernel_rfl) (by kernel_rfl) (by kernel_rfl) (fun _ _ _ h => h) (Or.inr ⟨by kernel_rfl, rfl⟩) (by assumption) ?_; (try simp only [Act.put, List.setIfInBounds_toArray, List.set_cons_zero, List.set_cons_succ])
              refine wpAnyH_take (i := 17) (oi := { dst := some 122, op := _, type := _, pos := _, after := _, guard := _ }) (v := _) rfl (by kernel_rfl) (by kernel_rfl) (by kernel_rfl) (fun _ _ _ h => h) (Or.inr ⟨by kernel_rfl, rfl⟩) (by assumption) ?_; (try simp only [Act.put, List.setIfInBounds_toArray, List.set_cons_zero, List.set_cons_succ])
              refine wpAnyH_take (i := 18) (oi := { dst := some 123, op := _, type := _, pos := _, after := _, guard := _ }) (v := _) rfl (by kernel_rfl) (by kernel_rfl) (by kernel_rfl) (fun _ _ _ h => h) (Or.inr ⟨by kernel_rfl, rfl⟩) (by assumption) ?_; (try simp only [Act.put, List.setIfInBounds_toArray, List.set_cons_zero, List.set_cons_succ])
              refine wpAnyH_take (i := 15) (oi := { dst := some 120, op := _, type := _, pos := _, after := _, guard := _ }) (v := _) rfl (by kernel_rfl) (by kernel_rfl) (by kernel_rfl) (fun _ _ _ h => h) (Or.inr ⟨by kernel_rfl, rfl⟩) (by assumption) ?_; (try simp only [Act.put, List.setIfInBounds_toArray, List.set_cons_zero, List.set_cons_succ])
              refine wpAnyH_take (i := 19) (oi := { dst := some 124, op := _, type := _, pos := _, after := _, guard := _ }) (v := _) rfl (by kernel_rfl) (by kernel_rfl) (by kernel_rfl) (fun _ _ _ h => h) (Or.inr ⟨by kernel_rfl, rfl⟩) (by assumption) ?_; (try simp only [Act.put, List.setIfInBounds_toArray, List.set_cons_zero, List.set_cons_succ])
              refine wpAnyH_take (i := 20) (oi := { dst := some 125, op := _, type := _, pos := _, after := _, guard := _ }) (v := _) rfl (by kernel_rfl) (by kernel_rfl) (by kernel_rfl) (fun _ _ _ h => h) (Or.inr ⟨by kernel_rfl, rfl⟩) (by assumption) ?_; (try simp only [Act.put, List.setIfInBounds_toArray, List.set_cons_zero, List.set_cons_succ])
              refine wpAnyH_take (i := 21) (oi := { dst := some 126, op := _, type := _, pos := _, after := _, guard := _ }) (v := ?_) rfl (by kernel_rfl) (by kernel_rfl) (by kernel_rfl) (fun _ _ _ h => h) (Or.inl ⟨by rfl, ?_⟩) (by assumption) ?_; rotate_left; (intro w hSw; (try dsimp only at hSw); go_simp); (try with_reducible rfl); (try simp only [Act.put, List.setIfInBounds_toArray, List.set_cons_zero, List.set_cons_succ])
              refine wpAnyH_take (i := 22) (oi := { dst := some 127, op := _, type := _, pos := _, after := _, guard := _ }) (v := ?_) rfl (by kernel_rfl) (by kernel_rfl) (by kernel_rfl) (fun _ _ _ h => h) (Or.inl ⟨by rfl, ?_⟩) (by assumption) ?_; rotate_left; (intro w hSw; (try dsimp only at hSw); go_simp); (try with_reducible rfl); (try simp only [Act.put, List.setIfInBounds_toArray, List.set_cons_zero, List.set_cons_succ])
              refine wpAnyH_take (i := 23) (oi := { dst := some 2, op := _, type := _, pos := _, after := _, guard := _ }) (v := ?_) rfl (by kernel_rfl) (by kernel_rfl) (by kernel_rfl) (fun _ _ _ h => h) (Or.inl ⟨by rfl, ?_⟩) (by assumption) ?_; rotate_left; (intro w hSw; (try dsimp only at hSw); go_simp); (try with_reducible rfl); (try simp only [Act.put, List.setIfInBounds_toArray, List.set_cons_zero, List.set_cons_succ])
              refine wpAnyH_done (by kernel_rfl) ?_ _
              go_wp2_with fail
              go_ret
              exact ⟨rfl, hbx.trans (hq.mono hbx.size)⟩
            · have n5 : ((a : Int) == (b : Int)) = false := by rw [beq_eq_false_iff_ne]; omega
              have hone := elder_one HOK.out ha hb hab
              cases e2 : isElderM xs ys b a with
              | true =>
                rw [e2] at hone KEba
                rw [hone] at KEab
                clear e2 hone hab
                go_upto_region 22 with fail
                refine wp_region_held_drew (S := fun w' => w'.cell? ⟨fb, 0, none⟩ = some (.slice A1 xs.length c1) ∧ w'.cell? ⟨fb, 1, none⟩ = some (.slice B1 ys.length d1)) (by kernel_rfl) ⟨e0, e1⟩ (fun hHeld => ?_)
                refine wpAnyH_take (i := 0) (oi := { dst := some 105, op := _, type := _, pos := _, after := _, guard := _ }) (v := ?_) rfl (by kernel_rfl) (by kernel_rfl) (by kernel_rfl) (fun _ _ _ h => h) (Or.inl ⟨by rfl, ?_⟩) (by assumption) ?_; rotate_left; (intro w hSw; (try dsimp only at hSw); go_simp); (try with_reducible rfl); (try simp only [Act.put, List.setIfInBounds_toArray, List.set_cons_zero, List.set_cons_succ])
                refine wpAnyH_take (i := 1) (oi := { dst := some 106, op := _, type := _, pos := _, after := _, guard := _ }) (v := ?_) rfl (by kernel_rfl) (by kernel_rfl) (by kernel_rfl) (fun _ _ _ h => h) (Or.inl ⟨by rfl, ?_⟩) (by assumption) ?_; rotate_left; (intro w hSw; (try dsimp only at hSw); go_simp); (try with_reducible rfl); (try simp only [Act.put, List.setIfInBounds_toArray, List.set_cons_zero, List.set_cons_succ])
                refine wpAnyH_take (i := 2) (oi := { dst := some 107, op := _, type := _, pos := _, after := _, guard := _ }) (v := ?_) rfl (by kernel_rfl) (by kernel_rfl) (by kernel_rfl) (fun _ _ _ h => h) (Or.inl ⟨by rfl, ?_⟩) (by assumption) ?_; rotate_left; (intro w hSw; (try dsimp only at hSw); go_simp); (try with_reducible rfl); (try simp only [Act.put, List.setIfInBounds_toArray, List.set_cons_zero, List.set_cons_succ])
                refine wpAnyH_take (i := 3) (oi := { dst := some 108, op := _, type := _, pos := _, after := _, guard := _ }) (v := ?_) rfl (by kernel_rfl) (by kernel_rfl) (by kernel_rfl) (fun _ _ _ h => h) (Or.inl ⟨by rfl, ?_⟩) (by assumption) ?_; rotate_left; (intro w hSw; (try dsimp only at hSw); go_simp); (try with_reducible rfl); (try simp only [Act.put, List.setIfInBounds_toArray, List.set_cons_zero, List.set_cons_succ])
                refine wpAnyH_ready (rs := [4]) (by kernel_rfl) (by simp) ?_
                refine AllReadyH.cons (o := { dst := some 109, op := _, type := _, pos := _, after := _, guard := _ }) rfl (fun K hK => ?_) AllReadyH.nil
                go_simp
                (go_at_call 15; (with_reducible refine (KC _ (by first | exact hq | exact hq.drew)).mono ?_); rintro e v ⟨Q1, q1, rfl, oQ, hv⟩; clear oQ; (first | (replace hv := undrew hv) | skip); replace hq := hq.trans (hv.mono hq.size))
                try go_wp2_with fail
                refine hK.out _ _ (by first | exact ⟨(hq.cell (p := ⟨fb, 0, none⟩) lFq).trans e0, (hq.cell (p := ⟨fb, 1, none⟩) lFq).trans e1⟩ | exact ⟨(hq.drew.cell (p := ⟨fb, 0, none⟩) lFq).trans e0, (hq.drew.cell (p := ⟨fb, 1, none⟩) lFq).trans e1⟩) (fun hHeld => ?_)
                clear hK K; (try simp only [Act.put, List.setIfInBounds_toArray, List.set_cons_zero, List.set_cons_succ])
                refine wpAnyH_take (i := 5) (oi := { dst := some 110, op := _, type := _, pos := _, after := _, guard := _ }) (v := ?_) rfl (by kernel_rfl) (by kernel_rfl) (by kernel_rfl) (fun _ _ _ h => h) (Or.inl ⟨by rfl, ?_⟩) (by assumption) ?_; rotate_left; (intro w hSw; (try dsimp only at hSw); go_simp); (try with_reducible rfl); (try simp only [Act.put, List.setIfInBounds_toArray, List.set_cons_zero, List.set_cons_succ])
                refine wpAnyH_take (i := 6) (oi := { dst := some 111, op := _, type := _, pos := _, after := _, guard := _ }) (v := ?_) rfl (by kernel_rfl) (by kernel_rfl) (by kernel_rfl) (fun _ _ _ h => h) (Or.inl ⟨by rfl, ?_⟩) (by assumption) ?_; rotate_left; (intro w hSw; (try dsimp only at hSw); go_simp); (try with_reducible rfl); (try simp only [Act.put, List.setIfInBounds_toArray, List.set_cons_zero, List.set_cons_succ])
                refine wpAnyH_take (i := 7) (oi := { dst := some 112, op := _, type := _, pos := _, after := _, guard := _ }) (v := ?_) rfl (by kernel_rfl) (by kernel_rfl) (by kernel_rfl) (fun _ _ _ h => h) (Or.inl ⟨by rfl, ?_⟩) (by assumption) ?_; rotate_left; (intro w hSw; (try dsimp only at hSw); go_simp); (try with_reducible rfl); (try simp only [Act.put, List.setIfInBounds_toArray, List.set_cons_zero, List.set_cons_succ])
                refine wpAnyH_take (i := 8) (oi := { dst := some 113, op := _, type := _, pos := _, after := _, guard := _ }) (v := ?_) rfl (by kernel_rfl) (by kernel_rfl) (by kernel_rfl) (fun _ _ _ h => h) (Or.inl ⟨by rfl, ?_⟩) (by assumption) ?_; rotate_left; (intro w hSw; (try dsimp only at hSw); go_simp); (try with_reducible rfl); (try simp only [Act.put, List.setIfInBounds_toArray, List.set_cons_zero, List.set_cons_succ])
                refine wpAnyH_take (i := 9) (oi := { dst := some 114, op := _, type := _, pos := _, after := _, guard := _ }) (v := ?_) rfl (by kernel_rfl) (by kernel_rfl) (by kernel_rfl) (fun _ _ _ h => h) (Or.inl ⟨by rfl, ?_⟩) (by assumption) ?_; rotate_left; (intro w hSw; (try dsimp only at hSw); go_simp); (try with_reducible rfl); (try simp only [Act.put, List.setIfInBounds_toArray, List.set_cons_zero, List.set_cons_succ])
                refine wpAnyH_take (i := 10) (oi := { dst := some 115, op := _, type := _, pos := _, after := _, guard := _ }) (v := ?_) rfl (by kernel_rfl) (by kernel_rfl) (by kernel_rfl) (fun _ _ _ h => h) (Or.inl ⟨by rfl, ?_⟩) (by assumption) ?_; rotate_left; (intro w hSw; (try dsimp only at hSw); go_simp); (try with_reducible rfl); (try simp only [Act.put, List.setIfInBounds_toArray, List.set_cons_zero, List.set_cons_succ])
                refine wpAnyH_take (i := 11) (oi := { dst := some 116, op := _, type := _, pos := _, after := _, guard := _ }) (v := ?_) rfl (by kernel_rfl) (by kernel_rfl) (by kernel_rfl) (fun _ _ _ h => h) (Or.inl ⟨by rfl, ?_⟩) (by assumption) ?_; rotate_left; (intro w hSw; (try dsimp only at hSw); go_simp); (try with_reducible rfl); (try simp only [Act.put, List.setIfInBounds_toArray, List.set_cons_zero, List.set_cons_succ])
                refine wpAnyH_take (i := 12) (oi := { dst := some 117, op := _, type := _, pos := _, after := _, guard := _ }) (v := ?_) rfl (by kernel_rfl) (by kernel_rfl) (by kernel_rfl) (fun _ _ _ h => h) (Or.inl ⟨by rfl, ?_⟩) (by assumption) ?_; rotate_left; (intro w hSw; (try dsimp only at hSw); go_simp); (try with_reducible rfl); (try simp only [Act.put, List.setIfInBounds_toArray, List.set_cons_zero, List.set_cons_succ])
                refine wpAnyH_take (i := 13) (oi := { dst := some 118, op := _, type := _, pos := _, after := _, guard := _ }) (v := ?_) rfl (by kernel_rfl) (by kernel_rfl) (by kernel_rfl) (fun _ _ _ h => h) (Or.inl ⟨by rfl, ?_⟩) (by assumption) ?_; rotate_left; (intro w hSw; (try dsimp only at hSw); go_simp); (try with_reducible rfl); (try simp only [Act.put, List.setIfInBounds_toArray, List.set_cons_zero, List.set_cons_succ])
                refine wpAnyH_take (i := 14) (oi := { dst := some 119, op := _, type := _, pos := _, after := _, guard := _ }) (v := ?_) rfl (by kernel_rfl) (by kernel_rfl) (by kernel_rfl) (fun _ _ _ h => h) (Or.inl ⟨by rfl, ?_⟩) (by assumption) ?_; rotate_left; (intro w hSw; (try dsimp only at hSw); go_simp); (try with_reducible rfl); (try simp only [Act.put, List.setIfInBounds_toArray, List.set_cons_zero, List.set_cons_succ])
                refine wpAnyH_take (i := 16) (oi := { dst := some 121, op := _, type := _, pos := _, after := _, guard := _ }) (v := ?_) rfl (by kernel_rfl) (by kernel_rfl) (by kernel_rfl) (fun _ _ _ h => h) (Or.inl ⟨by rfl, ?_⟩) (by assumption) ?_; rotate_left; (intro w hSw; (try dsimp only at hSw); go_simp); (try with_reducible rfl); (try simp only [Act.put, List.setIfInBounds_toArray, List.set_cons_zero, List.set_cons_succ])
                refine wpAnyH_take (i := 17) (oi := { dst := some 122, op := _, type := _, pos := _, after := _, guard := _ }) (v := ?_) rfl (by kernel_rfl) (by kernel_rfl) (by kernel_rfl) (fun _ _ _ h => h) (Or.inl ⟨by rfl, ?_⟩) (by assumption) ?_; rotate_left; (intro w hSw; (try dsimp only at hSw); go_simp); (try with_reducible rfl); (try simp only [Act.put, List.setIfInBounds_toArray, List.set_cons_zero, List.set_cons_succ])
                refine wpAnyH_take (i := 18) (oi := { dst := some 123, op := _, type := _, pos := _, after := _, guard := _ }) (v := ?_) rfl (by kernel_rfl) (by kernel_rfl) (by kernel_rfl) (fun _ _ _ h => h) (Or.inl ⟨by rfl, ?_⟩) (by assumption) ?_; rotate_left; (intro w hSw; (try dsimp only at hSw); go_simp); (try with_reducible rfl); (try simp only [Act.put, List.setIfInBounds_toArray, List.set_cons_zero, List.set_cons_succ])
                refine wpAnyH_ready (rs := [15]) (by kernel_rfl) (by simp) ?_
                refine AllReadyH.cons (o := { dst := some 120, op := _, type := _, pos := _, after := _, guard := _ }) rfl (fun K hK => ?_) AllReadyH.nil
                go_simp
                (go_at_call 13; (with_reducible refine (KEab _ (by first | exact hq | exact hq.drew)).mono ?_); rintro e v ⟨rfl, hv⟩; (first | (replace hv := undrew hv) | skip); replace hq := hq.trans (hv.mono hq.size))
                try go_wp2_with fail
                refine hK.out _ _ (by first | exact ⟨(hq.cell (p := ⟨fb, 0, none⟩) lFq).trans e0, (hq.cell (p := ⟨fb, 1, none⟩) lFq).trans e1⟩ | exact ⟨(hq.drew.cell (p := ⟨fb, 0, none⟩) lFq).trans e0, (hq.drew.cell (p := ⟨fb, 1, none⟩) lFq).trans e1⟩) (fun hHeld => ?_)
                clear hK K; (try simp only [Act.put, List.setIfInBounds_toArray, List.set_cons_zero, List.set_cons_succ])
                refine wpAnyH_ready (rs := [19]) (by kernel_rfl) (by simp) ?_
                refine AllReadyH.cons (o := { dst := some 124, op := _, type := _, pos := _, after := _, guard := _ }) rfl (fun K hK => ?_) AllReadyH.nil
                go_simp
                (go_at_call 13; (with_reducible refine (KEba _ (by first | exact hq | exact hq.drew)).mono ?_); rintro e v ⟨rfl, hv⟩; (first | (replace hv := undrew hv) | skip); replace hq := hq.trans (hv.mono hq.size))
                try go_wp2_with fail
                refine hK.out _ _ (by first | exact ⟨(hq.cell (p := ⟨fb, 0, none⟩) lFq).trans e0, (hq.cell (p := ⟨fb, 1, none⟩) lFq).trans e1⟩ | exact ⟨(hq.drew.cell (p := ⟨fb, 0, none⟩) lFq).trans e0, (hq.drew.cell (p := ⟨fb, 1, none⟩) lFq).trans e1⟩) (fun hHeld => ?_)
                clear hK K; (try simp only [Act.put, List.setIfInBounds_toArray, List.set_cons_zero, List.set_cons_succ])
                refine wpAnyH_take (i := 20) (oi := { dst := some 125, op := _, type := _, pos := _, after := _, guard := _ }) (v := ?_) rfl (by kernel_rfl) (by kernel_rfl) (by kernel_rfl) (fun _ _ _ h => h) (Or.inl ⟨by rfl, ?_⟩) (by assumption) ?_; rotate_left; (intro w hSw; (try dsimp only at hSw); go_simp); (try with_reducible rfl); (try simp only [Act.put, List.setIfInBounds_toArray, List.set_cons_zero, List.set_cons_succ])
                refine wpAnyH_take (i := 21) (oi := { dst := some 126, op := _, type := _, pos := _, after := _, guard := _ }) (v := ?_) rfl (by kernel_rfl) (by kernel_rfl) (by kernel_rfl) (fun _ _ _ h => h) (Or.inl ⟨by rfl, ?_⟩) (by assumption) ?_; rotate_left; (intro w hSw; (try dsimp only at hSw); go_simp); (try with_reducible rfl); (try simp only [Act.put, List.setIfInBounds_toArray, List.set_cons_zero, List.set_cons_succ])
                refine wpAnyH_take (i := 22) (oi := { dst := some 127, op := _, type := _, pos := _, after := _, guard := _ }) (v := ?_) rfl (by kernel_rfl) (by kernel_rfl) (by kernel_rfl) (fun _ _ _ h => h) (Or.inl ⟨by rfl, ?_⟩) (by assumption) ?_; rotate_left; (intro w hSw; (try dsimp only at hSw); go_simp); (try with_reducible rfl); (try simp only [Act.put, List.setIfInBounds_toArray, List.set_cons_zero, List.set_cons_succ])
                refine wpAnyH_take (i := 23) (oi := { dst := some 2, op := _, type := _, pos := _, after := _, guard := _ }) (v := ?_) rfl (by kernel_rfl) (by kernel_rfl) (by kernel_rfl) (fun _ _ _ h => h) (Or.inl ⟨by rfl, ?_⟩) (by assumption) ?_; rotate_left; (intro w hSw; (try dsimp only at hSw); go_simp); (try with_reducible rfl); (try simp only [Act.put, List.setIfInBounds_toArray, List.set_cons_zero, List.set_cons_succ])
                refine wpAnyH_done (by kernel_rfl) ?_ _
                go_wp2_with fail
                go_ret
                exact ⟨rfl, hbx.trans (hq.mono hbx.size)⟩
              | false =>
                rw [e2] at hone KEba
                rw [hone] at KEab
                clear e2 hone hab
                go_upto_region 22 with fail
                refine wp_region_held_drew (S := fun w' => w'.cell? ⟨fb, 0, none⟩ = some (.slice A1 xs.length c1) ∧ w'.cell? ⟨fb, 1, none⟩ = some (.slice B1 ys.length d1)) (by kernel_rfl) ⟨e0, e1⟩ (fun hHeld => ?_)
                refine wpAnyH_take (i := 0) (oi := { dst := some 105, op := _, type := _, pos := _, after := _, guard := _ }) (v := ?_) rfl (by kernel_rfl) (by kernel_rfl) (by kernel_rfl) (fun _ _ _ h => h) (Or.inl ⟨by rfl, ?_⟩) (by assumption) ?_; rotate_left; (intro w hSw; (try dsimp only at hSw); go_simp); (try with_reducible rfl); (try simp only [Act.put, List.setIfInBounds_toArray, List.set_cons_zero, List.set_cons_succ])
                refine wpAnyH_take (i := 1) (oi := { dst := some 106, op := _, type := _, pos := _, after := _, guard := _ }) (v := ?_) rfl (by kernel_rfl) (by kernel_rfl) (by kernel_rfl) (fun _ _ _ h => h) (Or.inl ⟨by rfl, ?_⟩) (by assumption) ?_; rotate_left; (intro w hSw; (try dsimp only at hSw); go_simp); (try with_reducible rfl); (try simp only [Act.put, List.setIfInBounds_toArray, List.set_cons_zero, List.set_cons_succ])
                refine wpAnyH_take (i := 2) (oi := { dst := some 107, op := _, type := _, pos := _, after := _, guard := _ }) (v := ?_) rfl (by kernel_rfl) (by kernel_rfl) (by kernel_rfl) (fun _ _ _ h => h) (Or.inl ⟨by rfl, ?_⟩) (by assumption) ?_; rotate_left; (intro w hSw; (try dsimp only at hSw); go_simp); (try with_reducible rfl); (try simp only [Act.put, List.setIfInBounds_toArray, List.set_cons_zero, List.set_cons_succ])
                refine wpAnyH_take (i := 3) (oi := { dst := some 108, op := _, type := _, pos := _, after := _, guard := _ }) (v := ?_) rfl (by kernel_rfl) (by kernel_rfl) (by kernel_rfl) (fun _ _ _ h => h) (Or.inl ⟨by rfl, ?_⟩) (by assumption) ?_; rotate_left; (intro w hSw; (try dsimp only at hSw); go_simp); (try with_reducible rfl); (try simp only [Act.put, List.setIfInBounds_toArray, List.set_cons_zero, List.set_cons_succ])
                refine wpAnyH_ready (rs := [4]) (by kernel_rfl) (by simp) ?_
                refine AllReadyH.cons (o := { dst := some 109, op := _, type := _, pos := _, after := _, guard := _ }) rfl (fun K hK => ?_) AllReadyH.nil
                go_simp
                (go_at_call 15; (with_reducible refine (KC _ (by first | exact hq | exact hq.drew)).mono ?_); rintro e v ⟨Q1, q1, rfl, oQ, hv⟩; clear oQ; (first | (replace hv := undrew hv) | skip); replace hq := hq.trans (hv.mono hq.size))
                try go_wp2_with fail
                refine hK.out _ _ (by first | exact ⟨(hq.cell (p := ⟨fb, 0, none⟩) lFq).trans e0, (hq.cell (p := ⟨fb, 1, none⟩) lFq).trans e1⟩ | exact ⟨(hq.drew.cell (p := ⟨fb, 0, none⟩) lFq).trans e0, (hq.drew.cell (p := ⟨fb, 1, none⟩) lFq).trans e1⟩) (fun hHeld => ?_)
                clear hK K; (try simp only [Act.put, List.setIfInBounds_toArray, List.set_cons_zero, List.set_cons_succ])
                refine wpAnyH_take (i := 5) (oi := { dst := some 110, op := _, type := _, pos := _, after := _, guard := _ }) (v := ?_) rfl (by kernel_rfl) (by kernel_rfl) (by kernel_rfl) (fun _ _ _ h => h) (Or.inl ⟨by rfl, ?_⟩) (by assumption) ?_; rotate_left; (intro w hSw; (try dsimp only at hSw); go_simp); (try with_reducible rfl); (try simp only [Act.put, List.setIfInBounds_toArray, List.set_cons_zero, List.set_cons_succ])
                refine wpAnyH_take (i := 6) (oi := { dst := some 111, op := _, type := _, pos := _, after := _, guard := _ }) (v := ?_) rfl (by kernel_rfl) (by kernel_rfl) (by kernel_rfl) (fun _ _ _ h => h) (Or.inl ⟨by rfl, ?_⟩) (by assumption) ?_; rotate_left; (intro w hSw; (try dsimp only at hSw); go_simp); (try with_reducible rfl); (try simp only [Act.put, List.setIfInBounds_toArray, List.set_cons_zero, List.set_cons_succ])
                refine wpAnyH_take (i := 7) (oi := { dst := some 112, op := _, type := _, pos := _, after := _, guard := _ }) (v := ?_) rfl (by kernel_rfl) (by kernel_rfl) (by kernel_rfl) (fun _ _ _ h => h) (Or.inl ⟨by rfl, ?_⟩) (by assumption) ?_; rotate_left; (intro w hSw; (try dsimp only at hSw); go_simp); (try with_reducible rfl); (try simp only [Act.put, List.setIfInBounds_toArray, List.set_cons_zero, List.set_cons_succ])
                refine wpAnyH_take (i := 8) (oi := { dst := some 113, op := _, type := _, pos := _, after := _, guard := _ }) (v := ?_) rfl (by kernel_rfl) (by kernel_rfl) (by kernel_rfl) (fun _ _ _ h => h) (Or.inl ⟨by rfl, ?_⟩) (by assumption) ?_; rotate_left; (intro w hSw; (try dsimp only at hSw); go_simp); (try with_reducible rfl); (try simp only [Act.put, List.setIfInBounds_toArray, List.set_cons_zero, List.set_cons_succ])
                refine wpAnyH_take (i := 9) (oi := { dst := some 114, op := _, type := _, pos := _, after := _, guard := _ }) (v := ?_) rfl (by kernel_rfl) (by kernel_rfl) (by kernel_rfl) (fun _ _ _ h => h) (Or.inl ⟨by rfl, ?_⟩) (by assumption) ?_; rotate_left; (intro w hSw; (try dsimp only at hSw); go_simp); (try with_reducible rfl); (try simp only [Act.put, List.setIfInBounds_toArray, List.set_cons_zero, List.set_cons_succ])
                refine wpAnyH_take (i := 10) (oi := { dst := some 115, op := _, type := _, pos := _, after := _, guard := _ }) (v := ?_) rfl (by kernel_rfl) (by kernel_rfl) (by kernel_rfl) (fun _ _ _ h => h) (Or.inl ⟨by rfl, ?_⟩) (by assumption) ?_; rotate_left; (intro w hSw; (try dsimp only at hSw); go_simp); (try with_reducible rfl); (try simp only [Act.put, List.setIfInBounds_toArray, List.set_cons_zero, List.set_cons_succ])
                refine wpAnyH_take (i := 11) (oi := { dst := some 116, op := _, type := _, pos := _, after := _, guard := _ }) (v := ?_) rfl (by kernel_rfl) (by kernel_rfl) (by kernel_rfl) (fun _ _ _ h => h) (Or.inl ⟨by rfl, ?_⟩) (by assumption) ?_; rotate_left; (intro w hSw; (try dsimp only at hSw); go_simp); (try with_reducible rfl); (try simp only [Act.put, List.setIfInBounds_toArray, List.set_cons_zero, List.set_cons_succ])
                refine wpAnyH_take (i := 12) (oi := { dst := some 117, op := _, type := _, pos := _, after := _, guard := _ }) (v := ?_) rfl (by kernel_rfl) (by kernel_rfl) (by kernel_rfl) (fun _ _ _ h => h) (Or.inl ⟨by rfl, ?_⟩) (by assumption) ?_; rotate_left; (intro w hSw; (try dsimp only at hSw); go_simp); (try with_reducible rfl); (try simp only [Act.put, List.setIfInBounds_toArray, List.set_cons_zero, List.set_cons_succ])
                refine wpAnyH_take (i := 13) (oi := { dst := some 118, op := _, type := _, pos := _, after := _, guard := _ }) (v := ?_) rfl (by kernel_rfl) (by kernel_rfl) (by kernel_rfl) (fun _ _ _ h => h) (Or.inl ⟨by rfl, ?_⟩) (by assumption) ?_; rotate_left; (intro w hSw; (try dsimp only at hSw); go_simp); (try with_reducible rfl); (try simp only [Act.put, List.setIfInBounds_toArray, List.set_cons_zero, List.set_cons_succ])
                refine wpAnyH_take (i := 14) (oi := { dst := some 119, op := _, type := _, pos := _, after := _, guard := _ }) (v := ?_) rfl (by kernel_rfl) (by kernel_rfl) (by kernel_rfl) (fun _ _ _ h => h) (Or.inl ⟨by rfl, ?_⟩) (by assumption) ?_; rotate_left; (intro w hSw; (try dsimp only at hSw); go_simp); (try with_reducible rfl); (try simp only [Act.put, List.setIfInBounds_toArray, List.set_cons_zero, List.set_cons_succ])
                refine wpAnyH_take (i := 16) (oi := { dst := some 121, op := _, type := _, pos := _, after := _, guard := _ }) (v := ?_) rfl (by kernel_rfl) (by kernel_rfl) (by kernel_rfl) (fun _ _ _ h => h) (Or.inl ⟨by rfl, ?_⟩) (by assumption) ?_; rotate_left; (intro w hSw; (try dsimp only at hSw); go_simp); (try with_reducible rfl); (try simp only [Act.put, List.setIfInBounds_toArray, List.set_cons_zero, List.set_cons_succ])
                refine wpAnyH_take (i := 17) (oi := { dst := some 122, op := _, type := _, pos := _, after := _, guard := _ }) (v := ?_) rfl (by kernel_rfl) (by kernel_rfl) (by kernel_rfl) (fun _ _ _ h => h) (Or.inl ⟨by rfl, ?_⟩) (by assumption) ?_; rotate_left; (intro w hSw; (try dsimp only at hSw); go_simp); (try with_reducible rfl); (try simp only [Act.put, List.setIfInBounds_toArray, List.set_cons_zero, List.set_cons_succ])
                refine wpAnyH_take (i := 18) (oi := { dst := some 123, op := _, type := _, pos := _, after := _, guard := _ }) (v := ?_) rfl (by kernel_rfl) (by kernel_rfl) (by kernel_rfl) (fun _ _ _ h => h) (Or.inl ⟨by rfl, ?_⟩) (by assumption) ?_; rotate_left; (intro w hSw; (try dsimp only at hSw); go_simp); (try with_reducible rfl); (try simp only [Act.put, List.setIfInBounds_toArray, List.set_cons_zero, List.set_cons_succ])
                refine wpAnyH_ready (rs := [15]) (by kernel_rfl) (by simp) ?_
                refine AllReadyH.cons (o := { dst := some 120, op := _, type := _, pos := _, after := _, guard := _ }) rfl (fun K hK => ?_) AllReadyH.nil
                go_simp
                (go_at_call 13; (with_reducible refine (KEab _ (by first | exact hq | exact hq.drew)).mono ?_); rintro e v ⟨rfl, hv⟩; (first | (replace hv := undrew hv) | skip); replace hq := hq.trans (hv.mono hq.size))
                try go_wp2_with fail
                refine hK.out _ _ (by first | exact ⟨(hq.cell (p := ⟨fb, 0, none⟩) lFq).trans e0, (hq.cell (p := ⟨fb, 1, none⟩) lFq).trans e1⟩ | exact ⟨(hq.drew.cell (p := ⟨fb, 0, none⟩) lFq).trans e0, (hq.drew.cell (p := ⟨fb, 1, none⟩) lFq).trans e1⟩) (fun hHeld => ?_)
                clear hK K; (try simp only [Act.put, List.setIfInBounds_toArray, List.set_cons_zero, List.set_cons_succ])
                refine wpAnyH_ready (rs := [19]) (by kernel_rfl) (by simp) ?_
                refine AllReadyH.cons (o := { dst := some 124, op := _, type := _, pos := _, after := _, guard := _ }) rfl (fun K hK => ?_) AllReadyH.nil
                go_simp
                (go_at_call 13; (with_reducible refine (KEba _ (by first | exact hq | exact hq.drew)).mono ?_); rintro e v ⟨rfl, hv⟩; (first | (replace hv := undrew hv) | skip); replace hq := hq.trans (hv.mono hq.size))
                try go_wp2_with fail
                refine hK.out _ _ (by first | exact ⟨(hq.cell (p := ⟨fb, 0, none⟩) lFq).trans e0, (hq.cell (p := ⟨fb, 1, none⟩) lFq).trans e1⟩ | exact ⟨(hq.drew.cell (p := ⟨fb, 0, none⟩) lFq).trans e0, (hq.drew.cell (p := ⟨fb, 1, none⟩) lFq).trans e1⟩) (fun hHeld => ?_)
                clear hK K; (try simp only [Act.put, List.setIfInBounds_toArray, List.set_cons_zero, List.set_cons_succ])
                refine wpAnyH_take (i := 20) (oi := { dst := some 125, op := _, type := _, pos := _, after := _, guard := _ }) (v := ?_) rfl (by kernel_rfl) (by kernel_rfl) (by kernel_rfl) (fun _ _ _ h => h) (Or.inl ⟨by rfl, ?_⟩) (by assumption) ?_; rotate_left; (intro w hSw; (try dsimp only at hSw); go_simp); (try with_reducible rfl); (try simp only [Act.put, List.setIfInBounds_toArray, List.set_cons_zero, List.set_cons_succ])
                refine wpAnyH_take (i := 21) (oi := { dst := some 126, op := _, type := _, pos := _, after := _, guard := _ }) (v := ?_) rfl (by kernel_rfl) (by kernel_rfl) (by kernel_rfl) (fun _ _ _ h => h) (Or.inl ⟨by rfl, ?_⟩) (by assumption) ?_; rotate_left; (intro w hSw; (try dsimp only at hSw); go_simp); (try with_reducible rfl); (try simp only [Act.put, List.setIfInBounds_toArray, List.set_cons_zero, List.set_cons_succ])
                refine wpAnyH_take (i := 22) (oi := { dst := some 127, op := _, type := _, pos := _, after := _, guard := _ }) (v := ?_) rfl (by kernel_rfl) (by kernel_rfl) (by kernel_rfl) (fun _ _ _ h => h) (Or.inl ⟨by rfl, ?_⟩) (by assumption) ?_; rotate_left; (intro w hSw; (try dsimp only at hSw); go_simp); (try with_reducible rfl); (try simp only [Act.put, List.setIfInBounds_toArray, List.set_cons_zero, List.set_cons_succ])
                refine wpAnyH_take (i := 23) (oi := { dst := some 2, op := _, type := _, pos := _, after := _, guard := _ }) (v := ?_) rfl (by kernel_rfl) (by kernel_rfl) (by kernel_rfl) (fun _ _ _ h => h) (Or.inl ⟨by rfl, ?_⟩) (by assumption) ?_; rotate_left; (intro w hSw; (try dsimp only at hSw); go_simp); (try with_reducible rfl); (try simp only [Act.put, List.setIfInBounds_toArray, List.set_cons_zero, List.set_cons_succ])
                refine wpAnyH_done (by kernel_rfl) ?_ _
                go_wp2_with fail
                go_ret
                exact ⟨rfl, hbx.trans (hq.mono hbx.size)⟩
end Go.Proofs.Ythpcippgifmabaa
