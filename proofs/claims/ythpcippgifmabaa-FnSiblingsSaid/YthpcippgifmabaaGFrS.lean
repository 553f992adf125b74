/-
  Bytes that came in.
  The law FnSiblings: from the walk to the statement.
-/
import Derived.Test.YthpcippgifmabaaOpen
import Derived.Test.YthpcippgifmabaaGCur
import Derived.Test.YthpcippgifmabaaGLawS
import Derived.Test.YthpcippgifmabaaFacts
import Derived.JoinedOf

/-! ## OpenBytes -/
namespace Go.Proofs.Ythpcippgifmabaa
set_option maxRecDepth 100000
open Go.ChangeShapes Go.WideShapes Go.ChangeAt Go.RowKit Go.Deep Go.Joins

section
variable {H : Type} {enc : TypeId × Value → H} {P : Program} {w : World} {held : Bool}
/-- A slice that came in reads as a list. -/
theorem open_elemsB {α : Type} (E : Elem α) {t e : TypeId} (ht : P.underlying t = some (.slice e)) (hC : P.cellsOf e = E.sz) (h0 : 0 < E.sz)
    (hel : ∀ fuel cs d ps, DataW.trod enc P w 0 (fun _ => true) held fuel e cs = some (d, ps) → Fits P e d → ∃ a, E.R w 0 w.heap.size cs a)
    {fuel : Nat} {cs : List Value} {d : DataW H} {ps : List MemPlace} (h : DataW.trod enc P w 0 (fun _ => true) held fuel t cs = some (d, ps)) (hw : Fits P t d) :
    ∃ A c n, cs = [.slice A n c] ∧ (n ≤ BIG → ∃ xs, xs.length = n ∧ E.AS w 0 w.heap.size A xs) := by
  rcases open_slice ht h with ⟨rfl, _⟩ | ⟨a, len, cap, m, n, D, Pl, rfl, _, hl, hm, hmm, hx, hi⟩
  · exact ⟨none, 0, 0, rfl, fun _ => ⟨[], rfl, Elem.AS.nil⟩⟩
  · simp only [if_true] at hmm
    subst hmm
    simp only [Prod.mk.injEq] at hx
    obtain ⟨hd, _⟩ := hx
    rw [hC] at hi
    have hel' : ∀ i, i < m → ∃ cs' x, w.cells? 0 (a.add (i * E.sz)) E.sz = some cs' ∧ E.R w 0 w.heap.size cs' x := fun i him => by
      obtain ⟨cs', h1, h2⟩ := hi i him
      obtain ⟨x, hx⟩ := hel _ _ _ _ h2 (fun k hk => hw k (by
        rw [hd]; simp only [DataW.weights, ht, List.mem_cons, List.mem_append]
        by_cases hil : i < len
        · exact .inr (.inl (weights_mem_all (d := D i) (List.mem_map.2 ⟨i, List.mem_range.2 hil, rfl⟩) k hk))
        · exact .inr (.inr (weights_mem_all (d := D i) (List.mem_map.2 ⟨i - len, List.mem_range.2 (by omega), by rw [show len + (i - len) = i by omega]⟩) k hk))))
      exact ⟨cs', x, h1, hx⟩
    refine ⟨some a, m, len, rfl, fun hbig => ?_⟩
    rcases Nat.eq_zero_or_pos len with rfl | hpos
    · exact ⟨[], rfl, by simp, [], fun h => absurd h (by simp), .nil⟩
    · obtain ⟨cs0, x0, _, _⟩ := hel' 0 (by omega)
      have : Inhabited α := ⟨x0⟩
      have : Inhabited (List Value) := ⟨[]⟩
      obtain ⟨C, hCs⟩ := choose_lt (α := List Value) (n := len) (p := fun i cs' => ∃ x, w.cells? 0 (a.add (i * E.sz)) E.sz = some cs' ∧ E.R w 0 w.heap.size cs' x) (fun i hi' => hel' i (by omega))
      obtain ⟨X, hX⟩ := choose_lt (α := α) (n := len) (p := fun i x => w.cells? 0 (a.add (i * E.sz)) E.sz = some (C i) ∧ E.R w 0 w.heap.size (C i) x) (fun i hi' => hCs i hi')
      have hcell : ∀ i, i < len → ∀ j u, (C i)[j]? = some u → w.cell? ((a.add (i * E.sz)).add j) = some u := fun i hi' j u hu => by
        obtain ⟨_, h2, h3⟩ := World.cells?_some (hX i hi').1
        have hj : j < E.sz := by
          have := (List.getElem?_eq_some_iff.1 hu).1
          omega
        rw [h3 j hj]; exact hu
      have hsp : a.spot = none := by
        have hl0 := E.len (hX 0 hpos).2
        have h1 := hcell 0 hpos 0 _ (List.getElem?_eq_getElem (by omega))
        simp only [Nat.zero_mul, Addr.add, if_true] at h1
        cases hs : a.spot with
        | none => rfl
        | some s =>
          unfold World.cell? at h1
          split at h1
          · simp [hs] at h1
          · cases h1
      obtain ⟨ab, ao, asp⟩ := a
      simp only at hsp
      subst hsp
      have hadd : ∀ i j, ((⟨ab, ao, none⟩ : Addr).add i).add j = ⟨ab, ao + (i + j), none⟩ := fun i j => by
        rw [Go.Deep.add_add]; unfold Addr.add
        split
        · rename_i h0; simp
        · rfl
      refine ⟨(List.range len).map X, by simp, by simpa using hbig, (List.range len).map C, fun _ => ⟨ab, ao, rfl, Nat.zero_le _, ?_, fun i cs' hi' j u hu => ?_⟩, by simp, fun i x hx => ?_⟩
      · have hl0 := E.len (hX 0 hpos).2
        have h1 := hcell 0 hpos 0 _ (List.getElem?_eq_getElem (by omega))
        rw [hadd] at h1
        exact World.block_lt_of_cell? w _ h1
      · rw [List.getElem?_map] at hi'
        by_cases hil : i < len
        · simp [hil] at hi'
          subst hi'
          rw [← hadd]; exact hcell i hil j u hu
        · simp [hil] at hi'
      · rw [List.getElem?_map] at hx
        by_cases hil : i < len
        · simp [hil] at hx
          subst hx
          exact ⟨C i, by simp [hil], (hX i hil).2⟩
        · simp [hil] at hx

end
/-- Bytes, with their bounds. -/
def EByteB : Elem Int where
  e := 0
  sz := 1
  O := fun _ _ _ cs x => cs = [.int .u8 x] ∧ 0 ≤ x ∧ x ≤ 255
  R := fun _ _ _ cs x => cs = [.int .u8 x] ∧ 0 ≤ x ∧ x ≤ 255
  len := fun h => by rw [h.1]; rfl
  read := fun h => h
  sameO := fun h _ => h
  sameR := fun h _ => h
  monoO := fun h _ _ => h
  monoR := fun h _ _ => h
  blk := fun h b hx => by rw [h.1] at hx; simp [blocks, Value.ownBlock] at hx
  loc := fun h _ => h
theorem EByteB.as {w : World} {lo hi : Nat} {A : Option Addr} {xs : List Int} (h : EByteB.AS w lo hi A xs) : EByte.AS w lo hi A xs ∧ ∀ x ∈ xs, 0 ≤ x ∧ x ≤ 255 := by
  obtain ⟨h0, css, h1, h2⟩ := h
  refine ⟨⟨h0, css, h1, h2.len, fun i x hx => ?_⟩, fun x hx => ?_⟩
  · obtain ⟨cs, a, b, _⟩ := h2.at_ i x hx
    exact ⟨cs, a, b⟩
  · obtain ⟨i, hi, rfl⟩ := List.mem_iff_getElem.1 hx
    obtain ⟨cs, a, b, c⟩ := h2.at_ i xs[i] (List.getElem?_eq_getElem hi)
    exact c
section
variable {H : Type} {enc : TypeId × Value → H} {W : World} {base : Nat}
theorem R_byte {fuel : Nat} {cs : List Value} {d : DataW H} {ps : List MemPlace} (h : DataW.trod enc Try.prog W 0 (fun _ => true) true fuel 5 cs = some (d, ps)) : ∃ x : Int, EByteB.R W 0 W.heap.size cs x := by
  obtain ⟨n, rfl, _, hw⟩ := DataW.trod_int (k := .u8) Try.underlying5 h
  simp [Lit.wf, IntKind.min, IntKind.max, IntKind.signed, IntKind.bits] at hw
  exact ⟨n, rfl, by omega, by omega⟩
theorem open_Bytes {v : Value} {d : DataW H} {p : List MemPlace} (hv : Value.okWide Try.prog W .any base 22 v) (h : DataW.Trod enc Try.prog W 0 (fun _ => true) true 22 v d p) (hf : Fits Try.prog 22 d) :
    ∃ (A : Option Addr) (c : Nat) (n : Nat), v = .slice A n c ∧ (n ≤ BIG → ∃ xs : List Int, xs.length = n ∧ EByte.AS W 0 W.heap.size A xs ∧ ∀ x ∈ xs, 0 ≤ x ∧ x ≤ 255) := by
  obtain ⟨a, l, cp, rfl⟩ := okWide_slice Try.underlying22 hv
  obtain ⟨fuel, hfu⟩ := h
  obtain ⟨A, c, n, e1, h2⟩ := open_elemsB EByteB Try.underlying22 (by kernel_rfl) (by decide) (fun fuel cs d ps h _ => R_byte h) hfu hf
  simp [Value.cells] at e1
  obtain ⟨rfl, rfl, rfl⟩ := e1
  refine ⟨_, _, _, rfl, fun hb => ?_⟩
  obtain ⟨xs, h3, h4⟩ := h2 hb
  exact ⟨xs, h3, EByteB.as h4⟩
end
end Go.Proofs.Ythpcippgifmabaa

/-! ## FrFnSiblings -/
namespace Go.Proofs.Ythpcippgifmabaa
set_option maxRecDepth 100000
open Go.ChangeShapes Go.WideShapes Go.ChangeAt Go.RowKit

theorem FnSiblings_all (A : Option Addr) (c n : Nat) (w : World) (k : n ≤ BIG → ∃ xs : List Int, xs.length = n ∧ EByte.AS w 0 w.heap.size A xs ∧ ∀ x ∈ xs, 0 ≤ x ∧ x ≤ 255) :
    Calls Try.prog 3 #[.slice A n c] w fun e w' => e = .returned (.bool true) ∧ Below w.heap.size w w' := by
  by_cases hl : n ≤ 1048576
  · obtain ⟨bs, rfl, hA, hb⟩ := k (by unfold BIG; omega)
    exact FnSiblings_walk A c bs w hA hb
  · have hl2 : (1048576 : Int) < (n : Int) := by omega
    go_enter Try.func3, Try.ntmps3
    go_wp2
    go_ret
    exact ⟨rfl, Below.refl _ _⟩

set_option maxRecDepth 100000 in
theorem FnSiblings_lifted (os : Os) (started : os.Started) (H : Type) (enc : TypeId × Value → H) :
    ReturnsInHanded {} Try.checked os 3 .any (Rows.fnSiblingsSpec.pre6 enc Try.prog Try.f3 Rows.fnSiblingsRow.domain false) (Rows.fnSiblingsSpec.post enc Try.prog Try.f3 false true false false) := by
  refine returnsInHanded_of_change_sized (C := Try.checked) own started (by kernel_rfl) Try.func3
    (ChangeSpec.witness6 (enc := enc) (C := Try.checked) false ⟨#[], #[.slice none 0 0], []⟩ 8 (by kernel_rfl) (by kernel_rfl) (by kernel_rfl) (by kernel_rfl)) ?_
  intro W base args ds gs before hval0 hW hcnd hsz0 _
  have hval : ∀ (j : Nat) t v, Try.f3.params[j]? = some t → args[j]? = some v → Value.okWide Try.prog W .any base t v := hval0
  have hW' := hW
  obtain ⟨p, q, hA0, hV, rfl, hfz, hnd⟩ := hW
  have hA : DataW.TrodAll enc Try.prog W 0 (fun _ => true) true Try.f3.params.toList args.toList ds p := hA0
  obtain ⟨rfl, rfl⟩ := trodVars_none hV
  have hsz : (DataW.weightsEach Try.prog Try.f3.params.toList ds).all (· ≤ reachBytes) = true := by
    have h := hsz0
    rw [List.append_nil] at h
    exact h
  rw [Try.params3] at hA hval hsz
  obtain ⟨v0, vs0, d0, ds0, p0, q0, hargs, rfl, rfl, j0, r0⟩ := trodAll_cons hA
  obtain ⟨rfl, rfl, rfl⟩ := trodAll_nil r0
  obtain rfl : args = #[v0] := Array.toList_inj.1 hargs
  obtain ⟨A0, c0, x0, rfl, k0⟩ := open_Bytes (hval 0 22 v0 rfl rfl) j0 (fits_of hsz (j := 0) rfl rfl)
  refine (FnSiblings_all A0 c0 x0 W k0).mono fun e W' ⟨he, hb⟩ => ?_
  subst he
  exact ⟨_, rfl, law_post laidOut hW' rfl rfl rfl Try.underlying4 (by rw [Try.params3]; decide +kernel) hb⟩
theorem FnSiblings_closed : joinedFacts Try.prog 3 Try.f3 Rows.fnSiblingsSpec Rows.fnSiblingsRow = true := by
  simp only [joinedFacts, Bool.and_eq_true]
  (with_reducible repeat' apply And.intro) <;> first | with_reducible exact f_laid | with_reducible exact f_maps | with_reducible exact f_heard | with_reducible exact f_enter | with_reducible exact f_lift _ rfl | with_reducible exact f_make _ rfl | (with_reducible refine f_lift _ ?_; rfl) | (with_reducible refine f_make _ ?_; rfl) | kernel_rfl
theorem FnSiblings_holds : Rows.FnSiblingsSaid :=
  OpenClaim.holds_of_wide 3 Try.f3 rfl rfl rfl rfl rfl rfl rfl ⟨rfl, rfl, rfl, rfl, rfl⟩ rfl rfl rfl rfl rfl (by kernel_rfl) Try.func3 FnSiblings_closed
    (of_decide_eq_true (by kernel_rfl)) (by unfold Func.isWrapper; first | (rw [if_pos (by decide +kernel)]; kernel_rfl) | (rw [if_neg (by decide +kernel)]; exact ⟨rfl, rfl⟩))
    (fun os started H enc _ => FnSiblings_lifted os started H enc)
#print axioms FnSiblings_holds
end Go.Proofs.Ythpcippgifmabaa
