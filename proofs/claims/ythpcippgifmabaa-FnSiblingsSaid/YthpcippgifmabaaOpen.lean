/-
  How the arguments of the laws are opened: what the reading of an argument says of memory. And the step from a walk to a law's statement.
-/
import Derived.Test.YthpcippgifmabaaBase
import Derived.ProofKit
import Derived.OpenShut
import Derived.SizedLaws
import Derived.Deep.Slices
import Derived.Lib.SmallJoins
import Derived.Carry
namespace Go.Proofs.Ythpcippgifmabaa
set_option maxRecDepth 100000
open Go.ChangeShapes Go.WideShapes Go.ChangeAt Go.RowKit Go.Deep Go.Joins

theorem own : ownKnob Try.prog.godebug = none := by kernel_rfl
theorem laidOut : laidOutB Try.prog = true := by kernel_rfl

/-- Each part of a datum is within the reach. -/
def Fits {H : Type} (P : Program) (t : TypeId) (d : DataW H) : Prop := ∀ n ∈ d.weights P t, n ≤ reachBytes
theorem fits_of {H : Type} {P : Program} {ts : List TypeId} {ds : List (DataW H)} (h : (DataW.weightsEach P ts ds).all (· ≤ reachBytes) = true) {j : Nat} {t : TypeId} {d : DataW H} (ht : ts[j]? = some t) (hd : ds[j]? = some d) : Fits P t d :=
  fun n hn => by simpa using List.all_eq_true.1 h _ (DataW.weights_mem_each ht hd n hn)
theorem weights_mem_all {H : Type} {P : Program} {e : TypeId} : ∀ {ds : List (DataW H)} {d : DataW H}, d ∈ ds → ∀ n ∈ d.weights P e, n ∈ DataW.weightsAll P e ds
  | d0 :: ds, d, hd, n, hn => by
    simp only [DataW.weightsAll, List.mem_append]
    rcases List.mem_cons.1 hd with rfl | hd
    · exact .inl hn
    · exact .inr (weights_mem_all hd n hn)
  | [], _, hd, _, _ => by cases hd

section
variable {H : Type} {enc : TypeId × Value → H} {P : Program} {w : World} {held : Bool}

theorem block_of_add (a : Addr) (n : Nat) : (a.add n).block = a.block := by unfold Addr.add; split <;> rfl

/-- A slice that came in reads as a list. -/
theorem open_elems {α : Type} (E : Elem α) {t e : TypeId} (ht : P.underlying t = some (.slice e)) (hC : P.cellsOf e = E.sz) (h0 : 0 < E.sz) (hby : 8 ≤ P.bytesOf e)
    (hel : ∀ fuel cs d ps, DataW.trod enc P w 0 (fun _ => true) held fuel e cs = some (d, ps) → Fits P e d → ∃ a, E.R w 0 w.heap.size cs a)
    {fuel : Nat} {cs : List Value} {d : DataW H} {ps : List MemPlace} (h : DataW.trod enc P w 0 (fun _ => true) held fuel t cs = some (d, ps)) (hw : Fits P t d) :
    ∃ A c xs, cs = [.slice A xs.length c] ∧ xs.length ≤ c ∧ c ≤ maxLen ∧ E.AS w 0 w.heap.size A xs := by
  rcases open_slice ht h with ⟨rfl, _⟩ | ⟨a, len, cap, m, n, D, Pl, rfl, _, hl, hm, hmm, hx, hi⟩
  · exact ⟨none, 0, [], rfl, Nat.le_refl _, Nat.zero_le _, Elem.AS.nil⟩
  · simp only [if_true] at hmm
    subst hmm
    simp only [Prod.mk.injEq] at hx
    obtain ⟨hd, _⟩ := hx
    rw [hC] at hi
    have hel' : ∀ i, i < m → ∃ cs' x, w.cells? 0 (a.add (i * E.sz)) E.sz = some cs' ∧ E.R w 0 w.heap.size cs' x := fun i him => by
      obtain ⟨cs', h1, h2⟩ := hi i him
      obtain ⟨x, hx⟩ := hel _ _ _ _ h2 (fun k hk => hw k (by
        rw [hd]; simp only [DataW.weights, ht, List.mem_cons, List.mem_append]
        by_cases hil : i < len
        · exact .inr (.inl (weights_mem_all (d := D i) (List.mem_map.2 ⟨i, List.mem_range.2 hil, rfl⟩) k hk))
        · exact .inr (.inr (weights_mem_all (d := D i) (List.mem_map.2 ⟨i - len, List.mem_range.2 (by omega), by rw [show len + (i - len) = i by omega]⟩) k hk))))
      exact ⟨cs', x, h1, hx⟩
    have hlen : m * P.bytesOf e ≤ reachBytes := by
      have := hw ((((List.range len).map D).length + ((List.range (m - len)).map fun j => D (len + j)).length) * P.bytesOf e) (by rw [hd]; simp [DataW.weights, ht])
      simpa [show len + (m - len) = m by omega] using this
    have hbig : len ≤ BIG := by
      have h1 : m * 8 ≤ m * P.bytesOf e := Nat.mul_le_mul_left _ hby
      simp only [reachBytes] at hlen
      unfold BIG; omega
    rcases Nat.eq_zero_or_pos len with rfl | hpos
    · exact ⟨some a, m, [], rfl, hl, hm, by simp, [], fun h => absurd h (by simp), .nil⟩
    · obtain ⟨cs0, x0, _, _⟩ := hel' 0 (by omega)
      have : Inhabited α := ⟨x0⟩
      have : Inhabited (List Value) := ⟨[]⟩
      obtain ⟨C, hCs⟩ := choose_lt (α := List Value) (n := len) (p := fun i cs' => ∃ x, w.cells? 0 (a.add (i * E.sz)) E.sz = some cs' ∧ E.R w 0 w.heap.size cs' x) (fun i hi' => hel' i (by omega))
      obtain ⟨X, hX⟩ := choose_lt (α := α) (n := len) (p := fun i x => w.cells? 0 (a.add (i * E.sz)) E.sz = some (C i) ∧ E.R w 0 w.heap.size (C i) x) (fun i hi' => hCs i hi')
      have hcell : ∀ i, i < len → ∀ j u, (C i)[j]? = some u → w.cell? ((a.add (i * E.sz)).add j) = some u := fun i hi' j u hu => by
        obtain ⟨_, h2, h3⟩ := World.cells?_some (hX i hi').1
        have hj : j < E.sz := by
          have := (List.getElem?_eq_some_iff.1 hu).1
          omega
        rw [h3 j hj]; exact hu
      have hsp : a.spot = none := by
        have hl0 := E.len (hX 0 hpos).2
        have h1 := hcell 0 hpos 0 _ (List.getElem?_eq_getElem (by omega))
        simp only [Nat.zero_mul, Addr.add, if_true] at h1
        cases hs : a.spot with
        | none => rfl
        | some s =>
          unfold World.cell? at h1
          split at h1
          · simp [hs] at h1
          · cases h1
      obtain ⟨ab, ao, asp⟩ := a
      simp only at hsp
      subst hsp
      have hadd : ∀ i j, ((⟨ab, ao, none⟩ : Addr).add i).add j = ⟨ab, ao + (i + j), none⟩ := fun i j => by
        rw [Go.Deep.add_add]; unfold Addr.add
        split
        · rename_i h0; simp
        · rfl
      refine ⟨some ⟨ab, ao, none⟩, m, (List.range len).map X, by simp, by simpa using hl, hm, by simpa using hbig, (List.range len).map C, fun _ => ⟨ab, ao, rfl, Nat.zero_le _, ?_, fun i cs' hi' j u hu => ?_⟩, by simp, fun i x hx => ?_⟩
      · have hl0 := E.len (hX 0 hpos).2
        have h1 := hcell 0 hpos 0 _ (List.getElem?_eq_getElem (by omega))
        rw [hadd] at h1
        exact World.block_lt_of_cell? w _ h1
      · rw [List.getElem?_map] at hi'
        by_cases hil : i < len
        · simp [hil] at hi'
          subst hi'
          rw [← hadd]; exact hcell i hil j u hu
        · simp [hil] at hi'
      · rw [List.getElem?_map] at hx
        by_cases hil : i < len
        · simp [hil] at hx
          subst hx
          exact ⟨C i, by simp [hil], (hX i hil).2⟩
        · simp [hil] at hx

theorem fits_part {t : TypeId} {fs : Array Field} (hs : P.underlying t = some (.struct fs)) {parts : List (DataW H)} (h : Fits P t (.agg parts)) {j : Nat} {f : Field} {d : DataW H} (hf : fs[j]? = some f) (hd : parts[j]? = some d) : Fits P f.type d :=
  fun n hn => h n (by
    simp only [DataW.weights, hs]
    exact DataW.weights_mem_each (j := j) (by simp [hf]) hd n hn)

theorem R_int {fuel : Nat} {cs : List Value} {d : DataW H} {ps : List MemPlace} {t : TypeId} (ht : P.underlying t = some (.int .i64)) (h : DataW.trod enc P w 0 (fun _ => true) held fuel t cs = some (d, ps)) : ∃ n : Int, cs = [.int .i64 n] ∧ -9223372036854775808 ≤ n ∧ n ≤ 9223372036854775807 := by
  obtain ⟨n, rfl, _, hw⟩ := DataW.trod_int ht h
  simp [Lit.wf, IntKind.min, IntKind.max, IntKind.signed, IntKind.bits] at hw
  exact ⟨n, rfl, by omega, by omega⟩
/-- Every argument reads behind the call as before, where the call has changed nothing old. -/
theorem trodAll_below (hl : laidOutB P = true) {W W' : World} (hb : Below W.heap.size W W') (sp : Nat → Bool) : ∀ {ts : List TypeId} {vs : List Value} {ds : List (DataW H)} {ps : List MemPlace},
    (∀ t ∈ ts, P.readableRec t = true ∧ t < P.types.size) → DataW.TrodAll enc P W 0 (fun _ => true) true ts vs ds ps → (∀ x ∈ ps, x.block < W.heap.size) → (∀ x ∈ ps, sp x.block = true) → DataW.TrodAll enc P W' 0 sp true ts vs ds ps
  | [], [], [], _, _, h, _, _ => h
  | t :: ts, v :: vs, d :: ds, ps, hr, h, hlt, hsp => by
    obtain ⟨p, q, h1, h2, rfl⟩ := h
    refine ⟨p, q, ?_, ?_, rfl⟩
    · exact WideElems.Trod_stays hl (hr t (by simp)).1 (hr t (by simp)).2 h1 (fun x hx => hb.same (hlt x (by simp [hx]))) (fun x hx => hsp x (by simp [hx]))
    · exact trodAll_below hl hb sp (fun t ht => hr t (by simp [ht])) h2 (fun x hx => hlt x (by simp [hx])) (fun x hx => hsp x (by simp [hx]))
  | [], _ :: _, _, _, _, h, _, _ => by simp [DataW.TrodAll] at h
  | [], [], _ :: _, _, _, h, _, _ => by simp [DataW.TrodAll] at h
  | _ :: _, [], _, _, _, h, _, _ => by simp [DataW.TrodAll] at h
  | _ :: _, _ :: _, [], _, _, h, _, _ => by simp [DataW.TrodAll] at h

/-- The step from a walk's end to a law's post: true is returned, nothing old has changed. -/
theorem law_post {f : Func} {s : ChangeSpec} {W W' : World} {args : Array Value} {ds : List (DataW H)} {before : List MemPlace} (hl : laidOutB P = true)
    (hW : DataW.Whole enc P f.params.toList s.vars false W args.toList ds [] before) (hv : s.vars = []) (hfn : s.fn H (ds ++ []) = { results := [.lit (.bool true)], args := ds }) (hrt : f.resultTypes = #[4]) (hu : P.underlying 4 = some .bool)
    (hr : ∀ t ∈ f.params.toList, P.readableRec t = true ∧ t < P.types.size) (hb : Below W.heap.size W W') : s.post enc P f false true false false W args (.bool true) W' := by
  have hlt : ∀ p ∈ before, p.block < W.heap.size := fun p hp => hW.lt p hp
  have hW' := hW
  obtain ⟨p, q, hA, hV, hbe, hz, hn⟩ := hW
  rw [hv] at hV
  obtain ⟨_, rfl⟩ := trodVars_none hV
  rw [List.append_nil] at hbe
  subst hbe
  refine ⟨ds, [], _, [], _, [], hW', ?_, ?_, ?_, World.keptBut_mono (fun x hx => ⟨hx, .inr (.inl hx)⟩) (hb.frame (· ∈ before)), fun h => absurd h (by simp)⟩
  · rw [hfn, hrt]; exact trodAll_cons_mk (shut_bool hu _) trodAll_mk0
  · rw [hfn]; exact trodAll_below hl hb _ hr hA hlt (fun x hx => by simpa using hlt x hx)
  · rw [hfn, hv]; rfl
end

section
variable {H : Type} {enc : TypeId × Value → H} {W : World} {base : Nat}
theorem open_int {v : Value} {d : DataW H} {p : List MemPlace} (hv : Value.okWide Try.prog W .any base 3 v) (h : DataW.Trod enc Try.prog W 0 (fun _ => true) true 3 v d p) (_hf : Fits Try.prog 3 d) :
    ∃ n : Int, v = .int .i64 n ∧ -9223372036854775808 ≤ n ∧ n ≤ 9223372036854775807 := by
  obtain ⟨n, rfl, _, _, hw⟩ := ChangeShapes.open_int Try.underlying3 hv h
  simp [Lit.wf, IntKind.min, IntKind.max, IntKind.signed, IntKind.bits] at hw
  exact ⟨n, rfl, by omega, by omega⟩
theorem open_string {v : Value} {d : DataW H} {p : List MemPlace} (hv : Value.okWide Try.prog W .any base 9 v) (h : DataW.Trod enc Try.prog W 0 (fun _ => true) true 9 v d p) (hf : Fits Try.prog 9 d) :
    ∃ s : ByteArray, v = .string s ∧ s.size ≤ reachBytes := by
  obtain ⟨s, rfl, rfl, _, _⟩ := ChangeMaps.open_string Try.underlying9 hv h
  refine ⟨s, rfl, ?_⟩
  have := hf s.data.toList.length (by simp [DataW.weights])
  simpa using this
end
end Go.Proofs.Ythpcippgifmabaa
