/-
  Families in the making: what a call owns.
-/
import Derived.Test.YthpcippgifmabaaGreatDoorReadS
import Derived.Test.YthpcippgifmabaaGreatDoorRename
namespace Go.Proofs.YthpcippgifmabaaGreatDoor
set_option maxRecDepth 100000
open Go.RowKit

theorem own_kind {w : World} {lo hi e sz n : Nat} {v : Value} {vs : List Value} (h : OSl w lo hi e sz v n vs) : ∀ g, v.ownBlock = some g → ∃ cur, w.heap[g]? = some (.cells cur e (0, 0)) := by
  intro g hg
  obtain ⟨⟨_, ho⟩, _, _⟩ := h
  rcases ho with ⟨h1, _⟩ | ⟨g', cap, cur, h1, _, h2, _⟩
  · subst h1; simp [Value.ownBlock] at hg
  · subst h1
    simp [Value.ownBlock] at hg
    subst hg
    exact ⟨cur, h2⟩
theorem fam_apart {w : World} {lo hi lo' hi' : Nat} {v v' : Value} {xs : List Person} {ys : List Union} (h : EPerson.OS w lo hi v xs) (u : EUnion.OS w lo' hi' v' ys) : ∀ g, v.ownBlock = some g → v'.ownBlock ≠ some g := by
  intro g h1 h2
  obtain ⟨c1, e1⟩ := own_kind (flat_os.1 h) g h1
  obtain ⟨c2, e2⟩ := own_kind (flat_os.1 u) g h2
  rw [e1] at e2
  injection e2 with e2
  injection e2 with _ e2
  exact absurd e2 (by decide)
theorem keepP {w w' : World} {lo hi lo' hi' : Nat} {v v' : Value} {xs : List Person} {ys : List Union} (h : EPerson.OS w lo hi v xs) (hh : hi ≤ w.heap.size) (u : EUnion.OS w lo' hi' v' ys) (hg : w.grownBy w' v'.ownBlock) : EPerson.OS w' lo hi v xs := by
  rcases own_narrow (flat_os.1 h) with ⟨hv, hn⟩ | ⟨g, hv, g1, g2, hn⟩
  · have hx : xs = [] := List.eq_nil_of_length_eq_zero hn
    subst hx; subst hv
    exact Elem.OS.nil
  · have hk : EPerson.OS w g (g + 1) v xs := flat_os.2 hn
    exact (hk.same (Same.of_grown hg (by omega) fun k hk2 => by
      have : k ≠ g := fun e => fam_apart h u g hv (by rw [hk2, e])
      omega)).mono g1 g2
theorem keepU {w w' : World} {lo hi lo' hi' : Nat} {v v' : Value} {xs : List Person} {ys : List Union} (u : EUnion.OS w lo hi v ys) (hh : hi ≤ w.heap.size) (h : EPerson.OS w lo' hi' v' xs) (hg : w.grownBy w' v'.ownBlock) : EUnion.OS w' lo hi v ys := by
  rcases own_narrow (flat_os.1 u) with ⟨hv, hn⟩ | ⟨g, hv, g1, g2, hn⟩
  · have hx : ys = [] := List.eq_nil_of_length_eq_zero hn
    subst hx; subst hv
    exact Elem.OS.nil
  · have hk : EUnion.OS w g (g + 1) v ys := flat_os.2 hn
    exact (hk.same (Same.of_grown hg (by omega) fun k hk2 => by
      have : k ≠ g := fun e => fam_apart h u g (by rw [hk2, e]) hv
      omega)).mono g1 g2
/-- The call owns the family f. -/
structure FamOwn (w : World) (lo : Nat) (f : Family) (A : Option Addr) (c : Nat) (B : Option Addr) (d : Nat) : Prop where
  le : lo ≤ w.heap.size
  pp : EPerson.OS w lo w.heap.size (.slice A f.people.length c) f.people
  uu : EUnion.OS w lo w.heap.size (.slice B f.unions.length d) f.unions
section
variable {w w' : World} {lo c d : Nat} {f : Family} {A B : Option Addr}
theorem FamOwn.below (h : FamOwn w lo f A c B d) (k : Below w.heap.size w w') : FamOwn w' lo f A c B d :=
  ⟨Nat.le_trans h.le k.size, (h.pp.same (Same.of_below k (Nat.le_refl _))).mono (Nat.le_refl _) k.size, (h.uu.same (Same.of_below k (Nat.le_refl _))).mono (Nat.le_refl _) k.size⟩
theorem FamOwn.nil (w : World) (lo : Nat) (h : lo ≤ w.heap.size) : FamOwn w lo ⟨[], []⟩ none 0 none 0 := ⟨h, Elem.OS.nil, Elem.OS.nil⟩
/-- A person more. -/
theorem FamOwn.addP {x : Person} {A' : Option Addr} {c' : Nat} (h : FamOwn w lo f A c B d) (ho : EPerson.OS w' lo w'.heap.size (.slice A' (f.people ++ [x]).length c') (f.people ++ [x])) (hg : w.grownBy w' (Value.slice A f.people.length c).ownBlock) : FamOwn w' lo ⟨f.people ++ [x], f.unions⟩ A' c' B d :=
  ⟨Nat.le_trans h.le hg.size, ho, (keepU h.uu (Nat.le_refl _) h.pp hg).mono (Nat.le_refl _) hg.size⟩
theorem FamOwn.addU {y : Union} {B' : Option Addr} {d' : Nat} (h : FamOwn w lo f A c B d) (ho : EUnion.OS w' lo w'.heap.size (.slice B' (f.unions ++ [y]).length d') (f.unions ++ [y])) (hg : w.grownBy w' (Value.slice B f.unions.length d).ownBlock) : FamOwn w' lo ⟨f.people, f.unions ++ [y]⟩ A c B' d' :=
  ⟨Nat.le_trans h.le hg.size, (keepP h.pp (Nat.le_refl _) h.uu hg).mono (Nat.le_refl _) hg.size, ho⟩
/-- .. seen by what lies below. -/
theorem FamOwn.belowP (h : FamOwn w lo f A c B d) (hg : w.grownBy w' (Value.slice A f.people.length c).ownBlock) : Below lo w w' :=
  ⟨hg.os, hg.tape, hg.output, hg.size, fun k hk => hg.block k (by have := h.le; omega) (fun e => by have := (h.pp.blkv k e.symm).1; omega)⟩
theorem FamOwn.belowU (h : FamOwn w lo f A c B d) (hg : w.grownBy w' (Value.slice B f.unions.length d).ownBlock) : Below lo w w' :=
  ⟨hg.os, hg.tape, hg.output, hg.size, fun k hk => hg.block k (by have := h.le; omega) (fun e => by have := (h.uu.blkv k e.symm).1; omega)⟩
theorem FamOwn.far (h : FamOwn w lo f A c B d) {p : Addr} (hp : p.block < lo) (u : Value) : FamOwn (w.setCell p u) lo f A c B d :=
  ⟨by rw [World.size_setCell]; exact h.le, by rw [World.size_setCell]; exact h.pp.same (Same.setCell (Same.refl _ _ _) (.inl hp) u), by rw [World.size_setCell]; exact h.uu.same (Same.setCell (Same.refl _ _ _) (.inl hp) u)⟩
/-- .. at a box of another kind. -/
theorem FamOwn.off {g t i : Nat} {cs : Array Value} (h : FamOwn w lo f A c B d) (hb : Blk w g t cs) (h1 : t ≠ 50) (h2 : t ≠ 48) (u : Value) : FamOwn (w.setCell ⟨g, i, none⟩ u) lo f A c B d := by
  refine ⟨by rw [World.size_setCell]; exact h.le, ?_, ?_⟩
  · rw [World.size_setCell]
    rcases own_narrow (flat_os.1 h.pp) with ⟨hv, hn⟩ | ⟨k, hv, k1, k2, hn⟩
    · have hx : f.people = [] := List.eq_nil_of_length_eq_zero hn
      rw [hv, hx]
      exact Elem.OS.nil
    · have hk : EPerson.OS w k (k + 1) (.slice A f.people.length c) f.people := flat_os.2 hn
      refine (hk.same (Same.setCell (Same.refl _ _ _) ?_ u)).mono k1 (by omega)
      obtain ⟨cur, e1⟩ := own_kind hn k hv
      have : g ≠ k := fun e => by
        subst e
        unfold Blk at hb
        rw [hb] at e1
        injection e1 with e1
        injection e1 with _ e1
        exact h1 e1
      show g < k ∨ k + 1 ≤ g
      omega
  · rw [World.size_setCell]
    rcases own_narrow (flat_os.1 h.uu) with ⟨hv, hn⟩ | ⟨k, hv, k1, k2, hn⟩
    · have hx : f.unions = [] := List.eq_nil_of_length_eq_zero hn
      rw [hv, hx]
      exact Elem.OS.nil
    · have hk : EUnion.OS w k (k + 1) (.slice B f.unions.length d) f.unions := flat_os.2 hn
      refine (hk.same (Same.setCell (Same.refl _ _ _) ?_ u)).mono k1 (by omega)
      obtain ⟨cur, e1⟩ := own_kind hn k hv
      have : g ≠ k := fun e => by
        subst e
        unfold Blk at hb
        rw [hb] at e1
        injection e1 with e1
        injection e1 with _ e1
        exact h2 e1
      show g < k ∨ k + 1 ≤ g
      omega
end
theorem oneP (w : World) (x : Person) : EPerson.OS (w.alloc (.cells (vsPerson x).toArray 50)) w.heap.size (w.heap.size + 1) (.slice (some ⟨w.heap.size, 0, none⟩) 1 1) [x] := by
  have hf : Fill (w.alloc (.cells (vsPerson x).toArray 50)) w.heap.size 50 6 (vsPerson x) 6 := ⟨(vsPerson x).toArray, heap_alloc_new w _, rfl, fun i _ => by simp⟩
  have := hf.own (n := 1) (sz := 6) rfl rfl (Nat.le_refl _) (by simp [BIG])
  rw [show (w.alloc (.cells (vsPerson x).toArray 50)).heap.size = w.heap.size + 1 by simp] at this
  exact flat_os.2 this
theorem oneU (w : World) (x : Union) : EUnion.OS (w.alloc (.cells (vsUnion x).toArray 48)) w.heap.size (w.heap.size + 1) (.slice (some ⟨w.heap.size, 0, none⟩) 1 1) [x] := by
  have hf : Fill (w.alloc (.cells (vsUnion x).toArray 48)) w.heap.size 48 4 (vsUnion x) 4 := ⟨(vsUnion x).toArray, heap_alloc_new w _, rfl, fun i _ => by simp⟩
  have := hf.own (n := 1) (sz := 4) rfl rfl (Nat.le_refl _) (by simp [BIG])
  rw [show (w.alloc (.cells (vsUnion x).toArray 48)).heap.size = w.heap.size + 1 by simp] at this
  exact flat_os.2 this
/-- The words of a line lie in block b. -/
def WordsAt (w : World) (b off : Nat) (ws : List ByteArray) : Prop := ∀ (i : Nat) (x : ByteArray), ws[i]? = some x → w.cell? ⟨b, off + i, none⟩ = some (.string x)
theorem WordsAt.below {w w' : World} {b off B : Nat} {ws : List ByteArray} (h : WordsAt w b off ws) (k : Below B w w') (hb : b < B) : WordsAt w' b off ws := fun i x hx => (k.cell (p := ⟨b, off + i, none⟩) hb).trans (h i x hx)
theorem words_at {w : World} {lo hi : Nat} {A : Option Addr} {ws : List ByteArray} (h : EString.AS w lo hi A ws) (h0 : 0 < ws.length) : ∃ b off, A = some ⟨b, off, none⟩ ∧ lo ≤ b ∧ b < hi ∧ WordsAt w b off ws := by
  obtain ⟨b, off, x, rfl, h1, h2, _⟩ := AString.at_ h h0
  refine ⟨b, off, rfl, h1, h2, fun i y hy => ?_⟩
  obtain ⟨b', off', x', he, _, _, _, hx, hc⟩ := AString.at_ h (List.getElem?_eq_some_iff.1 hy).1
  injection he with he
  injection he with e1 e2 _
  subst e1; subst e2
  rw [hc, Option.some.inj (hx.symm.trans hy)]
/-- What reading a line leaves. -/
def RetLine (lo : Nat) (r : Option Family) (w : World) (e : Ending) (w' : World) : Prop := match r with
  | some g => ∃ (A : Option Addr) (c : Nat) (B : Option Addr) (d : Nat), e = .returned (.tuple #[.agg #[.slice A g.people.length c, .slice B g.unions.length d], .bool true]) ∧ FamOwn w' lo g A c B d ∧ Below lo w w'
  | none => ∃ (A : Option Addr) (n c : Nat) (B : Option Addr) (m d : Nat), e = .returned (.tuple #[.agg #[.slice A n c, .slice B m d], .bool false]) ∧ Below lo w w'
end Go.Proofs.YthpcippgifmabaaGreatDoor
