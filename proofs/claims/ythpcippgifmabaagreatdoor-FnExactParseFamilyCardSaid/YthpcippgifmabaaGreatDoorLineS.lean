/-
  A line read into a family, in the reference.
-/
import Derived.Test.YthpcippgifmabaaGreatDoorReadW
import Derived.Deep.RegionHeld3
namespace Go.Proofs.YthpcippgifmabaaGreatDoor
set_option maxRecDepth 100000
open Go.RowKit

theorem line_none {rd ro : ByteArray → Option Int} {f : Family} {ws : List ByteArray} (h5 : ws.length ≠ 5) (h6 : ws.length ≠ 6) : lineM rd ro f ws = none := by
  unfold lineM
  split
  · exact absurd rfl h5
  · exact absurd rfl h6
  · rfl
theorem list5 {ws : List ByteArray} (h : ws.length = 5) : ∃ u a b y z, ws = [u, a, b, y, z] := by
  match ws, h with
  | [u, a, b, y, z], _ => exact ⟨u, a, b, y, z, rfl⟩
theorem list6 {ws : List ByteArray} (h : ws.length = 6) : ∃ g n a b y z, ws = [g, n, a, b, y, z] := by
  match ws, h with
  | [g, n, a, b, y, z], _ => exact ⟨g, n, a, b, y, z, rfl⟩
theorem bytes_ne {s : ByteArray} {l : List UInt8} (h : s ≠ mkT l) : (s.toList == l) = false := by
  rw [beq_eq_false_iff_ne]
  intro e
  apply h
  rw [ByteArray.toList_eq] at e
  exact ByteArray.ext (Array.toList_inj.1 e)
theorem bytes_bne {s : ByteArray} {l : List UInt8} (h : s ≠ mkT l) : (!(s.toList == l)) = true := by rw [bytes_ne h]; rfl

set_option maxHeartbeats 16000000 in
theorem l1Line_any (f : Family) (A : Option Addr) (c : Nat) (B : Option Addr) (d lo : Nat) (line : ByteArray) (w : World) (h : FamOwn w lo f A c B d) (hp : f.people.length ≤ 1000) (hu : f.unions.length ≤ 1000) (hl : line.size ≤ 1048576) :
    Calls Tryz.prog 10 #[.agg #[.slice A f.people.length c, .slice B f.unions.length d], .string line] w (RetLine lo (lineM rdS rdS f (pieces 32 line)) w) := by
  have hcut := fun W => l1Cut_any 32 32 rfl line W hl
  generalize pieces 32 line = ws at hcut ⊢
  obtain ⟨xs, ys⟩ := f
  simp only at hp hu
  have HF := Lib.hid h
  have hlo := h.le
  clear h hl
  go_enter Tryz.func10, Tryz.ntmps10
  go_upto_region 2 with (go_at_call 9; (with_reducible refine (hcut _).mono ?_); rintro e w1 ⟨D, cd, rfl, od, hb1⟩)
  have hbw : Below w.heap.size w w1 := by (with_reducible repeat' first | exact Below.refl _ _ | assumption | (refine Below.setCell ?_ (by first | omega | (simp; omega) | (simp; done) | (dsimp only; omega)) _) | (refine Below.alloc ?_ (by first | omega | (simp; omega) | (simp; done) | (dsimp only; omega)) _) | (refine below_drewN ?_ _) | (refine Below.drew ?_) | (refine Below.trans ?_ (hb1.mono (by first | omega | (simp; omega) | (simp; done) | (dsimp only; omega)))))
  have FB : Blk w1 w.heap.size 25 #[.slice A xs.length c, .slice B ys.length d] := ((Blk.new w rfl).alloc _).below hb1 (by simp; omega)
  have RB : Blk w1 (w.heap.size + 1) 25 #[.slice none 0 0, .slice none 0 0] := (Blk.new (w.alloc _) (by simp)).below hb1 (by simp)
  have F1 := HF.out.below hbw
  have hw2 : w.heap.size + 2 ≤ w1.heap.size := by have := hb1.size; simp at this; omega
  have od1 : EString.AS w1 (w.heap.size + 2) w1.heap.size D ws := by
    have := od.read.as
    simp only [szs] at this
    exact this
  clear hb1 od hcut
  have e0 := FB.cell (i := 0) rfl; have e1 := FB.cell (i := 1) rfl
  have s0 := RB.free 0; have s1 := RB.free 1; have r0 := RB.cell (i := 0) rfl; have r1 := RB.cell (i := 1) rfl; have lR := RB.lt; have lF := FB.lt
  by_cases h5 : ws.length = 5
  · obtain ⟨u, a, b, y, z, rfl⟩ := list5 h5
    obtain ⟨bb, off, rfl, g1, g2, hW⟩ := words_at od1 (by simp)
    have c0 := hW 0 u rfl; have c1 := hW 1 a rfl; have c2 := hW 2 b rfl; have c3 := hW 3 y rfl; have c4 := hW 4 z rfl
    rw [Nat.add_zero] at c0
    clear od1 h5
    by_cases hun : u = wUnion
    · skip
      have hun2 : u = ⟨#[117, 110, 105, 111, 110]⟩ := hun
      subst hun2
      clear hun
      obtain ⟨⟨p1, pb⟩, hpq⟩ : ∃ q, findFrom a xs 0 = q := ⟨_, rfl⟩
      obtain ⟨⟨q1, qb⟩, hqq⟩ : ∃ q, findFrom b xs 0 = q := ⟨_, rfl⟩
      have HN := Lib.hid (show lineM rdS rdS ⟨xs, ys⟩ [⟨#[117, 110, 105, 111, 110]⟩, a, b, y, z] = if pb = true ∧ qb = true then some ⟨xs, ys ++ [⟨p1, q1, readS y, readS z⟩]⟩ else none by rw [lineM, if_pos (show (⟨#[117, 110, 105, 111, 110]⟩ : ByteArray) = wUnion from rfl), lineU]; simp only [hpq, hqq, rdS])
      have Ha := fun W h1 h2 h3 => l1Find_any A B c d lo w1.heap.size xs ys a W h1 h2 h3
      have Hb := fun W h1 h2 h3 => l1Find_any A B c d lo w1.heap.size xs ys b W h1 h2 h3
      rw [hpq] at Ha
      rw [hqq] at Hb
      clear hpq hqq
      have hX := F1.pp.read.as; have hY := F1.uu.read.as
      have hq : Below w1.heap.size w1 w1 := Below.refl _ _
      go_upto_region 3 with fail
      go_region_held3 (fun w' => w'.cell? ⟨w.heap.size, 0, none⟩ = some (.slice A xs.length c) ∧ w'.cell? ⟨w.heap.size, 1, none⟩ = some (.slice B ys.length d) ∧ w'.cell? ⟨bb, off + 1, none⟩ = some (.string a) ∧ w'.cell? ⟨bb, off + 2, none⟩ = some (.string b)) (exact ⟨(hq.cell (p := ⟨w.heap.size, 0, none⟩) lF).trans e0, (hq.cell (p := ⟨w.heap.size, 1, none⟩) lF).trans e1, (hq.cell (p := ⟨bb, off + 1, none⟩) g2).trans c1, (hq.cell (p := ⟨bb, off + 2, none⟩) g2).trans c2⟩) ((go_at_call 23; (with_reducible refine (Ha _ (hX.same (by first | exact Same.of_below hq (Nat.le_refl _) | exact (Same.of_below hq (Nat.le_refl _)).drew)) (hY.same (by first | exact Same.of_below hq (Nat.le_refl _) | exact (Same.of_below hq (Nat.le_refl _)).drew)) (by first | exact hq.size | exact hq.drew.size)).mono ?_); rintro e v3 ⟨rfl, hv3⟩; (first | (replace hv3 := undrew hv3) | skip); replace hq := hq.trans (hv3.mono hq.size)))
      go_upto_region 4 with fail
      go_region_held3 (fun w' => w'.cell? ⟨w.heap.size, 0, none⟩ = some (.slice A xs.length c) ∧ w'.cell? ⟨w.heap.size, 1, none⟩ = some (.slice B ys.length d) ∧ w'.cell? ⟨bb, off + 1, none⟩ = some (.string a) ∧ w'.cell? ⟨bb, off + 2, none⟩ = some (.string b)) (exact ⟨(hq.cell (p := ⟨w.heap.size, 0, none⟩) lF).trans e0, (hq.cell (p := ⟨w.heap.size, 1, none⟩) lF).trans e1, (hq.cell (p := ⟨bb, off + 1, none⟩) g2).trans c1, (hq.cell (p := ⟨bb, off + 2, none⟩) g2).trans c2⟩) ((go_at_call 23; (with_reducible refine (Hb _ (hX.same (by first | exact Same.of_below hq (Nat.le_refl _) | exact (Same.of_below hq (Nat.le_refl _)).drew)) (hY.same (by first | exact Same.of_below hq (Nat.le_refl _) | exact (Same.of_below hq (Nat.le_refl _)).drew)) (by first | exact hq.size | exact hq.drew.size)).mono ?_); rintro e v4 ⟨rfl, hv4⟩; (first | (replace hv4 := undrew hv4) | skip); replace hq := hq.trans (hv4.mono hq.size)))
      go_upto_region 5 with fail
      have FB4 := FB.below hq lF
      have RB4 := RB.below hq lR
      have F4 := F1.below hq
      have hBk := HF.out.uu.blkv
      have hz4 := hq.size
      have d3 : v4.drew.cell? ⟨bb, off + 3, none⟩ = some (.string y) := (hq.cell (p := ⟨bb, off + 3, none⟩) g2).trans c3
      have d4 : v4.drew.cell? ⟨bb, off + 4, none⟩ = some (.string z) := (hq.cell (p := ⟨bb, off + 4, none⟩) g2).trans c4
      have cf1 : v4.drew.cell? ⟨w.heap.size, 1, none⟩ = some (.slice B ys.length d) := FB4.cell (i := 1) rfl
      have hb4 : Below lo w v4 := (hbw.mono hlo).trans (hq.mono F1.le)
      have lb4 : bb < v4.heap.size := by omega
      clear e0 e1 s0 s1 r0 r1 c0 c1 c2 c3 c4 Ha Hb hX hY F1 FB RB hbw
      refine wp_region_held_drew (S := fun w' => w'.cell? ⟨bb, off + 3, none⟩ = some (.string y) ∧ w'.cell? ⟨bb, off + 4, none⟩ = some (.string z)) (by kernel_rfl) ⟨d3, d4⟩ (fun hHeld => ?_)
      refine wpAnyH_take (i := 0) (oi := { dst := some 43, op := _, type := _, pos := _, after := _, guard := _ }) (v := ?_) rfl (by kernel_rfl) (by kernel_rfl) (by kernel_rfl) (fun _ _ _ h => h) (Or.inl ⟨by rfl, ?_⟩) (by assumption) ?_; rotate_left; (intro w hSw; (try dsimp only at hSw); go_simp); (try with_reducible rfl); (try simp only [Act.put, List.setIfInBounds_toArray, List.set_cons_zero, List.set_cons_succ])
      refine wpAnyH_take (i := 2) (oi := { dst := some 45, op := _, type := _, pos := _, after := _, guard := _ }) (v := ?_) rfl (by kernel_rfl) (by kernel_rfl) (by kernel_rfl) (fun _ _ _ h => h) (Or.inl ⟨by rfl, ?_⟩) (by assumption) ?_; rotate_left; (intro w hSw; (try dsimp only at hSw); go_simp); (try with_reducible rfl); (try simp only [Act.put, List.setIfInBounds_toArray, List.set_cons_zero, List.set_cons_succ])
      refine wpAnyH_take (i := 3) (oi := { dst := some 46, op := _, type := _, pos := _, after := _, guard := _ }) (v := ?_) rfl (by kernel_rfl) (by kernel_rfl) (by kernel_rfl) (fun _ _ _ h => h) (Or.inl ⟨by rfl, ?_⟩) (by assumption) ?_; rotate_left; (intro w hSw; (try dsimp only at hSw); go_simp); (try with_reducible rfl); (try simp only [Act.put, List.setIfInBounds_toArray, List.set_cons_zero, List.set_cons_succ])
      refine wpAnyH_take (i := 4) (oi := { dst := some 47, op := _, type := _, pos := _, after := _, guard := _ }) (v := ?_) rfl (by kernel_rfl) (by kernel_rfl) (by kernel_rfl) (fun _ _ _ h => h) (Or.inl ⟨by rfl, ?_⟩) (by assumption) ?_; rotate_left; (intro w hSw; (try dsimp only at hSw); go_simp); (try with_reducible rfl); (try simp only [Act.put, List.setIfInBounds_toArray, List.set_cons_zero, List.set_cons_succ])
      refine wpAnyH_take (i := 5) (oi := { dst := some 48, op := _, type := _, pos := _, after := _, guard := _ }) (v := ?_) rfl (by kernel_rfl) (by kernel_rfl) (by kernel_rfl) (fun _ _ _ h => h) (Or.inl ⟨by rfl, ?_⟩) (by assumption) ?_; rotate_left; (intro w hSw; (try dsimp only at hSw); go_simp); (try with_reducible rfl); (try simp only [Act.put, List.setIfInBounds_toArray, List.set_cons_zero, List.set_cons_succ])
      refine wpAnyH_take (i := 6) (oi := { dst := some 49, op := _, type := _, pos := _, after := _, guard := _ }) (v := ?_) rfl (by kernel_rfl) (by kernel_rfl) (by kernel_rfl) (fun _ _ _ h => h) (Or.inl ⟨by rfl, ?_⟩) (by assumption) ?_; rotate_left; (intro w hSw; (try dsimp only at hSw); go_simp); (try with_reducible rfl); (try simp only [Act.put, List.setIfInBounds_toArray, List.set_cons_zero, List.set_cons_succ])
      refine wpAnyH_take (i := 8) (oi := { dst := some 51, op := _, type := _, pos := _, after := _, guard := _ }) (v := ?_) rfl (by kernel_rfl) (by kernel_rfl) (by kernel_rfl) (fun _ _ _ h => h) (Or.inl ⟨by rfl, ?_⟩) (by assumption) ?_; rotate_left; (intro w hSw; (try dsimp only at hSw); go_simp); (try with_reducible rfl); (try simp only [Act.put, List.setIfInBounds_toArray, List.set_cons_zero, List.set_cons_succ])
      refine wpAnyH_take (i := 9) (oi := { dst := some 52, op := _, type := _, pos := _, after := _, guard := _ }) (v := ?_) rfl (by kernel_rfl) (by kernel_rfl) (by kernel_rfl) (fun _ _ _ h => h) (Or.inl ⟨by rfl, ?_⟩) (by assumption) ?_; rotate_left; (intro w hSw; (try dsimp only at hSw); go_simp); (try with_reducible rfl); (try simp only [Act.put, List.setIfInBounds_toArray, List.set_cons_zero, List.set_cons_succ])
      refine wpAnyH_take (i := 10) (oi := { dst := some 53, op := _, type := _, pos := _, after := _, guard := _ }) (v := ?_) rfl (by kernel_rfl) (by kernel_rfl) (by kernel_rfl) (fun _ _ _ h => h) (Or.inl ⟨by rfl, ?_⟩) (by assumption) ?_; rotate_left; (intro w hSw; (try dsimp only at hSw); go_simp); (try with_reducible rfl); (try simp only [Act.put, List.setIfInBounds_toArray, List.set_cons_zero, List.set_cons_succ])
      refine wpAnyH_ready (rs := [1, 7]) (by kernel_rfl) (by simp) ?_
      refine AllReadyH.cons (o := { dst := some 44, op := _, type := _, pos := _, after := _, guard := _ }) rfl (fun K hK => ?_) (AllReadyH.cons (o := { dst := some 50, op := _, type := _, pos := _, after := _, guard := _ }) rfl (fun K hK => ?_) (AllReadyH.nil))
      ·
        go_simp
        refine hK.out _ _ ⟨d3, d4⟩ (fun hHeld => ?_)
        clear hK K; (try simp only [Act.put, List.setIfInBounds_toArray, List.set_cons_zero, List.set_cons_succ])
        refine wpAnyH_ready (rs := [7]) (by kernel_rfl) (by simp) ?_
        refine AllReadyH.cons (o := { dst := some 50, op := _, type := _, pos := _, after := _, guard := _ }) rfl (fun K hK => ?_) (AllReadyH.nil)
        go_simp
        (go_at_call 24; (with_reducible refine (l1Read_any _ _).mono ?_); rintro e v6 ⟨rfl, rfl⟩)
        try go_wp2_with fail
        refine hK.out _ _ ⟨d3, d4⟩ (fun hHeld => ?_)
        clear hK K; (try simp only [Act.put, List.setIfInBounds_toArray, List.set_cons_zero, List.set_cons_succ])
        refine wpAnyH_ready (rs := [11]) (by kernel_rfl) (by simp) ?_
        refine AllReadyH.cons (o := { dst := some 54, op := _, type := _, pos := _, after := _, guard := _ }) rfl (fun K hK => ?_) (AllReadyH.nil)
        go_simp
        (go_at_call 24; (with_reducible refine (l1Read_any _ _).mono ?_); rintro e v6 ⟨rfl, rfl⟩)
        try go_wp2_with fail
        refine hK.out _ _ ⟨d3, d4⟩ (fun hHeld => ?_)
        clear hK K; (try simp only [Act.put, List.setIfInBounds_toArray, List.set_cons_zero, List.set_cons_succ])
        refine wpAnyH_take (i := 12) (oi := { dst := some 55, op := _, type := _, pos := _, after := _, guard := _ }) (v := ?_) rfl (by kernel_rfl) (by kernel_rfl) (by kernel_rfl) (fun _ _ _ h => h) (Or.inl ⟨by rfl, ?_⟩) (by assumption) ?_; rotate_left; (intro w hSw; (try dsimp only at hSw); go_simp); (try with_reducible rfl); (try simp only [Act.put, List.setIfInBounds_toArray, List.set_cons_zero, List.set_cons_succ])
        refine wpAnyH_ready (rs := [13]) (by kernel_rfl) (by simp) ?_
        refine AllReadyH.cons (o := { dst := some 56, op := _, type := _, pos := _, after := _, guard := _ }) rfl (fun K hK => ?_) (AllReadyH.nil)
        go_simp
        refine hK.out _ _ ⟨(((Below.refl v4.heap.size v4).alloc (Nat.le_refl _) _).cell (p := ⟨bb, off + 3, none⟩) lb4).trans d3, (((Below.refl v4.heap.size v4).alloc (Nat.le_refl _) _).cell (p := ⟨bb, off + 4, none⟩) lb4).trans d4⟩ (fun hHeld => ?_)
        clear hK K; (try simp only [Act.put, List.setIfInBounds_toArray, List.set_cons_zero, List.set_cons_succ])
        have hone := (oneU v4 ⟨p1, q1, readS y, readS z⟩).read.as
        have hb5 : Below v4.heap.size v4 (World.alloc v4 (.cells #[.int .i64 p1, .int .i64 q1, .int .i64 (readS y), .int .i64 (readS z)] 48)).drew := ((Below.refl v4.heap.size v4).alloc (Nat.le_refl _) _).drew
        replace hone : EUnion.AS (World.alloc v4 (.cells #[.int .i64 p1, .int .i64 q1, .int .i64 (readS y), .int .i64 (readS z)] 48)).drew v4.heap.size (v4.heap.size + 1) (some ⟨v4.heap.size, 0, none⟩) [⟨p1, q1, readS y, readS z⟩] := hone.drew
        generalize (World.alloc v4 (.cells #[.int .i64 p1, .int .i64 q1, .int .i64 (readS y), .int .i64 (readS z)] 48)).drew = v5 at *
        have F5 := F4.below hb5; have FB5 := FB4.below hb5 FB4.lt; have RB5 := RB4.below hb5 RB4.lt; have hz5 := hb5.size; have hb05 := hb4.trans (hb5.mono F4.le)
        replace d3 := (hb5.cell (p := ⟨bb, off + 3, none⟩) lb4).trans d3; replace d4 := (hb5.cell (p := ⟨bb, off + 4, none⟩) lb4).trans d4; replace cf1 := (hb5.cell (p := ⟨w.heap.size, 1, none⟩) FB4.lt).trans cf1
        refine wpAnyH_ready (rs := [14]) (by kernel_rfl) (by simp) ?_
        refine AllReadyH.cons (o := { dst := some 57, op := _, type := _, pos := _, after := _, guard := _ }) rfl (fun K hK => ?_) (AllReadyH.nil)
        refine step_appN flatUnion tyUnionS B ys 1 F5.uu rfl hone _ _ rfl rfl rfl rfl (show ys.length + 1 ≤ 1048576 by omega) (by decide) F5.le ?_
        intro B2 d2 w5 ho5 hg5
        rw [show (ys ++ [(⟨p1, q1, readS y, readS z⟩ : Union)]).length = ys.length + 1 by simp]
        have hgc : ∀ k, w.heap.size ≤ k → k < v5.heap.size → w5.heap[k]? = v5.heap[k]? := fun k k1 k2 => hg5.block k k2 (fun e => by have := (hBk k e.symm).2; omega)
        refine hK.out _ _ ⟨(World.cell?_of_block (hgc bb (by omega) (by omega))).trans d3, (World.cell?_of_block (hgc bb (by omega) (by omega))).trans d4⟩ (fun hHeld => ?_)
        clear hK K; (try simp only [Act.put, List.setIfInBounds_toArray, List.set_cons_zero, List.set_cons_succ])
        have FB6 : Blk w5 w.heap.size 25 #[.slice A xs.length c, .slice B ys.length d] := (hgc _ (Nat.le_refl _) FB5.lt).trans FB5
        have RB6 : Blk w5 (w.heap.size + 1) 25 #[.slice none 0 0, .slice none 0 0] := (hgc _ (by omega) RB5.lt).trans RB5
        have F6 := F5.addU ho5 hg5; have hb06 := hb05.trans (F5.belowU hg5); have lb6 : bb < w5.heap.size := by have := hg5.size; omega
        replace d3 := (World.cell?_of_block (hgc bb (by omega) (by omega))).trans d3; replace d4 := (World.cell?_of_block (hgc bb (by omega) (by omega))).trans d4; clear cf1
        refine wpAnyH_take (i := 15) (oi := { dst := some 58, op := _, type := _, pos := _, after := _, guard := _ }) (v := ?_) rfl (by kernel_rfl) (by kernel_rfl) (by kernel_rfl) (fun _ _ _ h => h) (Or.inl ⟨by rfl, ?_⟩) (by assumption) ?_; rotate_left; (intro w hSw; (try dsimp only at hSw); go_simp); (try with_reducible rfl); (try simp only [Act.put, List.setIfInBounds_toArray, List.set_cons_zero, List.set_cons_succ])
        refine wpAnyH_ready (rs := [16]) (by kernel_rfl) (by simp) ?_
        refine AllReadyH.cons (o := { dst := none, op := _, type := _, pos := _, after := _, guard := _ }) rfl (fun K hK => ?_) (AllReadyH.nil)
        have u1 := FB6.cell (i := 1) rfl; have f1 := FB6.free 1; have l6 := FB6.lt
        go_simp
        refine hK.out _ _ ⟨(World.cell?_setCell_other _ _ _ _ (by first | (simp; done) | (simp; omega))).trans d3, (World.cell?_setCell_other _ _ _ _ (by first | (simp; done) | (simp; omega))).trans d4⟩ (fun hHeld => ?_)
        clear hK K; (try simp only [Act.put, List.setIfInBounds_toArray, List.set_cons_zero, List.set_cons_succ])
        refine wpAnyH_done (by kernel_rfl) ?_ _
        have FB7 := FB6.set 1 (.slice B2 (ys.length + 1) d2)
        have RB7 := RB6.far (p := ⟨w.heap.size, 1, none⟩) (by simp) (.slice B2 (ys.length + 1) d2)
        have F7 := F6.off (i := 1) FB6 (by decide) (by decide) (.slice B2 (ys.length + 1) d2)
        have hb07 := hb06.setCell (p := ⟨w.heap.size, 1, none⟩) hlo (.slice B2 (ys.length + 1) d2)
        generalize w5.setCell ⟨w.heap.size, 1, none⟩ (.slice B2 (ys.length + 1) d2) = w7 at *
        have e0 : w7.cell? ⟨w.heap.size, 0, none⟩ = some (.slice A xs.length c) := FB7.cell (i := 0) rfl; have e1 : w7.cell? ⟨w.heap.size, 1, none⟩ = some (.slice B2 (ys.length + 1) d2) := FB7.cell (i := 1) rfl
        have s0 := RB7.free 0; have s1 := RB7.free 1; have r0 := RB7.cell (i := 0) rfl; have r1 := RB7.cell (i := 1) rfl; have lR := RB7.lt
        clear ho5 hg5 hgc hone d3 d4 FB6 RB6 F6 u1 f1 F5 FB5 RB5 hb5 F4 FB4 RB4 hBk hW
        have RR := (RB7.set 0 (.slice A xs.length c)).set 1 (.slice B2 (ys.length + 1) d2)
        cases pb <;> cases qb
        · go_wp2
          exact bodyPost_ret (v := .tuple #[.agg #[.slice A xs.length c, .slice B2 (ys.length + 1) d2], .bool false]) (by simp [results, Tryz.results10, go_sem, RR.cell (i := 0) rfl, RR.cell (i := 1) rfl]) rfl (by rw [HN.out.trans (if_neg (by simp))]; exact ⟨_, _, _, _, _, _, rfl, by (with_reducible repeat' first | exact Below.refl _ _ | assumption | (refine Below.setCell ?_ (by first | omega | (simp; omega) | (simp; done) | (dsimp only; omega)) _) | (refine Below.alloc ?_ (by first | omega | (simp; omega) | (simp; done) | (dsimp only; omega)) _) | (refine below_drewN ?_ _) | (refine Below.drew ?_) | (refine Below.trans ?_ (hb07.mono (by first | omega | (simp; omega) | (simp; done) | (dsimp only; omega)))))⟩)
        · go_wp2
          exact bodyPost_ret (v := .tuple #[.agg #[.slice A xs.length c, .slice B2 (ys.length + 1) d2], .bool false]) (by simp [results, Tryz.results10, go_sem, RR.cell (i := 0) rfl, RR.cell (i := 1) rfl]) rfl (by rw [HN.out.trans (if_neg (by simp))]; exact ⟨_, _, _, _, _, _, rfl, by (with_reducible repeat' first | exact Below.refl _ _ | assumption | (refine Below.setCell ?_ (by first | omega | (simp; omega) | (simp; done) | (dsimp only; omega)) _) | (refine Below.alloc ?_ (by first | omega | (simp; omega) | (simp; done) | (dsimp only; omega)) _) | (refine below_drewN ?_ _) | (refine Below.drew ?_) | (refine Below.trans ?_ (hb07.mono (by first | omega | (simp; omega) | (simp; done) | (dsimp only; omega)))))⟩)
        · go_wp2
          exact bodyPost_ret (v := .tuple #[.agg #[.slice A xs.length c, .slice B2 (ys.length + 1) d2], .bool false]) (by simp [results, Tryz.results10, go_sem, RR.cell (i := 0) rfl, RR.cell (i := 1) rfl]) rfl (by rw [HN.out.trans (if_neg (by simp))]; exact ⟨_, _, _, _, _, _, rfl, by (with_reducible repeat' first | exact Below.refl _ _ | assumption | (refine Below.setCell ?_ (by first | omega | (simp; omega) | (simp; done) | (dsimp only; omega)) _) | (refine Below.alloc ?_ (by first | omega | (simp; omega) | (simp; done) | (dsimp only; omega)) _) | (refine below_drewN ?_ _) | (refine Below.drew ?_) | (refine Below.trans ?_ (hb07.mono (by first | omega | (simp; omega) | (simp; done) | (dsimp only; omega)))))⟩)
        · go_wp2
          exact bodyPost_ret (v := .tuple #[.agg #[.slice A xs.length c, .slice B2 (ys.length + 1) d2], .bool true]) (by simp [results, Tryz.results10, go_sem, RR.cell (i := 0) rfl, RR.cell (i := 1) rfl]) rfl (by rw [HN.out.trans (if_pos (by simp))]; exact ⟨A, c, B2, d2, by simp, (F7.off (i := 0) RB7 (by decide) (by decide) _).off (i := 1) (RB7.set 0 _) (by decide) (by decide) _, by (with_reducible repeat' first | exact Below.refl _ _ | assumption | (refine Below.setCell ?_ (by first | omega | (simp; omega) | (simp; done) | (dsimp only; omega)) _) | (refine Below.alloc ?_ (by first | omega | (simp; omega) | (simp; done) | (dsimp only; omega)) _) | (refine below_drewN ?_ _) | (refine Below.drew ?_) | (refine Below.trans ?_ (hb07.mono (by first | omega | (simp; omega) | (simp; done) | (dsimp only; omega)))))⟩)
      ·
        go_simp
        (go_at_call 24; (with_reducible refine (l1Read_any _ _).mono ?_); rintro e v6 ⟨rfl, rfl⟩)
        try go_wp2_with fail
        refine hK.out _ _ ⟨d3, d4⟩ (fun hHeld => ?_)
        clear hK K; (try simp only [Act.put, List.setIfInBounds_toArray, List.set_cons_zero, List.set_cons_succ])
        refine wpAnyH_ready (rs := [1, 11]) (by kernel_rfl) (by simp) ?_
        refine AllReadyH.cons (o := { dst := some 44, op := _, type := _, pos := _, after := _, guard := _ }) rfl (fun K hK => ?_) (AllReadyH.cons (o := { dst := some 54, op := _, type := _, pos := _, after := _, guard := _ }) rfl (fun K hK => ?_) (AllReadyH.nil))
        ·
          go_simp
          refine hK.out _ _ ⟨d3, d4⟩ (fun hHeld => ?_)
          clear hK K; (try simp only [Act.put, List.setIfInBounds_toArray, List.set_cons_zero, List.set_cons_succ])
          refine wpAnyH_ready (rs := [11]) (by kernel_rfl) (by simp) ?_
          refine AllReadyH.cons (o := { dst := some 54, op := _, type := _, pos := _, after := _, guard := _ }) rfl (fun K hK => ?_) (AllReadyH.nil)
          go_simp
          (go_at_call 24; (with_reducible refine (l1Read_any _ _).mono ?_); rintro e v6 ⟨rfl, rfl⟩)
          try go_wp2_with fail
          refine hK.out _ _ ⟨d3, d4⟩ (fun hHeld => ?_)
          clear hK K; (try simp only [Act.put, List.setIfInBounds_toArray, List.set_cons_zero, List.set_cons_succ])
          refine wpAnyH_take (i := 12) (oi := { dst := some 55, op := _, type := _, pos := _, after := _, guard := _ }) (v := ?_) rfl (by kernel_rfl) (by kernel_rfl) (by kernel_rfl) (fun _ _ _ h => h) (Or.inl ⟨by rfl, ?_⟩) (by assumption) ?_; rotate_left; (intro w hSw; (try dsimp only at hSw); go_simp); (try with_reducible rfl); (try simp only [Act.put, List.setIfInBounds_toArray, List.set_cons_zero, List.set_cons_succ])
          refine wpAnyH_ready (rs := [13]) (by kernel_rfl) (by simp) ?_
          refine AllReadyH.cons (o := { dst := some 56, op := _, type := _, pos := _, after := _, guard := _ }) rfl (fun K hK => ?_) (AllReadyH.nil)
          go_simp
          refine hK.out _ _ ⟨(((Below.refl v4.heap.size v4).alloc (Nat.le_refl _) _).cell (p := ⟨bb, off + 3, none⟩) lb4).trans d3, (((Below.refl v4.heap.size v4).alloc (Nat.le_refl _) _).cell (p := ⟨bb, off + 4, none⟩) lb4).trans d4⟩ (fun hHeld => ?_)
          clear hK K; (try simp only [Act.put, List.setIfInBounds_toArray, List.set_cons_zero, List.set_cons_succ])
          have hone := (oneU v4 ⟨p1, q1, readS y, readS z⟩).read.as
          have hb5 : Below v4.heap.size v4 (World.alloc v4 (.cells #[.int .i64 p1, .int .i64 q1, .int .i64 (readS y), .int .i64 (readS z)] 48)).drew := ((Below.refl v4.heap.size v4).alloc (Nat.le_refl _) _).drew
          replace hone : EUnion.AS (World.alloc v4 (.cells #[.int .i64 p1, .int .i64 q1, .int .i64 (readS y), .int .i64 (readS z)] 48)).drew v4.heap.size (v4.heap.size + 1) (some ⟨v4.heap.size, 0, none⟩) [⟨p1, q1, readS y, readS z⟩] := hone.drew
          generalize (World.alloc v4 (.cells #[.int .i64 p1, .int .i64 q1, .int .i64 (readS y), .int .i64 (readS z)] 48)).drew = v5 at *
          have F5 := F4.below hb5; have FB5 := FB4.below hb5 FB4.lt; have RB5 := RB4.below hb5 RB4.lt; have hz5 := hb5.size; have hb05 := hb4.trans (hb5.mono F4.le)
          replace d3 := (hb5.cell (p := ⟨bb, off + 3, none⟩) lb4).trans d3; replace d4 := (hb5.cell (p := ⟨bb, off + 4, none⟩) lb4).trans d4; replace cf1 := (hb5.cell (p := ⟨w.heap.size, 1, none⟩) FB4.lt).trans cf1
          refine wpAnyH_ready (rs := [14]) (by kernel_rfl) (by simp) ?_
          refine AllReadyH.cons (o := { dst := some 57, op := _, type := _, pos := _, after := _, guard := _ }) rfl (fun K hK => ?_) (AllReadyH.nil)
          refine step_appN flatUnion tyUnionS B ys 1 F5.uu rfl hone _ _ rfl rfl rfl rfl (show ys.length + 1 ≤ 1048576 by omega) (by decide) F5.le ?_
          intro B2 d2 w5 ho5 hg5
          rw [show (ys ++ [(⟨p1, q1, readS y, readS z⟩ : Union)]).length = ys.length + 1 by simp]
          have hgc : ∀ k, w.heap.size ≤ k → k < v5.heap.size → w5.heap[k]? = v5.heap[k]? := fun k k1 k2 => hg5.block k k2 (fun e => by have := (hBk k e.symm).2; omega)
          refine hK.out _ _ ⟨(World.cell?_of_block (hgc bb (by omega) (by omega))).trans d3, (World.cell?_of_block (hgc bb (by omega) (by omega))).trans d4⟩ (fun hHeld => ?_)
          clear hK K; (try simp only [Act.put, List.setIfInBounds_toArray, List.set_cons_zero, List.set_cons_succ])
          have FB6 : Blk w5 w.heap.size 25 #[.slice A xs.length c, .slice B ys.length d] := (hgc _ (Nat.le_refl _) FB5.lt).trans FB5
          have RB6 : Blk w5 (w.heap.size + 1) 25 #[.slice none 0 0, .slice none 0 0] := (hgc _ (by omega) RB5.lt).trans RB5
          have F6 := F5.addU ho5 hg5; have hb06 := hb05.trans (F5.belowU hg5); have lb6 : bb < w5.heap.size := by have := hg5.size; omega
          replace d3 := (World.cell?_of_block (hgc bb (by omega) (by omega))).trans d3; replace d4 := (World.cell?_of_block (hgc bb (by omega) (by omega))).trans d4; clear cf1
          refine wpAnyH_take (i := 15) (oi := { dst := some 58, op := _, type := _, pos := _, after := _, guard := _ }) (v := ?_) rfl (by kernel_rfl) (by kernel_rfl) (by kernel_rfl) (fun _ _ _ h => h) (Or.inl ⟨by rfl, ?_⟩) (by assumption) ?_; rotate_left; (intro w hSw; (try dsimp only at hSw); go_simp); (try with_reducible rfl); (try simp only [Act.put, List.setIfInBounds_toArray, List.set_cons_zero, List.set_cons_succ])
          refine wpAnyH_ready (rs := [16]) (by kernel_rfl) (by simp) ?_
          refine AllReadyH.cons (o := { dst := none, op := _, type := _, pos := _, after := _, guard := _ }) rfl (fun K hK => ?_) (AllReadyH.nil)
          have u1 := FB6.cell (i := 1) rfl; have f1 := FB6.free 1; have l6 := FB6.lt
          go_simp
          refine hK.out _ _ ⟨(World.cell?_setCell_other _ _ _ _ (by first | (simp; done) | (simp; omega))).trans d3, (World.cell?_setCell_other _ _ _ _ (by first | (simp; done) | (simp; omega))).trans d4⟩ (fun hHeld => ?_)
          clear hK K; (try simp only [Act.put, List.setIfInBounds_toArray, List.set_cons_zero, List.set_cons_succ])
          refine wpAnyH_done (by kernel_rfl) ?_ _
          have FB7 := FB6.set 1 (.slice B2 (ys.length + 1) d2)
          have RB7 := RB6.far (p := ⟨w.heap.size, 1, none⟩) (by simp) (.slice B2 (ys.length + 1) d2)
          have F7 := F6.off (i := 1) FB6 (by decide) (by decide) (.slice B2 (ys.length + 1) d2)
          have hb07 := hb06.setCell (p := ⟨w.heap.size, 1, none⟩) hlo (.slice B2 (ys.length + 1) d2)
          generalize w5.setCell ⟨w.heap.size, 1, none⟩ (.slice B2 (ys.length + 1) d2) = w7 at *
          have e0 : w7.cell? ⟨w.heap.size, 0, none⟩ = some (.slice A xs.length c) := FB7.cell (i := 0) rfl; have e1 : w7.cell? ⟨w.heap.size, 1, none⟩ = some (.slice B2 (ys.length + 1) d2) := FB7.cell (i := 1) rfl
          have s0 := RB7.free 0; have s1 := RB7.free 1; have r0 := RB7.cell (i := 0) rfl; have r1 := RB7.cell (i := 1) rfl; have lR := RB7.lt
          clear ho5 hg5 hgc hone d3 d4 FB6 RB6 F6 u1 f1 F5 FB5 RB5 hb5 F4 FB4 RB4 hBk hW
          have RR := (RB7.set 0 (.slice A xs.length c)).set 1 (.slice B2 (ys.length + 1) d2)
          cases pb <;> cases qb
          · go_wp2
            exact bodyPost_ret (v := .tuple #[.agg #[.slice A xs.length c, .slice B2 (ys.length + 1) d2], .bool false]) (by simp [results, Tryz.results10, go_sem, RR.cell (i := 0) rfl, RR.cell (i := 1) rfl]) rfl (by rw [HN.out.trans (if_neg (by simp))]; exact ⟨_, _, _, _, _, _, rfl, by (with_reducible repeat' first | exact Below.refl _ _ | assumption | (refine Below.setCell ?_ (by first | omega | (simp; omega) | (simp; done) | (dsimp only; omega)) _) | (refine Below.alloc ?_ (by first | omega | (simp; omega) | (simp; done) | (dsimp only; omega)) _) | (refine below_drewN ?_ _) | (refine Below.drew ?_) | (refine Below.trans ?_ (hb07.mono (by first | omega | (simp; omega) | (simp; done) | (dsimp only; omega)))))⟩)
          · go_wp2
            exact bodyPost_ret (v := .tuple #[.agg #[.slice A xs.length c, .slice B2 (ys.length + 1) d2], .bool false]) (by simp [results, Tryz.results10, go_sem, RR.cell (i := 0) rfl, RR.cell (i := 1) rfl]) rfl (by rw [HN.out.trans (if_neg (by simp))]; exact ⟨_, _, _, _, _, _, rfl, by (with_reducible repeat' first | exact Below.refl _ _ | assumption | (refine Below.setCell ?_ (by first | omega | (simp; omega) | (simp; done) | (dsimp only; omega)) _) | (refine Below.alloc ?_ (by first | omega | (simp; omega) | (simp; done) | (dsimp only; omega)) _) | (refine below_drewN ?_ _) | (refine Below.drew ?_) | (refine Below.trans ?_ (hb07.mono (by first | omega | (simp; omega) | (simp; done) | (dsimp only; omega)))))⟩)
          · go_wp2
            exact bodyPost_ret (v := .tuple #[.agg #[.slice A xs.length c, .slice B2 (ys.length + 1) d2], .bool false]) (by simp [results, Tryz.results10, go_sem, RR.cell (i := 0) rfl, RR.cell (i := 1) rfl]) rfl (by rw [HN.out.trans (if_neg (by simp))]; exact ⟨_, _, _, _, _, _, rfl, by (with_reducible repeat' first | exact Below.refl _ _ | assumption | (refine Below.setCell ?_ (by first | omega | (simp; omega) | (simp; done) | (dsimp only; omega)) _) | (refine Below.alloc ?_ (by first | omega | (simp; omega) | (simp; done) | (dsimp only; omega)) _) | (refine below_drewN ?_ _) | (refine Below.drew ?_) | (refine Below.trans ?_ (hb07.mono (by first | omega | (simp; omega) | (simp; done) | (dsimp only; omega)))))⟩)
          · go_wp2
            exact bodyPost_ret (v := .tuple #[.agg #[.slice A xs.length c, .slice B2 (ys.length + 1) d2], .bool true]) (by simp [results, Tryz.results10, go_sem, RR.cell (i := 0) rfl, RR.cell (i := 1) rfl]) rfl (by rw [HN.out.trans (if_pos (by simp))]; exact ⟨A, c, B2, d2, by simp, (F7.off (i := 0) RB7 (by decide) (by decide) _).off (i := 1) (RB7.set 0 _) (by decide) (by decide) _, by (with_reducible repeat' first | exact Below.refl _ _ | assumption | (refine Below.setCell ?_ (by first | omega | (simp; omega) | (simp; done) | (dsimp only; omega)) _) | (refine Below.alloc ?_ (by first | omega | (simp; omega) | (simp; done) | (dsimp only; omega)) _) | (refine below_drewN ?_ _) | (refine Below.drew ?_) | (refine Below.trans ?_ (hb07.mono (by first | omega | (simp; omega) | (simp; done) | (dsimp only; omega)))))⟩)
        ·
          go_simp
          (go_at_call 24; (with_reducible refine (l1Read_any _ _).mono ?_); rintro e v6 ⟨rfl, rfl⟩)
          try go_wp2_with fail
          refine hK.out _ _ ⟨d3, d4⟩ (fun hHeld => ?_)
          clear hK K; (try simp only [Act.put, List.setIfInBounds_toArray, List.set_cons_zero, List.set_cons_succ])
          refine wpAnyH_take (i := 12) (oi := { dst := some 55, op := _, type := _, pos := _, after := _, guard := _ }) (v := ?_) rfl (by kernel_rfl) (by kernel_rfl) (by kernel_rfl) (fun _ _ _ h => h) (Or.inl ⟨by rfl, ?_⟩) (by assumption) ?_; rotate_left; (intro w hSw; (try dsimp only at hSw); go_simp); (try with_reducible rfl); (try simp only [Act.put, List.setIfInBounds_toArray, List.set_cons_zero, List.set_cons_succ])
          refine wpAnyH_ready (rs := [1, 13]) (by kernel_rfl) (by simp) ?_
          refine AllReadyH.cons (o := { dst := some 44, op := _, type := _, pos := _, after := _, guard := _ }) rfl (fun K hK => ?_) (AllReadyH.cons (o := { dst := some 56, op := _, type := _, pos := _, after := _, guard := _ }) rfl (fun K hK => ?_) (AllReadyH.nil))
          ·
            go_simp
            refine hK.out _ _ ⟨d3, d4⟩ (fun hHeld => ?_)
            clear hK K; (try simp only [Act.put, List.setIfInBounds_toArray, List.set_cons_zero, List.set_cons_succ])
            refine wpAnyH_ready (rs := [13]) (by kernel_rfl) (by simp) ?_
            refine AllReadyH.cons (o := { dst := some 56, op := _, type := _, pos := _, after := _, guard := _ }) rfl (fun K hK => ?_) (AllReadyH.nil)
            go_simp
            refine hK.out _ _ ⟨(((Below.refl v4.heap.size v4).alloc (Nat.le_refl _) _).cell (p := ⟨bb, off + 3, none⟩) lb4).trans d3, (((Below.refl v4.heap.size v4).alloc (Nat.le_refl _) _).cell (p := ⟨bb, off + 4, none⟩) lb4).trans d4⟩ (fun hHeld => ?_)
            clear hK K; (try simp only [Act.put, List.setIfInBounds_toArray, List.set_cons_zero, List.set_cons_succ])
            have hone := (oneU v4 ⟨p1, q1, readS y, readS z⟩).read.as
            have hb5 : Below v4.heap.size v4 (World.alloc v4 (.cells #[.int .i64 p1, .int .i64 q1, .int .i64 (readS y), .int .i64 (readS z)] 48)).drew := ((Below.refl v4.heap.size v4).alloc (Nat.le_refl _) _).drew
            replace hone : EUnion.AS (World.alloc v4 (.cells #[.int .i64 p1, .int .i64 q1, .int .i64 (readS y), .int .i64 (readS z)] 48)).drew v4.heap.size (v4.heap.size + 1) (some ⟨v4.heap.size, 0, none⟩) [⟨p1, q1, readS y, readS z⟩] := hone.drew
            generalize (World.alloc v4 (.cells #[.int .i64 p1, .int .i64 q1, .int .i64 (readS y), .int .i64 (readS z)] 48)).drew = v5 at *
            have F5 := F4.below hb5; have FB5 := FB4.below hb5 FB4.lt; have RB5 := RB4.below hb5 RB4.lt; have hz5 := hb5.size; have hb05 := hb4.trans (hb5.mono F4.le)
            replace d3 := (hb5.cell (p := ⟨bb, off + 3, none⟩) lb4).trans d3; replace d4 := (hb5.cell (p := ⟨bb, off + 4, none⟩) lb4).trans d4; replace cf1 := (hb5.cell (p := ⟨w.heap.size, 1, none⟩) FB4.lt).trans cf1
            refine wpAnyH_ready (rs := [14]) (by kernel_rfl) (by simp) ?_
            refine AllReadyH.cons (o := { dst := some 57, op := _, type := _, pos := _, after := _, guard := _ }) rfl (fun K hK => ?_) (AllReadyH.nil)
            refine step_appN flatUnion tyUnionS B ys 1 F5.uu rfl hone _ _ rfl rfl rfl rfl (show ys.length + 1 ≤ 1048576 by omega) (by decide) F5.le ?_
            intro B2 d2 w5 ho5 hg5
            rw [show (ys ++ [(⟨p1, q1, readS y, readS z⟩ : Union)]).length = ys.length + 1 by simp]
            have hgc : ∀ k, w.heap.size ≤ k → k < v5.heap.size → w5.heap[k]? = v5.heap[k]? := fun k k1 k2 => hg5.block k k2 (fun e => by have := (hBk k e.symm).2; omega)
            refine hK.out _ _ ⟨(World.cell?_of_block (hgc bb (by omega) (by omega))).trans d3, (World.cell?_of_block (hgc bb (by omega) (by omega))).trans d4⟩ (fun hHeld => ?_)
            clear hK K; (try simp only [Act.put, List.setIfInBounds_toArray, List.set_cons_zero, List.set_cons_succ])
            have FB6 : Blk w5 w.heap.size 25 #[.slice A xs.length c, .slice B ys.length d] := (hgc _ (Nat.le_refl _) FB5.lt).trans FB5
            have RB6 : Blk w5 (w.heap.size + 1) 25 #[.slice none 0 0, .slice none 0 0] := (hgc _ (by omega) RB5.lt).trans RB5
            have F6 := F5.addU ho5 hg5; have hb06 := hb05.trans (F5.belowU hg5); have lb6 : bb < w5.heap.size := by have := hg5.size; omega
            replace d3 := (World.cell?_of_block (hgc bb (by omega) (by omega))).trans d3; replace d4 := (World.cell?_of_block (hgc bb (by omega) (by omega))).trans d4; clear cf1
            refine wpAnyH_take (i := 15) (oi := { dst := some 58, op := _, type := _, pos := _, after := _, guard := _ }) (v := ?_) rfl (by kernel_rfl) (by kernel_rfl) (by kernel_rfl) (fun _ _ _ h => h) (Or.inl ⟨by rfl, ?_⟩) (by assumption) ?_; rotate_left; (intro w hSw; (try dsimp only at hSw); go_simp); (try with_reducible rfl); (try simp only [Act.put, List.setIfInBounds_toArray, List.set_cons_zero, List.set_cons_succ])
            refine wpAnyH_ready (rs := [16]) (by kernel_rfl) (by simp) ?_
            refine AllReadyH.cons (o := { dst := none, op := _, type := _, pos := _, after := _, guard := _ }) rfl (fun K hK => ?_) (AllReadyH.nil)
            have u1 := FB6.cell (i := 1) rfl; have f1 := FB6.free 1; have l6 := FB6.lt
            go_simp
            refine hK.out _ _ ⟨(World.cell?_setCell_other _ _ _ _ (by first | (simp; done) | (simp; omega))).trans d3, (World.cell?_setCell_other _ _ _ _ (by first | (simp; done) | (simp; omega))).trans d4⟩ (fun hHeld => ?_)
            clear hK K; (try simp only [Act.put, List.setIfInBounds_toArray, List.set_cons_zero, List.set_cons_succ])
            refine wpAnyH_done (by kernel_rfl) ?_ _
            have FB7 := FB6.set 1 (.slice B2 (ys.length + 1) d2)
            have RB7 := RB6.far (p := ⟨w.heap.size, 1, none⟩) (by simp) (.slice B2 (ys.length + 1) d2)
            have F7 := F6.off (i := 1) FB6 (by decide) (by decide) (.slice B2 (ys.length + 1) d2)
            have hb07 := hb06.setCell (p := ⟨w.heap.size, 1, none⟩) hlo (.slice B2 (ys.length + 1) d2)
            generalize w5.setCell ⟨w.heap.size, 1, none⟩ (.slice B2 (ys.length + 1) d2) = w7 at *
            have e0 : w7.cell? ⟨w.heap.size, 0, none⟩ = some (.slice A xs.length c) := FB7.cell (i := 0) rfl; have e1 : w7.cell? ⟨w.heap.size, 1, none⟩ = some (.slice B2 (ys.length + 1) d2) := FB7.cell (i := 1) rfl
            have s0 := RB7.free 0; have s1 := RB7.free 1; have r0 := RB7.cell (i := 0) rfl; have r1 := RB7.cell (i := 1) rfl; have lR := RB7.lt
            clear ho5 hg5 hgc hone d3 d4 FB6 RB6 F6 u1 f1 F5 FB5 RB5 hb5 F4 FB4 RB4 hBk hW
            have RR := (RB7.set 0 (.slice A xs.length c)).set 1 (.slice B2 (ys.length + 1) d2)
            cases pb <;> cases qb
            · go_wp2
              exact bodyPost_ret (v := .tuple #[.agg #[.slice A xs.length c, .slice B2 (ys.length + 1) d2], .bool false]) (by simp [results, Tryz.results10, go_sem, RR.cell (i := 0) rfl, RR.cell (i := 1) rfl]) rfl (by rw [HN.out.trans (if_neg (by simp))]; exact ⟨_, _, _, _, _, _, rfl, by (with_reducible repeat' first | exact Below.refl _ _ | assumption | (refine Below.setCell ?_ (by first | omega | (simp; omega) | (simp; done) | (dsimp only; omega)) _) | (refine Below.alloc ?_ (by first | omega | (simp; omega) | (simp; done) | (dsimp only; omega)) _) | (refine below_drewN ?_ _) | (refine Below.drew ?_) | (refine Below.trans ?_ (hb07.mono (by first | omega | (simp; omega) | (simp; done) | (dsimp only; omega)))))⟩)
            · go_wp2
              exact bodyPost_ret (v := .tuple #[.agg #[.slice A xs.length c, .slice B2 (ys.length + 1) d2], .bool false]) (by simp [results, Tryz.results10, go_sem, RR.cell (i := 0) rfl, RR.cell (i := 1) rfl]) rfl (by rw [HN.out.trans (if_neg (by simp))]; exact ⟨_, _, _, _, _, _, rfl, by (with_reducible repeat' first | exact Below.refl _ _ | assumption | (refine Below.setCell ?_ (by first | omega | (simp; omega) | (simp; done) | (dsimp only; omega)) _) | (refine Below.alloc ?_ (by first | omega | (simp; omega) | (simp; done) | (dsimp only; omega)) _) | (refine below_drewN ?_ _) | (refine Below.drew ?_) | (refine Below.trans ?_ (hb07.mono (by first | omega | (simp; omega) | (simp; done) | (dsimp only; omega)))))⟩)
            · go_wp2
              exact bodyPost_ret (v := .tuple #[.agg #[.slice A xs.length c, .slice B2 (ys.length + 1) d2], .bool false]) (by simp [results, Tryz.results10, go_sem, RR.cell (i := 0) rfl, RR.cell (i := 1) rfl]) rfl (by rw [HN.out.trans (if_neg (by simp))]; exact ⟨_, _, _, _, _, _, rfl, by (with_reducible repeat' first | exact Below.refl _ _ | assumption | (refine Below.setCell ?_ (by first | omega | (simp; omega) | (simp; done) | (dsimp only; omega)) _) | (refine Below.alloc ?_ (by first | omega | (simp; omega) | (simp; done) | (dsimp only; omega)) _) | (refine below_drewN ?_ _) | (refine Below.drew ?_) | (refine Below.trans ?_ (hb07.mono (by first | omega | (simp; omega) | (simp; done) | (dsimp only; omega)))))⟩)
            · go_wp2
              exact bodyPost_ret (v := .tuple #[.agg #[.slice A xs.length c, .slice B2 (ys.length + 1) d2], .bool true]) (by simp [results, Tryz.results10, go_sem, RR.cell (i := 0) rfl, RR.cell (i := 1) rfl]) rfl (by rw [HN.out.trans (if_pos (by simp))]; exact ⟨A, c, B2, d2, by simp, (F7.off (i := 0) RB7 (by decide) (by decide) _).off (i := 1) (RB7.set 0 _) (by decide) (by decide) _, by (with_reducible repeat' first | exact Below.refl _ _ | assumption | (refine Below.setCell ?_ (by first | omega | (simp; omega) | (simp; done) | (dsimp only; omega)) _) | (refine Below.alloc ?_ (by first | omega | (simp; omega) | (simp; done) | (dsimp only; omega)) _) | (refine below_drewN ?_ _) | (refine Below.drew ?_) | (refine Below.trans ?_ (hb07.mono (by first | omega | (simp; omega) | (simp; done) | (dsimp only; omega)))))⟩)
          ·
            go_simp
            refine hK.out _ _ ⟨(((Below.refl v4.heap.size v4).alloc (Nat.le_refl _) _).cell (p := ⟨bb, off + 3, none⟩) lb4).trans d3, (((Below.refl v4.heap.size v4).alloc (Nat.le_refl _) _).cell (p := ⟨bb, off + 4, none⟩) lb4).trans d4⟩ (fun hHeld => ?_)
            clear hK K; (try simp only [Act.put, List.setIfInBounds_toArray, List.set_cons_zero, List.set_cons_succ])
            have hone := (oneU v4 ⟨p1, q1, readS y, readS z⟩).read.as
            have hb5 : Below v4.heap.size v4 (World.alloc v4 (.cells #[.int .i64 p1, .int .i64 q1, .int .i64 (readS y), .int .i64 (readS z)] 48)).drew := ((Below.refl v4.heap.size v4).alloc (Nat.le_refl _) _).drew
            replace hone : EUnion.AS (World.alloc v4 (.cells #[.int .i64 p1, .int .i64 q1, .int .i64 (readS y), .int .i64 (readS z)] 48)).drew v4.heap.size (v4.heap.size + 1) (some ⟨v4.heap.size, 0, none⟩) [⟨p1, q1, readS y, readS z⟩] := hone.drew
            generalize (World.alloc v4 (.cells #[.int .i64 p1, .int .i64 q1, .int .i64 (readS y), .int .i64 (readS z)] 48)).drew = v5 at *
            have F5 := F4.below hb5; have FB5 := FB4.below hb5 FB4.lt; have RB5 := RB4.below hb5 RB4.lt; have hz5 := hb5.size; have hb05 := hb4.trans (hb5.mono F4.le)
            replace d3 := (hb5.cell (p := ⟨bb, off + 3, none⟩) lb4).trans d3; replace d4 := (hb5.cell (p := ⟨bb, off + 4, none⟩) lb4).trans d4; replace cf1 := (hb5.cell (p := ⟨w.heap.size, 1, none⟩) FB4.lt).trans cf1
            refine wpAnyH_ready (rs := [1]) (by kernel_rfl) (by simp) ?_
            refine AllReadyH.cons (o := { dst := some 44, op := _, type := _, pos := _, after := _, guard := _ }) rfl (fun K hK => ?_) (AllReadyH.nil)
            go_simp
            refine hK.out _ _ ⟨d3, d4⟩ (fun hHeld => ?_)
            clear hK K; (try simp only [Act.put, List.setIfInBounds_toArray, List.set_cons_zero, List.set_cons_succ])
            refine wpAnyH_ready (rs := [14]) (by kernel_rfl) (by simp) ?_
            refine AllReadyH.cons (o := { dst := some 57, op := _, type := _, pos := _, after := _, guard := _ }) rfl (fun K hK => ?_) (AllReadyH.nil)
            refine step_appN flatUnion tyUnionS B ys 1 F5.uu rfl hone _ _ rfl rfl rfl rfl (show ys.length + 1 ≤ 1048576 by omega) (by decide) F5.le ?_
            intro B2 d2 w5 ho5 hg5
            rw [show (ys ++ [(⟨p1, q1, readS y, readS z⟩ : Union)]).length = ys.length + 1 by simp]
            have hgc : ∀ k, w.heap.size ≤ k → k < v5.heap.size → w5.heap[k]? = v5.heap[k]? := fun k k1 k2 => hg5.block k k2 (fun e => by have := (hBk k e.symm).2; omega)
            refine hK.out _ _ ⟨(World.cell?_of_block (hgc bb (by omega) (by omega))).trans d3, (World.cell?_of_block (hgc bb (by omega) (by omega))).trans d4⟩ (fun hHeld => ?_)
            clear hK K; (try simp only [Act.put, List.setIfInBounds_toArray, List.set_cons_zero, List.set_cons_succ])
            have FB6 : Blk w5 w.heap.size 25 #[.slice A xs.length c, .slice B ys.length d] := (hgc _ (Nat.le_refl _) FB5.lt).trans FB5
            have RB6 : Blk w5 (w.heap.size + 1) 25 #[.slice none 0 0, .slice none 0 0] := (hgc _ (by omega) RB5.lt).trans RB5
            have F6 := F5.addU ho5 hg5; have hb06 := hb05.trans (F5.belowU hg5); have lb6 : bb < w5.heap.size := by have := hg5.size; omega
            replace d3 := (World.cell?_of_block (hgc bb (by omega) (by omega))).trans d3; replace d4 := (World.cell?_of_block (hgc bb (by omega) (by omega))).trans d4; clear cf1
            refine wpAnyH_take (i := 15) (oi := { dst := some 58, op := _, type := _, pos := _, after := _, guard := _ }) (v := ?_) rfl (by kernel_rfl) (by kernel_rfl) (by kernel_rfl) (fun _ _ _ h => h) (Or.inl ⟨by rfl, ?_⟩) (by assumption) ?_; rotate_left; (intro w hSw; (try dsimp only at hSw); go_simp); (try with_reducible rfl); (try simp only [Act.put, List.setIfInBounds_toArray, List.set_cons_zero, List.set_cons_succ])
            refine wpAnyH_ready (rs := [16]) (by kernel_rfl) (by simp) ?_
            refine AllReadyH.cons (o := { dst := none, op := _, type := _, pos := _, after := _, guard := _ }) rfl (fun K hK => ?_) (AllReadyH.nil)
            have u1 := FB6.cell (i := 1) rfl; have f1 := FB6.free 1; have l6 := FB6.lt
            go_simp
            refine hK.out _ _ ⟨(World.cell?_setCell_other _ _ _ _ (by first | (simp; done) | (simp; omega))).trans d3, (World.cell?_setCell_other _ _ _ _ (by first | (simp; done) | (simp; omega))).trans d4⟩ (fun hHeld => ?_)
            clear hK K; (try simp only [Act.put, List.setIfInBounds_toArray, List.set_cons_zero, List.set_cons_succ])
            refine wpAnyH_done (by kernel_rfl) ?_ _
            have FB7 := FB6.set 1 (.slice B2 (ys.length + 1) d2)
            have RB7 := RB6.far (p := ⟨w.heap.size, 1, none⟩) (by simp) (.slice B2 (ys.length + 1) d2)
            have F7 := F6.off (i := 1) FB6 (by decide) (by decide) (.slice B2 (ys.length + 1) d2)
            have hb07 := hb06.setCell (p := ⟨w.heap.size, 1, none⟩) hlo (.slice B2 (ys.length + 1) d2)
            generalize w5.setCell ⟨w.heap.size, 1, none⟩ (.slice B2 (ys.length + 1) d2) = w7 at *
            have e0 : w7.cell? ⟨w.heap.size, 0, none⟩ = some (.slice A xs.length c) := FB7.cell (i := 0) rfl; have e1 : w7.cell? ⟨w.heap.size, 1, none⟩ = some (.slice B2 (ys.length + 1) d2) := FB7.cell (i := 1) rfl
            have s0 := RB7.free 0; have s1 := RB7.free 1; have r0 := RB7.cell (i := 0) rfl; have r1 := RB7.cell (i := 1) rfl; have lR := RB7.lt
            clear ho5 hg5 hgc hone d3 d4 FB6 RB6 F6 u1 f1 F5 FB5 RB5 hb5 F4 FB4 RB4 hBk hW
            have RR := (RB7.set 0 (.slice A xs.length c)).set 1 (.slice B2 (ys.length + 1) d2)
            cases pb <;> cases qb
            · go_wp2
              exact bodyPost_ret (v := .tuple #[.agg #[.slice A xs.length c, .slice B2 (ys.length + 1) d2], .bool false]) (by simp [results, Tryz.results10, go_sem, RR.cell (i := 0) rfl, RR.cell (i := 1) rfl]) rfl (by rw [HN.out.trans (if_neg (by simp))]; exact ⟨_, _, _, _, _, _, rfl, by (with_reducible repeat' first | exact Below.refl _ _ | assumption | (refine Below.setCell ?_ (by first | omega | (simp; omega) | (simp; done) | (dsimp only; omega)) _) | (refine Below.alloc ?_ (by first | omega | (simp; omega) | (simp; done) | (dsimp only; omega)) _) | (refine below_drewN ?_ _) | (refine Below.drew ?_) | (refine Below.trans ?_ (hb07.mono (by first | omega | (simp; omega) | (simp; done) | (dsimp only; omega)))))⟩)
            · go_wp2
              exact bodyPost_ret (v := .tuple #[.agg #[.slice A xs.length c, .slice B2 (ys.length + 1) d2], .bool false]) (by simp [results, Tryz.results10, go_sem, RR.cell (i := 0) rfl, RR.cell (i := 1) rfl]) rfl (by rw [HN.out.trans (if_neg (by simp))]; exact ⟨_, _, _, _, _, _, rfl, by (with_reducible repeat' first | exact Below.refl _ _ | assumption | (refine Below.setCell ?_ (by first | omega | (simp; omega) | (simp; done) | (dsimp only; omega)) _) | (refine Below.alloc ?_ (by first | omega | (simp; omega) | (simp; done) | (dsimp only; omega)) _) | (refine below_drewN ?_ _) | (refine Below.drew ?_) | (refine Below.trans ?_ (hb07.mono (by first | omega | (simp; omega) | (simp; done) | (dsimp only; omega)))))⟩)
            · go_wp2
              exact bodyPost_ret (v := .tuple #[.agg #[.slice A xs.length c, .slice B2 (ys.length + 1) d2], .bool false]) (by simp [results, Tryz.results10, go_sem, RR.cell (i := 0) rfl, RR.cell (i := 1) rfl]) rfl (by rw [HN.out.trans (if_neg (by simp))]; exact ⟨_, _, _, _, _, _, rfl, by (with_reducible repeat' first | exact Below.refl _ _ | assumption | (refine Below.setCell ?_ (by first | omega | (simp; omega) | (simp; done) | (dsimp only; omega)) _) | (refine Below.alloc ?_ (by first | omega | (simp; omega) | (simp; done) | (dsimp only; omega)) _) | (refine below_drewN ?_ _) | (refine Below.drew ?_) | (refine Below.trans ?_ (hb07.mono (by first | omega | (simp; omega) | (simp; done) | (dsimp only; omega)))))⟩)
            · go_wp2
              exact bodyPost_ret (v := .tuple #[.agg #[.slice A xs.length c, .slice B2 (ys.length + 1) d2], .bool true]) (by simp [results, Tryz.results10, go_sem, RR.cell (i := 0) rfl, RR.cell (i := 1) rfl]) rfl (by rw [HN.out.trans (if_pos (by simp))]; exact ⟨A, c, B2, d2, by simp, (F7.off (i := 0) RB7 (by decide) (by decide) _).off (i := 1) (RB7.set 0 _) (by decide) (by decide) _, by (with_reducible repeat' first | exact Below.refl _ _ | assumption | (refine Below.setCell ?_ (by first | omega | (simp; omega) | (simp; done) | (dsimp only; omega)) _) | (refine Below.alloc ?_ (by first | omega | (simp; omega) | (simp; done) | (dsimp only; omega)) _) | (refine below_drewN ?_ _) | (refine Below.drew ?_) | (refine Below.trans ?_ (hb07.mono (by first | omega | (simp; omega) | (simp; done) | (dsimp only; omega)))))⟩)
    · have n1 := bytes_ne (l := [117, 110, 105, 111, 110]) hun
      have HN := Lib.hid (show lineM rdS rdS ⟨xs, ys⟩ [u, a, b, y, z] = none by rw [lineM, if_neg hun])
      clear hun
      go_wp2
      have RR := (RB.set 0 (.slice A xs.length c)).set 1 (.slice B ys.length d)
      have hbl : Below lo w w1 := hbw.mono hlo
      exact bodyPost_ret (v := .tuple #[.agg #[.slice A xs.length c, .slice B ys.length d], .bool false]) (by simp [results, Tryz.results10, go_sem, RR.cell (i := 0) rfl, RR.cell (i := 1) rfl]) rfl (by rw [HN.out]; exact ⟨_, _, _, _, _, _, rfl, by have := hlo; (with_reducible repeat' first | exact Below.refl _ _ | assumption | (refine Below.setCell ?_ (by first | omega | (simp; omega) | (simp; done) | (dsimp only; omega)) _) | (refine Below.alloc ?_ (by first | omega | (simp; omega) | (simp; done) | (dsimp only; omega)) _) | (refine below_drewN ?_ _) | (refine Below.drew ?_) | (refine Below.trans ?_ (hbl.mono (by first | omega | (simp; omega) | (simp; done) | (dsimp only; omega)))))⟩)
  · by_cases h6 : ws.length = 6
    · obtain ⟨g, n, a, b, y, z, rfl⟩ := list6 h6
      obtain ⟨bb, off, rfl, g1, g2, hW⟩ := words_at od1 (by simp)
      have c0 := hW 0 g rfl; have c1 := hW 1 n rfl; have c2 := hW 2 a rfl; have c3 := hW 3 b rfl; have c4 := hW 4 y rfl; have c5 := hW 5 z rfl
      rw [Nat.add_zero] at c0
      clear od1 h5 h6 hW
      by_cases hg : g = wMan
      · skip
        have hg2 : g = ⟨#[109, 97, 110]⟩ := hg
        subst hg2
        clear hg
        obtain ⟨⟨p1, pb⟩, hpq⟩ : ∃ q, idxM a xs = q := ⟨_, rfl⟩
        obtain ⟨⟨q1, qb⟩, hqq⟩ : ∃ q, idxM b xs = q := ⟨_, rfl⟩
        have HN := Lib.hid (show lineM rdS rdS ⟨xs, ys⟩ [⟨#[109, 97, 110]⟩, n, a, b, y, z] = if pb = true ∧ qb = true then some ⟨xs ++ [⟨n, 1, p1, q1, readS y, readS z⟩], ys⟩ else none by rw [lineM, if_pos (by decide), lineH]; simp only [hpq, hqq, rdS]; rfl)
        have Ha := fun W h1 h2 h3 => l1Index_any A B c d lo w1.heap.size xs ys a W h1 h2 h3
        have Hb := fun W h1 h2 h3 => l1Index_any A B c d lo w1.heap.size xs ys b W h1 h2 h3
        rw [hpq] at Ha
        rw [hqq] at Hb
        clear hpq hqq
        have hX := F1.pp.read.as; have hY := F1.uu.read.as
        have hq : Below w1.heap.size w1 w1 := Below.refl _ _
        go_upto_region 9 with fail
        go_region_held3 (fun w' => w'.cell? ⟨w.heap.size, 0, none⟩ = some (.slice A xs.length c) ∧ w'.cell? ⟨w.heap.size, 1, none⟩ = some (.slice B ys.length d) ∧ w'.cell? ⟨bb, off + 2, none⟩ = some (.string a) ∧ w'.cell? ⟨bb, off + 3, none⟩ = some (.string b)) (exact ⟨(hq.cell (p := ⟨w.heap.size, 0, none⟩) lF).trans e0, (hq.cell (p := ⟨w.heap.size, 1, none⟩) lF).trans e1, (hq.cell (p := ⟨bb, off + 2, none⟩) g2).trans c2, (hq.cell (p := ⟨bb, off + 3, none⟩) g2).trans c3⟩) ((go_at_call 25; (with_reducible refine (Ha _ (hX.same (by first | exact Same.of_below hq (Nat.le_refl _) | exact (Same.of_below hq (Nat.le_refl _)).drew)) (hY.same (by first | exact Same.of_below hq (Nat.le_refl _) | exact (Same.of_below hq (Nat.le_refl _)).drew)) (by first | exact hq.size | exact hq.drew.size)).mono ?_); rintro e v3 ⟨rfl, hv3⟩; (first | (replace hv3 := undrew hv3) | skip); replace hq := hq.trans (hv3.mono hq.size)))
        go_upto_region 10 with fail
        go_region_held3 (fun w' => w'.cell? ⟨w.heap.size, 0, none⟩ = some (.slice A xs.length c) ∧ w'.cell? ⟨w.heap.size, 1, none⟩ = some (.slice B ys.length d) ∧ w'.cell? ⟨bb, off + 2, none⟩ = some (.string a) ∧ w'.cell? ⟨bb, off + 3, none⟩ = some (.string b)) (exact ⟨(hq.cell (p := ⟨w.heap.size, 0, none⟩) lF).trans e0, (hq.cell (p := ⟨w.heap.size, 1, none⟩) lF).trans e1, (hq.cell (p := ⟨bb, off + 2, none⟩) g2).trans c2, (hq.cell (p := ⟨bb, off + 3, none⟩) g2).trans c3⟩) ((go_at_call 25; (with_reducible refine (Hb _ (hX.same (by first | exact Same.of_below hq (Nat.le_refl _) | exact (Same.of_below hq (Nat.le_refl _)).drew)) (hY.same (by first | exact Same.of_below hq (Nat.le_refl _) | exact (Same.of_below hq (Nat.le_refl _)).drew)) (by first | exact hq.size | exact hq.drew.size)).mono ?_); rintro e v4 ⟨rfl, hv4⟩; (first | (replace hv4 := undrew hv4) | skip); replace hq := hq.trans (hv4.mono hq.size)))
        go_upto_region 11 with fail
        have FB4 := FB.below hq lF
        have RB4 := RB.below hq lR
        have F4 := F1.below hq
        have hBk := HF.out.pp.blkv
        have hz4 := hq.size
        have d1 : v4.drew.cell? ⟨bb, off + 1, none⟩ = some (.string n) := (hq.cell (p := ⟨bb, off + 1, none⟩) g2).trans c1
        have d4 : v4.drew.cell? ⟨bb, off + 4, none⟩ = some (.string y) := (hq.cell (p := ⟨bb, off + 4, none⟩) g2).trans c4
        have d5 : v4.drew.cell? ⟨bb, off + 5, none⟩ = some (.string z) := (hq.cell (p := ⟨bb, off + 5, none⟩) g2).trans c5
        have d0 : v4.cell? ⟨bb, off, none⟩ = some (.string ⟨#[109, 97, 110]⟩) := (hq.cell (p := ⟨bb, off, none⟩) g2).trans c0
        have hb4 : Below lo w v4 := (hbw.mono hlo).trans (hq.mono F1.le)
        have lb4 : bb < v4.heap.size := by omega
        clear e0 e1 s0 s1 r0 r1 c0 c1 c2 c3 c4 c5 Ha Hb hX hY F1 FB RB hbw
        refine wp_region_held_drew (S := fun w' => w'.cell? ⟨bb, off + 1, none⟩ = some (.string n) ∧ w'.cell? ⟨bb, off + 4, none⟩ = some (.string y) ∧ w'.cell? ⟨bb, off + 5, none⟩ = some (.string z)) (by kernel_rfl) ⟨d1, d4, d5⟩ (fun hHeld => ?_)
        refine wpAnyH_take (i := 0) (oi := { dst := some 96, op := _, type := _, pos := _, after := _, guard := _ }) (v := ?_) rfl (by kernel_rfl) (by kernel_rfl) (by kernel_rfl) (fun _ _ _ h => h) (Or.inl ⟨by rfl, ?_⟩) (by assumption) ?_; rotate_left; (intro w hSw; (try dsimp only at hSw); go_simp); (try with_reducible rfl); (try simp only [Act.put, List.setIfInBounds_toArray, List.set_cons_zero, List.set_cons_succ])
        refine wpAnyH_take (i := 1) (oi := { dst := some 97, op := _, type := _, pos := _, after := _, guard := _ }) (v := ?_) rfl (by kernel_rfl) (by kernel_rfl) (by kernel_rfl) (fun _ _ _ h => h) (Or.inl ⟨by rfl, ?_⟩) (by assumption) ?_; rotate_left; (intro w hSw; (try dsimp only at hSw); go_simp); (try with_reducible rfl); (try simp only [Act.put, List.setIfInBounds_toArray, List.set_cons_zero, List.set_cons_succ])
        refine wpAnyH_take (i := 2) (oi := { dst := some 98, op := _, type := _, pos := _, after := _, guard := _ }) (v := ?_) rfl (by kernel_rfl) (by kernel_rfl) (by kernel_rfl) (fun _ _ _ h => h) (Or.inl ⟨by rfl, ?_⟩) (by assumption) ?_; rotate_left; (intro w hSw; (try dsimp only at hSw); go_simp); (try with_reducible rfl); (try simp only [Act.put, List.setIfInBounds_toArray, List.set_cons_zero, List.set_cons_succ])
        refine wpAnyH_take (i := 3) (oi := { dst := some 99, op := _, type := _, pos := _, after := _, guard := _ }) (v := ?_) rfl (by kernel_rfl) (by kernel_rfl) (by kernel_rfl) (fun _ _ _ h => h) (Or.inl ⟨by rfl, ?_⟩) (by assumption) ?_; rotate_left; (intro w hSw; (try dsimp only at hSw); go_simp); (try with_reducible rfl); (try simp only [Act.put, List.setIfInBounds_toArray, List.set_cons_zero, List.set_cons_succ])
        refine wpAnyH_take (i := 4) (oi := { dst := some 100, op := _, type := _, pos := _, after := _, guard := _ }) (v := ?_) rfl (by kernel_rfl) (by kernel_rfl) (by kernel_rfl) (fun _ _ _ h => h) (Or.inl ⟨by rfl, ?_⟩) (by assumption) ?_; rotate_left; (intro w hSw; (try dsimp only at hSw); go_simp); (try with_reducible rfl); (try simp only [Act.put, List.setIfInBounds_toArray, List.set_cons_zero, List.set_cons_succ])
        refine wpAnyH_take (i := 5) (oi := { dst := some 101, op := _, type := _, pos := _, after := _, guard := _ }) (v := ?_) rfl (by kernel_rfl) (by kernel_rfl) (by kernel_rfl) (fun _ _ _ h => h) (Or.inl ⟨by rfl, ?_⟩) (by assumption) ?_; rotate_left; (intro w hSw; (try dsimp only at hSw); go_simp); (try with_reducible rfl); (try simp only [Act.put, List.setIfInBounds_toArray, List.set_cons_zero, List.set_cons_succ])
        refine wpAnyH_take (i := 6) (oi := { dst := some 102, op := _, type := _, pos := _, after := _, guard := _ }) (v := ?_) rfl (by kernel_rfl) (by kernel_rfl) (by kernel_rfl) (fun _ _ _ h => h) (Or.inl ⟨by rfl, ?_⟩) (by assumption) ?_; rotate_left; (intro w hSw; (try dsimp only at hSw); go_simp); (try with_reducible rfl); (try simp only [Act.put, List.setIfInBounds_toArray, List.set_cons_zero, List.set_cons_succ])
        refine wpAnyH_take (i := 7) (oi := { dst := some 103, op := _, type := _, pos := _, after := _, guard := _ }) (v := ?_) rfl (by kernel_rfl) (by kernel_rfl) (by kernel_rfl) (fun _ _ _ h => h) (Or.inl ⟨by rfl, ?_⟩) (by assumption) ?_; rotate_left; (intro w hSw; (try dsimp only at hSw); go_simp); (try with_reducible rfl); (try simp only [Act.put, List.setIfInBounds_toArray, List.set_cons_zero, List.set_cons_succ])
        refine wpAnyH_take (i := 9) (oi := { dst := some 105, op := _, type := _, pos := _, after := _, guard := _ }) (v := ?_) rfl (by kernel_rfl) (by kernel_rfl) (by kernel_rfl) (fun _ _ _ h => h) (Or.inl ⟨by rfl, ?_⟩) (by assumption) ?_; rotate_left; (intro w hSw; (try dsimp only at hSw); go_simp); (try with_reducible rfl); (try simp only [Act.put, List.setIfInBounds_toArray, List.set_cons_zero, List.set_cons_succ])
        refine wpAnyH_take (i := 10) (oi := { dst := some 106, op := _, type := _, pos := _, after := _, guard := _ }) (v := ?_) rfl (by kernel_rfl) (by kernel_rfl) (by kernel_rfl) (fun _ _ _ h => h) (Or.inl ⟨by rfl, ?_⟩) (by assumption) ?_; rotate_left; (intro w hSw; (try dsimp only at hSw); go_simp); (try with_reducible rfl); (try simp only [Act.put, List.setIfInBounds_toArray, List.set_cons_zero, List.set_cons_succ])
        refine wpAnyH_take (i := 11) (oi := { dst := some 107, op := _, type := _, pos := _, after := _, guard := _ }) (v := ?_) rfl (by kernel_rfl) (by kernel_rfl) (by kernel_rfl) (fun _ _ _ h => h) (Or.inl ⟨by rfl, ?_⟩) (by assumption) ?_; rotate_left; (intro w hSw; (try dsimp only at hSw); go_simp); (try with_reducible rfl); (try simp only [Act.put, List.setIfInBounds_toArray, List.set_cons_zero, List.set_cons_succ])
        refine wpAnyH_ready (rs := [8, 14]) (by kernel_rfl) (by simp) ?_
        refine AllReadyH.cons (o := { dst := some 104, op := _, type := _, pos := _, after := _, guard := _ }) rfl (fun K hK => ?_) (AllReadyH.cons (o := { dst := some 15, op := _, type := _, pos := _, after := _, guard := _ }) rfl (fun K hK => ?_) (AllReadyH.nil))
        ·
          go_simp
          (go_at_call 24; (with_reducible refine (l1Read_any _ _).mono ?_); rintro e v6 ⟨rfl, rfl⟩)
          try go_wp2_with fail
          refine hK.out _ _ ⟨d1, d4, d5⟩ (fun hHeld => ?_)
          clear hK K; (try simp only [Act.put, List.setIfInBounds_toArray, List.set_cons_zero, List.set_cons_succ])
          refine wpAnyH_ready (rs := [12, 14]) (by kernel_rfl) (by simp) ?_
          refine AllReadyH.cons (o := { dst := some 108, op := _, type := _, pos := _, after := _, guard := _ }) rfl (fun K hK => ?_) (AllReadyH.cons (o := { dst := some 15, op := _, type := _, pos := _, after := _, guard := _ }) rfl (fun K hK => ?_) (AllReadyH.nil))
          ·
            go_simp
            (go_at_call 24; (with_reducible refine (l1Read_any _ _).mono ?_); rintro e v6 ⟨rfl, rfl⟩)
            try go_wp2_with fail
            refine hK.out _ _ ⟨d1, d4, d5⟩ (fun hHeld => ?_)
            clear hK K; (try simp only [Act.put, List.setIfInBounds_toArray, List.set_cons_zero, List.set_cons_succ])
            refine wpAnyH_take (i := 13) (oi := { dst := some 109, op := _, type := _, pos := _, after := _, guard := _ }) (v := ?_) rfl (by kernel_rfl) (by kernel_rfl) (by kernel_rfl) (fun _ _ _ h => h) (Or.inl ⟨by rfl, ?_⟩) (by assumption) ?_; rotate_left; (intro w hSw; (try dsimp only at hSw); go_simp); (try with_reducible rfl); (try simp only [Act.put, List.setIfInBounds_toArray, List.set_cons_zero, List.set_cons_succ])
            refine wpAnyH_ready (rs := [14]) (by kernel_rfl) (by simp) ?_
            refine AllReadyH.cons (o := { dst := some 15, op := _, type := _, pos := _, after := _, guard := _ }) rfl (fun K hK => ?_) (AllReadyH.nil)
            go_simp
            refine hK.out _ _ ⟨(((Below.refl v4.heap.size v4).alloc (Nat.le_refl _) _).cell (p := ⟨bb, off + 1, none⟩) lb4).trans d1, (((Below.refl v4.heap.size v4).alloc (Nat.le_refl _) _).cell (p := ⟨bb, off + 4, none⟩) lb4).trans d4, (((Below.refl v4.heap.size v4).alloc (Nat.le_refl _) _).cell (p := ⟨bb, off + 5, none⟩) lb4).trans d5⟩ (fun hHeld => ?_)
            clear hK K; (try simp only [Act.put, List.setIfInBounds_toArray, List.set_cons_zero, List.set_cons_succ])
            refine wpAnyH_ready (rs := [15]) (by kernel_rfl) (by simp) ?_
            refine AllReadyH.cons (o := { dst := none, op := _, type := _, pos := _, after := _, guard := _ }) rfl (fun K hK => ?_) (AllReadyH.nil)
            go_simp
            refine hK.out _ _ ⟨(((Below.refl v4.heap.size v4).alloc (Nat.le_refl _) _).cell (p := ⟨bb, off + 1, none⟩) lb4).trans d1, (((Below.refl v4.heap.size v4).alloc (Nat.le_refl _) _).cell (p := ⟨bb, off + 4, none⟩) lb4).trans d4, (((Below.refl v4.heap.size v4).alloc (Nat.le_refl _) _).cell (p := ⟨bb, off + 5, none⟩) lb4).trans d5⟩ (fun hHeld => ?_)
            clear hK K; (try simp only [Act.put, List.setIfInBounds_toArray, List.set_cons_zero, List.set_cons_succ])
            refine wpAnyH_done (by kernel_rfl) ?_ _
            have hb5 : Below v4.heap.size v4 (World.alloc v4 (.cells #[.string n, .int .i64 1, .int .i64 p1, .int .i64 q1, .int .i64 (readS y), .int .i64 (readS z)] 50)).drew := ((Below.refl v4.heap.size v4).alloc (Nat.le_refl _) _).drew
            have P5 : Blk (World.alloc v4 (.cells #[.string n, .int .i64 1, .int .i64 p1, .int .i64 q1, .int .i64 (readS y), .int .i64 (readS z)] 50)).drew v4.heap.size 50 #[.string n, .int .i64 1, .int .i64 p1, .int .i64 q1, .int .i64 (readS y), .int .i64 (readS z)] := (Blk.new v4 rfl).drew
            generalize (World.alloc v4 (.cells #[.string n, .int .i64 1, .int .i64 p1, .int .i64 q1, .int .i64 (readS y), .int .i64 (readS z)] 50)).drew = v5 at *
            have hpp := F4.pp.same (Same.of_below hb5 (Nat.le_refl _)); have huu := F4.uu.same (Same.of_below hb5 (Nat.le_refl _))
            have FB5 := FB4.below hb5 FB4.lt; have RB5 := RB4.below hb5 RB4.lt; have hz5 := hb5.size; have hb05 := hb4.trans (hb5.mono F4.le)
            replace d0 := (hb5.cell (p := ⟨bb, off, none⟩) lb4).trans d0
            have l5 := P5.lt; have l50 := FB5.lt; have p1f := P5.free 1; have p1c := P5.cell (i := 1) rfl
            clear d1 d4 d5
            go_upto_region 14 with fail
            have P6 := P5; have FB6 := FB5; have RB6 := RB5; have hb06 := hb05; have hz6 := l5
            clear p1f p1c l5 l50
            obtain ⟨v6, rfl⟩ : ∃ v6 : World, v6 = v5 := ⟨_, rfl⟩
            have F6 : FamOwn v6 lo ⟨xs, ys⟩ A c B d := ⟨Nat.le_trans F4.le (Nat.le_of_lt hz6), hpp.mono (Nat.le_refl _) (Nat.le_of_lt hz6), huu.mono (Nat.le_refl _) (Nat.le_of_lt hz6)⟩
            have cq0 := P6.cell (i := 0) rfl; have cq1 := P6.cell (i := 1) rfl; have cq2 := P6.cell (i := 2) rfl; have cq3 := P6.cell (i := 3) rfl; have cq4 := P6.cell (i := 4) rfl; have cq5 := P6.cell (i := 5) rfl
            have e0 := FB6.cell (i := 0) rfl; have e1 := FB6.cell (i := 1) rfl; have lF6 := FB6.lt; have lP6 := P6.lt; have lo6 := F6.le
            go_upto_region 15 with (at_builtin; refine wpList_app1 tyPersonS A xs ⟨n, 1, p1, q1, readS y, readS z⟩ (vsPerson ⟨n, 1, p1, q1, readS y, readS z⟩) ⟨v6.heap.size, 0, none⟩ 1 (lo := lo) (hi := v6.heap.size) (F6.pp.same (by (with_reducible repeat' first | exact Same.refl _ _ _ | assumption | (refine Same.setCell ?_ (by first | omega | (simp; omega) | (simp; done) | (dsimp only; omega)) _) | (refine Same.alloc ?_ (by first | omega | (simp; omega) | (simp; done) | (dsimp only; omega)) _) | (refine Same.drewN ?_ _) | (refine Same.drew ?_)))) rfl (by (first | omega | (simp; omega) | (simp; done) | (dsimp only; omega))) lo6 rfl _ _ rfl rfl rfl rfl (cell_row_at _ _ _ _ (by simp)) (flatPerson.one _) (show xs.length + 1 ≤ 1048576 by omega) (by decide) (fun A2 c2 w5 ho5 hg5 hc5 hm5 => ?_); have hgc : ∀ k, w.heap.size ≤ k → k < v6.heap.size → w5.heap[k]? = v6.heap[k]? := (fun k k1 k2 => (hg5.block k (by simp; omega) (fun e => by have := (hBk k e.symm).2; omega)).trans (Below.heap_alloc _ _ _ k2)); have FB7 : Blk w5 w.heap.size 25 #[.slice A xs.length c, .slice B ys.length d] := (hgc _ (Nat.le_refl _) FB6.lt).trans FB6; have RB7 : Blk w5 (w.heap.size + 1) 25 #[.slice none 0 0, .slice none 0 0] := (hgc _ (by omega) RB6.lt).trans RB6; have u0 := FB7.cell (i := 0) rfl; have u1 := FB7.cell (i := 1) rfl; have f0 := FB7.free 0; have l7 := FB7.lt)
            have F6a := F6.below ((Below.refl v6.heap.size v6).alloc (Nat.le_refl _) (.cells #[.string n, .int .i64 1, .int .i64 p1, .int .i64 q1, .int .i64 (readS y), .int .i64 (readS z)] 50))
            have F7 := F6a.addP (x := ⟨n, 1, p1, q1, readS y, readS z⟩) (by simpa using ho5) hg5
            have hb07 : Below lo w w5 := (hb06.trans (((Below.refl v6.heap.size v6).alloc (Nat.le_refl _) _).mono F6.le)).trans (F6a.belowP hg5)
            skip
            have FB8 := FB7.set 0 (.slice A2 (xs.length + 1) c2)
            have RB8 := RB7.far (p := ⟨w.heap.size, 0, none⟩) (by simp) (.slice A2 (xs.length + 1) c2)
            have F8 := F7.off (i := 0) FB7 (by decide) (by decide) (.slice A2 (xs.length + 1) c2)
            have hb08 := hb07.setCell (p := ⟨w.heap.size, 0, none⟩) hlo (.slice A2 (xs.length + 1) c2)
            clear ho5 hg5 hgc FB7 RB7 F7 F6a hb07 u0 u1 f0 l7
            generalize w5.setCell ⟨w.heap.size, 0, none⟩ (.slice A2 (xs.length + 1) c2) = w7 at *
            have e0 : w7.cell? ⟨w.heap.size, 0, none⟩ = some (.slice A2 (xs.length + 1) c2) := FB8.cell (i := 0) rfl; have e1 : w7.cell? ⟨w.heap.size, 1, none⟩ = some (.slice B ys.length d) := FB8.cell (i := 1) rfl
            have s0 := RB8.free 0; have s1 := RB8.free 1; have r0 := RB8.cell (i := 0) rfl; have r1 := RB8.cell (i := 1) rfl; have lR := RB8.lt
            have RR := (RB8.set 0 (.slice A2 (xs.length + 1) c2)).set 1 (.slice B ys.length d)
            cases pb <;> cases qb
            · go_wp2
              exact bodyPost_ret (v := .tuple #[.agg #[.slice A2 (xs.length + 1) c2, .slice B ys.length d], .bool false]) (by simp [results, Tryz.results10, go_sem, RR.cell (i := 0) rfl, RR.cell (i := 1) rfl]) rfl (by rw [HN.out.trans (if_neg (by simp))]; exact ⟨_, _, _, _, _, _, rfl, by (with_reducible repeat' first | exact Below.refl _ _ | assumption | (refine Below.setCell ?_ (by first | omega | (simp; omega) | (simp; done) | (dsimp only; omega)) _) | (refine Below.alloc ?_ (by first | omega | (simp; omega) | (simp; done) | (dsimp only; omega)) _) | (refine below_drewN ?_ _) | (refine Below.drew ?_) | (refine Below.trans ?_ (hb08.mono (by first | omega | (simp; omega) | (simp; done) | (dsimp only; omega)))))⟩)
            · go_wp2
              exact bodyPost_ret (v := .tuple #[.agg #[.slice A2 (xs.length + 1) c2, .slice B ys.length d], .bool false]) (by simp [results, Tryz.results10, go_sem, RR.cell (i := 0) rfl, RR.cell (i := 1) rfl]) rfl (by rw [HN.out.trans (if_neg (by simp))]; exact ⟨_, _, _, _, _, _, rfl, by (with_reducible repeat' first | exact Below.refl _ _ | assumption | (refine Below.setCell ?_ (by first | omega | (simp; omega) | (simp; done) | (dsimp only; omega)) _) | (refine Below.alloc ?_ (by first | omega | (simp; omega) | (simp; done) | (dsimp only; omega)) _) | (refine below_drewN ?_ _) | (refine Below.drew ?_) | (refine Below.trans ?_ (hb08.mono (by first | omega | (simp; omega) | (simp; done) | (dsimp only; omega)))))⟩)
            · go_wp2
              exact bodyPost_ret (v := .tuple #[.agg #[.slice A2 (xs.length + 1) c2, .slice B ys.length d], .bool false]) (by simp [results, Tryz.results10, go_sem, RR.cell (i := 0) rfl, RR.cell (i := 1) rfl]) rfl (by rw [HN.out.trans (if_neg (by simp))]; exact ⟨_, _, _, _, _, _, rfl, by (with_reducible repeat' first | exact Below.refl _ _ | assumption | (refine Below.setCell ?_ (by first | omega | (simp; omega) | (simp; done) | (dsimp only; omega)) _) | (refine Below.alloc ?_ (by first | omega | (simp; omega) | (simp; done) | (dsimp only; omega)) _) | (refine below_drewN ?_ _) | (refine Below.drew ?_) | (refine Below.trans ?_ (hb08.mono (by first | omega | (simp; omega) | (simp; done) | (dsimp only; omega)))))⟩)
            · go_wp2
              exact bodyPost_ret (v := .tuple #[.agg #[.slice A2 (xs.length + 1) c2, .slice B ys.length d], .bool true]) (by simp [results, Tryz.results10, go_sem, RR.cell (i := 0) rfl, RR.cell (i := 1) rfl]) rfl (by rw [HN.out.trans (if_pos (by simp))]; exact ⟨A2, c2, B, d, by simp, (F8.off (i := 0) RB8 (by decide) (by decide) _).off (i := 1) (RB8.set 0 _) (by decide) (by decide) _, by (with_reducible repeat' first | exact Below.refl _ _ | assumption | (refine Below.setCell ?_ (by first | omega | (simp; omega) | (simp; done) | (dsimp only; omega)) _) | (refine Below.alloc ?_ (by first | omega | (simp; omega) | (simp; done) | (dsimp only; omega)) _) | (refine below_drewN ?_ _) | (refine Below.drew ?_) | (refine Below.trans ?_ (hb08.mono (by first | omega | (simp; omega) | (simp; done) | (dsimp only; omega)))))⟩)
          ·
            go_simp
            refine hK.out _ _ ⟨(((Below.refl v4.heap.size v4).alloc (Nat.le_refl _) _).cell (p := ⟨bb, off + 1, none⟩) lb4).trans d1, (((Below.refl v4.heap.size v4).alloc (Nat.le_refl _) _).cell (p := ⟨bb, off + 4, none⟩) lb4).trans d4, (((Below.refl v4.heap.size v4).alloc (Nat.le_refl _) _).cell (p := ⟨bb, off + 5, none⟩) lb4).trans d5⟩ (fun hHeld => ?_)
            clear hK K; (try simp only [Act.put, List.setIfInBounds_toArray, List.set_cons_zero, List.set_cons_succ])
            refine wpAnyH_ready (rs := [12]) (by kernel_rfl) (by simp) ?_
            refine AllReadyH.cons (o := { dst := some 108, op := _, type := _, pos := _, after := _, guard := _ }) rfl (fun K hK => ?_) (AllReadyH.nil)
            go_simp
            (go_at_call 24; (with_reducible refine (l1Read_any _ _).mono ?_); rintro e v6 ⟨rfl, rfl⟩)
            try go_wp2_with fail
            refine hK.out _ _ ⟨(((Below.refl v4.heap.size v4).alloc (Nat.le_refl _) _).cell (p := ⟨bb, off + 1, none⟩) lb4).trans d1, (((Below.refl v4.heap.size v4).alloc (Nat.le_refl _) _).cell (p := ⟨bb, off + 4, none⟩) lb4).trans d4, (((Below.refl v4.heap.size v4).alloc (Nat.le_refl _) _).cell (p := ⟨bb, off + 5, none⟩) lb4).trans d5⟩ (fun hHeld => ?_)
            clear hK K; (try simp only [Act.put, List.setIfInBounds_toArray, List.set_cons_zero, List.set_cons_succ])
            refine wpAnyH_take (i := 13) (oi := { dst := some 109, op := _, type := _, pos := _, after := _, guard := _ }) (v := ?_) rfl (by kernel_rfl) (by kernel_rfl) (by kernel_rfl) (fun _ _ _ h => h) (Or.inl ⟨by rfl, ?_⟩) (by assumption) ?_; rotate_left; (intro w hSw; (try dsimp only at hSw); go_simp); (try with_reducible rfl); (try simp only [Act.put, List.setIfInBounds_toArray, List.set_cons_zero, List.set_cons_succ])
            refine wpAnyH_ready (rs := [15]) (by kernel_rfl) (by simp) ?_
            refine AllReadyH.cons (o := { dst := none, op := _, type := _, pos := _, after := _, guard := _ }) rfl (fun K hK => ?_) (AllReadyH.nil)
            go_simp
            refine hK.out _ _ ⟨(((Below.refl v4.heap.size v4).alloc (Nat.le_refl _) _).cell (p := ⟨bb, off + 1, none⟩) lb4).trans d1, (((Below.refl v4.heap.size v4).alloc (Nat.le_refl _) _).cell (p := ⟨bb, off + 4, none⟩) lb4).trans d4, (((Below.refl v4.heap.size v4).alloc (Nat.le_refl _) _).cell (p := ⟨bb, off + 5, none⟩) lb4).trans d5⟩ (fun hHeld => ?_)
            clear hK K; (try simp only [Act.put, List.setIfInBounds_toArray, List.set_cons_zero, List.set_cons_succ])
            refine wpAnyH_done (by kernel_rfl) ?_ _
            have hb5 : Below v4.heap.size v4 (World.alloc v4 (.cells #[.string n, .int .i64 1, .int .i64 p1, .int .i64 q1, .int .i64 (readS y), .int .i64 (readS z)] 50)).drew := ((Below.refl v4.heap.size v4).alloc (Nat.le_refl _) _).drew
            have P5 : Blk (World.alloc v4 (.cells #[.string n, .int .i64 1, .int .i64 p1, .int .i64 q1, .int .i64 (readS y), .int .i64 (readS z)] 50)).drew v4.heap.size 50 #[.string n, .int .i64 1, .int .i64 p1, .int .i64 q1, .int .i64 (readS y), .int .i64 (readS z)] := (Blk.new v4 rfl).drew
            generalize (World.alloc v4 (.cells #[.string n, .int .i64 1, .int .i64 p1, .int .i64 q1, .int .i64 (readS y), .int .i64 (readS z)] 50)).drew = v5 at *
            have hpp := F4.pp.same (Same.of_below hb5 (Nat.le_refl _)); have huu := F4.uu.same (Same.of_below hb5 (Nat.le_refl _))
            have FB5 := FB4.below hb5 FB4.lt; have RB5 := RB4.below hb5 RB4.lt; have hz5 := hb5.size; have hb05 := hb4.trans (hb5.mono F4.le)
            replace d0 := (hb5.cell (p := ⟨bb, off, none⟩) lb4).trans d0
            have l5 := P5.lt; have l50 := FB5.lt; have p1f := P5.free 1; have p1c := P5.cell (i := 1) rfl
            clear d1 d4 d5
            go_upto_region 14 with fail
            have P6 := P5; have FB6 := FB5; have RB6 := RB5; have hb06 := hb05; have hz6 := l5
            clear p1f p1c l5 l50
            obtain ⟨v6, rfl⟩ : ∃ v6 : World, v6 = v5 := ⟨_, rfl⟩
            have F6 : FamOwn v6 lo ⟨xs, ys⟩ A c B d := ⟨Nat.le_trans F4.le (Nat.le_of_lt hz6), hpp.mono (Nat.le_refl _) (Nat.le_of_lt hz6), huu.mono (Nat.le_refl _) (Nat.le_of_lt hz6)⟩
            have cq0 := P6.cell (i := 0) rfl; have cq1 := P6.cell (i := 1) rfl; have cq2 := P6.cell (i := 2) rfl; have cq3 := P6.cell (i := 3) rfl; have cq4 := P6.cell (i := 4) rfl; have cq5 := P6.cell (i := 5) rfl
            have e0 := FB6.cell (i := 0) rfl; have e1 := FB6.cell (i := 1) rfl; have lF6 := FB6.lt; have lP6 := P6.lt; have lo6 := F6.le
            go_upto_region 15 with (at_builtin; refine wpList_app1 tyPersonS A xs ⟨n, 1, p1, q1, readS y, readS z⟩ (vsPerson ⟨n, 1, p1, q1, readS y, readS z⟩) ⟨v6.heap.size, 0, none⟩ 1 (lo := lo) (hi := v6.heap.size) (F6.pp.same (by (with_reducible repeat' first | exact Same.refl _ _ _ | assumption | (refine Same.setCell ?_ (by first | omega | (simp; omega) | (simp; done) | (dsimp only; omega)) _) | (refine Same.alloc ?_ (by first | omega | (simp; omega) | (simp; done) | (dsimp only; omega)) _) | (refine Same.drewN ?_ _) | (refine Same.drew ?_)))) rfl (by (first | omega | (simp; omega) | (simp; done) | (dsimp only; omega))) lo6 rfl _ _ rfl rfl rfl rfl (cell_row_at _ _ _ _ (by simp)) (flatPerson.one _) (show xs.length + 1 ≤ 1048576 by omega) (by decide) (fun A2 c2 w5 ho5 hg5 hc5 hm5 => ?_); have hgc : ∀ k, w.heap.size ≤ k → k < v6.heap.size → w5.heap[k]? = v6.heap[k]? := (fun k k1 k2 => (hg5.block k (by simp; omega) (fun e => by have := (hBk k e.symm).2; omega)).trans (Below.heap_alloc _ _ _ k2)); have FB7 : Blk w5 w.heap.size 25 #[.slice A xs.length c, .slice B ys.length d] := (hgc _ (Nat.le_refl _) FB6.lt).trans FB6; have RB7 : Blk w5 (w.heap.size + 1) 25 #[.slice none 0 0, .slice none 0 0] := (hgc _ (by omega) RB6.lt).trans RB6; have u0 := FB7.cell (i := 0) rfl; have u1 := FB7.cell (i := 1) rfl; have f0 := FB7.free 0; have l7 := FB7.lt)
            have F6a := F6.below ((Below.refl v6.heap.size v6).alloc (Nat.le_refl _) (.cells #[.string n, .int .i64 1, .int .i64 p1, .int .i64 q1, .int .i64 (readS y), .int .i64 (readS z)] 50))
            have F7 := F6a.addP (x := ⟨n, 1, p1, q1, readS y, readS z⟩) (by simpa using ho5) hg5
            have hb07 : Below lo w w5 := (hb06.trans (((Below.refl v6.heap.size v6).alloc (Nat.le_refl _) _).mono F6.le)).trans (F6a.belowP hg5)
            skip
            have FB8 := FB7.set 0 (.slice A2 (xs.length + 1) c2)
            have RB8 := RB7.far (p := ⟨w.heap.size, 0, none⟩) (by simp) (.slice A2 (xs.length + 1) c2)
            have F8 := F7.off (i := 0) FB7 (by decide) (by decide) (.slice A2 (xs.length + 1) c2)
            have hb08 := hb07.setCell (p := ⟨w.heap.size, 0, none⟩) hlo (.slice A2 (xs.length + 1) c2)
            clear ho5 hg5 hgc FB7 RB7 F7 F6a hb07 u0 u1 f0 l7
            generalize w5.setCell ⟨w.heap.size, 0, none⟩ (.slice A2 (xs.length + 1) c2) = w7 at *
            have e0 : w7.cell? ⟨w.heap.size, 0, none⟩ = some (.slice A2 (xs.length + 1) c2) := FB8.cell (i := 0) rfl; have e1 : w7.cell? ⟨w.heap.size, 1, none⟩ = some (.slice B ys.length d) := FB8.cell (i := 1) rfl
            have s0 := RB8.free 0; have s1 := RB8.free 1; have r0 := RB8.cell (i := 0) rfl; have r1 := RB8.cell (i := 1) rfl; have lR := RB8.lt
            have RR := (RB8.set 0 (.slice A2 (xs.length + 1) c2)).set 1 (.slice B ys.length d)
            cases pb <;> cases qb
            · go_wp2
              exact bodyPost_ret (v := .tuple #[.agg #[.slice A2 (xs.length + 1) c2, .slice B ys.length d], .bool false]) (by simp [results, Tryz.results10, go_sem, RR.cell (i := 0) rfl, RR.cell (i := 1) rfl]) rfl (by rw [HN.out.trans (if_neg (by simp))]; exact ⟨_, _, _, _, _, _, rfl, by (with_reducible repeat' first | exact Below.refl _ _ | assumption | (refine Below.setCell ?_ (by first | omega | (simp; omega) | (simp; done) | (dsimp only; omega)) _) | (refine Below.alloc ?_ (by first | omega | (simp; omega) | (simp; done) | (dsimp only; omega)) _) | (refine below_drewN ?_ _) | (refine Below.drew ?_) | (refine Below.trans ?_ (hb08.mono (by first | omega | (simp; omega) | (simp; done) | (dsimp only; omega)))))⟩)
            · go_wp2
              exact bodyPost_ret (v := .tuple #[.agg #[.slice A2 (xs.length + 1) c2, .slice B ys.length d], .bool false]) (by simp [results, Tryz.results10, go_sem, RR.cell (i := 0) rfl, RR.cell (i := 1) rfl]) rfl (by rw [HN.out.trans (if_neg (by simp))]; exact ⟨_, _, _, _, _, _, rfl, by (with_reducible repeat' first | exact Below.refl _ _ | assumption | (refine Below.setCell ?_ (by first | omega | (simp; omega) | (simp; done) | (dsimp only; omega)) _) | (refine Below.alloc ?_ (by first | omega | (simp; omega) | (simp; done) | (dsimp only; omega)) _) | (refine below_drewN ?_ _) | (refine Below.drew ?_) | (refine Below.trans ?_ (hb08.mono (by first | omega | (simp; omega) | (simp; done) | (dsimp only; omega)))))⟩)
            · go_wp2
              exact bodyPost_ret (v := .tuple #[.agg #[.slice A2 (xs.length + 1) c2, .slice B ys.length d], .bool false]) (by simp [results, Tryz.results10, go_sem, RR.cell (i := 0) rfl, RR.cell (i := 1) rfl]) rfl (by rw [HN.out.trans (if_neg (by simp))]; exact ⟨_, _, _, _, _, _, rfl, by (with_reducible repeat' first | exact Below.refl _ _ | assumption | (refine Below.setCell ?_ (by first | omega | (simp; omega) | (simp; done) | (dsimp only; omega)) _) | (refine Below.alloc ?_ (by first | omega | (simp; omega) | (simp; done) | (dsimp only; omega)) _) | (refine below_drewN ?_ _) | (refine Below.drew ?_) | (refine Below.trans ?_ (hb08.mono (by first | omega | (simp; omega) | (simp; done) | (dsimp only; omega)))))⟩)
            · go_wp2
              exact bodyPost_ret (v := .tuple #[.agg #[.slice A2 (xs.length + 1) c2, .slice B ys.length d], .bool true]) (by simp [results, Tryz.results10, go_sem, RR.cell (i := 0) rfl, RR.cell (i := 1) rfl]) rfl (by rw [HN.out.trans (if_pos (by simp))]; exact ⟨A2, c2, B, d, by simp, (F8.off (i := 0) RB8 (by decide) (by decide) _).off (i := 1) (RB8.set 0 _) (by decide) (by decide) _, by (with_reducible repeat' first | exact Below.refl _ _ | assumption | (refine Below.setCell ?_ (by first | omega | (simp; omega) | (simp; done) | (dsimp only; omega)) _) | (refine Below.alloc ?_ (by first | omega | (simp; omega) | (simp; done) | (dsimp only; omega)) _) | (refine below_drewN ?_ _) | (refine Below.drew ?_) | (refine Below.trans ?_ (hb08.mono (by first | omega | (simp; omega) | (simp; done) | (dsimp only; omega)))))⟩)
        ·
          go_simp
          refine hK.out _ _ ⟨(((Below.refl v4.heap.size v4).alloc (Nat.le_refl _) _).cell (p := ⟨bb, off + 1, none⟩) lb4).trans d1, (((Below.refl v4.heap.size v4).alloc (Nat.le_refl _) _).cell (p := ⟨bb, off + 4, none⟩) lb4).trans d4, (((Below.refl v4.heap.size v4).alloc (Nat.le_refl _) _).cell (p := ⟨bb, off + 5, none⟩) lb4).trans d5⟩ (fun hHeld => ?_)
          clear hK K; (try simp only [Act.put, List.setIfInBounds_toArray, List.set_cons_zero, List.set_cons_succ])
          refine wpAnyH_ready (rs := [8]) (by kernel_rfl) (by simp) ?_
          refine AllReadyH.cons (o := { dst := some 104, op := _, type := _, pos := _, after := _, guard := _ }) rfl (fun K hK => ?_) (AllReadyH.nil)
          go_simp
          (go_at_call 24; (with_reducible refine (l1Read_any _ _).mono ?_); rintro e v6 ⟨rfl, rfl⟩)
          try go_wp2_with fail
          refine hK.out _ _ ⟨(((Below.refl v4.heap.size v4).alloc (Nat.le_refl _) _).cell (p := ⟨bb, off + 1, none⟩) lb4).trans d1, (((Below.refl v4.heap.size v4).alloc (Nat.le_refl _) _).cell (p := ⟨bb, off + 4, none⟩) lb4).trans d4, (((Below.refl v4.heap.size v4).alloc (Nat.le_refl _) _).cell (p := ⟨bb, off + 5, none⟩) lb4).trans d5⟩ (fun hHeld => ?_)
          clear hK K; (try simp only [Act.put, List.setIfInBounds_toArray, List.set_cons_zero, List.set_cons_succ])
          refine wpAnyH_ready (rs := [12]) (by kernel_rfl) (by simp) ?_
          refine AllReadyH.cons (o := { dst := some 108, op := _, type := _, pos := _, after := _, guard := _ }) rfl (fun K hK => ?_) (AllReadyH.nil)
          go_simp
          (go_at_call 24; (with_reducible refine (l1Read_any _ _).mono ?_); rintro e v6 ⟨rfl, rfl⟩)
          try go_wp2_with fail
          refine hK.out _ _ ⟨(((Below.refl v4.heap.size v4).alloc (Nat.le_refl _) _).cell (p := ⟨bb, off + 1, none⟩) lb4).trans d1, (((Below.refl v4.heap.size v4).alloc (Nat.le_refl _) _).cell (p := ⟨bb, off + 4, none⟩) lb4).trans d4, (((Below.refl v4.heap.size v4).alloc (Nat.le_refl _) _).cell (p := ⟨bb, off + 5, none⟩) lb4).trans d5⟩ (fun hHeld => ?_)
          clear hK K; (try simp only [Act.put, List.setIfInBounds_toArray, List.set_cons_zero, List.set_cons_succ])
          refine wpAnyH_take (i := 13) (oi := { dst := some 109, op := _, type := _, pos := _, after := _, guard := _ }) (v := ?_) rfl (by kernel_rfl) (by kernel_rfl) (by kernel_rfl) (fun _ _ _ h => h) (Or.inl ⟨by rfl, ?_⟩) (by assumption) ?_; rotate_left; (intro w hSw; (try dsimp only at hSw); go_simp); (try with_reducible rfl); (try simp only [Act.put, List.setIfInBounds_toArray, List.set_cons_zero, List.set_cons_succ])
          refine wpAnyH_ready (rs := [15]) (by kernel_rfl) (by simp) ?_
          refine AllReadyH.cons (o := { dst := none, op := _, type := _, pos := _, after := _, guard := _ }) rfl (fun K hK => ?_) (AllReadyH.nil)
          go_simp
          refine hK.out _ _ ⟨(((Below.refl v4.heap.size v4).alloc (Nat.le_refl _) _).cell (p := ⟨bb, off + 1, none⟩) lb4).trans d1, (((Below.refl v4.heap.size v4).alloc (Nat.le_refl _) _).cell (p := ⟨bb, off + 4, none⟩) lb4).trans d4, (((Below.refl v4.heap.size v4).alloc (Nat.le_refl _) _).cell (p := ⟨bb, off + 5, none⟩) lb4).trans d5⟩ (fun hHeld => ?_)
          clear hK K; (try simp only [Act.put, List.setIfInBounds_toArray, List.set_cons_zero, List.set_cons_succ])
          refine wpAnyH_done (by kernel_rfl) ?_ _
          have hb5 : Below v4.heap.size v4 (World.alloc v4 (.cells #[.string n, .int .i64 1, .int .i64 p1, .int .i64 q1, .int .i64 (readS y), .int .i64 (readS z)] 50)).drew := ((Below.refl v4.heap.size v4).alloc (Nat.le_refl _) _).drew
          have P5 : Blk (World.alloc v4 (.cells #[.string n, .int .i64 1, .int .i64 p1, .int .i64 q1, .int .i64 (readS y), .int .i64 (readS z)] 50)).drew v4.heap.size 50 #[.string n, .int .i64 1, .int .i64 p1, .int .i64 q1, .int .i64 (readS y), .int .i64 (readS z)] := (Blk.new v4 rfl).drew
          generalize (World.alloc v4 (.cells #[.string n, .int .i64 1, .int .i64 p1, .int .i64 q1, .int .i64 (readS y), .int .i64 (readS z)] 50)).drew = v5 at *
          have hpp := F4.pp.same (Same.of_below hb5 (Nat.le_refl _)); have huu := F4.uu.same (Same.of_below hb5 (Nat.le_refl _))
          have FB5 := FB4.below hb5 FB4.lt; have RB5 := RB4.below hb5 RB4.lt; have hz5 := hb5.size; have hb05 := hb4.trans (hb5.mono F4.le)
          replace d0 := (hb5.cell (p := ⟨bb, off, none⟩) lb4).trans d0
          have l5 := P5.lt; have l50 := FB5.lt; have p1f := P5.free 1; have p1c := P5.cell (i := 1) rfl
          clear d1 d4 d5
          go_upto_region 14 with fail
          have P6 := P5; have FB6 := FB5; have RB6 := RB5; have hb06 := hb05; have hz6 := l5
          clear p1f p1c l5 l50
          obtain ⟨v6, rfl⟩ : ∃ v6 : World, v6 = v5 := ⟨_, rfl⟩
          have F6 : FamOwn v6 lo ⟨xs, ys⟩ A c B d := ⟨Nat.le_trans F4.le (Nat.le_of_lt hz6), hpp.mono (Nat.le_refl _) (Nat.le_of_lt hz6), huu.mono (Nat.le_refl _) (Nat.le_of_lt hz6)⟩
          have cq0 := P6.cell (i := 0) rfl; have cq1 := P6.cell (i := 1) rfl; have cq2 := P6.cell (i := 2) rfl; have cq3 := P6.cell (i := 3) rfl; have cq4 := P6.cell (i := 4) rfl; have cq5 := P6.cell (i := 5) rfl
          have e0 := FB6.cell (i := 0) rfl; have e1 := FB6.cell (i := 1) rfl; have lF6 := FB6.lt; have lP6 := P6.lt; have lo6 := F6.le
          go_upto_region 15 with (at_builtin; refine wpList_app1 tyPersonS A xs ⟨n, 1, p1, q1, readS y, readS z⟩ (vsPerson ⟨n, 1, p1, q1, readS y, readS z⟩) ⟨v6.heap.size, 0, none⟩ 1 (lo := lo) (hi := v6.heap.size) (F6.pp.same (by (with_reducible repeat' first | exact Same.refl _ _ _ | assumption | (refine Same.setCell ?_ (by first | omega | (simp; omega) | (simp; done) | (dsimp only; omega)) _) | (refine Same.alloc ?_ (by first | omega | (simp; omega) | (simp; done) | (dsimp only; omega)) _) | (refine Same.drewN ?_ _) | (refine Same.drew ?_)))) rfl (by (first | omega | (simp; omega) | (simp; done) | (dsimp only; omega))) lo6 rfl _ _ rfl rfl rfl rfl (cell_row_at _ _ _ _ (by simp)) (flatPerson.one _) (show xs.length + 1 ≤ 1048576 by omega) (by decide) (fun A2 c2 w5 ho5 hg5 hc5 hm5 => ?_); have hgc : ∀ k, w.heap.size ≤ k → k < v6.heap.size → w5.heap[k]? = v6.heap[k]? := (fun k k1 k2 => (hg5.block k (by simp; omega) (fun e => by have := (hBk k e.symm).2; omega)).trans (Below.heap_alloc _ _ _ k2)); have FB7 : Blk w5 w.heap.size 25 #[.slice A xs.length c, .slice B ys.length d] := (hgc _ (Nat.le_refl _) FB6.lt).trans FB6; have RB7 : Blk w5 (w.heap.size + 1) 25 #[.slice none 0 0, .slice none 0 0] := (hgc _ (by omega) RB6.lt).trans RB6; have u0 := FB7.cell (i := 0) rfl; have u1 := FB7.cell (i := 1) rfl; have f0 := FB7.free 0; have l7 := FB7.lt)
          have F6a := F6.below ((Below.refl v6.heap.size v6).alloc (Nat.le_refl _) (.cells #[.string n, .int .i64 1, .int .i64 p1, .int .i64 q1, .int .i64 (readS y), .int .i64 (readS z)] 50))
          have F7 := F6a.addP (x := ⟨n, 1, p1, q1, readS y, readS z⟩) (by simpa using ho5) hg5
          have hb07 : Below lo w w5 := (hb06.trans (((Below.refl v6.heap.size v6).alloc (Nat.le_refl _) _).mono F6.le)).trans (F6a.belowP hg5)
          skip
          have FB8 := FB7.set 0 (.slice A2 (xs.length + 1) c2)
          have RB8 := RB7.far (p := ⟨w.heap.size, 0, none⟩) (by simp) (.slice A2 (xs.length + 1) c2)
          have F8 := F7.off (i := 0) FB7 (by decide) (by decide) (.slice A2 (xs.length + 1) c2)
          have hb08 := hb07.setCell (p := ⟨w.heap.size, 0, none⟩) hlo (.slice A2 (xs.length + 1) c2)
          clear ho5 hg5 hgc FB7 RB7 F7 F6a hb07 u0 u1 f0 l7
          generalize w5.setCell ⟨w.heap.size, 0, none⟩ (.slice A2 (xs.length + 1) c2) = w7 at *
          have e0 : w7.cell? ⟨w.heap.size, 0, none⟩ = some (.slice A2 (xs.length + 1) c2) := FB8.cell (i := 0) rfl; have e1 : w7.cell? ⟨w.heap.size, 1, none⟩ = some (.slice B ys.length d) := FB8.cell (i := 1) rfl
          have s0 := RB8.free 0; have s1 := RB8.free 1; have r0 := RB8.cell (i := 0) rfl; have r1 := RB8.cell (i := 1) rfl; have lR := RB8.lt
          have RR := (RB8.set 0 (.slice A2 (xs.length + 1) c2)).set 1 (.slice B ys.length d)
          cases pb <;> cases qb
          · go_wp2
            exact bodyPost_ret (v := .tuple #[.agg #[.slice A2 (xs.length + 1) c2, .slice B ys.length d], .bool false]) (by simp [results, Tryz.results10, go_sem, RR.cell (i := 0) rfl, RR.cell (i := 1) rfl]) rfl (by rw [HN.out.trans (if_neg (by simp))]; exact ⟨_, _, _, _, _, _, rfl, by (with_reducible repeat' first | exact Below.refl _ _ | assumption | (refine Below.setCell ?_ (by first | omega | (simp; omega) | (simp; done) | (dsimp only; omega)) _) | (refine Below.alloc ?_ (by first | omega | (simp; omega) | (simp; done) | (dsimp only; omega)) _) | (refine below_drewN ?_ _) | (refine Below.drew ?_) | (refine Below.trans ?_ (hb08.mono (by first | omega | (simp; omega) | (simp; done) | (dsimp only; omega)))))⟩)
          · go_wp2
            exact bodyPost_ret (v := .tuple #[.agg #[.slice A2 (xs.length + 1) c2, .slice B ys.length d], .bool false]) (by simp [results, Tryz.results10, go_sem, RR.cell (i := 0) rfl, RR.cell (i := 1) rfl]) rfl (by rw [HN.out.trans (if_neg (by simp))]; exact ⟨_, _, _, _, _, _, rfl, by (with_reducible repeat' first | exact Below.refl _ _ | assumption | (refine Below.setCell ?_ (by first | omega | (simp; omega) | (simp; done) | (dsimp only; omega)) _) | (refine Below.alloc ?_ (by first | omega | (simp; omega) | (simp; done) | (dsimp only; omega)) _) | (refine below_drewN ?_ _) | (refine Below.drew ?_) | (refine Below.trans ?_ (hb08.mono (by first | omega | (simp; omega) | (simp; done) | (dsimp only; omega)))))⟩)
          · go_wp2
            exact bodyPost_ret (v := .tuple #[.agg #[.slice A2 (xs.length + 1) c2, .slice B ys.length d], .bool false]) (by simp [results, Tryz.results10, go_sem, RR.cell (i := 0) rfl, RR.cell (i := 1) rfl]) rfl (by rw [HN.out.trans (if_neg (by simp))]; exact ⟨_, _, _, _, _, _, rfl, by (with_reducible repeat' first | exact Below.refl _ _ | assumption | (refine Below.setCell ?_ (by first | omega | (simp; omega) | (simp; done) | (dsimp only; omega)) _) | (refine Below.alloc ?_ (by first | omega | (simp; omega) | (simp; done) | (dsimp only; omega)) _) | (refine below_drewN ?_ _) | (refine Below.drew ?_) | (refine Below.trans ?_ (hb08.mono (by first | omega | (simp; omega) | (simp; done) | (dsimp only; omega)))))⟩)
          · go_wp2
            exact bodyPost_ret (v := .tuple #[.agg #[.slice A2 (xs.length + 1) c2, .slice B ys.length d], .bool true]) (by simp [results, Tryz.results10, go_sem, RR.cell (i := 0) rfl, RR.cell (i := 1) rfl]) rfl (by rw [HN.out.trans (if_pos (by simp))]; exact ⟨A2, c2, B, d, by simp, (F8.off (i := 0) RB8 (by decide) (by decide) _).off (i := 1) (RB8.set 0 _) (by decide) (by decide) _, by (with_reducible repeat' first | exact Below.refl _ _ | assumption | (refine Below.setCell ?_ (by first | omega | (simp; omega) | (simp; done) | (dsimp only; omega)) _) | (refine Below.alloc ?_ (by first | omega | (simp; omega) | (simp; done) | (dsimp only; omega)) _) | (refine below_drewN ?_ _) | (refine Below.drew ?_) | (refine Below.trans ?_ (hb08.mono (by first | omega | (simp; omega) | (simp; done) | (dsimp only; omega)))))⟩)
      · have n1 := bytes_ne (l := [109, 97, 110]) hg; have n2 := bytes_bne (l := [109, 97, 110]) hg
        have hgm := Lib.hid hg
        clear hg
        by_cases hg : g = wWoman
        · clear n1 n2
          have hg2 : g = ⟨#[119, 111, 109, 97, 110]⟩ := hg
          subst hg2
          clear hg
          obtain ⟨⟨p1, pb⟩, hpq⟩ : ∃ q, idxM a xs = q := ⟨_, rfl⟩
          obtain ⟨⟨q1, qb⟩, hqq⟩ : ∃ q, idxM b xs = q := ⟨_, rfl⟩
          have HN := Lib.hid (show lineM rdS rdS ⟨xs, ys⟩ [⟨#[119, 111, 109, 97, 110]⟩, n, a, b, y, z] = if pb = true ∧ qb = true then some ⟨xs ++ [⟨n, 2, p1, q1, readS y, readS z⟩], ys⟩ else none by rw [lineM, if_pos (by decide), lineH]; simp only [hpq, hqq, rdS]; rfl)
          have Ha := fun W h1 h2 h3 => l1Index_any A B c d lo w1.heap.size xs ys a W h1 h2 h3
          have Hb := fun W h1 h2 h3 => l1Index_any A B c d lo w1.heap.size xs ys b W h1 h2 h3
          rw [hpq] at Ha
          rw [hqq] at Hb
          clear hpq hqq
          have hX := F1.pp.read.as; have hY := F1.uu.read.as
          have hq : Below w1.heap.size w1 w1 := Below.refl _ _
          go_upto_region 9 with fail
          go_region_held3 (fun w' => w'.cell? ⟨w.heap.size, 0, none⟩ = some (.slice A xs.length c) ∧ w'.cell? ⟨w.heap.size, 1, none⟩ = some (.slice B ys.length d) ∧ w'.cell? ⟨bb, off + 2, none⟩ = some (.string a) ∧ w'.cell? ⟨bb, off + 3, none⟩ = some (.string b)) (exact ⟨(hq.cell (p := ⟨w.heap.size, 0, none⟩) lF).trans e0, (hq.cell (p := ⟨w.heap.size, 1, none⟩) lF).trans e1, (hq.cell (p := ⟨bb, off + 2, none⟩) g2).trans c2, (hq.cell (p := ⟨bb, off + 3, none⟩) g2).trans c3⟩) ((go_at_call 25; (with_reducible refine (Ha _ (hX.same (by first | exact Same.of_below hq (Nat.le_refl _) | exact (Same.of_below hq (Nat.le_refl _)).drew)) (hY.same (by first | exact Same.of_below hq (Nat.le_refl _) | exact (Same.of_below hq (Nat.le_refl _)).drew)) (by first | exact hq.size | exact hq.drew.size)).mono ?_); rintro e v3 ⟨rfl, hv3⟩; (first | (replace hv3 := undrew hv3) | skip); replace hq := hq.trans (hv3.mono hq.size)))
          go_upto_region 10 with fail
          go_region_held3 (fun w' => w'.cell? ⟨w.heap.size, 0, none⟩ = some (.slice A xs.length c) ∧ w'.cell? ⟨w.heap.size, 1, none⟩ = some (.slice B ys.length d) ∧ w'.cell? ⟨bb, off + 2, none⟩ = some (.string a) ∧ w'.cell? ⟨bb, off + 3, none⟩ = some (.string b)) (exact ⟨(hq.cell (p := ⟨w.heap.size, 0, none⟩) lF).trans e0, (hq.cell (p := ⟨w.heap.size, 1, none⟩) lF).trans e1, (hq.cell (p := ⟨bb, off + 2, none⟩) g2).trans c2, (hq.cell (p := ⟨bb, off + 3, none⟩) g2).trans c3⟩) ((go_at_call 25; (with_reducible refine (Hb _ (hX.same (by first | exact Same.of_below hq (Nat.le_refl _) | exact (Same.of_below hq (Nat.le_refl _)).drew)) (hY.same (by first | exact Same.of_below hq (Nat.le_refl _) | exact (Same.of_below hq (Nat.le_refl _)).drew)) (by first | exact hq.size | exact hq.drew.size)).mono ?_); rintro e v4 ⟨rfl, hv4⟩; (first | (replace hv4 := undrew hv4) | skip); replace hq := hq.trans (hv4.mono hq.size)))
          go_upto_region 11 with fail
          have FB4 := FB.below hq lF
          have RB4 := RB.below hq lR
          have F4 := F1.below hq
          have hBk := HF.out.pp.blkv
          have hz4 := hq.size
          have d1 : v4.drew.cell? ⟨bb, off + 1, none⟩ = some (.string n) := (hq.cell (p := ⟨bb, off + 1, none⟩) g2).trans c1
          have d4 : v4.drew.cell? ⟨bb, off + 4, none⟩ = some (.string y) := (hq.cell (p := ⟨bb, off + 4, none⟩) g2).trans c4
          have d5 : v4.drew.cell? ⟨bb, off + 5, none⟩ = some (.string z) := (hq.cell (p := ⟨bb, off + 5, none⟩) g2).trans c5
          have d0 : v4.cell? ⟨bb, off, none⟩ = some (.string ⟨#[119, 111, 109, 97, 110]⟩) := (hq.cell (p := ⟨bb, off, none⟩) g2).trans c0
          have hb4 : Below lo w v4 := (hbw.mono hlo).trans (hq.mono F1.le)
          have lb4 : bb < v4.heap.size := by omega
          clear e0 e1 s0 s1 r0 r1 c0 c1 c2 c3 c4 c5 Ha Hb hX hY F1 FB RB hbw
          refine wp_region_held_drew (S := fun w' => w'.cell? ⟨bb, off + 1, none⟩ = some (.string n) ∧ w'.cell? ⟨bb, off + 4, none⟩ = some (.string y) ∧ w'.cell? ⟨bb, off + 5, none⟩ = some (.string z)) (by kernel_rfl) ⟨d1, d4, d5⟩ (fun hHeld => ?_)
          refine wpAnyH_take (i := 0) (oi := { dst := some 96, op := _, type := _, pos := _, after := _, guard := _ }) (v := ?_) rfl (by kernel_rfl) (by kernel_rfl) (by kernel_rfl) (fun _ _ _ h => h) (Or.inl ⟨by rfl, ?_⟩) (by assumption) ?_; rotate_left; (intro w hSw; (try dsimp only at hSw); go_simp); (try with_reducible rfl); (try simp only [Act.put, List.setIfInBounds_toArray, List.set_cons_zero, List.set_cons_succ])
          refine wpAnyH_take (i := 1) (oi := { dst := some 97, op := _, type := _, pos := _, after := _, guard := _ }) (v := ?_) rfl (by kernel_rfl) (by kernel_rfl) (by kernel_rfl) (fun _ _ _ h => h) (Or.inl ⟨by rfl, ?_⟩) (by assumption) ?_; rotate_left; (intro w hSw; (try dsimp only at hSw); go_simp); (try with_reducible rfl); (try simp only [Act.put, List.setIfInBounds_toArray, List.set_cons_zero, List.set_cons_succ])
          refine wpAnyH_take (i := 2) (oi := { dst := some 98, op := _, type := _, pos := _, after := _, guard := _ }) (v := ?_) rfl (by kernel_rfl) (by kernel_rfl) (by kernel_rfl) (fun _ _ _ h => h) (Or.inl ⟨by rfl, ?_⟩) (by assumption) ?_; rotate_left; (intro w hSw; (try dsimp only at hSw); go_simp); (try with_reducible rfl); (try simp only [Act.put, List.setIfInBounds_toArray, List.set_cons_zero, List.set_cons_succ])
          refine wpAnyH_take (i := 3) (oi := { dst := some 99, op := _, type := _, pos := _, after := _, guard := _ }) (v := ?_) rfl (by kernel_rfl) (by kernel_rfl) (by kernel_rfl) (fun _ _ _ h => h) (Or.inl ⟨by rfl, ?_⟩) (by assumption) ?_; rotate_left; (intro w hSw; (try dsimp only at hSw); go_simp); (try with_reducible rfl); (try simp only [Act.put, List.setIfInBounds_toArray, List.set_cons_zero, List.set_cons_succ])
          refine wpAnyH_take (i := 4) (oi := { dst := some 100, op := _, type := _, pos := _, after := _, guard := _ }) (v := ?_) rfl (by kernel_rfl) (by kernel_rfl) (by kernel_rfl) (fun _ _ _ h => h) (Or.inl ⟨by rfl, ?_⟩) (by assumption) ?_; rotate_left; (intro w hSw; (try dsimp only at hSw); go_simp); (try with_reducible rfl); (try simp only [Act.put, List.setIfInBounds_toArray, List.set_cons_zero, List.set_cons_succ])
          refine wpAnyH_take (i := 5) (oi := { dst := some 101, op := _, type := _, pos := _, after := _, guard := _ }) (v := ?_) rfl (by kernel_rfl) (by kernel_rfl) (by kernel_rfl) (fun _ _ _ h => h) (Or.inl ⟨by rfl, ?_⟩) (by assumption) ?_; rotate_left; (intro w hSw; (try dsimp only at hSw); go_simp); (try with_reducible rfl); (try simp only [Act.put, List.setIfInBounds_toArray, List.set_cons_zero, List.set_cons_succ])
          refine wpAnyH_take (i := 6) (oi := { dst := some 102, op := _, type := _, pos := _, after := _, guard := _ }) (v := ?_) rfl (by kernel_rfl) (by kernel_rfl) (by kernel_rfl) (fun _ _ _ h => h) (Or.inl ⟨by rfl, ?_⟩) (by assumption) ?_; rotate_left; (intro w hSw; (try dsimp only at hSw); go_simp); (try with_reducible rfl); (try simp only [Act.put, List.setIfInBounds_toArray, List.set_cons_zero, List.set_cons_succ])
          refine wpAnyH_take (i := 7) (oi := { dst := some 103, op := _, type := _, pos := _, after := _, guard := _ }) (v := ?_) rfl (by kernel_rfl) (by kernel_rfl) (by kernel_rfl) (fun _ _ _ h => h) (Or.inl ⟨by rfl, ?_⟩) (by assumption) ?_; rotate_left; (intro w hSw; (try dsimp only at hSw); go_simp); (try with_reducible rfl); (try simp only [Act.put, List.setIfInBounds_toArray, List.set_cons_zero, List.set_cons_succ])
          refine wpAnyH_take (i := 9) (oi := { dst := some 105, op := _, type := _, pos := _, after := _, guard := _ }) (v := ?_) rfl (by kernel_rfl) (by kernel_rfl) (by kernel_rfl) (fun _ _ _ h => h) (Or.inl ⟨by rfl, ?_⟩) (by assumption) ?_; rotate_left; (intro w hSw; (try dsimp only at hSw); go_simp); (try with_reducible rfl); (try simp only [Act.put, List.setIfInBounds_toArray, List.set_cons_zero, List.set_cons_succ])
          refine wpAnyH_take (i := 10) (oi := { dst := some 106, op := _, type := _, pos := _, after := _, guard := _ }) (v := ?_) rfl (by kernel_rfl) (by kernel_rfl) (by kernel_rfl) (fun _ _ _ h => h) (Or.inl ⟨by rfl, ?_⟩) (by assumption) ?_; rotate_left; (intro w hSw; (try dsimp only at hSw); go_simp); (try with_reducible rfl); (try simp only [Act.put, List.setIfInBounds_toArray, List.set_cons_zero, List.set_cons_succ])
          refine wpAnyH_take (i := 11) (oi := { dst := some 107, op := _, type := _, pos := _, after := _, guard := _ }) (v := ?_) rfl (by kernel_rfl) (by kernel_rfl) (by kernel_rfl) (fun _ _ _ h => h) (Or.inl ⟨by rfl, ?_⟩) (by assumption) ?_; rotate_left; (intro w hSw; (try dsimp only at hSw); go_simp); (try with_reducible rfl); (try simp only [Act.put, List.setIfInBounds_toArray, List.set_cons_zero, List.set_cons_succ])
          refine wpAnyH_ready (rs := [8, 14]) (by kernel_rfl) (by simp) ?_
          refine AllReadyH.cons (o := { dst := some 104, op := _, type := _, pos := _, after := _, guard := _ }) rfl (fun K hK => ?_) (AllReadyH.cons (o := { dst := some 15, op := _, type := _, pos := _, after := _, guard := _ }) rfl (fun K hK => ?_) (AllReadyH.nil))
          ·
            go_simp
            (go_at_call 24; (with_reducible refine (l1Read_any _ _).mono ?_); rintro e v6 ⟨rfl, rfl⟩)
            try go_wp2_with fail
            refine hK.out _ _ ⟨d1, d4, d5⟩ (fun hHeld => ?_)
            clear hK K; (try simp only [Act.put, List.setIfInBounds_toArray, List.set_cons_zero, List.set_cons_succ])
            refine wpAnyH_ready (rs := [12, 14]) (by kernel_rfl) (by simp) ?_
            refine AllReadyH.cons (o := { dst := some 108, op := _, type := _, pos := _, after := _, guard := _ }) rfl (fun K hK => ?_) (AllReadyH.cons (o := { dst := some 15, op := _, type := _, pos := _, after := _, guard := _ }) rfl (fun K hK => ?_) (AllReadyH.nil))
            ·
              go_simp
              (go_at_call 24; (with_reducible refine (l1Read_any _ _).mono ?_); rintro e v6 ⟨rfl, rfl⟩)
              try go_wp2_with fail
              refine hK.out _ _ ⟨d1, d4, d5⟩ (fun hHeld => ?_)
              clear hK K; (try simp only [Act.put, List.setIfInBounds_toArray, List.set_cons_zero, List.set_cons_succ])
              refine wpAnyH_take (i := 13) (oi := { dst := some 109, op := _, type := _, pos := _, after := _, guard := _ }) (v := ?_) rfl (by kernel_rfl) (by kernel_rfl) (by kernel_rfl) (fun _ _ _ h => h) (Or.inl ⟨by rfl, ?_⟩) (by assumption) ?_; rotate_left; (intro w hSw; (try dsimp only at hSw); go_simp); (try with_reducible rfl); (try simp only [Act.put, List.setIfInBounds_toArray, List.set_cons_zero, List.set_cons_succ])
              refine wpAnyH_ready (rs := [14]) (by kernel_rfl) (by simp) ?_
              refine AllReadyH.cons (o := { dst := some 15, op := _, type := _, pos := _, after := _, guard := _ }) rfl (fun K hK => ?_) (AllReadyH.nil)
              go_simp
              refine hK.out _ _ ⟨(((Below.refl v4.heap.size v4).alloc (Nat.le_refl _) _).cell (p := ⟨bb, off + 1, none⟩) lb4).trans d1, (((Below.refl v4.heap.size v4).alloc (Nat.le_refl _) _).cell (p := ⟨bb, off + 4, none⟩) lb4).trans d4, (((Below.refl v4.heap.size v4).alloc (Nat.le_refl _) _).cell (p := ⟨bb, off + 5, none⟩) lb4).trans d5⟩ (fun hHeld => ?_)
              clear hK K; (try simp only [Act.put, List.setIfInBounds_toArray, List.set_cons_zero, List.set_cons_succ])
              refine wpAnyH_ready (rs := [15]) (by kernel_rfl) (by simp) ?_
              refine AllReadyH.cons (o := { dst := none, op := _, type := _, pos := _, after := _, guard := _ }) rfl (fun K hK => ?_) (AllReadyH.nil)
              go_simp
              refine hK.out _ _ ⟨(((Below.refl v4.heap.size v4).alloc (Nat.le_refl _) _).cell (p := ⟨bb, off + 1, none⟩) lb4).trans d1, (((Below.refl v4.heap.size v4).alloc (Nat.le_refl _) _).cell (p := ⟨bb, off + 4, none⟩) lb4).trans d4, (((Below.refl v4.heap.size v4).alloc (Nat.le_refl _) _).cell (p := ⟨bb, off + 5, none⟩) lb4).trans d5⟩ (fun hHeld => ?_)
              clear hK K; (try simp only [Act.put, List.setIfInBounds_toArray, List.set_cons_zero, List.set_cons_succ])
              refine wpAnyH_done (by kernel_rfl) ?_ _
              have hb5 : Below v4.heap.size v4 (World.alloc v4 (.cells #[.string n, .int .i64 1, .int .i64 p1, .int .i64 q1, .int .i64 (readS y), .int .i64 (readS z)] 50)).drew := ((Below.refl v4.heap.size v4).alloc (Nat.le_refl _) _).drew
              have P5 : Blk (World.alloc v4 (.cells #[.string n, .int .i64 1, .int .i64 p1, .int .i64 q1, .int .i64 (readS y), .int .i64 (readS z)] 50)).drew v4.heap.size 50 #[.string n, .int .i64 1, .int .i64 p1, .int .i64 q1, .int .i64 (readS y), .int .i64 (readS z)] := (Blk.new v4 rfl).drew
              generalize (World.alloc v4 (.cells #[.string n, .int .i64 1, .int .i64 p1, .int .i64 q1, .int .i64 (readS y), .int .i64 (readS z)] 50)).drew = v5 at *
              have hpp := F4.pp.same (Same.of_below hb5 (Nat.le_refl _)); have huu := F4.uu.same (Same.of_below hb5 (Nat.le_refl _))
              have FB5 := FB4.below hb5 FB4.lt; have RB5 := RB4.below hb5 RB4.lt; have hz5 := hb5.size; have hb05 := hb4.trans (hb5.mono F4.le)
              replace d0 := (hb5.cell (p := ⟨bb, off, none⟩) lb4).trans d0
              have l5 := P5.lt; have l50 := FB5.lt; have p1f := P5.free 1; have p1c := P5.cell (i := 1) rfl
              clear d1 d4 d5
              go_upto_region 14 with fail
              have P6 := P5.set 1 (.int .i64 2)
              replace hpp := hpp.same (Same.setCell (p := ⟨v4.heap.size, 1, none⟩) (Same.refl _ _ _) (.inr (Nat.le_refl _)) (.int .i64 2)); replace huu := huu.same (Same.setCell (p := ⟨v4.heap.size, 1, none⟩) (Same.refl _ _ _) (.inr (Nat.le_refl _)) (.int .i64 2))
              have FB6 := FB5.far (p := ⟨v4.heap.size, 1, none⟩) (by simp; omega) (.int .i64 2); have RB6 := RB5.far (p := ⟨v4.heap.size, 1, none⟩) (by simp; omega) (.int .i64 2); have hb06 := hb05.setCell (p := ⟨v4.heap.size, 1, none⟩) F4.le (.int .i64 2)
              have hz6 : v4.heap.size < (v5.setCell ⟨v4.heap.size, 1, none⟩ (.int .i64 2)).heap.size := by rw [World.size_setCell]; exact l5
              clear p1f p1c l5 l50
              generalize v5.setCell ⟨v4.heap.size, 1, none⟩ (.int .i64 2) = v6 at *
              have F6 : FamOwn v6 lo ⟨xs, ys⟩ A c B d := ⟨Nat.le_trans F4.le (Nat.le_of_lt hz6), hpp.mono (Nat.le_refl _) (Nat.le_of_lt hz6), huu.mono (Nat.le_refl _) (Nat.le_of_lt hz6)⟩
              have cq0 := P6.cell (i := 0) rfl; have cq1 := P6.cell (i := 1) rfl; have cq2 := P6.cell (i := 2) rfl; have cq3 := P6.cell (i := 3) rfl; have cq4 := P6.cell (i := 4) rfl; have cq5 := P6.cell (i := 5) rfl
              have e0 := FB6.cell (i := 0) rfl; have e1 := FB6.cell (i := 1) rfl; have lF6 := FB6.lt; have lP6 := P6.lt; have lo6 := F6.le
              go_upto_region 15 with (at_builtin; refine wpList_app1 tyPersonS A xs ⟨n, 2, p1, q1, readS y, readS z⟩ (vsPerson ⟨n, 2, p1, q1, readS y, readS z⟩) ⟨v6.heap.size, 0, none⟩ 1 (lo := lo) (hi := v6.heap.size) (F6.pp.same (by (with_reducible repeat' first | exact Same.refl _ _ _ | assumption | (refine Same.setCell ?_ (by first | omega | (simp; omega) | (simp; done) | (dsimp only; omega)) _) | (refine Same.alloc ?_ (by first | omega | (simp; omega) | (simp; done) | (dsimp only; omega)) _) | (refine Same.drewN ?_ _) | (refine Same.drew ?_)))) rfl (by (first | omega | (simp; omega) | (simp; done) | (dsimp only; omega))) lo6 rfl _ _ rfl rfl rfl rfl (cell_row_at _ _ _ _ (by simp)) (flatPerson.one _) (show xs.length + 1 ≤ 1048576 by omega) (by decide) (fun A2 c2 w5 ho5 hg5 hc5 hm5 => ?_); have hgc : ∀ k, w.heap.size ≤ k → k < v6.heap.size → w5.heap[k]? = v6.heap[k]? := (fun k k1 k2 => (hg5.block k (by simp; omega) (fun e => by have := (hBk k e.symm).2; omega)).trans (Below.heap_alloc _ _ _ k2)); have FB7 : Blk w5 w.heap.size 25 #[.slice A xs.length c, .slice B ys.length d] := (hgc _ (Nat.le_refl _) FB6.lt).trans FB6; have RB7 : Blk w5 (w.heap.size + 1) 25 #[.slice none 0 0, .slice none 0 0] := (hgc _ (by omega) RB6.lt).trans RB6; have u0 := FB7.cell (i := 0) rfl; have u1 := FB7.cell (i := 1) rfl; have f0 := FB7.free 0; have l7 := FB7.lt)
              have F6a := F6.below ((Below.refl v6.heap.size v6).alloc (Nat.le_refl _) (.cells #[.string n, .int .i64 2, .int .i64 p1, .int .i64 q1, .int .i64 (readS y), .int .i64 (readS z)] 50))
              have F7 := F6a.addP (x := ⟨n, 2, p1, q1, readS y, readS z⟩) (by simpa using ho5) hg5
              have hb07 : Below lo w w5 := (hb06.trans (((Below.refl v6.heap.size v6).alloc (Nat.le_refl _) _).mono F6.le)).trans (F6a.belowP hg5)
              skip
              have FB8 := FB7.set 0 (.slice A2 (xs.length + 1) c2)
              have RB8 := RB7.far (p := ⟨w.heap.size, 0, none⟩) (by simp) (.slice A2 (xs.length + 1) c2)
              have F8 := F7.off (i := 0) FB7 (by decide) (by decide) (.slice A2 (xs.length + 1) c2)
              have hb08 := hb07.setCell (p := ⟨w.heap.size, 0, none⟩) hlo (.slice A2 (xs.length + 1) c2)
              clear ho5 hg5 hgc FB7 RB7 F7 F6a hb07 u0 u1 f0 l7
              generalize w5.setCell ⟨w.heap.size, 0, none⟩ (.slice A2 (xs.length + 1) c2) = w7 at *
              have e0 : w7.cell? ⟨w.heap.size, 0, none⟩ = some (.slice A2 (xs.length + 1) c2) := FB8.cell (i := 0) rfl; have e1 : w7.cell? ⟨w.heap.size, 1, none⟩ = some (.slice B ys.length d) := FB8.cell (i := 1) rfl
              have s0 := RB8.free 0; have s1 := RB8.free 1; have r0 := RB8.cell (i := 0) rfl; have r1 := RB8.cell (i := 1) rfl; have lR := RB8.lt
              have RR := (RB8.set 0 (.slice A2 (xs.length + 1) c2)).set 1 (.slice B ys.length d)
              cases pb <;> cases qb
              · go_wp2
                exact bodyPost_ret (v := .tuple #[.agg #[.slice A2 (xs.length + 1) c2, .slice B ys.length d], .bool false]) (by simp [results, Tryz.results10, go_sem, RR.cell (i := 0) rfl, RR.cell (i := 1) rfl]) rfl (by rw [HN.out.trans (if_neg (by simp))]; exact ⟨_, _, _, _, _, _, rfl, by (with_reducible repeat' first | exact Below.refl _ _ | assumption | (refine Below.setCell ?_ (by first | omega | (simp; omega) | (simp; done) | (dsimp only; omega)) _) | (refine Below.alloc ?_ (by first | omega | (simp; omega) | (simp; done) | (dsimp only; omega)) _) | (refine below_drewN ?_ _) | (refine Below.drew ?_) | (refine Below.trans ?_ (hb08.mono (by first | omega | (simp; omega) | (simp; done) | (dsimp only; omega)))))⟩)
              · go_wp2
                exact bodyPost_ret (v := .tuple #[.agg #[.slice A2 (xs.length + 1) c2, .slice B ys.length d], .bool false]) (by simp [results, Tryz.results10, go_sem, RR.cell (i := 0) rfl, RR.cell (i := 1) rfl]) rfl (by rw [HN.out.trans (if_neg (by simp))]; exact ⟨_, _, _, _, _, _, rfl, by (with_reducible repeat' first | exact Below.refl _ _ | assumption | (refine Below.setCell ?_ (by first | omega | (simp; omega) | (simp; done) | (dsimp only; omega)) _) | (refine Below.alloc ?_ (by first | omega | (simp; omega) | (simp; done) | (dsimp only; omega)) _) | (refine below_drewN ?_ _) | (refine Below.drew ?_) | (refine Below.trans ?_ (hb08.mono (by first | omega | (simp; omega) | (simp; done) | (dsimp only; omega)))))⟩)
              · go_wp2
                exact bodyPost_ret (v := .tuple #[.agg #[.slice A2 (xs.length + 1) c2, .slice B ys.length d], .bool false]) (by simp [results, Tryz.results10, go_sem, RR.cell (i := 0) rfl, RR.cell (i := 1) rfl]) rfl (by rw [HN.out.trans (if_neg (by simp))]; exact ⟨_, _, _, _, _, _, rfl, by (with_reducible repeat' first | exact Below.refl _ _ | assumption | (refine Below.setCell ?_ (by first | omega | (simp; omega) | (simp; done) | (dsimp only; omega)) _) | (refine Below.alloc ?_ (by first | omega | (simp; omega) | (simp; done) | (dsimp only; omega)) _) | (refine below_drewN ?_ _) | (refine Below.drew ?_) | (refine Below.trans ?_ (hb08.mono (by first | omega | (simp; omega) | (simp; done) | (dsimp only; omega)))))⟩)
              · go_wp2
                exact bodyPost_ret (v := .tuple #[.agg #[.slice A2 (xs.length + 1) c2, .slice B ys.length d], .bool true]) (by simp [results, Tryz.results10, go_sem, RR.cell (i := 0) rfl, RR.cell (i := 1) rfl]) rfl (by rw [HN.out.trans (if_pos (by simp))]; exact ⟨A2, c2, B, d, by simp, (F8.off (i := 0) RB8 (by decide) (by decide) _).off (i := 1) (RB8.set 0 _) (by decide) (by decide) _, by (with_reducible repeat' first | exact Below.refl _ _ | assumption | (refine Below.setCell ?_ (by first | omega | (simp; omega) | (simp; done) | (dsimp only; omega)) _) | (refine Below.alloc ?_ (by first | omega | (simp; omega) | (simp; done) | (dsimp only; omega)) _) | (refine below_drewN ?_ _) | (refine Below.drew ?_) | (refine Below.trans ?_ (hb08.mono (by first | omega | (simp; omega) | (simp; done) | (dsimp only; omega)))))⟩)
            ·
              go_simp
              refine hK.out _ _ ⟨(((Below.refl v4.heap.size v4).alloc (Nat.le_refl _) _).cell (p := ⟨bb, off + 1, none⟩) lb4).trans d1, (((Below.refl v4.heap.size v4).alloc (Nat.le_refl _) _).cell (p := ⟨bb, off + 4, none⟩) lb4).trans d4, (((Below.refl v4.heap.size v4).alloc (Nat.le_refl _) _).cell (p := ⟨bb, off + 5, none⟩) lb4).trans d5⟩ (fun hHeld => ?_)
              clear hK K; (try simp only [Act.put, List.setIfInBounds_toArray, List.set_cons_zero, List.set_cons_succ])
              refine wpAnyH_ready (rs := [12]) (by kernel_rfl) (by simp) ?_
              refine AllReadyH.cons (o := { dst := some 108, op := _, type := _, pos := _, after := _, guard := _ }) rfl (fun K hK => ?_) (AllReadyH.nil)
              go_simp
              (go_at_call 24; (with_reducible refine (l1Read_any _ _).mono ?_); rintro e v6 ⟨rfl, rfl⟩)
              try go_wp2_with fail
              refine hK.out _ _ ⟨(((Below.refl v4.heap.size v4).alloc (Nat.le_refl _) _).cell (p := ⟨bb, off + 1, none⟩) lb4).trans d1, (((Below.refl v4.heap.size v4).alloc (Nat.le_refl _) _).cell (p := ⟨bb, off + 4, none⟩) lb4).trans d4, (((Below.refl v4.heap.size v4).alloc (Nat.le_refl _) _).cell (p := ⟨bb, off + 5, none⟩) lb4).trans d5⟩ (fun hHeld => ?_)
              clear hK K; (try simp only [Act.put, List.setIfInBounds_toArray, List.set_cons_zero, List.set_cons_succ])
              refine wpAnyH_take (i := 13) (oi := { dst := some 109, op := _, type := _, pos := _, after := _, guard := _ }) (v := ?_) rfl (by kernel_rfl) (by kernel_rfl) (by kernel_rfl) (fun _ _ _ h => h) (Or.inl ⟨by rfl, ?_⟩) (by assumption) ?_; rotate_left; (intro w hSw; (try dsimp only at hSw); go_simp); (try with_reducible rfl); (try simp only [Act.put, List.setIfInBounds_toArray, List.set_cons_zero, List.set_cons_succ])
              refine wpAnyH_ready (rs := [15]) (by kernel_rfl) (by simp) ?_
              refine AllReadyH.cons (o := { dst := none, op := _, type := _, pos := _, after := _, guard := _ }) rfl (fun K hK => ?_) (AllReadyH.nil)
              go_simp
              refine hK.out _ _ ⟨(((Below.refl v4.heap.size v4).alloc (Nat.le_refl _) _).cell (p := ⟨bb, off + 1, none⟩) lb4).trans d1, (((Below.refl v4.heap.size v4).alloc (Nat.le_refl _) _).cell (p := ⟨bb, off + 4, none⟩) lb4).trans d4, (((Below.refl v4.heap.size v4).alloc (Nat.le_refl _) _).cell (p := ⟨bb, off + 5, none⟩) lb4).trans d5⟩ (fun hHeld => ?_)
              clear hK K; (try simp only [Act.put, List.setIfInBounds_toArray, List.set_cons_zero, List.set_cons_succ])
              refine wpAnyH_done (by kernel_rfl) ?_ _
              have hb5 : Below v4.heap.size v4 (World.alloc v4 (.cells #[.string n, .int .i64 1, .int .i64 p1, .int .i64 q1, .int .i64 (readS y), .int .i64 (readS z)] 50)).drew := ((Below.refl v4.heap.size v4).alloc (Nat.le_refl _) _).drew
              have P5 : Blk (World.alloc v4 (.cells #[.string n, .int .i64 1, .int .i64 p1, .int .i64 q1, .int .i64 (readS y), .int .i64 (readS z)] 50)).drew v4.heap.size 50 #[.string n, .int .i64 1, .int .i64 p1, .int .i64 q1, .int .i64 (readS y), .int .i64 (readS z)] := (Blk.new v4 rfl).drew
              generalize (World.alloc v4 (.cells #[.string n, .int .i64 1, .int .i64 p1, .int .i64 q1, .int .i64 (readS y), .int .i64 (readS z)] 50)).drew = v5 at *
              have hpp := F4.pp.same (Same.of_below hb5 (Nat.le_refl _)); have huu := F4.uu.same (Same.of_below hb5 (Nat.le_refl _))
              have FB5 := FB4.below hb5 FB4.lt; have RB5 := RB4.below hb5 RB4.lt; have hz5 := hb5.size; have hb05 := hb4.trans (hb5.mono F4.le)
              replace d0 := (hb5.cell (p := ⟨bb, off, none⟩) lb4).trans d0
              have l5 := P5.lt; have l50 := FB5.lt; have p1f := P5.free 1; have p1c := P5.cell (i := 1) rfl
              clear d1 d4 d5
              go_upto_region 14 with fail
              have P6 := P5.set 1 (.int .i64 2)
              replace hpp := hpp.same (Same.setCell (p := ⟨v4.heap.size, 1, none⟩) (Same.refl _ _ _) (.inr (Nat.le_refl _)) (.int .i64 2)); replace huu := huu.same (Same.setCell (p := ⟨v4.heap.size, 1, none⟩) (Same.refl _ _ _) (.inr (Nat.le_refl _)) (.int .i64 2))
              have FB6 := FB5.far (p := ⟨v4.heap.size, 1, none⟩) (by simp; omega) (.int .i64 2); have RB6 := RB5.far (p := ⟨v4.heap.size, 1, none⟩) (by simp; omega) (.int .i64 2); have hb06 := hb05.setCell (p := ⟨v4.heap.size, 1, none⟩) F4.le (.int .i64 2)
              have hz6 : v4.heap.size < (v5.setCell ⟨v4.heap.size, 1, none⟩ (.int .i64 2)).heap.size := by rw [World.size_setCell]; exact l5
              clear p1f p1c l5 l50
              generalize v5.setCell ⟨v4.heap.size, 1, none⟩ (.int .i64 2) = v6 at *
              have F6 : FamOwn v6 lo ⟨xs, ys⟩ A c B d := ⟨Nat.le_trans F4.le (Nat.le_of_lt hz6), hpp.mono (Nat.le_refl _) (Nat.le_of_lt hz6), huu.mono (Nat.le_refl _) (Nat.le_of_lt hz6)⟩
              have cq0 := P6.cell (i := 0) rfl; have cq1 := P6.cell (i := 1) rfl; have cq2 := P6.cell (i := 2) rfl; have cq3 := P6.cell (i := 3) rfl; have cq4 := P6.cell (i := 4) rfl; have cq5 := P6.cell (i := 5) rfl
              have e0 := FB6.cell (i := 0) rfl; have e1 := FB6.cell (i := 1) rfl; have lF6 := FB6.lt; have lP6 := P6.lt; have lo6 := F6.le
              go_upto_region 15 with (at_builtin; refine wpList_app1 tyPersonS A xs ⟨n, 2, p1, q1, readS y, readS z⟩ (vsPerson ⟨n, 2, p1, q1, readS y, readS z⟩) ⟨v6.heap.size, 0, none⟩ 1 (lo := lo) (hi := v6.heap.size) (F6.pp.same (by (with_reducible repeat' first | exact Same.refl _ _ _ | assumption | (refine Same.setCell ?_ (by first | omega | (simp; omega) | (simp; done) | (dsimp only; omega)) _) | (refine Same.alloc ?_ (by first | omega | (simp; omega) | (simp; done) | (dsimp only; omega)) _) | (refine Same.drewN ?_ _) | (refine Same.drew ?_)))) rfl (by (first | omega | (simp; omega) | (simp; done) | (dsimp only; omega))) lo6 rfl _ _ rfl rfl rfl rfl (cell_row_at _ _ _ _ (by simp)) (flatPerson.one _) (show xs.length + 1 ≤ 1048576 by omega) (by decide) (fun A2 c2 w5 ho5 hg5 hc5 hm5 => ?_); have hgc : ∀ k, w.heap.size ≤ k → k < v6.heap.size → w5.heap[k]? = v6.heap[k]? := (fun k k1 k2 => (hg5.block k (by simp; omega) (fun e => by have := (hBk k e.symm).2; omega)).trans (Below.heap_alloc _ _ _ k2)); have FB7 : Blk w5 w.heap.size 25 #[.slice A xs.length c, .slice B ys.length d] := (hgc _ (Nat.le_refl _) FB6.lt).trans FB6; have RB7 : Blk w5 (w.heap.size + 1) 25 #[.slice none 0 0, .slice none 0 0] := (hgc _ (by omega) RB6.lt).trans RB6; have u0 := FB7.cell (i := 0) rfl; have u1 := FB7.cell (i := 1) rfl; have f0 := FB7.free 0; have l7 := FB7.lt)
              have F6a := F6.below ((Below.refl v6.heap.size v6).alloc (Nat.le_refl _) (.cells #[.string n, .int .i64 2, .int .i64 p1, .int .i64 q1, .int .i64 (readS y), .int .i64 (readS z)] 50))
              have F7 := F6a.addP (x := ⟨n, 2, p1, q1, readS y, readS z⟩) (by simpa using ho5) hg5
              have hb07 : Below lo w w5 := (hb06.trans (((Below.refl v6.heap.size v6).alloc (Nat.le_refl _) _).mono F6.le)).trans (F6a.belowP hg5)
              skip
              have FB8 := FB7.set 0 (.slice A2 (xs.length + 1) c2)
              have RB8 := RB7.far (p := ⟨w.heap.size, 0, none⟩) (by simp) (.slice A2 (xs.length + 1) c2)
              have F8 := F7.off (i := 0) FB7 (by decide) (by decide) (.slice A2 (xs.length + 1) c2)
              have hb08 := hb07.setCell (p := ⟨w.heap.size, 0, none⟩) hlo (.slice A2 (xs.length + 1) c2)
              clear ho5 hg5 hgc FB7 RB7 F7 F6a hb07 u0 u1 f0 l7
              generalize w5.setCell ⟨w.heap.size, 0, none⟩ (.slice A2 (xs.length + 1) c2) = w7 at *
              have e0 : w7.cell? ⟨w.heap.size, 0, none⟩ = some (.slice A2 (xs.length + 1) c2) := FB8.cell (i := 0) rfl; have e1 : w7.cell? ⟨w.heap.size, 1, none⟩ = some (.slice B ys.length d) := FB8.cell (i := 1) rfl
              have s0 := RB8.free 0; have s1 := RB8.free 1; have r0 := RB8.cell (i := 0) rfl; have r1 := RB8.cell (i := 1) rfl; have lR := RB8.lt
              have RR := (RB8.set 0 (.slice A2 (xs.length + 1) c2)).set 1 (.slice B ys.length d)
              cases pb <;> cases qb
              · go_wp2
                exact bodyPost_ret (v := .tuple #[.agg #[.slice A2 (xs.length + 1) c2, .slice B ys.length d], .bool false]) (by simp [results, Tryz.results10, go_sem, RR.cell (i := 0) rfl, RR.cell (i := 1) rfl]) rfl (by rw [HN.out.trans (if_neg (by simp))]; exact ⟨_, _, _, _, _, _, rfl, by (with_reducible repeat' first | exact Below.refl _ _ | assumption | (refine Below.setCell ?_ (by first | omega | (simp; omega) | (simp; done) | (dsimp only; omega)) _) | (refine Below.alloc ?_ (by first | omega | (simp; omega) | (simp; done) | (dsimp only; omega)) _) | (refine below_drewN ?_ _) | (refine Below.drew ?_) | (refine Below.trans ?_ (hb08.mono (by first | omega | (simp; omega) | (simp; done) | (dsimp only; omega)))))⟩)
              · go_wp2
                exact bodyPost_ret (v := .tuple #[.agg #[.slice A2 (xs.length + 1) c2, .slice B ys.length d], .bool false]) (by simp [results, Tryz.results10, go_sem, RR.cell (i := 0) rfl, RR.cell (i := 1) rfl]) rfl (by rw [HN.out.trans (if_neg (by simp))]; exact ⟨_, _, _, _, _, _, rfl, by (with_reducible repeat' first | exact Below.refl _ _ | assumption | (refine Below.setCell ?_ (by first | omega | (simp; omega) | (simp; done) | (dsimp only; omega)) _) | (refine Below.alloc ?_ (by first | omega | (simp; omega) | (simp; done) | (dsimp only; omega)) _) | (refine below_drewN ?_ _) | (refine Below.drew ?_) | (refine Below.trans ?_ (hb08.mono (by first | omega | (simp; omega) | (simp; done) | (dsimp only; omega)))))⟩)
              · go_wp2
                exact bodyPost_ret (v := .tuple #[.agg #[.slice A2 (xs.length + 1) c2, .slice B ys.length d], .bool false]) (by simp [results, Tryz.results10, go_sem, RR.cell (i := 0) rfl, RR.cell (i := 1) rfl]) rfl (by rw [HN.out.trans (if_neg (by simp))]; exact ⟨_, _, _, _, _, _, rfl, by (with_reducible repeat' first | exact Below.refl _ _ | assumption | (refine Below.setCell ?_ (by first | omega | (simp; omega) | (simp; done) | (dsimp only; omega)) _) | (refine Below.alloc ?_ (by first | omega | (simp; omega) | (simp; done) | (dsimp only; omega)) _) | (refine below_drewN ?_ _) | (refine Below.drew ?_) | (refine Below.trans ?_ (hb08.mono (by first | omega | (simp; omega) | (simp; done) | (dsimp only; omega)))))⟩)
              · go_wp2
                exact bodyPost_ret (v := .tuple #[.agg #[.slice A2 (xs.length + 1) c2, .slice B ys.length d], .bool true]) (by simp [results, Tryz.results10, go_sem, RR.cell (i := 0) rfl, RR.cell (i := 1) rfl]) rfl (by rw [HN.out.trans (if_pos (by simp))]; exact ⟨A2, c2, B, d, by simp, (F8.off (i := 0) RB8 (by decide) (by decide) _).off (i := 1) (RB8.set 0 _) (by decide) (by decide) _, by (with_reducible repeat' first | exact Below.refl _ _ | assumption | (refine Below.setCell ?_ (by first | omega | (simp; omega) | (simp; done) | (dsimp only; omega)) _) | (refine Below.alloc ?_ (by first | omega | (simp; omega) | (simp; done) | (dsimp only; omega)) _) | (refine below_drewN ?_ _) | (refine Below.drew ?_) | (refine Below.trans ?_ (hb08.mono (by first | omega | (simp; omega) | (simp; done) | (dsimp only; omega)))))⟩)
          ·
            go_simp
            refine hK.out _ _ ⟨(((Below.refl v4.heap.size v4).alloc (Nat.le_refl _) _).cell (p := ⟨bb, off + 1, none⟩) lb4).trans d1, (((Below.refl v4.heap.size v4).alloc (Nat.le_refl _) _).cell (p := ⟨bb, off + 4, none⟩) lb4).trans d4, (((Below.refl v4.heap.size v4).alloc (Nat.le_refl _) _).cell (p := ⟨bb, off + 5, none⟩) lb4).trans d5⟩ (fun hHeld => ?_)
            clear hK K; (try simp only [Act.put, List.setIfInBounds_toArray, List.set_cons_zero, List.set_cons_succ])
            refine wpAnyH_ready (rs := [8]) (by kernel_rfl) (by simp) ?_
            refine AllReadyH.cons (o := { dst := some 104, op := _, type := _, pos := _, after := _, guard := _ }) rfl (fun K hK => ?_) (AllReadyH.nil)
            go_simp
            (go_at_call 24; (with_reducible refine (l1Read_any _ _).mono ?_); rintro e v6 ⟨rfl, rfl⟩)
            try go_wp2_with fail
            refine hK.out _ _ ⟨(((Below.refl v4.heap.size v4).alloc (Nat.le_refl _) _).cell (p := ⟨bb, off + 1, none⟩) lb4).trans d1, (((Below.refl v4.heap.size v4).alloc (Nat.le_refl _) _).cell (p := ⟨bb, off + 4, none⟩) lb4).trans d4, (((Below.refl v4.heap.size v4).alloc (Nat.le_refl _) _).cell (p := ⟨bb, off + 5, none⟩) lb4).trans d5⟩ (fun hHeld => ?_)
            clear hK K; (try simp only [Act.put, List.setIfInBounds_toArray, List.set_cons_zero, List.set_cons_succ])
            refine wpAnyH_ready (rs := [12]) (by kernel_rfl) (by simp) ?_
            refine AllReadyH.cons (o := { dst := some 108, op := _, type := _, pos := _, after := _, guard := _ }) rfl (fun K hK => ?_) (AllReadyH.nil)
            go_simp
            (go_at_call 24; (with_reducible refine (l1Read_any _ _).mono ?_); rintro e v6 ⟨rfl, rfl⟩)
            try go_wp2_with fail
            refine hK.out _ _ ⟨(((Below.refl v4.heap.size v4).alloc (Nat.le_refl _) _).cell (p := ⟨bb, off + 1, none⟩) lb4).trans d1, (((Below.refl v4.heap.size v4).alloc (Nat.le_refl _) _).cell (p := ⟨bb, off + 4, none⟩) lb4).trans d4, (((Below.refl v4.heap.size v4).alloc (Nat.le_refl _) _).cell (p := ⟨bb, off + 5, none⟩) lb4).trans d5⟩ (fun hHeld => ?_)
            clear hK K; (try simp only [Act.put, List.setIfInBounds_toArray, List.set_cons_zero, List.set_cons_succ])
            refine wpAnyH_take (i := 13) (oi := { dst := some 109, op := _, type := _, pos := _, after := _, guard := _ }) (v := ?_) rfl (by kernel_rfl) (by kernel_rfl) (by kernel_rfl) (fun _ _ _ h => h) (Or.inl ⟨by rfl, ?_⟩) (by assumption) ?_; rotate_left; (intro w hSw; (try dsimp only at hSw); go_simp); (try with_reducible rfl); (try simp only [Act.put, List.setIfInBounds_toArray, List.set_cons_zero, List.set_cons_succ])
            refine wpAnyH_ready (rs := [15]) (by kernel_rfl) (by simp) ?_
            refine AllReadyH.cons (o := { dst := none, op := _, type := _, pos := _, after := _, guard := _ }) rfl (fun K hK => ?_) (AllReadyH.nil)
            go_simp
            refine hK.out _ _ ⟨(((Below.refl v4.heap.size v4).alloc (Nat.le_refl _) _).cell (p := ⟨bb, off + 1, none⟩) lb4).trans d1, (((Below.refl v4.heap.size v4).alloc (Nat.le_refl _) _).cell (p := ⟨bb, off + 4, none⟩) lb4).trans d4, (((Below.refl v4.heap.size v4).alloc (Nat.le_refl _) _).cell (p := ⟨bb, off + 5, none⟩) lb4).trans d5⟩ (fun hHeld => ?_)
            clear hK K; (try simp only [Act.put, List.setIfInBounds_toArray, List.set_cons_zero, List.set_cons_succ])
            refine wpAnyH_done (by kernel_rfl) ?_ _
            have hb5 : Below v4.heap.size v4 (World.alloc v4 (.cells #[.string n, .int .i64 1, .int .i64 p1, .int .i64 q1, .int .i64 (readS y), .int .i64 (readS z)] 50)).drew := ((Below.refl v4.heap.size v4).alloc (Nat.le_refl _) _).drew
            have P5 : Blk (World.alloc v4 (.cells #[.string n, .int .i64 1, .int .i64 p1, .int .i64 q1, .int .i64 (readS y), .int .i64 (readS z)] 50)).drew v4.heap.size 50 #[.string n, .int .i64 1, .int .i64 p1, .int .i64 q1, .int .i64 (readS y), .int .i64 (readS z)] := (Blk.new v4 rfl).drew
            generalize (World.alloc v4 (.cells #[.string n, .int .i64 1, .int .i64 p1, .int .i64 q1, .int .i64 (readS y), .int .i64 (readS z)] 50)).drew = v5 at *
            have hpp := F4.pp.same (Same.of_below hb5 (Nat.le_refl _)); have huu := F4.uu.same (Same.of_below hb5 (Nat.le_refl _))
            have FB5 := FB4.below hb5 FB4.lt; have RB5 := RB4.below hb5 RB4.lt; have hz5 := hb5.size; have hb05 := hb4.trans (hb5.mono F4.le)
            replace d0 := (hb5.cell (p := ⟨bb, off, none⟩) lb4).trans d0
            have l5 := P5.lt; have l50 := FB5.lt; have p1f := P5.free 1; have p1c := P5.cell (i := 1) rfl
            clear d1 d4 d5
            go_upto_region 14 with fail
            have P6 := P5.set 1 (.int .i64 2)
            replace hpp := hpp.same (Same.setCell (p := ⟨v4.heap.size, 1, none⟩) (Same.refl _ _ _) (.inr (Nat.le_refl _)) (.int .i64 2)); replace huu := huu.same (Same.setCell (p := ⟨v4.heap.size, 1, none⟩) (Same.refl _ _ _) (.inr (Nat.le_refl _)) (.int .i64 2))
            have FB6 := FB5.far (p := ⟨v4.heap.size, 1, none⟩) (by simp; omega) (.int .i64 2); have RB6 := RB5.far (p := ⟨v4.heap.size, 1, none⟩) (by simp; omega) (.int .i64 2); have hb06 := hb05.setCell (p := ⟨v4.heap.size, 1, none⟩) F4.le (.int .i64 2)
            have hz6 : v4.heap.size < (v5.setCell ⟨v4.heap.size, 1, none⟩ (.int .i64 2)).heap.size := by rw [World.size_setCell]; exact l5
            clear p1f p1c l5 l50
            generalize v5.setCell ⟨v4.heap.size, 1, none⟩ (.int .i64 2) = v6 at *
            have F6 : FamOwn v6 lo ⟨xs, ys⟩ A c B d := ⟨Nat.le_trans F4.le (Nat.le_of_lt hz6), hpp.mono (Nat.le_refl _) (Nat.le_of_lt hz6), huu.mono (Nat.le_refl _) (Nat.le_of_lt hz6)⟩
            have cq0 := P6.cell (i := 0) rfl; have cq1 := P6.cell (i := 1) rfl; have cq2 := P6.cell (i := 2) rfl; have cq3 := P6.cell (i := 3) rfl; have cq4 := P6.cell (i := 4) rfl; have cq5 := P6.cell (i := 5) rfl
            have e0 := FB6.cell (i := 0) rfl; have e1 := FB6.cell (i := 1) rfl; have lF6 := FB6.lt; have lP6 := P6.lt; have lo6 := F6.le
            go_upto_region 15 with (at_builtin; refine wpList_app1 tyPersonS A xs ⟨n, 2, p1, q1, readS y, readS z⟩ (vsPerson ⟨n, 2, p1, q1, readS y, readS z⟩) ⟨v6.heap.size, 0, none⟩ 1 (lo := lo) (hi := v6.heap.size) (F6.pp.same (by (with_reducible repeat' first | exact Same.refl _ _ _ | assumption | (refine Same.setCell ?_ (by first | omega | (simp; omega) | (simp; done) | (dsimp only; omega)) _) | (refine Same.alloc ?_ (by first | omega | (simp; omega) | (simp; done) | (dsimp only; omega)) _) | (refine Same.drewN ?_ _) | (refine Same.drew ?_)))) rfl (by (first | omega | (simp; omega) | (simp; done) | (dsimp only; omega))) lo6 rfl _ _ rfl rfl rfl rfl (cell_row_at _ _ _ _ (by simp)) (flatPerson.one _) (show xs.length + 1 ≤ 1048576 by omega) (by decide) (fun A2 c2 w5 ho5 hg5 hc5 hm5 => ?_); have hgc : ∀ k, w.heap.size ≤ k → k < v6.heap.size → w5.heap[k]? = v6.heap[k]? := (fun k k1 k2 => (hg5.block k (by simp; omega) (fun e => by have := (hBk k e.symm).2; omega)).trans (Below.heap_alloc _ _ _ k2)); have FB7 : Blk w5 w.heap.size 25 #[.slice A xs.length c, .slice B ys.length d] := (hgc _ (Nat.le_refl _) FB6.lt).trans FB6; have RB7 : Blk w5 (w.heap.size + 1) 25 #[.slice none 0 0, .slice none 0 0] := (hgc _ (by omega) RB6.lt).trans RB6; have u0 := FB7.cell (i := 0) rfl; have u1 := FB7.cell (i := 1) rfl; have f0 := FB7.free 0; have l7 := FB7.lt)
            have F6a := F6.below ((Below.refl v6.heap.size v6).alloc (Nat.le_refl _) (.cells #[.string n, .int .i64 2, .int .i64 p1, .int .i64 q1, .int .i64 (readS y), .int .i64 (readS z)] 50))
            have F7 := F6a.addP (x := ⟨n, 2, p1, q1, readS y, readS z⟩) (by simpa using ho5) hg5
            have hb07 : Below lo w w5 := (hb06.trans (((Below.refl v6.heap.size v6).alloc (Nat.le_refl _) _).mono F6.le)).trans (F6a.belowP hg5)
            skip
            have FB8 := FB7.set 0 (.slice A2 (xs.length + 1) c2)
            have RB8 := RB7.far (p := ⟨w.heap.size, 0, none⟩) (by simp) (.slice A2 (xs.length + 1) c2)
            have F8 := F7.off (i := 0) FB7 (by decide) (by decide) (.slice A2 (xs.length + 1) c2)
            have hb08 := hb07.setCell (p := ⟨w.heap.size, 0, none⟩) hlo (.slice A2 (xs.length + 1) c2)
            clear ho5 hg5 hgc FB7 RB7 F7 F6a hb07 u0 u1 f0 l7
            generalize w5.setCell ⟨w.heap.size, 0, none⟩ (.slice A2 (xs.length + 1) c2) = w7 at *
            have e0 : w7.cell? ⟨w.heap.size, 0, none⟩ = some (.slice A2 (xs.length + 1) c2) := FB8.cell (i := 0) rfl; have e1 : w7.cell? ⟨w.heap.size, 1, none⟩ = some (.slice B ys.length d) := FB8.cell (i := 1) rfl
            have s0 := RB8.free 0; have s1 := RB8.free 1; have r0 := RB8.cell (i := 0) rfl; have r1 := RB8.cell (i := 1) rfl; have lR := RB8.lt
            have RR := (RB8.set 0 (.slice A2 (xs.length + 1) c2)).set 1 (.slice B ys.length d)
            cases pb <;> cases qb
            · go_wp2
              exact bodyPost_ret (v := .tuple #[.agg #[.slice A2 (xs.length + 1) c2, .slice B ys.length d], .bool false]) (by simp [results, Tryz.results10, go_sem, RR.cell (i := 0) rfl, RR.cell (i := 1) rfl]) rfl (by rw [HN.out.trans (if_neg (by simp))]; exact ⟨_, _, _, _, _, _, rfl, by (with_reducible repeat' first | exact Below.refl _ _ | assumption | (refine Below.setCell ?_ (by first | omega | (simp; omega) | (simp; done) | (dsimp only; omega)) _) | (refine Below.alloc ?_ (by first | omega | (simp; omega) | (simp; done) | (dsimp only; omega)) _) | (refine below_drewN ?_ _) | (refine Below.drew ?_) | (refine Below.trans ?_ (hb08.mono (by first | omega | (simp; omega) | (simp; done) | (dsimp only; omega)))))⟩)
            · go_wp2
              exact bodyPost_ret (v := .tuple #[.agg #[.slice A2 (xs.length + 1) c2, .slice B ys.length d], .bool false]) (by simp [results, Tryz.results10, go_sem, RR.cell (i := 0) rfl, RR.cell (i := 1) rfl]) rfl (by rw [HN.out.trans (if_neg (by simp))]; exact ⟨_, _, _, _, _, _, rfl, by (with_reducible repeat' first | exact Below.refl _ _ | assumption | (refine Below.setCell ?_ (by first | omega | (simp; omega) | (simp; done) | (dsimp only; omega)) _) | (refine Below.alloc ?_ (by first | omega | (simp; omega) | (simp; done) | (dsimp only; omega)) _) | (refine below_drewN ?_ _) | (refine Below.drew ?_) | (refine Below.trans ?_ (hb08.mono (by first | omega | (simp; omega) | (simp; done) | (dsimp only; omega)))))⟩)
            · go_wp2
              exact bodyPost_ret (v := .tuple #[.agg #[.slice A2 (xs.length + 1) c2, .slice B ys.length d], .bool false]) (by simp [results, Tryz.results10, go_sem, RR.cell (i := 0) rfl, RR.cell (i := 1) rfl]) rfl (by rw [HN.out.trans (if_neg (by simp))]; exact ⟨_, _, _, _, _, _, rfl, by (with_reducible repeat' first | exact Below.refl _ _ | assumption | (refine Below.setCell ?_ (by first | omega | (simp; omega) | (simp; done) | (dsimp only; omega)) _) | (refine Below.alloc ?_ (by first | omega | (simp; omega) | (simp; done) | (dsimp only; omega)) _) | (refine below_drewN ?_ _) | (refine Below.drew ?_) | (refine Below.trans ?_ (hb08.mono (by first | omega | (simp; omega) | (simp; done) | (dsimp only; omega)))))⟩)
            · go_wp2
              exact bodyPost_ret (v := .tuple #[.agg #[.slice A2 (xs.length + 1) c2, .slice B ys.length d], .bool true]) (by simp [results, Tryz.results10, go_sem, RR.cell (i := 0) rfl, RR.cell (i := 1) rfl]) rfl (by rw [HN.out.trans (if_pos (by simp))]; exact ⟨A2, c2, B, d, by simp, (F8.off (i := 0) RB8 (by decide) (by decide) _).off (i := 1) (RB8.set 0 _) (by decide) (by decide) _, by (with_reducible repeat' first | exact Below.refl _ _ | assumption | (refine Below.setCell ?_ (by first | omega | (simp; omega) | (simp; done) | (dsimp only; omega)) _) | (refine Below.alloc ?_ (by first | omega | (simp; omega) | (simp; done) | (dsimp only; omega)) _) | (refine below_drewN ?_ _) | (refine Below.drew ?_) | (refine Below.trans ?_ (hb08.mono (by first | omega | (simp; omega) | (simp; done) | (dsimp only; omega)))))⟩)
        · have n3 := bytes_ne (l := [119, 111, 109, 97, 110]) hg; have n4 := bytes_bne (l := [119, 111, 109, 97, 110]) hg
          have HN := Lib.hid (show lineM rdS rdS ⟨xs, ys⟩ [g, n, a, b, y, z] = none by rw [lineM, if_neg]; rintro (h1 | h1); exact hgm.out h1; exact hg h1)
          clear hg
          go_wp2
          have RR := (RB.set 0 (.slice A xs.length c)).set 1 (.slice B ys.length d)
          have hbl : Below lo w w1 := hbw.mono hlo
          exact bodyPost_ret (v := .tuple #[.agg #[.slice A xs.length c, .slice B ys.length d], .bool false]) (by simp [results, Tryz.results10, go_sem, RR.cell (i := 0) rfl, RR.cell (i := 1) rfl]) rfl (by rw [HN.out]; exact ⟨_, _, _, _, _, _, rfl, by have := hlo; (with_reducible repeat' first | exact Below.refl _ _ | assumption | (refine Below.setCell ?_ (by first | omega | (simp; omega) | (simp; done) | (dsimp only; omega)) _) | (refine Below.alloc ?_ (by first | omega | (simp; omega) | (simp; done) | (dsimp only; omega)) _) | (refine below_drewN ?_ _) | (refine Below.drew ?_) | (refine Below.trans ?_ (hbl.mono (by first | omega | (simp; omega) | (simp; done) | (dsimp only; omega)))))⟩)
    · have HN := Lib.hid (line_none (rd := rdS) (ro := rdS) (f := ⟨xs, ys⟩) h5 h6)
      have n5 : ((ws.length : Int) == 5) = false := by simp; omega
      have n6 : ((ws.length : Int) == 6) = false := by simp; omega
      have n7 : ((ws.length : Int) != 6) = true := by simp; omega
      clear h5 h6
      go_wp2
      have RR := (RB.set 0 (.slice A xs.length c)).set 1 (.slice B ys.length d)
      have hbl : Below lo w w1 := hbw.mono hlo
      exact bodyPost_ret (v := .tuple #[.agg #[.slice A xs.length c, .slice B ys.length d], .bool false]) (by simp [results, Tryz.results10, go_sem, RR.cell (i := 0) rfl, RR.cell (i := 1) rfl]) rfl (by rw [HN.out]; exact ⟨_, _, _, _, _, _, rfl, by have := hlo; (with_reducible repeat' first | exact Below.refl _ _ | assumption | (refine Below.setCell ?_ (by first | omega | (simp; omega) | (simp; done) | (dsimp only; omega)) _) | (refine Below.alloc ?_ (by first | omega | (simp; omega) | (simp; done) | (dsimp only; omega)) _) | (refine below_drewN ?_ _) | (refine Below.drew ?_) | (refine Below.trans ?_ (hbl.mono (by first | omega | (simp; omega) | (simp; done) | (dsimp only; omega)))))⟩)
end Go.Proofs.YthpcippgifmabaaGreatDoor
