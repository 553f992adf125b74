/-
  A line read into a family, in the program.
-/
import Derived.Test.YthpcippgifmabaaGreatDoorReadI
import Derived.Deep.RegionHeld3
namespace Go.Proofs.YthpcippgifmabaaGreatDoor
set_option maxRecDepth 100000
open Go.RowKit

theorem lineI_none {rd ro : ByteArray → Option Int} {f : Family} {ws : List ByteArray} (h5 : ws.length ≠ 5) (h6 : ws.length ≠ 6) : lineM rd ro f ws = none := by
  unfold lineM
  split
  · exact absurd rfl h5
  · exact absurd rfl h6
  · rfl
theorem listI5 {ws : List ByteArray} (h : ws.length = 5) : ∃ u a b y z, ws = [u, a, b, y, z] := by
  match ws, h with
  | [u, a, b, y, z], _ => exact ⟨u, a, b, y, z, rfl⟩
theorem listI6 {ws : List ByteArray} (h : ws.length = 6) : ∃ g n a b y z, ws = [g, n, a, b, y, z] := by
  match ws, h with
  | [g, n, a, b, y, z], _ => exact ⟨g, n, a, b, y, z, rfl⟩
theorem bytesI_ne {s : ByteArray} {l : List UInt8} (h : s ≠ mkT l) : (s.toList == l) = false := by
  rw [beq_eq_false_iff_ne]
  intro e
  apply h
  rw [ByteArray.toList_eq] at e
  exact ByteArray.ext (Array.toList_inj.1 e)
theorem lineU_P (f : Family) (a b y z : ByteArray) : lineU readP openP f a b y z = if (findFrom a f.people 0).2 = true ∧ (findFrom b f.people 0).2 = true ∧ (optN (readP y)).2 = true ∧ (optN (openP z)).2 = true then
    some ⟨f.people, f.unions ++ [⟨(findFrom a f.people 0).1, (findFrom b f.people 0).1, (optN (readP y)).1, (optN (openP z)).1⟩]⟩ else none := by
  rw [lineU]
  by_cases h : (findFrom a f.people 0).2 = true ∧ (findFrom b f.people 0).2 = true
  · rw [if_pos h]
    cases readP y with
    | none => rw [if_neg]; rintro ⟨_, _, h1, _⟩; cases h1
    | some m => cases openP z with
      | none => rw [if_neg]; rintro ⟨_, _, _, h1⟩; cases h1
      | some k => rw [if_pos ⟨h.1, h.2, rfl, rfl⟩]; rfl
  · rw [if_neg h, if_neg fun k => h ⟨k.1, k.2.1⟩]
theorem lineH_P (f : Family) (g n a b y z : ByteArray) : lineH readP openP f g n a b y z = if (idxM a f.people).2 = true ∧ (idxM b f.people).2 = true ∧ (optN (readP y)).2 = true ∧ (optN (openP z)).2 = true then
    some ⟨f.people ++ [⟨n, sexNo g, (idxM a f.people).1, (idxM b f.people).1, (optN (readP y)).1, (optN (openP z)).1⟩], f.unions⟩ else none := by
  rw [lineH]
  by_cases h : (idxM a f.people).2 = true ∧ (idxM b f.people).2 = true
  · rw [if_pos h]
    cases readP y with
    | none => rw [if_neg]; rintro ⟨_, _, h1, _⟩; cases h1
    | some m => cases openP z with
      | none => rw [if_neg]; rintro ⟨_, _, _, h1⟩; cases h1
      | some k => rw [if_pos ⟨h.1, h.2, rfl, rfl⟩]; rfl
  · rw [if_neg h, if_neg fun k => h ⟨k.1, k.2.1⟩]
/-- What reading a line leaves, in the family's block. -/
def RetLineI (gf lo : Nat) (r : Option Family) (w : World) (e : Ending) (w' : World) : Prop := match r with
  | some g => ∃ (A : Option Addr) (c : Nat) (B : Option Addr) (d : Nat), e = .returned (.bool true) ∧ Blk w' gf 25 #[.slice A g.people.length c, .slice B g.unions.length d] ∧ FamOwn w' lo g A c B d ∧ Below gf w w'
  | none => e = .returned (.bool false) ∧ Below gf w w'

set_option maxHeartbeats 16000000 in
theorem readFamilyLine_any (gf : Nat) (f : Family) (A : Option Addr) (c : Nat) (B : Option Addr) (d lo : Nat) (line : ByteArray) (w : World) (FB : Blk w gf 25 #[.slice A f.people.length c, .slice B f.unions.length d]) (hgf : gf < lo) (h : FamOwn w lo f A c B d) (hp : f.people.length ≤ 1000) (hu : f.unions.length ≤ 1000) (hl : line.size ≤ 1048576) (hv : Vars w) :
    Calls Tryz.prog 14 #[.pointer (some ⟨gf, 0, none⟩), .string line] w (RetLineI gf lo (lineM readP openP f (pieces 32 line)) w) := by
  have hcut := fun W hw => split_any 32 line W hl hw
  have hne : pieces 32 line ≠ [] := by
    rw [pieces]; intro e; exact cut_ne 32 _ (List.map_eq_nil_iff.1 e)
  generalize pieces 32 line = ws at hcut hne ⊢
  obtain ⟨xs, ys⟩ := f
  simp only at hp hu FB
  have hlo := h.le
  have HF := Lib.hid h
  have HV := Lib.hid hv
  clear h hl hv
  have lF0 := FB.lt
  go_enter Tryz.func14, Tryz.ntmps14
  go_upto_region 2 with (go_at_call 33; (with_reducible refine (hcut _ HV.out).mono ?_); rintro e w1 ⟨rfl, hW, hbw, g2⟩)
  clear hcut
  replace FB := FB.below hbw lF0
  have F1 := HF.out.below hbw
  have hV1 := HV.out.below hbw
  have e0 := FB.cell (i := 0) rfl; have e1 := FB.cell (i := 1) rfl
  have lF := FB.lt
  by_cases h5 : ws.length = 5
  · obtain ⟨u, a, b, y, z, rfl⟩ := listI5 h5
    have c0 := hW 0 u rfl; have c1 := hW 1 a rfl; have c2 := hW 2 b rfl; have c3 := hW 3 y rfl; have c4 := hW 4 z rfl
    rw [Nat.zero_add] at c0 c1 c2 c3 c4
    clear h5 hW hne
    by_cases hun : u = wUnion
    · have hun2 : u = ⟨#[117, 110, 105, 111, 110]⟩ := hun
      subst hun2
      clear hun
      obtain ⟨⟨p1, pb⟩, hpq⟩ : ∃ q, findFrom a xs 0 = q := ⟨_, rfl⟩
      obtain ⟨⟨q1, qb⟩, hqq⟩ : ∃ q, findFrom b xs 0 = q := ⟨_, rfl⟩
      obtain ⟨⟨y1, yb⟩, hyq⟩ : ∃ q, optN (readP y) = q := ⟨_, rfl⟩
      obtain ⟨⟨z1, zb⟩, hzq⟩ : ∃ q, optN (openP z) = q := ⟨_, rfl⟩
      have HN := Lib.hid (show lineM readP openP ⟨xs, ys⟩ [⟨#[117, 110, 105, 111, 110]⟩, a, b, y, z] = if pb = true ∧ qb = true ∧ yb = true ∧ zb = true then some ⟨xs, ys ++ [⟨p1, q1, y1, z1⟩]⟩ else none by rw [lineM, if_pos (show (⟨#[117, 110, 105, 111, 110]⟩ : ByteArray) = wUnion from rfl), lineU_P]; simp only [hpq, hqq, hyq, hzq])
      have Ha := fun W h1 h2 h3 => findPerson_any A B c d lo w1.heap.size xs ys a W h1 h2 h3
      have Hb := fun W h1 h2 h3 => findPerson_any A B c d lo w1.heap.size xs ys b W h1 h2 h3
      have Hy := fun W hw => readYear_any y W hw
      have Hz := fun W hw => readOpen_any z W hw
      rw [hpq] at Ha; rw [hqq] at Hb; rw [hyq] at Hy; rw [hzq] at Hz
      clear hpq hqq hyq hzq
      have hX := F1.pp.read.as; have hY := F1.uu.read.as
      have hq : Below w1.heap.size w1 w1 := Below.refl _ _
      go_upto_region 5 with fail
      go_region_held3 (fun w' => w'.cell? ⟨gf, 0, none⟩ = some (.slice A xs.length c) ∧ w'.cell? ⟨gf, 1, none⟩ = some (.slice B ys.length d) ∧ w'.cell? ⟨w.heap.size, 1, none⟩ = some (.string a) ∧ w'.cell? ⟨w.heap.size, 2, none⟩ = some (.string b)) (exact ⟨(hq.cell (p := ⟨gf, 0, none⟩) lF).trans e0, (hq.cell (p := ⟨gf, 1, none⟩) lF).trans e1, (hq.cell (p := ⟨w.heap.size, 1, none⟩) g2).trans c1, (hq.cell (p := ⟨w.heap.size, 2, none⟩) g2).trans c2⟩) ((go_at_call 34; (with_reducible refine (Ha _ (hX.same (by first | exact Same.of_below hq (Nat.le_refl _) | exact (Same.of_below hq (Nat.le_refl _)).drew)) (hY.same (by first | exact Same.of_below hq (Nat.le_refl _) | exact (Same.of_below hq (Nat.le_refl _)).drew)) (by first | exact hq.size | exact hq.drew.size)).mono ?_); rintro e v3 ⟨rfl, hv3⟩; (first | (replace hv3 := undrew hv3) | skip); replace hq := hq.trans (hv3.mono hq.size)))
      go_upto_region 6 with fail
      go_region_held3 (fun w' => w'.cell? ⟨gf, 0, none⟩ = some (.slice A xs.length c) ∧ w'.cell? ⟨gf, 1, none⟩ = some (.slice B ys.length d) ∧ w'.cell? ⟨w.heap.size, 1, none⟩ = some (.string a) ∧ w'.cell? ⟨w.heap.size, 2, none⟩ = some (.string b)) (exact ⟨(hq.cell (p := ⟨gf, 0, none⟩) lF).trans e0, (hq.cell (p := ⟨gf, 1, none⟩) lF).trans e1, (hq.cell (p := ⟨w.heap.size, 1, none⟩) g2).trans c1, (hq.cell (p := ⟨w.heap.size, 2, none⟩) g2).trans c2⟩) ((go_at_call 34; (with_reducible refine (Hb _ (hX.same (by first | exact Same.of_below hq (Nat.le_refl _) | exact (Same.of_below hq (Nat.le_refl _)).drew)) (hY.same (by first | exact Same.of_below hq (Nat.le_refl _) | exact (Same.of_below hq (Nat.le_refl _)).drew)) (by first | exact hq.size | exact hq.drew.size)).mono ?_); rintro e v4 ⟨rfl, hv4⟩; (first | (replace hv4 := undrew hv4) | skip); replace hq := hq.trans (hv4.mono hq.size)))
      have k3 := (hq.cell (p := ⟨w.heap.size, 3, none⟩) g2).trans c3
      go_upto_region 8 with (go_at_call 35; (with_reducible refine (Hy _ (hV1.below hq)).mono ?_); rintro e v5 ⟨rfl, hv5⟩)
      replace hq := hq.trans (hv5.mono hq.size)
      have k4 := (hq.cell (p := ⟨w.heap.size, 4, none⟩) g2).trans c4
      go_upto_region 9 with (go_at_call 36; (with_reducible refine (Hz _ (hV1.below hq)).mono ?_); rintro e v6 ⟨rfl, hv6⟩)
      replace hq := hq.trans (hv6.mono hq.size)
      have FB6 := FB.below hq lF; have F6 := F1.below hq; have hb06 : Below gf w v6 := (hbw.mono (Nat.le_of_lt lF0)).trans (hq.mono (Nat.le_of_lt lF)); have lo6 := F6.le; have lF6 := FB6.lt; have zq := hq.size
      replace e0 := FB6.cell (i := 0) rfl; replace e1 := FB6.cell (i := 1) rfl
      clear Ha Hb Hy Hz hX hY F1 FB hbw lF hv5 hv6 k3 k4
      have hBk := HF.out.uu.blkv
      go_upto_region 10 with (at_builtin; refine wpList_app1 tyUnionS B ys ⟨p1, q1, y1, z1⟩ (vsUnion ⟨p1, q1, y1, z1⟩) ⟨v6.heap.size, 0, none⟩ 1 (lo := lo) (hi := v6.heap.size) (F6.uu.same (by (with_reducible repeat' first | exact Same.refl _ _ _ | assumption | (refine Same.setCell ?_ (by first | omega | (simp; omega) | (simp; done) | (dsimp only; omega)) _) | (refine Same.alloc ?_ (by first | omega | (simp; omega) | (simp; done) | (dsimp only; omega)) _) | (refine Same.drewN ?_ _) | (refine Same.drew ?_)))) rfl (by (first | omega | (simp; omega) | (simp; done) | (dsimp only; omega))) lo6 rfl _ _ rfl rfl rfl rfl (cell_row_at _ _ _ _ (by simp)) (flatUnion.one _) (show ys.length + 1 ≤ 1048576 by omega) (by decide) (fun B2 d2 w5 ho5 hg5 hc5 hm5 => ?_); have hgc : w5.heap[gf]? = v6.heap[gf]? := ((hg5.block gf (by simp; omega) (fun e => by have := (hBk gf e.symm).1; omega)).trans (Below.heap_alloc _ _ _ lF6)); have FB7 : Blk w5 gf 25 #[.slice A xs.length c, .slice B ys.length d] := hgc.trans FB6; have u1 := FB7.cell (i := 1) rfl; have f1 := FB7.free 1; have l7 := FB7.lt)
      have F6a := F6.below ((Below.refl v6.heap.size v6).alloc (Nat.le_refl _) (.cells #[.int .i64 p1, .int .i64 q1, .int .i64 y1, .int .i64 z1] 48))
      have F7 := F6a.addU (y := ⟨p1, q1, y1, z1⟩) (by simpa using ho5) hg5
      have hb07 : Below gf w w5 := (hb06.trans (((Below.refl v6.heap.size v6).alloc (Nat.le_refl _) _).mono (Nat.le_of_lt lF6))).trans ((F6a.belowU hg5).mono (Nat.le_of_lt hgf))
      have FB8 := FB7.set 1 (.slice B2 (ys.length + 1) d2)
      have F8 := F7.off (i := 1) FB7 (by decide) (by decide) (.slice B2 (ys.length + 1) d2)
      have hb08 := hb07.setCell (p := ⟨gf, 1, none⟩) (Nat.le_refl _) (.slice B2 (ys.length + 1) d2)
      clear ho5 hg5 hgc FB7 F7 F6a hb07 u1 f1 l7
      generalize w5.setCell ⟨gf, 1, none⟩ (.slice B2 (ys.length + 1) d2) = w7 at *
      cases pb <;> cases qb <;> cases yb <;> cases zb
      · go_wp2
        go_ret
        rw [HN.out.trans (if_neg (by simp))]; exact ⟨rfl, hb08⟩
      · go_wp2
        go_ret
        rw [HN.out.trans (if_neg (by simp))]; exact ⟨rfl, hb08⟩
      · go_wp2
        go_ret
        rw [HN.out.trans (if_neg (by simp))]; exact ⟨rfl, hb08⟩
      · go_wp2
        go_ret
        rw [HN.out.trans (if_neg (by simp))]; exact ⟨rfl, hb08⟩
      · go_wp2
        go_ret
        rw [HN.out.trans (if_neg (by simp))]; exact ⟨rfl, hb08⟩
      · go_wp2
        go_ret
        rw [HN.out.trans (if_neg (by simp))]; exact ⟨rfl, hb08⟩
      · go_wp2
        go_ret
        rw [HN.out.trans (if_neg (by simp))]; exact ⟨rfl, hb08⟩
      · go_wp2
        go_ret
        rw [HN.out.trans (if_neg (by simp))]; exact ⟨rfl, hb08⟩
      · go_wp2
        go_ret
        rw [HN.out.trans (if_neg (by simp))]; exact ⟨rfl, hb08⟩
      · go_wp2
        go_ret
        rw [HN.out.trans (if_neg (by simp))]; exact ⟨rfl, hb08⟩
      · go_wp2
        go_ret
        rw [HN.out.trans (if_neg (by simp))]; exact ⟨rfl, hb08⟩
      · go_wp2
        go_ret
        rw [HN.out.trans (if_neg (by simp))]; exact ⟨rfl, hb08⟩
      · go_wp2
        go_ret
        rw [HN.out.trans (if_neg (by simp))]; exact ⟨rfl, hb08⟩
      · go_wp2
        go_ret
        rw [HN.out.trans (if_neg (by simp))]; exact ⟨rfl, hb08⟩
      · go_wp2
        go_ret
        rw [HN.out.trans (if_neg (by simp))]; exact ⟨rfl, hb08⟩
      · go_wp2
        go_ret
        rw [HN.out.trans (if_pos (by simp))]; exact ⟨A, c, B2, d2, rfl, by rw [List.length_append]; exact FB8, F8, hb08⟩
    · have n1 := bytesI_ne (l := [117, 110, 105, 111, 110]) hun
      have HN := Lib.hid (show lineM readP openP ⟨xs, ys⟩ [u, a, b, y, z] = none by rw [lineM, if_neg hun])
      clear hun
      go_wp2
      go_ret
      rw [HN.out]; exact ⟨rfl, hbw.mono (Nat.le_of_lt lF0)⟩
  · by_cases h6 : ws.length = 6
    · obtain ⟨g, n, a, b, y, z, rfl⟩ := listI6 h6
      have c0 := hW 0 g rfl; have c1 := hW 1 n rfl; have c2 := hW 2 a rfl; have c3 := hW 3 b rfl; have c4 := hW 4 y rfl; have c5 := hW 5 z rfl
      rw [Nat.zero_add] at c0 c1 c2 c3 c4 c5
      clear h5 h6 hW hne
      by_cases hun : g = wUnion
      · have hun2 : g = ⟨#[117, 110, 105, 111, 110]⟩ := hun
        subst hun2
        have HN := Lib.hid (show lineM readP openP ⟨xs, ys⟩ [⟨#[117, 110, 105, 111, 110]⟩, n, a, b, y, z] = none by rw [lineM, if_neg (by decide)])
        clear hun
        go_wp2
        go_ret
        rw [HN.out]; exact ⟨rfl, hbw.mono (Nat.le_of_lt lF0)⟩
      have n1 := bytesI_ne (l := [117, 110, 105, 111, 110]) hun
      clear hun
      by_cases hg : g = wMan
      · clear n1
        have hg2 : g = ⟨#[109, 97, 110]⟩ := hg
        subst hg2
        clear hg
        obtain ⟨⟨p1, pb⟩, hpq⟩ : ∃ q, idxM a xs = q := ⟨_, rfl⟩
        obtain ⟨⟨q1, qb⟩, hqq⟩ : ∃ q, idxM b xs = q := ⟨_, rfl⟩
        obtain ⟨⟨y1, yb⟩, hyq⟩ : ∃ q, optN (readP y) = q := ⟨_, rfl⟩
        obtain ⟨⟨z1, zb⟩, hzq⟩ : ∃ q, optN (openP z) = q := ⟨_, rfl⟩
        have HN := Lib.hid (show lineM readP openP ⟨xs, ys⟩ [⟨#[109, 97, 110]⟩, n, a, b, y, z] = if pb = true ∧ qb = true ∧ yb = true ∧ zb = true then some ⟨xs ++ [⟨n, 1, p1, q1, y1, z1⟩], ys⟩ else none by rw [lineM, if_pos (by decide), lineH_P]; simp only [hpq, hqq, hyq, hzq]; rfl)
        have Hs := fun W => readSex_any ⟨#[109, 97, 110]⟩ W
        rw [show sexM ⟨#[109, 97, 110]⟩ = 1 by decide] at Hs
        have Ha := fun W h1 h2 h3 => readParent_any A B c d lo w1.heap.size xs ys a W h1 h2 h3
        have Hb := fun W h1 h2 h3 => readParent_any A B c d lo w1.heap.size xs ys b W h1 h2 h3
        have Hy := fun W hw => readYear_any y W hw
        have Hz := fun W hw => readOpen_any z W hw
        rw [hpq] at Ha; rw [hqq] at Hb; rw [hyq] at Hy; rw [hzq] at Hz
        clear hpq hqq hyq hzq
        go_upto_region 13 with (go_at_call 37; (with_reducible refine (Hs _).mono ?_); rintro e v2 ⟨rfl, rfl⟩)
        have hX := F1.pp.read.as; have hY := F1.uu.read.as
        have hq : Below w1.heap.size w1 w1 := Below.refl _ _
        go_upto_region 13 with fail
        go_region_held3 (fun w' => w'.cell? ⟨gf, 0, none⟩ = some (.slice A xs.length c) ∧ w'.cell? ⟨gf, 1, none⟩ = some (.slice B ys.length d) ∧ w'.cell? ⟨w.heap.size, 2, none⟩ = some (.string a) ∧ w'.cell? ⟨w.heap.size, 3, none⟩ = some (.string b)) (exact ⟨(hq.cell (p := ⟨gf, 0, none⟩) lF).trans e0, (hq.cell (p := ⟨gf, 1, none⟩) lF).trans e1, (hq.cell (p := ⟨w.heap.size, 2, none⟩) g2).trans c2, (hq.cell (p := ⟨w.heap.size, 3, none⟩) g2).trans c3⟩) ((go_at_call 38; (with_reducible refine (Ha _ (hX.same (by first | exact Same.of_below hq (Nat.le_refl _) | exact (Same.of_below hq (Nat.le_refl _)).drew)) (hY.same (by first | exact Same.of_below hq (Nat.le_refl _) | exact (Same.of_below hq (Nat.le_refl _)).drew)) (by first | exact hq.size | exact hq.drew.size)).mono ?_); rintro e v3 ⟨rfl, hv3⟩; (first | (replace hv3 := undrew hv3) | skip); replace hq := hq.trans (hv3.mono hq.size)))
        go_upto_region 14 with fail
        go_region_held3 (fun w' => w'.cell? ⟨gf, 0, none⟩ = some (.slice A xs.length c) ∧ w'.cell? ⟨gf, 1, none⟩ = some (.slice B ys.length d) ∧ w'.cell? ⟨w.heap.size, 2, none⟩ = some (.string a) ∧ w'.cell? ⟨w.heap.size, 3, none⟩ = some (.string b)) (exact ⟨(hq.cell (p := ⟨gf, 0, none⟩) lF).trans e0, (hq.cell (p := ⟨gf, 1, none⟩) lF).trans e1, (hq.cell (p := ⟨w.heap.size, 2, none⟩) g2).trans c2, (hq.cell (p := ⟨w.heap.size, 3, none⟩) g2).trans c3⟩) ((go_at_call 38; (with_reducible refine (Hb _ (hX.same (by first | exact Same.of_below hq (Nat.le_refl _) | exact (Same.of_below hq (Nat.le_refl _)).drew)) (hY.same (by first | exact Same.of_below hq (Nat.le_refl _) | exact (Same.of_below hq (Nat.le_refl _)).drew)) (by first | exact hq.size | exact hq.drew.size)).mono ?_); rintro e v4 ⟨rfl, hv4⟩; (first | (replace hv4 := undrew hv4) | skip); replace hq := hq.trans (hv4.mono hq.size)))
        have k4 := (hq.cell (p := ⟨w.heap.size, 4, none⟩) g2).trans c4
        go_upto_region 16 with (go_at_call 35; (with_reducible refine (Hy _ (hV1.below hq)).mono ?_); rintro e v5 ⟨rfl, hv5⟩)
        replace hq := hq.trans (hv5.mono hq.size)
        have k5 := (hq.cell (p := ⟨w.heap.size, 5, none⟩) g2).trans c5
        go_upto_region 17 with (go_at_call 36; (with_reducible refine (Hz _ (hV1.below hq)).mono ?_); rintro e v6 ⟨rfl, hv6⟩)
        replace hq := hq.trans (hv6.mono hq.size)
        have FB6 := FB.below hq lF; have F6 := F1.below hq; have hb06 : Below gf w v6 := (hbw.mono (Nat.le_of_lt lF0)).trans (hq.mono (Nat.le_of_lt lF)); have lo6 := F6.le; have lF6 := FB6.lt; have zq := hq.size
        replace e0 := FB6.cell (i := 0) rfl; replace e1 := FB6.cell (i := 1) rfl
        clear Ha Hb Hy Hz hX hY F1 FB hbw lF hv5 hv6 k4 k5
        have hBk := HF.out.pp.blkv
        have d0 : v6.drew.cell? ⟨w.heap.size, 0, none⟩ = some (.string ⟨#[109, 97, 110]⟩) := (hq.cell (p := ⟨w.heap.size, 0, none⟩) g2).trans c0
        have d1 : v6.drew.cell? ⟨w.heap.size, 1, none⟩ = some (.string n) := (hq.cell (p := ⟨w.heap.size, 1, none⟩) g2).trans c1
        have cf0 : v6.drew.cell? ⟨gf, 0, none⟩ = some (.slice A xs.length c) := e0
        have lb6 : w.heap.size < v6.heap.size := by omega
        clear e0 e1 c0 c1 c2 c3 c4 c5 hq
        refine wp_region_held_drew (S := fun w' => w'.cell? ⟨w.heap.size, 0, none⟩ = some (.string ⟨#[109, 97, 110]⟩) ∧ w'.cell? ⟨w.heap.size, 1, none⟩ = some (.string n)) (by kernel_rfl) ⟨d0, d1⟩ (fun hHeld => ?_)
        refine wpAnyH_take (i := 0) (oi := { dst := some 133, op := _, type := _, pos := _, after := _, guard := _ }) (v := ?_) rfl (by kernel_rfl) (by kernel_rfl) (by kernel_rfl) (fun _ _ _ h => h) (Or.inl ⟨by rfl, ?_⟩) (by assumption) ?_; rotate_left; (intro w hSw; (try dsimp only at hSw); go_simp); (try with_reducible rfl); (try simp only [Act.put, List.setIfInBounds_toArray, List.set_cons_zero, List.set_cons_succ])
        refine wpAnyH_take (i := 1) (oi := { dst := some 134, op := _, type := _, pos := _, after := _, guard := _ }) (v := ?_) rfl (by kernel_rfl) (by kernel_rfl) (by kernel_rfl) (fun _ _ _ h => h) (Or.inl ⟨by rfl, ?_⟩) (by assumption) ?_; rotate_left; (intro w hSw; (try dsimp only at hSw); go_simp); (try with_reducible rfl); (try simp only [Act.put, List.setIfInBounds_toArray, List.set_cons_zero, List.set_cons_succ])
        refine wpAnyH_take (i := 2) (oi := { dst := some 135, op := _, type := _, pos := _, after := _, guard := _ }) (v := ?_) rfl (by kernel_rfl) (by kernel_rfl) (by kernel_rfl) (fun _ _ _ h => h) (Or.inl ⟨by rfl, ?_⟩) (by assumption) ?_; rotate_left; (intro w hSw; (try dsimp only at hSw); go_simp); (try with_reducible rfl); (try simp only [Act.put, List.setIfInBounds_toArray, List.set_cons_zero, List.set_cons_succ])
        refine wpAnyH_take (i := 3) (oi := { dst := some 136, op := _, type := _, pos := _, after := _, guard := _ }) (v := ?_) rfl (by kernel_rfl) (by kernel_rfl) (by kernel_rfl) (fun _ _ _ h => h) (Or.inl ⟨by rfl, ?_⟩) (by assumption) ?_; rotate_left; (intro w hSw; (try dsimp only at hSw); go_simp); (try with_reducible rfl); (try simp only [Act.put, List.setIfInBounds_toArray, List.set_cons_zero, List.set_cons_succ])
        refine wpAnyH_take (i := 5) (oi := { dst := some 138, op := _, type := _, pos := _, after := _, guard := _ }) (v := ?_) rfl (by kernel_rfl) (by kernel_rfl) (by kernel_rfl) (fun _ _ _ h => h) (Or.inl ⟨by rfl, ?_⟩) (by assumption) ?_; rotate_left; (intro w hSw; (try dsimp only at hSw); go_simp); (try with_reducible rfl); (try simp only [Act.put, List.setIfInBounds_toArray, List.set_cons_zero, List.set_cons_succ])
        refine wpAnyH_take (i := 6) (oi := { dst := some 139, op := _, type := _, pos := _, after := _, guard := _ }) (v := ?_) rfl (by kernel_rfl) (by kernel_rfl) (by kernel_rfl) (fun _ _ _ h => h) (Or.inl ⟨by rfl, ?_⟩) (by assumption) ?_; rotate_left; (intro w hSw; (try dsimp only at hSw); go_simp); (try with_reducible rfl); (try simp only [Act.put, List.setIfInBounds_toArray, List.set_cons_zero, List.set_cons_succ])
        refine wpAnyH_take (i := 7) (oi := { dst := some 140, op := _, type := _, pos := _, after := _, guard := _ }) (v := ?_) rfl (by kernel_rfl) (by kernel_rfl) (by kernel_rfl) (fun _ _ _ h => h) (Or.inl ⟨by rfl, ?_⟩) (by assumption) ?_; rotate_left; (intro w hSw; (try dsimp only at hSw); go_simp); (try with_reducible rfl); (try simp only [Act.put, List.setIfInBounds_toArray, List.set_cons_zero, List.set_cons_succ])
        refine wpAnyH_take (i := 8) (oi := { dst := some 141, op := _, type := _, pos := _, after := _, guard := _ }) (v := ?_) rfl (by kernel_rfl) (by kernel_rfl) (by kernel_rfl) (fun _ _ _ h => h) (Or.inl ⟨by rfl, ?_⟩) (by assumption) ?_; rotate_left; (intro w hSw; (try dsimp only at hSw); go_simp); (try with_reducible rfl); (try simp only [Act.put, List.setIfInBounds_toArray, List.set_cons_zero, List.set_cons_succ])
        refine wpAnyH_take (i := 9) (oi := { dst := some 142, op := _, type := _, pos := _, after := _, guard := _ }) (v := ?_) rfl (by kernel_rfl) (by kernel_rfl) (by kernel_rfl) (fun _ _ _ h => h) (Or.inl ⟨by rfl, ?_⟩) (by assumption) ?_; rotate_left; (intro w hSw; (try dsimp only at hSw); go_simp); (try with_reducible rfl); (try simp only [Act.put, List.setIfInBounds_toArray, List.set_cons_zero, List.set_cons_succ])
        refine wpAnyH_take (i := 10) (oi := { dst := some 143, op := _, type := _, pos := _, after := _, guard := _ }) (v := ?_) rfl (by kernel_rfl) (by kernel_rfl) (by kernel_rfl) (fun _ _ _ h => h) (Or.inl ⟨by rfl, ?_⟩) (by assumption) ?_; rotate_left; (intro w hSw; (try dsimp only at hSw); go_simp); (try with_reducible rfl); (try simp only [Act.put, List.setIfInBounds_toArray, List.set_cons_zero, List.set_cons_succ])
        refine wpAnyH_take (i := 12) (oi := { dst := some 145, op := _, type := _, pos := _, after := _, guard := _ }) (v := ?_) rfl (by kernel_rfl) (by kernel_rfl) (by kernel_rfl) (fun _ _ _ h => h) (Or.inl ⟨by rfl, ?_⟩) (by assumption) ?_; rotate_left; (intro w hSw; (try dsimp only at hSw); go_simp); (try with_reducible rfl); (try simp only [Act.put, List.setIfInBounds_toArray, List.set_cons_zero, List.set_cons_succ])
        refine wpAnyH_take (i := 13) (oi := { dst := some 146, op := _, type := _, pos := _, after := _, guard := _ }) (v := ?_) rfl (by kernel_rfl) (by kernel_rfl) (by kernel_rfl) (fun _ _ _ h => h) (Or.inl ⟨by rfl, ?_⟩) (by assumption) ?_; rotate_left; (intro w hSw; (try dsimp only at hSw); go_simp); (try with_reducible rfl); (try simp only [Act.put, List.setIfInBounds_toArray, List.set_cons_zero, List.set_cons_succ])
        refine wpAnyH_take (i := 14) (oi := { dst := some 147, op := _, type := _, pos := _, after := _, guard := _ }) (v := ?_) rfl (by kernel_rfl) (by kernel_rfl) (by kernel_rfl) (fun _ _ _ h => h) (Or.inl ⟨by rfl, ?_⟩) (by assumption) ?_; rotate_left; (intro w hSw; (try dsimp only at hSw); go_simp); (try with_reducible rfl); (try simp only [Act.put, List.setIfInBounds_toArray, List.set_cons_zero, List.set_cons_succ])
        refine wpAnyH_take (i := 15) (oi := { dst := some 148, op := _, type := _, pos := _, after := _, guard := _ }) (v := ?_) rfl (by kernel_rfl) (by kernel_rfl) (by kernel_rfl) (fun _ _ _ h => h) (Or.inl ⟨by rfl, ?_⟩) (by assumption) ?_; rotate_left; (intro w hSw; (try dsimp only at hSw); go_simp); (try with_reducible rfl); (try simp only [Act.put, List.setIfInBounds_toArray, List.set_cons_zero, List.set_cons_succ])
        refine wpAnyH_ready (rs := [4, 11]) (by kernel_rfl) (by simp) ?_
        refine AllReadyH.cons (o := { dst := some 137, op := _, type := _, pos := _, after := _, guard := _ }) rfl (fun K hK => ?_) (AllReadyH.cons (o := { dst := some 144, op := _, type := _, pos := _, after := _, guard := _ }) rfl (fun K hK => ?_) (AllReadyH.nil))
        ·
          go_simp
          refine hK.out _ _ ⟨d0, d1⟩ (fun hHeld => ?_)
          clear hK K; (try simp only [Act.put, List.setIfInBounds_toArray, List.set_cons_zero, List.set_cons_succ])
          refine wpAnyH_ready (rs := [11]) (by kernel_rfl) (by simp) ?_
          refine AllReadyH.cons (o := { dst := some 144, op := _, type := _, pos := _, after := _, guard := _ }) rfl (fun K hK => ?_) (AllReadyH.nil)
          go_simp
          (go_at_call 37; (with_reducible refine (Hs _).mono ?_); rintro e v9 ⟨rfl, rfl⟩)
          try go_wp2_with fail
          refine hK.out _ _ ⟨d0, d1⟩ (fun hHeld => ?_)
          clear hK K; (try simp only [Act.put, List.setIfInBounds_toArray, List.set_cons_zero, List.set_cons_succ])
          refine wpAnyH_take (i := 16) (oi := { dst := some 149, op := _, type := _, pos := _, after := _, guard := _ }) (v := ?_) rfl (by kernel_rfl) (by kernel_rfl) (by kernel_rfl) (fun _ _ _ h => h) (Or.inl ⟨by rfl, ?_⟩) (by assumption) ?_; rotate_left; (intro w hSw; (try dsimp only at hSw); go_simp); (try with_reducible rfl); (try simp only [Act.put, List.setIfInBounds_toArray, List.set_cons_zero, List.set_cons_succ])
          refine wpAnyH_ready (rs := [17]) (by kernel_rfl) (by simp) ?_
          refine AllReadyH.cons (o := { dst := some 150, op := _, type := _, pos := _, after := _, guard := _ }) rfl (fun K hK => ?_) (AllReadyH.nil)
          go_simp
          refine hK.out _ _ ⟨(((Below.refl v6.heap.size v6).alloc (Nat.le_refl _) _).cell (p := ⟨w.heap.size, 0, none⟩) lb6).trans d0, (((Below.refl v6.heap.size v6).alloc (Nat.le_refl _) _).cell (p := ⟨w.heap.size, 1, none⟩) lb6).trans d1⟩ (fun hHeld => ?_)
          clear hK K; (try simp only [Act.put, List.setIfInBounds_toArray, List.set_cons_zero, List.set_cons_succ])
          have hone := (oneP v6 ⟨n, 1, p1, q1, y1, z1⟩).read.as
          have hb7 : Below v6.heap.size v6 (World.alloc v6 (.cells #[.string n, .int .i64 1, .int .i64 p1, .int .i64 q1, .int .i64 y1, .int .i64 z1] 50)).drew := ((Below.refl v6.heap.size v6).alloc (Nat.le_refl _) _).drew
          replace hone : EPerson.AS (World.alloc v6 (.cells #[.string n, .int .i64 1, .int .i64 p1, .int .i64 q1, .int .i64 y1, .int .i64 z1] 50)).drew v6.heap.size (v6.heap.size + 1) (some ⟨v6.heap.size, 0, none⟩) [⟨n, 1, p1, q1, y1, z1⟩] := hone.drew
          generalize (World.alloc v6 (.cells #[.string n, .int .i64 1, .int .i64 p1, .int .i64 q1, .int .i64 y1, .int .i64 z1] 50)).drew = v7 at *
          have F7 := F6.below hb7; have FB7 := FB6.below hb7 lF6; have hz7 := hb7.size; have hb07 := hb06.trans (hb7.mono (Nat.le_of_lt lF6)); have lF7 := FB7.lt
          replace d0 := (hb7.cell (p := ⟨w.heap.size, 0, none⟩) lb6).trans d0; replace d1 := (hb7.cell (p := ⟨w.heap.size, 1, none⟩) lb6).trans d1; replace cf0 := (hb7.cell (p := ⟨gf, 0, none⟩) lF6).trans cf0
          refine wpAnyH_ready (rs := [18]) (by kernel_rfl) (by simp) ?_
          refine AllReadyH.cons (o := { dst := some 151, op := _, type := _, pos := _, after := _, guard := _ }) rfl (fun K hK => ?_) (AllReadyH.nil)
          refine step_appN flatPerson tyPersonS A xs 1 F7.pp rfl hone _ _ rfl rfl rfl rfl (show xs.length + 1 ≤ 1048576 by omega) (by decide) F7.le ?_
          intro A2 c2 w5 ho5 hg5
          rw [show (xs ++ [(⟨n, 1, p1, q1, y1, z1⟩ : Person)]).length = xs.length + 1 by simp]
          have hgc : ∀ k, (k < lo ∨ w.heap.size ≤ k) → k < v7.heap.size → w5.heap[k]? = v7.heap[k]? := fun k k1 k2 => hg5.block k k2 (fun e => by have := hBk k e.symm; omega)
          refine hK.out _ _ ⟨(World.cell?_of_block (hgc w.heap.size (.inr (Nat.le_refl _)) (by omega))).trans d0, (World.cell?_of_block (hgc w.heap.size (.inr (Nat.le_refl _)) (by omega))).trans d1⟩ (fun hHeld => ?_)
          clear hK K; (try simp only [Act.put, List.setIfInBounds_toArray, List.set_cons_zero, List.set_cons_succ])
          have FB8 : Blk w5 gf 25 #[.slice A xs.length c, .slice B ys.length d] := (hgc gf (.inl hgf) lF7).trans FB7
          have F8 := F7.addP ho5 hg5; have hb08 := hb07.trans ((F7.belowP hg5).mono (Nat.le_of_lt hgf)); have lb8 : w.heap.size < w5.heap.size := by have := hg5.size; omega
          replace d0 := (World.cell?_of_block (hgc w.heap.size (.inr (Nat.le_refl _)) (by omega))).trans d0; replace d1 := (World.cell?_of_block (hgc w.heap.size (.inr (Nat.le_refl _)) (by omega))).trans d1; clear cf0
          refine wpAnyH_take (i := 19) (oi := { dst := some 152, op := _, type := _, pos := _, after := _, guard := _ }) (v := ?_) rfl (by kernel_rfl) (by kernel_rfl) (by kernel_rfl) (fun _ _ _ h => h) (Or.inl ⟨by rfl, ?_⟩) (by assumption) ?_; rotate_left; (intro w hSw; (try dsimp only at hSw); go_simp); (try with_reducible rfl); (try simp only [Act.put, List.setIfInBounds_toArray, List.set_cons_zero, List.set_cons_succ])
          refine wpAnyH_take (i := 20) (oi := { dst := some 153, op := _, type := _, pos := _, after := _, guard := _ }) (v := ?_) rfl (by kernel_rfl) (by kernel_rfl) (by kernel_rfl) (fun _ _ _ h => h) (Or.inl ⟨by rfl, ?_⟩) (by assumption) ?_; rotate_left; (intro w hSw; (try dsimp only at hSw); go_simp); (try with_reducible rfl); (try simp only [Act.put, List.setIfInBounds_toArray, List.set_cons_zero, List.set_cons_succ])
          refine wpAnyH_ready (rs := [21]) (by kernel_rfl) (by simp) ?_
          refine AllReadyH.cons (o := { dst := none, op := _, type := _, pos := _, after := _, guard := _ }) rfl (fun K hK => ?_) (AllReadyH.nil)
          have u0 := FB8.cell (i := 0) rfl; have f0 := FB8.free 0; have l8 := FB8.lt
          go_simp
          refine hK.out _ _ ⟨(World.cell?_setCell_other _ _ _ _ (by first | (simp; done) | (simp; omega))).trans d0, (World.cell?_setCell_other _ _ _ _ (by first | (simp; done) | (simp; omega))).trans d1⟩ (fun hHeld => ?_)
          clear hK K; (try simp only [Act.put, List.setIfInBounds_toArray, List.set_cons_zero, List.set_cons_succ])
          refine wpAnyH_done (by kernel_rfl) ?_ _
          have FB9 := FB8.set 0 (.slice A2 (xs.length + 1) c2)
          have F9 := F8.off (i := 0) FB8 (by decide) (by decide) (.slice A2 (xs.length + 1) c2)
          replace hb08 := hb08.setCell (p := ⟨gf, 0, none⟩) (Nat.le_refl _) (.slice A2 (xs.length + 1) c2)
          generalize w5.setCell ⟨gf, 0, none⟩ (.slice A2 (xs.length + 1) c2) = w7 at *
          clear ho5 hg5 hgc hone d0 d1 FB8 F8 u0 f0 F7 FB7 hb7 F6 FB6
          cases pb <;> cases qb <;> cases yb <;> cases zb
          · go_wp2
            go_ret
            rw [HN.out.trans (if_neg (by simp))]; exact ⟨rfl, hb08⟩
          · go_wp2
            go_ret
            rw [HN.out.trans (if_neg (by simp))]; exact ⟨rfl, hb08⟩
          · go_wp2
            go_ret
            rw [HN.out.trans (if_neg (by simp))]; exact ⟨rfl, hb08⟩
          · go_wp2
            go_ret
            rw [HN.out.trans (if_neg (by simp))]; exact ⟨rfl, hb08⟩
          · go_wp2
            go_ret
            rw [HN.out.trans (if_neg (by simp))]; exact ⟨rfl, hb08⟩
          · go_wp2
            go_ret
            rw [HN.out.trans (if_neg (by simp))]; exact ⟨rfl, hb08⟩
          · go_wp2
            go_ret
            rw [HN.out.trans (if_neg (by simp))]; exact ⟨rfl, hb08⟩
          · go_wp2
            go_ret
            rw [HN.out.trans (if_neg (by simp))]; exact ⟨rfl, hb08⟩
          · go_wp2
            go_ret
            rw [HN.out.trans (if_neg (by simp))]; exact ⟨rfl, hb08⟩
          · go_wp2
            go_ret
            rw [HN.out.trans (if_neg (by simp))]; exact ⟨rfl, hb08⟩
          · go_wp2
            go_ret
            rw [HN.out.trans (if_neg (by simp))]; exact ⟨rfl, hb08⟩
          · go_wp2
            go_ret
            rw [HN.out.trans (if_neg (by simp))]; exact ⟨rfl, hb08⟩
          · go_wp2
            go_ret
            rw [HN.out.trans (if_neg (by simp))]; exact ⟨rfl, hb08⟩
          · go_wp2
            go_ret
            rw [HN.out.trans (if_neg (by simp))]; exact ⟨rfl, hb08⟩
          · go_wp2
            go_ret
            rw [HN.out.trans (if_neg (by simp))]; exact ⟨rfl, hb08⟩
          · go_wp2
            go_ret
            rw [HN.out.trans (if_pos (by simp))]; exact ⟨A2, c2, B, d, rfl, by rw [List.length_append]; exact FB9, F9, hb08⟩
        ·
          go_simp
          (go_at_call 37; (with_reducible refine (Hs _).mono ?_); rintro e v9 ⟨rfl, rfl⟩)
          try go_wp2_with fail
          refine hK.out _ _ ⟨d0, d1⟩ (fun hHeld => ?_)
          clear hK K; (try simp only [Act.put, List.setIfInBounds_toArray, List.set_cons_zero, List.set_cons_succ])
          refine wpAnyH_take (i := 16) (oi := { dst := some 149, op := _, type := _, pos := _, after := _, guard := _ }) (v := ?_) rfl (by kernel_rfl) (by kernel_rfl) (by kernel_rfl) (fun _ _ _ h => h) (Or.inl ⟨by rfl, ?_⟩) (by assumption) ?_; rotate_left; (intro w hSw; (try dsimp only at hSw); go_simp); (try with_reducible rfl); (try simp only [Act.put, List.setIfInBounds_toArray, List.set_cons_zero, List.set_cons_succ])
          refine wpAnyH_ready (rs := [4, 17]) (by kernel_rfl) (by simp) ?_
          refine AllReadyH.cons (o := { dst := some 137, op := _, type := _, pos := _, after := _, guard := _ }) rfl (fun K hK => ?_) (AllReadyH.cons (o := { dst := some 150, op := _, type := _, pos := _, after := _, guard := _ }) rfl (fun K hK => ?_) (AllReadyH.nil))
          ·
            go_simp
            refine hK.out _ _ ⟨d0, d1⟩ (fun hHeld => ?_)
            clear hK K; (try simp only [Act.put, List.setIfInBounds_toArray, List.set_cons_zero, List.set_cons_succ])
            refine wpAnyH_ready (rs := [17]) (by kernel_rfl) (by simp) ?_
            refine AllReadyH.cons (o := { dst := some 150, op := _, type := _, pos := _, after := _, guard := _ }) rfl (fun K hK => ?_) (AllReadyH.nil)
            go_simp
            refine hK.out _ _ ⟨(((Below.refl v6.heap.size v6).alloc (Nat.le_refl _) _).cell (p := ⟨w.heap.size, 0, none⟩) lb6).trans d0, (((Below.refl v6.heap.size v6).alloc (Nat.le_refl _) _).cell (p := ⟨w.heap.size, 1, none⟩) lb6).trans d1⟩ (fun hHeld => ?_)
            clear hK K; (try simp only [Act.put, List.setIfInBounds_toArray, List.set_cons_zero, List.set_cons_succ])
            have hone := (oneP v6 ⟨n, 1, p1, q1, y1, z1⟩).read.as
            have hb7 : Below v6.heap.size v6 (World.alloc v6 (.cells #[.string n, .int .i64 1, .int .i64 p1, .int .i64 q1, .int .i64 y1, .int .i64 z1] 50)).drew := ((Below.refl v6.heap.size v6).alloc (Nat.le_refl _) _).drew
            replace hone : EPerson.AS (World.alloc v6 (.cells #[.string n, .int .i64 1, .int .i64 p1, .int .i64 q1, .int .i64 y1, .int .i64 z1] 50)).drew v6.heap.size (v6.heap.size + 1) (some ⟨v6.heap.size, 0, none⟩) [⟨n, 1, p1, q1, y1, z1⟩] := hone.drew
            generalize (World.alloc v6 (.cells #[.string n, .int .i64 1, .int .i64 p1, .int .i64 q1, .int .i64 y1, .int .i64 z1] 50)).drew = v7 at *
            have F7 := F6.below hb7; have FB7 := FB6.below hb7 lF6; have hz7 := hb7.size; have hb07 := hb06.trans (hb7.mono (Nat.le_of_lt lF6)); have lF7 := FB7.lt
            replace d0 := (hb7.cell (p := ⟨w.heap.size, 0, none⟩) lb6).trans d0; replace d1 := (hb7.cell (p := ⟨w.heap.size, 1, none⟩) lb6).trans d1; replace cf0 := (hb7.cell (p := ⟨gf, 0, none⟩) lF6).trans cf0
            refine wpAnyH_ready (rs := [18]) (by kernel_rfl) (by simp) ?_
            refine AllReadyH.cons (o := { dst := some 151, op := _, type := _, pos := _, after := _, guard := _ }) rfl (fun K hK => ?_) (AllReadyH.nil)
            refine step_appN flatPerson tyPersonS A xs 1 F7.pp rfl hone _ _ rfl rfl rfl rfl (show xs.length + 1 ≤ 1048576 by omega) (by decide) F7.le ?_
            intro A2 c2 w5 ho5 hg5
            rw [show (xs ++ [(⟨n, 1, p1, q1, y1, z1⟩ : Person)]).length = xs.length + 1 by simp]
            have hgc : ∀ k, (k < lo ∨ w.heap.size ≤ k) → k < v7.heap.size → w5.heap[k]? = v7.heap[k]? := fun k k1 k2 => hg5.block k k2 (fun e => by have := hBk k e.symm; omega)
            refine hK.out _ _ ⟨(World.cell?_of_block (hgc w.heap.size (.inr (Nat.le_refl _)) (by omega))).trans d0, (World.cell?_of_block (hgc w.heap.size (.inr (Nat.le_refl _)) (by omega))).trans d1⟩ (fun hHeld => ?_)
            clear hK K; (try simp only [Act.put, List.setIfInBounds_toArray, List.set_cons_zero, List.set_cons_succ])
            have FB8 : Blk w5 gf 25 #[.slice A xs.length c, .slice B ys.length d] := (hgc gf (.inl hgf) lF7).trans FB7
            have F8 := F7.addP ho5 hg5; have hb08 := hb07.trans ((F7.belowP hg5).mono (Nat.le_of_lt hgf)); have lb8 : w.heap.size < w5.heap.size := by have := hg5.size; omega
            replace d0 := (World.cell?_of_block (hgc w.heap.size (.inr (Nat.le_refl _)) (by omega))).trans d0; replace d1 := (World.cell?_of_block (hgc w.heap.size (.inr (Nat.le_refl _)) (by omega))).trans d1; clear cf0
            refine wpAnyH_take (i := 19) (oi := { dst := some 152, op := _, type := _, pos := _, after := _, guard := _ }) (v := ?_) rfl (by kernel_rfl) (by kernel_rfl) (by kernel_rfl) (fun _ _ _ h => h) (Or.inl ⟨by rfl, ?_⟩) (by assumption) ?_; rotate_left; (intro w hSw; (try dsimp only at hSw); go_simp); (try with_reducible rfl); (try simp only [Act.put, List.setIfInBounds_toArray, List.set_cons_zero, List.set_cons_succ])
            refine wpAnyH_take (i := 20) (oi := { dst := some 153, op := _, type := _, pos := _, after := _, guard := _ }) (v := ?_) rfl (by kernel_rfl) (by kernel_rfl) (by kernel_rfl) (fun _ _ _ h => h) (Or.inl ⟨by rfl, ?_⟩) (by assumption) ?_; rotate_left; (intro w hSw; (try dsimp only at hSw); go_simp); (try with_reducible rfl); (try simp only [Act.put, List.setIfInBounds_toArray, List.set_cons_zero, List.set_cons_succ])
            refine wpAnyH_ready (rs := [21]) (by kernel_rfl) (by simp) ?_
            refine AllReadyH.cons (o := { dst := none, op := _, type := _, pos := _, after := _, guard := _ }) rfl (fun K hK => ?_) (AllReadyH.nil)
            have u0 := FB8.cell (i := 0) rfl; have f0 := FB8.free 0; have l8 := FB8.lt
            go_simp
            refine hK.out _ _ ⟨(World.cell?_setCell_other _ _ _ _ (by first | (simp; done) | (simp; omega))).trans d0, (World.cell?_setCell_other _ _ _ _ (by first | (simp; done) | (simp; omega))).trans d1⟩ (fun hHeld => ?_)
            clear hK K; (try simp only [Act.put, List.setIfInBounds_toArray, List.set_cons_zero, List.set_cons_succ])
            refine wpAnyH_done (by kernel_rfl) ?_ _
            have FB9 := FB8.set 0 (.slice A2 (xs.length + 1) c2)
            have F9 := F8.off (i := 0) FB8 (by decide) (by decide) (.slice A2 (xs.length + 1) c2)
            replace hb08 := hb08.setCell (p := ⟨gf, 0, none⟩) (Nat.le_refl _) (.slice A2 (xs.length + 1) c2)
            generalize w5.setCell ⟨gf, 0, none⟩ (.slice A2 (xs.length + 1) c2) = w7 at *
            clear ho5 hg5 hgc hone d0 d1 FB8 F8 u0 f0 F7 FB7 hb7 F6 FB6
            cases pb <;> cases qb <;> cases yb <;> cases zb
            · go_wp2
              go_ret
              rw [HN.out.trans (if_neg (by simp))]; exact ⟨rfl, hb08⟩
            · go_wp2
              go_ret
              rw [HN.out.trans (if_neg (by simp))]; exact ⟨rfl, hb08⟩
            · go_wp2
              go_ret
              rw [HN.out.trans (if_neg (by simp))]; exact ⟨rfl, hb08⟩
            · go_wp2
              go_ret
              rw [HN.out.trans (if_neg (by simp))]; exact ⟨rfl, hb08⟩
            · go_wp2
              go_ret
              rw [HN.out.trans (if_neg (by simp))]; exact ⟨rfl, hb08⟩
            · go_wp2
              go_ret
              rw [HN.out.trans (if_neg (by simp))]; exact ⟨rfl, hb08⟩
            · go_wp2
              go_ret
              rw [HN.out.trans (if_neg (by simp))]; exact ⟨rfl, hb08⟩
            · go_wp2
              go_ret
              rw [HN.out.trans (if_neg (by simp))]; exact ⟨rfl, hb08⟩
            · go_wp2
              go_ret
              rw [HN.out.trans (if_neg (by simp))]; exact ⟨rfl, hb08⟩
            · go_wp2
              go_ret
              rw [HN.out.trans (if_neg (by simp))]; exact ⟨rfl, hb08⟩
            · go_wp2
              go_ret
              rw [HN.out.trans (if_neg (by simp))]; exact ⟨rfl, hb08⟩
            · go_wp2
              go_ret
              rw [HN.out.trans (if_neg (by simp))]; exact ⟨rfl, hb08⟩
            · go_wp2
              go_ret
              rw [HN.out.trans (if_neg (by simp))]; exact ⟨rfl, hb08⟩
            · go_wp2
              go_ret
              rw [HN.out.trans (if_neg (by simp))]; exact ⟨rfl, hb08⟩
            · go_wp2
              go_ret
              rw [HN.out.trans (if_neg (by simp))]; exact ⟨rfl, hb08⟩
            · go_wp2
              go_ret
              rw [HN.out.trans (if_pos (by simp))]; exact ⟨A2, c2, B, d, rfl, by rw [List.length_append]; exact FB9, F9, hb08⟩
          ·
            go_simp
            refine hK.out _ _ ⟨(((Below.refl v6.heap.size v6).alloc (Nat.le_refl _) _).cell (p := ⟨w.heap.size, 0, none⟩) lb6).trans d0, (((Below.refl v6.heap.size v6).alloc (Nat.le_refl _) _).cell (p := ⟨w.heap.size, 1, none⟩) lb6).trans d1⟩ (fun hHeld => ?_)
            clear hK K; (try simp only [Act.put, List.setIfInBounds_toArray, List.set_cons_zero, List.set_cons_succ])
            have hone := (oneP v6 ⟨n, 1, p1, q1, y1, z1⟩).read.as
            have hb7 : Below v6.heap.size v6 (World.alloc v6 (.cells #[.string n, .int .i64 1, .int .i64 p1, .int .i64 q1, .int .i64 y1, .int .i64 z1] 50)).drew := ((Below.refl v6.heap.size v6).alloc (Nat.le_refl _) _).drew
            replace hone : EPerson.AS (World.alloc v6 (.cells #[.string n, .int .i64 1, .int .i64 p1, .int .i64 q1, .int .i64 y1, .int .i64 z1] 50)).drew v6.heap.size (v6.heap.size + 1) (some ⟨v6.heap.size, 0, none⟩) [⟨n, 1, p1, q1, y1, z1⟩] := hone.drew
            generalize (World.alloc v6 (.cells #[.string n, .int .i64 1, .int .i64 p1, .int .i64 q1, .int .i64 y1, .int .i64 z1] 50)).drew = v7 at *
            have F7 := F6.below hb7; have FB7 := FB6.below hb7 lF6; have hz7 := hb7.size; have hb07 := hb06.trans (hb7.mono (Nat.le_of_lt lF6)); have lF7 := FB7.lt
            replace d0 := (hb7.cell (p := ⟨w.heap.size, 0, none⟩) lb6).trans d0; replace d1 := (hb7.cell (p := ⟨w.heap.size, 1, none⟩) lb6).trans d1; replace cf0 := (hb7.cell (p := ⟨gf, 0, none⟩) lF6).trans cf0
            refine wpAnyH_ready (rs := [4]) (by kernel_rfl) (by simp) ?_
            refine AllReadyH.cons (o := { dst := some 137, op := _, type := _, pos := _, after := _, guard := _ }) rfl (fun K hK => ?_) (AllReadyH.nil)
            go_simp
            refine hK.out _ _ ⟨d0, d1⟩ (fun hHeld => ?_)
            clear hK K; (try simp only [Act.put, List.setIfInBounds_toArray, List.set_cons_zero, List.set_cons_succ])
            refine wpAnyH_ready (rs := [18]) (by kernel_rfl) (by simp) ?_
            refine AllReadyH.cons (o := { dst := some 151, op := _, type := _, pos := _, after := _, guard := _ }) rfl (fun K hK => ?_) (AllReadyH.nil)
            refine step_appN flatPerson tyPersonS A xs 1 F7.pp rfl hone _ _ rfl rfl rfl rfl (show xs.length + 1 ≤ 1048576 by omega) (by decide) F7.le ?_
            intro A2 c2 w5 ho5 hg5
            rw [show (xs ++ [(⟨n, 1, p1, q1, y1, z1⟩ : Person)]).length = xs.length + 1 by simp]
            have hgc : ∀ k, (k < lo ∨ w.heap.size ≤ k) → k < v7.heap.size → w5.heap[k]? = v7.heap[k]? := fun k k1 k2 => hg5.block k k2 (fun e => by have := hBk k e.symm; omega)
            refine hK.out _ _ ⟨(World.cell?_of_block (hgc w.heap.size (.inr (Nat.le_refl _)) (by omega))).trans d0, (World.cell?_of_block (hgc w.heap.size (.inr (Nat.le_refl _)) (by omega))).trans d1⟩ (fun hHeld => ?_)
            clear hK K; (try simp only [Act.put, List.setIfInBounds_toArray, List.set_cons_zero, List.set_cons_succ])
            have FB8 : Blk w5 gf 25 #[.slice A xs.length c, .slice B ys.length d] := (hgc gf (.inl hgf) lF7).trans FB7
            have F8 := F7.addP ho5 hg5; have hb08 := hb07.trans ((F7.belowP hg5).mono (Nat.le_of_lt hgf)); have lb8 : w.heap.size < w5.heap.size := by have := hg5.size; omega
            replace d0 := (World.cell?_of_block (hgc w.heap.size (.inr (Nat.le_refl _)) (by omega))).trans d0; replace d1 := (World.cell?_of_block (hgc w.heap.size (.inr (Nat.le_refl _)) (by omega))).trans d1; clear cf0
            refine wpAnyH_take (i := 19) (oi := { dst := some 152, op := _, type := _, pos := _, after := _, guard := _ }) (v := ?_) rfl (by kernel_rfl) (by kernel_rfl) (by kernel_rfl) (fun _ _ _ h => h) (Or.inl ⟨by rfl, ?_⟩) (by assumption) ?_; rotate_left; (intro w hSw; (try dsimp only at hSw); go_simp); (try with_reducible rfl); (try simp only [Act.put, List.setIfInBounds_toArray, List.set_cons_zero, List.set_cons_succ])
            refine wpAnyH_take (i := 20) (oi := { dst := some 153, op := _, type := _, pos := _, after := _, guard := _ }) (v := ?_) rfl (by kernel_rfl) (by kernel_rfl) (by kernel_rfl) (fun _ _ _ h => h) (Or.inl ⟨by rfl, ?_⟩) (by assumption) ?_; rotate_left; (intro w hSw; (try dsimp only at hSw); go_simp); (try with_reducible rfl); (try simp only [Act.put, List.setIfInBounds_toArray, List.set_cons_zero, List.set_cons_succ])
            refine wpAnyH_ready (rs := [21]) (by kernel_rfl) (by simp) ?_
            refine AllReadyH.cons (o := { dst := none, op := _, type := _, pos := _, after := _, guard := _ }) rfl (fun K hK => ?_) (AllReadyH.nil)
            have u0 := FB8.cell (i := 0) rfl; have f0 := FB8.free 0; have l8 := FB8.lt
            go_simp
            refine hK.out _ _ ⟨(World.cell?_setCell_other _ _ _ _ (by first | (simp; done) | (simp; omega))).trans d0, (World.cell?_setCell_other _ _ _ _ (by first | (simp; done) | (simp; omega))).trans d1⟩ (fun hHeld => ?_)
            clear hK K; (try simp only [Act.put, List.setIfInBounds_toArray, List.set_cons_zero, List.set_cons_succ])
            refine wpAnyH_done (by kernel_rfl) ?_ _
            have FB9 := FB8.set 0 (.slice A2 (xs.length + 1) c2)
            have F9 := F8.off (i := 0) FB8 (by decide) (by decide) (.slice A2 (xs.length + 1) c2)
            replace hb08 := hb08.setCell (p := ⟨gf, 0, none⟩) (Nat.le_refl _) (.slice A2 (xs.length + 1) c2)
            generalize w5.setCell ⟨gf, 0, none⟩ (.slice A2 (xs.length + 1) c2) = w7 at *
            clear ho5 hg5 hgc hone d0 d1 FB8 F8 u0 f0 F7 FB7 hb7 F6 FB6
            cases pb <;> cases qb <;> cases yb <;> cases zb
            · go_wp2
              go_ret
              rw [HN.out.trans (if_neg (by simp))]; exact ⟨rfl, hb08⟩
            · go_wp2
              go_ret
              rw [HN.out.trans (if_neg (by simp))]; exact ⟨rfl, hb08⟩
            · go_wp2
              go_ret
              rw [HN.out.trans (if_neg (by simp))]; exact ⟨rfl, hb08⟩
            · go_wp2
              go_ret
              rw [HN.out.trans (if_neg (by simp))]; exact ⟨rfl, hb08⟩
            · go_wp2
              go_ret
              rw [HN.out.trans (if_neg (by simp))]; exact ⟨rfl, hb08⟩
            · go_wp2
              go_ret
              rw [HN.out.trans (if_neg (by simp))]; exact ⟨rfl, hb08⟩
            · go_wp2
              go_ret
              rw [HN.out.trans (if_neg (by simp))]; exact ⟨rfl, hb08⟩
            · go_wp2
              go_ret
              rw [HN.out.trans (if_neg (by simp))]; exact ⟨rfl, hb08⟩
            · go_wp2
              go_ret
              rw [HN.out.trans (if_neg (by simp))]; exact ⟨rfl, hb08⟩
            · go_wp2
              go_ret
              rw [HN.out.trans (if_neg (by simp))]; exact ⟨rfl, hb08⟩
            · go_wp2
              go_ret
              rw [HN.out.trans (if_neg (by simp))]; exact ⟨rfl, hb08⟩
            · go_wp2
              go_ret
              rw [HN.out.trans (if_neg (by simp))]; exact ⟨rfl, hb08⟩
            · go_wp2
              go_ret
              rw [HN.out.trans (if_neg (by simp))]; exact ⟨rfl, hb08⟩
            · go_wp2
              go_ret
              rw [HN.out.trans (if_neg (by simp))]; exact ⟨rfl, hb08⟩
            · go_wp2
              go_ret
              rw [HN.out.trans (if_neg (by simp))]; exact ⟨rfl, hb08⟩
            · go_wp2
              go_ret
              rw [HN.out.trans (if_pos (by simp))]; exact ⟨A2, c2, B, d, rfl, by rw [List.length_append]; exact FB9, F9, hb08⟩
      by_cases hg2 : g = wWoman
      · clear n1 hg
        have hg := hg2
        clear hg2
        have hg2 : g = ⟨#[119, 111, 109, 97, 110]⟩ := hg
        subst hg2
        clear hg
        obtain ⟨⟨p1, pb⟩, hpq⟩ : ∃ q, idxM a xs = q := ⟨_, rfl⟩
        obtain ⟨⟨q1, qb⟩, hqq⟩ : ∃ q, idxM b xs = q := ⟨_, rfl⟩
        obtain ⟨⟨y1, yb⟩, hyq⟩ : ∃ q, optN (readP y) = q := ⟨_, rfl⟩
        obtain ⟨⟨z1, zb⟩, hzq⟩ : ∃ q, optN (openP z) = q := ⟨_, rfl⟩
        have HN := Lib.hid (show lineM readP openP ⟨xs, ys⟩ [⟨#[119, 111, 109, 97, 110]⟩, n, a, b, y, z] = if pb = true ∧ qb = true ∧ yb = true ∧ zb = true then some ⟨xs ++ [⟨n, 2, p1, q1, y1, z1⟩], ys⟩ else none by rw [lineM, if_pos (by decide), lineH_P]; simp only [hpq, hqq, hyq, hzq]; rfl)
        have Hs := fun W => readSex_any ⟨#[119, 111, 109, 97, 110]⟩ W
        rw [show sexM ⟨#[119, 111, 109, 97, 110]⟩ = 2 by decide] at Hs
        have Ha := fun W h1 h2 h3 => readParent_any A B c d lo w1.heap.size xs ys a W h1 h2 h3
        have Hb := fun W h1 h2 h3 => readParent_any A B c d lo w1.heap.size xs ys b W h1 h2 h3
        have Hy := fun W hw => readYear_any y W hw
        have Hz := fun W hw => readOpen_any z W hw
        rw [hpq] at Ha; rw [hqq] at Hb; rw [hyq] at Hy; rw [hzq] at Hz
        clear hpq hqq hyq hzq
        go_upto_region 13 with (go_at_call 37; (with_reducible refine (Hs _).mono ?_); rintro e v2 ⟨rfl, rfl⟩)
        have hX := F1.pp.read.as; have hY := F1.uu.read.as
        have hq : Below w1.heap.size w1 w1 := Below.refl _ _
        go_upto_region 13 with fail
        go_region_held3 (fun w' => w'.cell? ⟨gf, 0, none⟩ = some (.slice A xs.length c) ∧ w'.cell? ⟨gf, 1, none⟩ = some (.slice B ys.length d) ∧ w'.cell? ⟨w.heap.size, 2, none⟩ = some (.string a) ∧ w'.cell? ⟨w.heap.size, 3, none⟩ = some (.string b)) (exact ⟨(hq.cell (p := ⟨gf, 0, none⟩) lF).trans e0, (hq.cell (p := ⟨gf, 1, none⟩) lF).trans e1, (hq.cell (p := ⟨w.heap.size, 2, none⟩) g2).trans c2, (hq.cell (p := ⟨w.heap.size, 3, none⟩) g2).trans c3⟩) ((go_at_call 38; (with_reducible refine (Ha _ (hX.same (by first | exact Same.of_below hq (Nat.le_refl _) | exact (Same.of_below hq (Nat.le_refl _)).drew)) (hY.same (by first | exact Same.of_below hq (Nat.le_refl _) | exact (Same.of_below hq (Nat.le_refl _)).drew)) (by first | exact hq.size | exact hq.drew.size)).mono ?_); rintro e v3 ⟨rfl, hv3⟩; (first | (replace hv3 := undrew hv3) | skip); replace hq := hq.trans (hv3.mono hq.size)))
        go_upto_region 14 with fail
        go_region_held3 (fun w' => w'.cell? ⟨gf, 0, none⟩ = some (.slice A xs.length c) ∧ w'.cell? ⟨gf, 1, none⟩ = some (.slice B ys.length d) ∧ w'.cell? ⟨w.heap.size, 2, none⟩ = some (.string a) ∧ w'.cell? ⟨w.heap.size, 3, none⟩ = some (.string b)) (exact ⟨(hq.cell (p := ⟨gf, 0, none⟩) lF).trans e0, (hq.cell (p := ⟨gf, 1, none⟩) lF).trans e1, (hq.cell (p := ⟨w.heap.size, 2, none⟩) g2).trans c2, (hq.cell (p := ⟨w.heap.size, 3, none⟩) g2).trans c3⟩) ((go_at_call 38; (with_reducible refine (Hb _ (hX.same (by first | exact Same.of_below hq (Nat.le_refl _) | exact (Same.of_below hq (Nat.le_refl _)).drew)) (hY.same (by first | exact Same.of_below hq (Nat.le_refl _) | exact (Same.of_below hq (Nat.le_refl _)).drew)) (by first | exact hq.size | exact hq.drew.size)).mono ?_); rintro e v4 ⟨rfl, hv4⟩; (first | (replace hv4 := undrew hv4) | skip); replace hq := hq.trans (hv4.mono hq.size)))
        have k4 := (hq.cell (p := ⟨w.heap.size, 4, none⟩) g2).trans c4
        go_upto_region 16 with (go_at_call 35; (with_reducible refine (Hy _ (hV1.below hq)).mono ?_); rintro e v5 ⟨rfl, hv5⟩)
        replace hq := hq.trans (hv5.mono hq.size)
        have k5 := (hq.cell (p := ⟨w.heap.size, 5, none⟩) g2).trans c5
        go_upto_region 17 with (go_at_call 36; (with_reducible refine (Hz _ (hV1.below hq)).mono ?_); rintro e v6 ⟨rfl, hv6⟩)
        replace hq := hq.trans (hv6.mono hq.size)
        have FB6 := FB.below hq lF; have F6 := F1.below hq; have hb06 : Below gf w v6 := (hbw.mono (Nat.le_of_lt lF0)).trans (hq.mono (Nat.le_of_lt lF)); have lo6 := F6.le; have lF6 := FB6.lt; have zq := hq.size
        replace e0 := FB6.cell (i := 0) rfl; replace e1 := FB6.cell (i := 1) rfl
        clear Ha Hb Hy Hz hX hY F1 FB hbw lF hv5 hv6 k4 k5
        have hBk := HF.out.pp.blkv
        have d0 : v6.drew.cell? ⟨w.heap.size, 0, none⟩ = some (.string ⟨#[119, 111, 109, 97, 110]⟩) := (hq.cell (p := ⟨w.heap.size, 0, none⟩) g2).trans c0
        have d1 : v6.drew.cell? ⟨w.heap.size, 1, none⟩ = some (.string n) := (hq.cell (p := ⟨w.heap.size, 1, none⟩) g2).trans c1
        have cf0 : v6.drew.cell? ⟨gf, 0, none⟩ = some (.slice A xs.length c) := e0
        have lb6 : w.heap.size < v6.heap.size := by omega
        clear e0 e1 c0 c1 c2 c3 c4 c5 hq
        refine wp_region_held_drew (S := fun w' => w'.cell? ⟨w.heap.size, 0, none⟩ = some (.string ⟨#[119, 111, 109, 97, 110]⟩) ∧ w'.cell? ⟨w.heap.size, 1, none⟩ = some (.string n)) (by kernel_rfl) ⟨d0, d1⟩ (fun hHeld => ?_)
        refine wpAnyH_take (i := 0) (oi := { dst := some 133, op := _, type := _, pos := _, after := _, guard := _ }) (v := ?_) rfl (by kernel_rfl) (by kernel_rfl) (by kernel_rfl) (fun _ _ _ h => h) (Or.inl ⟨by rfl, ?_⟩) (by assumption) ?_; rotate_left; (intro w hSw; (try dsimp only at hSw); go_simp); (try with_reducible rfl); (try simp only [Act.put, List.setIfInBounds_toArray, List.set_cons_zero, List.set_cons_succ])
        refine wpAnyH_take (i := 1) (oi := { dst := some 134, op := _, type := _, pos := _, after := _, guard := _ }) (v := ?_) rfl (by kernel_rfl) (by kernel_rfl) (by kernel_rfl) (fun _ _ _ h => h) (Or.inl ⟨by rfl, ?_⟩) (by assumption) ?_; rotate_left; (intro w hSw; (try dsimp only at hSw); go_simp); (try with_reducible rfl); (try simp only [Act.put, List.setIfInBounds_toArray, List.set_cons_zero, List.set_cons_succ])
        refine wpAnyH_take (i := 2) (oi := { dst := some 135, op := _, type := _, pos := _, after := _, guard := _ }) (v := ?_) rfl (by kernel_rfl) (by kernel_rfl) (by kernel_rfl) (fun _ _ _ h => h) (Or.inl ⟨by rfl, ?_⟩) (by assumption) ?_; rotate_left; (intro w hSw; (try dsimp only at hSw); go_simp); (try with_reducible rfl); (try simp only [Act.put, List.setIfInBounds_toArray, List.set_cons_zero, List.set_cons_succ])
        refine wpAnyH_take (i := 3) (oi := { dst := some 136, op := _, type := _, pos := _, after := _, guard := _ }) (v := ?_) rfl (by kernel_rfl) (by kernel_rfl) (by kernel_rfl) (fun _ _ _ h => h) (Or.inl ⟨by rfl, ?_⟩) (by assumption) ?_; rotate_left; (intro w hSw; (try dsimp only at hSw); go_simp); (try with_reducible rfl); (try simp only [Act.put, List.setIfInBounds_toArray, List.set_cons_zero, List.set_cons_succ])
        refine wpAnyH_take (i := 5) (oi := { dst := some 138, op := _, type := _, pos := _, after := _, guard := _ }) (v := ?_) rfl (by kernel_rfl) (by kernel_rfl) (by kernel_rfl) (fun _ _ _ h => h) (Or.inl ⟨by rfl, ?_⟩) (by assumption) ?_; rotate_left; (intro w hSw; (try dsimp only at hSw); go_simp); (try with_reducible rfl); (try simp only [Act.put, List.setIfInBounds_toArray, List.set_cons_zero, List.set_cons_succ])
        refine wpAnyH_take (i := 6) (oi := { dst := some 139, op := _, type := _, pos := _, after := _, guard := _ }) (v := ?_) rfl (by kernel_rfl) (by kernel_rfl) (by kernel_rfl) (fun _ _ _ h => h) (Or.inl ⟨by rfl, ?_⟩) (by assumption) ?_; rotate_left; (intro w hSw; (try dsimp only at hSw); go_simp); (try with_reducible rfl); (try simp only [Act.put, List.setIfInBounds_toArray, List.set_cons_zero, List.set_cons_succ])
        refine wpAnyH_take (i := 7) (oi := { dst := some 140, op := _, type := _, pos := _, after := _, guard := _ }) (v := ?_) rfl (by kernel_rfl) (by kernel_rfl) (by kernel_rfl) (fun _ _ _ h => h) (Or.inl ⟨by rfl, ?_⟩) (by assumption) ?_; rotate_left; (intro w hSw; (try dsimp only at hSw); go_simp); (try with_reducible rfl); (try simp only [Act.put, List.setIfInBounds_toArray, List.set_cons_zero, List.set_cons_succ])
        refine wpAnyH_take (i := 8) (oi := { dst := some 141, op := _, type := _, pos := _, after := _, guard := _ }) (v := ?_) rfl (by kernel_rfl) (by kernel_rfl) (by kernel_rfl) (fun _ _ _ h => h) (Or.inl ⟨by rfl, ?_⟩) (by assumption) ?_; rotate_left; (intro w hSw; (try dsimp only at hSw); go_simp); (try with_reducible rfl); (try simp only [Act.put, List.setIfInBounds_toArray, List.set_cons_zero, List.set_cons_succ])
        refine wpAnyH_take (i := 9) (oi := { dst := some 142, op := _, type := _, pos := _, after := _, guard := _ }) (v := ?_) rfl (by kernel_rfl) (by kernel_rfl) (by kernel_rfl) (fun _ _ _ h => h) (Or.inl ⟨by rfl, ?_⟩) (by assumption) ?_; rotate_left; (intro w hSw; (try dsimp only at hSw); go_simp); (try with_reducible rfl); (try simp only [Act.put, List.setIfInBounds_toArray, List.set_cons_zero, List.set_cons_succ])
        refine wpAnyH_take (i := 10) (oi := { dst := some 143, op := _, type := _, pos := _, after := _, guard := _ }) (v := ?_) rfl (by kernel_rfl) (by kernel_rfl) (by kernel_rfl) (fun _ _ _ h => h) (Or.inl ⟨by rfl, ?_⟩) (by assumption) ?_; rotate_left; (intro w hSw; (try dsimp only at hSw); go_simp); (try with_reducible rfl); (try simp only [Act.put, List.setIfInBounds_toArray, List.set_cons_zero, List.set_cons_succ])
        refine wpAnyH_take (i := 12) (oi := { dst := some 145, op := _, type := _, pos := _, after := _, guard := _ }) (v := ?_) rfl (by kernel_rfl) (by kernel_rfl) (by kernel_rfl) (fun _ _ _ h => h) (Or.inl ⟨by rfl, ?_⟩) (by assumption) ?_; rotate_left; (intro w hSw; (try dsimp only at hSw); go_simp); (try with_reducible rfl); (try simp only [Act.put, List.setIfInBounds_toArray, List.set_cons_zero, List.set_cons_succ])
        refine wpAnyH_take (i := 13) (oi := { dst := some 146, op := _, type := _, pos := _, after := _, guard := _ }) (v := ?_) rfl (by kernel_rfl) (by kernel_rfl) (by kernel_rfl) (fun _ _ _ h => h) (Or.inl ⟨by rfl, ?_⟩) (by assumption) ?_; rotate_left; (intro w hSw; (try dsimp only at hSw); go_simp); (try with_reducible rfl); (try simp only [Act.put, List.setIfInBounds_toArray, List.set_cons_zero, List.set_cons_succ])
        refine wpAnyH_take (i := 14) (oi := { dst := some 147, op := _, type := _, pos := _, after := _, guard := _ }) (v := ?_) rfl (by kernel_rfl) (by kernel_rfl) (by kernel_rfl) (fun _ _ _ h => h) (Or.inl ⟨by rfl, ?_⟩) (by assumption) ?_; rotate_left; (intro w hSw; (try dsimp only at hSw); go_simp); (try with_reducible rfl); (try simp only [Act.put, List.setIfInBounds_toArray, List.set_cons_zero, List.set_cons_succ])
        refine wpAnyH_take (i := 15) (oi := { dst := some 148, op := _, type := _, pos := _, after := _, guard := _ }) (v := ?_) rfl (by kernel_rfl) (by kernel_rfl) (by kernel_rfl) (fun _ _ _ h => h) (Or.inl ⟨by rfl, ?_⟩) (by assumption) ?_; rotate_left; (intro w hSw; (try dsimp only at hSw); go_simp); (try with_reducible rfl); (try simp only [Act.put, List.setIfInBounds_toArray, List.set_cons_zero, List.set_cons_succ])
        refine wpAnyH_ready (rs := [4, 11]) (by kernel_rfl) (by simp) ?_
        refine AllReadyH.cons (o := { dst := some 137, op := _, type := _, pos := _, after := _, guard := _ }) rfl (fun K hK => ?_) (AllReadyH.cons (o := { dst := some 144, op := _, type := _, pos := _, after := _, guard := _ }) rfl (fun K hK => ?_) (AllReadyH.nil))
        ·
          go_simp
          refine hK.out _ _ ⟨d0, d1⟩ (fun hHeld => ?_)
          clear hK K; (try simp only [Act.put, List.setIfInBounds_toArray, List.set_cons_zero, List.set_cons_succ])
          refine wpAnyH_ready (rs := [11]) (by kernel_rfl) (by simp) ?_
          refine AllReadyH.cons (o := { dst := some 144, op := _, type := _, pos := _, after := _, guard := _ }) rfl (fun K hK => ?_) (AllReadyH.nil)
          go_simp
          (go_at_call 37; (with_reducible refine (Hs _).mono ?_); rintro e v9 ⟨rfl, rfl⟩)
          try go_wp2_with fail
          refine hK.out _ _ ⟨d0, d1⟩ (fun hHeld => ?_)
          clear hK K; (try simp only [Act.put, List.setIfInBounds_toArray, List.set_cons_zero, List.set_cons_succ])
          refine wpAnyH_take (i := 16) (oi := { dst := some 149, op := _, type := _, pos := _, after := _, guard := _ }) (v := ?_) rfl (by kernel_rfl) (by kernel_rfl) (by kernel_rfl) (fun _ _ _ h => h) (Or.inl ⟨by rfl, ?_⟩) (by assumption) ?_; rotate_left; (intro w hSw; (try dsimp only at hSw); go_simp); (try with_reducible rfl); (try simp only [Act.put, List.setIfInBounds_toArray, List.set_cons_zero, List.set_cons_succ])
          refine wpAnyH_ready (rs := [17]) (by kernel_rfl) (by simp) ?_
          refine AllReadyH.cons (o := { dst := some 150, op := _, type := _, pos := _, after := _, guard := _ }) rfl (fun K hK => ?_) (AllReadyH.nil)
          go_simp
          refine hK.out _ _ ⟨(((Below.refl v6.heap.size v6).alloc (Nat.le_refl _) _).cell (p := ⟨w.heap.size, 0, none⟩) lb6).trans d0, (((Below.refl v6.heap.size v6).alloc (Nat.le_refl _) _).cell (p := ⟨w.heap.size, 1, none⟩) lb6).trans d1⟩ (fun hHeld => ?_)
          clear hK K; (try simp only [Act.put, List.setIfInBounds_toArray, List.set_cons_zero, List.set_cons_succ])
          have hone := (oneP v6 ⟨n, 2, p1, q1, y1, z1⟩).read.as
          have hb7 : Below v6.heap.size v6 (World.alloc v6 (.cells #[.string n, .int .i64 2, .int .i64 p1, .int .i64 q1, .int .i64 y1, .int .i64 z1] 50)).drew := ((Below.refl v6.heap.size v6).alloc (Nat.le_refl _) _).drew
          replace hone : EPerson.AS (World.alloc v6 (.cells #[.string n, .int .i64 2, .int .i64 p1, .int .i64 q1, .int .i64 y1, .int .i64 z1] 50)).drew v6.heap.size (v6.heap.size + 1) (some ⟨v6.heap.size, 0, none⟩) [⟨n, 2, p1, q1, y1, z1⟩] := hone.drew
          generalize (World.alloc v6 (.cells #[.string n, .int .i64 2, .int .i64 p1, .int .i64 q1, .int .i64 y1, .int .i64 z1] 50)).drew = v7 at *
          have F7 := F6.below hb7; have FB7 := FB6.below hb7 lF6; have hz7 := hb7.size; have hb07 := hb06.trans (hb7.mono (Nat.le_of_lt lF6)); have lF7 := FB7.lt
          replace d0 := (hb7.cell (p := ⟨w.heap.size, 0, none⟩) lb6).trans d0; replace d1 := (hb7.cell (p := ⟨w.heap.size, 1, none⟩) lb6).trans d1; replace cf0 := (hb7.cell (p := ⟨gf, 0, none⟩) lF6).trans cf0
          refine wpAnyH_ready (rs := [18]) (by kernel_rfl) (by simp) ?_
          refine AllReadyH.cons (o := { dst := some 151, op := _, type := _, pos := _, after := _, guard := _ }) rfl (fun K hK => ?_) (AllReadyH.nil)
          refine step_appN flatPerson tyPersonS A xs 1 F7.pp rfl hone _ _ rfl rfl rfl rfl (show xs.length + 1 ≤ 1048576 by omega) (by decide) F7.le ?_
          intro A2 c2 w5 ho5 hg5
          rw [show (xs ++ [(⟨n, 2, p1, q1, y1, z1⟩ : Person)]).length = xs.length + 1 by simp]
          have hgc : ∀ k, (k < lo ∨ w.heap.size ≤ k) → k < v7.heap.size → w5.heap[k]? = v7.heap[k]? := fun k k1 k2 => hg5.block k k2 (fun e => by have := hBk k e.symm; omega)
          refine hK.out _ _ ⟨(World.cell?_of_block (hgc w.heap.size (.inr (Nat.le_refl _)) (by omega))).trans d0, (World.cell?_of_block (hgc w.heap.size (.inr (Nat.le_refl _)) (by omega))).trans d1⟩ (fun hHeld => ?_)
          clear hK K; (try simp only [Act.put, List.setIfInBounds_toArray, List.set_cons_zero, List.set_cons_succ])
          have FB8 : Blk w5 gf 25 #[.slice A xs.length c, .slice B ys.length d] := (hgc gf (.inl hgf) lF7).trans FB7
          have F8 := F7.addP ho5 hg5; have hb08 := hb07.trans ((F7.belowP hg5).mono (Nat.le_of_lt hgf)); have lb8 : w.heap.size < w5.heap.size := by have := hg5.size; omega
          replace d0 := (World.cell?_of_block (hgc w.heap.size (.inr (Nat.le_refl _)) (by omega))).trans d0; replace d1 := (World.cell?_of_block (hgc w.heap.size (.inr (Nat.le_refl _)) (by omega))).trans d1; clear cf0
          refine wpAnyH_take (i := 19) (oi := { dst := some 152, op := _, type := _, pos := _, after := _, guard := _ }) (v := ?_) rfl (by kernel_rfl) (by kernel_rfl) (by kernel_rfl) (fun _ _ _ h => h) (Or.inl ⟨by rfl, ?_⟩) (by assumption) ?_; rotate_left; (intro w hSw; (try dsimp only at hSw); go_simp); (try with_reducible rfl); (try simp only [Act.put, List.setIfInBounds_toArray, List.set_cons_zero, List.set_cons_succ])
          refine wpAnyH_take (i := 20) (oi := { dst := some 153, op := _, type := _, pos := _, after := _, guard := _ }) (v := ?_) rfl (by kernel_rfl) (by kernel_rfl) (by kernel_rfl) (fun _ _ _ h => h) (Or.inl ⟨by rfl, ?_⟩) (by assumption) ?_; rotate_left; (intro w hSw; (try dsimp only at hSw); go_simp); (try with_reducible rfl); (try simp only [Act.put, List.setIfInBounds_toArray, List.set_cons_zero, List.set_cons_succ])
          refine wpAnyH_ready (rs := [21]) (by kernel_rfl) (by simp) ?_
          refine AllReadyH.cons (o := { dst := none, op := _, type := _, pos := _, after := _, guard := _ }) rfl (fun K hK => ?_) (AllReadyH.nil)
          have u0 := FB8.cell (i := 0) rfl; have f0 := FB8.free 0; have l8 := FB8.lt
          go_simp
          refine hK.out _ _ ⟨(World.cell?_setCell_other _ _ _ _ (by first | (simp; done) | (simp; omega))).trans d0, (World.cell?_setCell_other _ _ _ _ (by first | (simp; done) | (simp; omega))).trans d1⟩ (fun hHeld => ?_)
          clear hK K; (try simp only [Act.put, List.setIfInBounds_toArray, List.set_cons_zero, List.set_cons_succ])
          refine wpAnyH_done (by kernel_rfl) ?_ _
          have FB9 := FB8.set 0 (.slice A2 (xs.length + 1) c2)
          have F9 := F8.off (i := 0) FB8 (by decide) (by decide) (.slice A2 (xs.length + 1) c2)
          replace hb08 := hb08.setCell (p := ⟨gf, 0, none⟩) (Nat.le_refl _) (.slice A2 (xs.length + 1) c2)
          generalize w5.setCell ⟨gf, 0, none⟩ (.slice A2 (xs.length + 1) c2) = w7 at *
          clear ho5 hg5 hgc hone d0 d1 FB8 F8 u0 f0 F7 FB7 hb7 F6 FB6
          cases pb <;> cases qb <;> cases yb <;> cases zb
          · go_wp2
            go_ret
            rw [HN.out.trans (if_neg (by simp))]; exact ⟨rfl, hb08⟩
          · go_wp2
            go_ret
            rw [HN.out.trans (if_neg (by simp))]; exact ⟨rfl, hb08⟩
          · go_wp2
            go_ret
            rw [HN.out.trans (if_neg (by simp))]; exact ⟨rfl, hb08⟩
          · go_wp2
            go_ret
            rw [HN.out.trans (if_neg (by simp))]; exact ⟨rfl, hb08⟩
          · go_wp2
            go_ret
            rw [HN.out.trans (if_neg (by simp))]; exact ⟨rfl, hb08⟩
          · go_wp2
            go_ret
            rw [HN.out.trans (if_neg (by simp))]; exact ⟨rfl, hb08⟩
          · go_wp2
            go_ret
            rw [HN.out.trans (if_neg (by simp))]; exact ⟨rfl, hb08⟩
          · go_wp2
            go_ret
            rw [HN.out.trans (if_neg (by simp))]; exact ⟨rfl, hb08⟩
          · go_wp2
            go_ret
            rw [HN.out.trans (if_neg (by simp))]; exact ⟨rfl, hb08⟩
          · go_wp2
            go_ret
            rw [HN.out.trans (if_neg (by simp))]; exact ⟨rfl, hb08⟩
          · go_wp2
            go_ret
            rw [HN.out.trans (if_neg (by simp))]; exact ⟨rfl, hb08⟩
          · go_wp2
            go_ret
            rw [HN.out.trans (if_neg (by simp))]; exact ⟨rfl, hb08⟩
          · go_wp2
            go_ret
            rw [HN.out.trans (if_neg (by simp))]; exact ⟨rfl, hb08⟩
          · go_wp2
            go_ret
            rw [HN.out.trans (if_neg (by simp))]; exact ⟨rfl, hb08⟩
          · go_wp2
            go_ret
            rw [HN.out.trans (if_neg (by simp))]; exact ⟨rfl, hb08⟩
          · go_wp2
            go_ret
            rw [HN.out.trans (if_pos (by simp))]; exact ⟨A2, c2, B, d, rfl, by rw [List.length_append]; exact FB9, F9, hb08⟩
        ·
          go_simp
          (go_at_call 37; (with_reducible refine (Hs _).mono ?_); rintro e v9 ⟨rfl, rfl⟩)
          try go_wp2_with fail
          refine hK.out _ _ ⟨d0, d1⟩ (fun hHeld => ?_)
          clear hK K; (try simp only [Act.put, List.setIfInBounds_toArray, List.set_cons_zero, List.set_cons_succ])
          refine wpAnyH_take (i := 16) (oi := { dst := some 149, op := _, type := _, pos := _, after := _, guard := _ }) (v := ?_) rfl (by kernel_rfl) (by kernel_rfl) (by kernel_rfl) (fun _ _ _ h => h) (Or.inl ⟨by rfl, ?_⟩) (by assumption) ?_; rotate_left; (intro w hSw; (try dsimp only at hSw); go_simp); (try with_reducible rfl); (try simp only [Act.put, List.setIfInBounds_toArray, List.set_cons_zero, List.set_cons_succ])
          refine wpAnyH_ready (rs := [4, 17]) (by kernel_rfl) (by simp) ?_
          refine AllReadyH.cons (o := { dst := some 137, op := _, type := _, pos := _, after := _, guard := _ }) rfl (fun K hK => ?_) (AllReadyH.cons (o := { dst := some 150, op := _, type := _, pos := _, after := _, guard := _ }) rfl (fun K hK => ?_) (AllReadyH.nil))
          ·
            go_simp
            refine hK.out _ _ ⟨d0, d1⟩ (fun hHeld => ?_)
            clear hK K; (try simp only [Act.put, List.setIfInBounds_toArray, List.set_cons_zero, List.set_cons_succ])
            refine wpAnyH_ready (rs := [17]) (by kernel_rfl) (by simp) ?_
            refine AllReadyH.cons (o := { dst := some 150, op := _, type := _, pos := _, after := _, guard := _ }) rfl (fun K hK => ?_) (AllReadyH.nil)
            go_simp
            refine hK.out _ _ ⟨(((Below.refl v6.heap.size v6).alloc (Nat.le_refl _) _).cell (p := ⟨w.heap.size, 0, none⟩) lb6).trans d0, (((Below.refl v6.heap.size v6).alloc (Nat.le_refl _) _).cell (p := ⟨w.heap.size, 1, none⟩) lb6).trans d1⟩ (fun hHeld => ?_)
            clear hK K; (try simp only [Act.put, List.setIfInBounds_toArray, List.set_cons_zero, List.set_cons_succ])
            have hone := (oneP v6 ⟨n, 2, p1, q1, y1, z1⟩).read.as
            have hb7 : Below v6.heap.size v6 (World.alloc v6 (.cells #[.string n, .int .i64 2, .int .i64 p1, .int .i64 q1, .int .i64 y1, .int .i64 z1] 50)).drew := ((Below.refl v6.heap.size v6).alloc (Nat.le_refl _) _).drew
            replace hone : EPerson.AS (World.alloc v6 (.cells #[.string n, .int .i64 2, .int .i64 p1, .int .i64 q1, .int .i64 y1, .int .i64 z1] 50)).drew v6.heap.size (v6.heap.size + 1) (some ⟨v6.heap.size, 0, none⟩) [⟨n, 2, p1, q1, y1, z1⟩] := hone.drew
            generalize (World.alloc v6 (.cells #[.string n, .int .i64 2, .int .i64 p1, .int .i64 q1, .int .i64 y1, .int .i64 z1] 50)).drew = v7 at *
            have F7 := F6.below hb7; have FB7 := FB6.below hb7 lF6; have hz7 := hb7.size; have hb07 := hb06.trans (hb7.mono (Nat.le_of_lt lF6)); have lF7 := FB7.lt
            replace d0 := (hb7.cell (p := ⟨w.heap.size, 0, none⟩) lb6).trans d0; replace d1 := (hb7.cell (p := ⟨w.heap.size, 1, none⟩) lb6).trans d1; replace cf0 := (hb7.cell (p := ⟨gf, 0, none⟩) lF6).trans cf0
            refine wpAnyH_ready (rs := [18]) (by kernel_rfl) (by simp) ?_
            refine AllReadyH.cons (o := { dst := some 151, op := _, type := _, pos := _, after := _, guard := _ }) rfl (fun K hK => ?_) (AllReadyH.nil)
            refine step_appN flatPerson tyPersonS A xs 1 F7.pp rfl hone _ _ rfl rfl rfl rfl (show xs.length + 1 ≤ 1048576 by omega) (by decide) F7.le ?_
            intro A2 c2 w5 ho5 hg5
            rw [show (xs ++ [(⟨n, 2, p1, q1, y1, z1⟩ : Person)]).length = xs.length + 1 by simp]
            have hgc : ∀ k, (k < lo ∨ w.heap.size ≤ k) → k < v7.heap.size → w5.heap[k]? = v7.heap[k]? := fun k k1 k2 => hg5.block k k2 (fun e => by have := hBk k e.symm; omega)
            refine hK.out _ _ ⟨(World.cell?_of_block (hgc w.heap.size (.inr (Nat.le_refl _)) (by omega))).trans d0, (World.cell?_of_block (hgc w.heap.size (.inr (Nat.le_refl _)) (by omega))).trans d1⟩ (fun hHeld => ?_)
            clear hK K; (try simp only [Act.put, List.setIfInBounds_toArray, List.set_cons_zero, List.set_cons_succ])
            have FB8 : Blk w5 gf 25 #[.slice A xs.length c, .slice B ys.length d] := (hgc gf (.inl hgf) lF7).trans FB7
            have F8 := F7.addP ho5 hg5; have hb08 := hb07.trans ((F7.belowP hg5).mono (Nat.le_of_lt hgf)); have lb8 : w.heap.size < w5.heap.size := by have := hg5.size; omega
            replace d0 := (World.cell?_of_block (hgc w.heap.size (.inr (Nat.le_refl _)) (by omega))).trans d0; replace d1 := (World.cell?_of_block (hgc w.heap.size (.inr (Nat.le_refl _)) (by omega))).trans d1; clear cf0
            refine wpAnyH_take (i := 19) (oi := { dst := some 152, op := _, type := _, pos := _, after := _, guard := _ }) (v := ?_) rfl (by kernel_rfl) (by kernel_rfl) (by kernel_rfl) (fun _ _ _ h => h) (Or.inl ⟨by rfl, ?_⟩) (by assumption) ?_; rotate_left; (intro w hSw; (try dsimp only at hSw); go_simp); (try with_reducible rfl); (try simp only [Act.put, List.setIfInBounds_toArray, List.set_cons_zero, List.set_cons_succ])
            refine wpAnyH_take (i := 20) (oi := { dst := some 153, op := _, type := _, pos := _, after := _, guard := _ }) (v := ?_) rfl (by kernel_rfl) (by kernel_rfl) (by kernel_rfl) (fun _ _ _ h => h) (Or.inl ⟨by rfl, ?_⟩) (by assumption) ?_; rotate_left; (intro w hSw; (try dsimp only at hSw); go_simp); (try with_reducible rfl); (try simp only [Act.put, List.setIfInBounds_toArray, List.set_cons_zero, List.set_cons_succ])
            refine wpAnyH_ready (rs := [21]) (by kernel_rfl) (by simp) ?_
            refine AllReadyH.cons (o := { dst := none, op := _, type := _, pos := _, after := _, guard := _ }) rfl (fun K hK => ?_) (AllReadyH.nil)
            have u0 := FB8.cell (i := 0) rfl; have f0 := FB8.free 0; have l8 := FB8.lt
            go_simp
            refine hK.out _ _ ⟨(World.cell?_setCell_other _ _ _ _ (by first | (simp; done) | (simp; omega))).trans d0, (World.cell?_setCell_other _ _ _ _ (by first | (simp; done) | (simp; omega))).trans d1⟩ (fun hHeld => ?_)
            clear hK K; (try simp only [Act.put, List.setIfInBounds_toArray, List.set_cons_zero, List.set_cons_succ])
            refine wpAnyH_done (by kernel_rfl) ?_ _
            have FB9 := FB8.set 0 (.slice A2 (xs.length + 1) c2)
            have F9 := F8.off (i := 0) FB8 (by decide) (by decide) (.slice A2 (xs.length + 1) c2)
            replace hb08 := hb08.setCell (p := ⟨gf, 0, none⟩) (Nat.le_refl _) (.slice A2 (xs.length + 1) c2)
            generalize w5.setCell ⟨gf, 0, none⟩ (.slice A2 (xs.length + 1) c2) = w7 at *
            clear ho5 hg5 hgc hone d0 d1 FB8 F8 u0 f0 F7 FB7 hb7 F6 FB6
            cases pb <;> cases qb <;> cases yb <;> cases zb
            · go_wp2
              go_ret
              rw [HN.out.trans (if_neg (by simp))]; exact ⟨rfl, hb08⟩
            · go_wp2
              go_ret
              rw [HN.out.trans (if_neg (by simp))]; exact ⟨rfl, hb08⟩
            · go_wp2
              go_ret
              rw [HN.out.trans (if_neg (by simp))]; exact ⟨rfl, hb08⟩
            · go_wp2
              go_ret
              rw [HN.out.trans (if_neg (by simp))]; exact ⟨rfl, hb08⟩
            · go_wp2
              go_ret
              rw [HN.out.trans (if_neg (by simp))]; exact ⟨rfl, hb08⟩
            · go_wp2
              go_ret
              rw [HN.out.trans (if_neg (by simp))]; exact ⟨rfl, hb08⟩
            · go_wp2
              go_ret
              rw [HN.out.trans (if_neg (by simp))]; exact ⟨rfl, hb08⟩
            · go_wp2
              go_ret
              rw [HN.out.trans (if_neg (by simp))]; exact ⟨rfl, hb08⟩
            · go_wp2
              go_ret
              rw [HN.out.trans (if_neg (by simp))]; exact ⟨rfl, hb08⟩
            · go_wp2
              go_ret
              rw [HN.out.trans (if_neg (by simp))]; exact ⟨rfl, hb08⟩
            · go_wp2
              go_ret
              rw [HN.out.trans (if_neg (by simp))]; exact ⟨rfl, hb08⟩
            · go_wp2
              go_ret
              rw [HN.out.trans (if_neg (by simp))]; exact ⟨rfl, hb08⟩
            · go_wp2
              go_ret
              rw [HN.out.trans (if_neg (by simp))]; exact ⟨rfl, hb08⟩
            · go_wp2
              go_ret
              rw [HN.out.trans (if_neg (by simp))]; exact ⟨rfl, hb08⟩
            · go_wp2
              go_ret
              rw [HN.out.trans (if_neg (by simp))]; exact ⟨rfl, hb08⟩
            · go_wp2
              go_ret
              rw [HN.out.trans (if_pos (by simp))]; exact ⟨A2, c2, B, d, rfl, by rw [List.length_append]; exact FB9, F9, hb08⟩
          ·
            go_simp
            refine hK.out _ _ ⟨(((Below.refl v6.heap.size v6).alloc (Nat.le_refl _) _).cell (p := ⟨w.heap.size, 0, none⟩) lb6).trans d0, (((Below.refl v6.heap.size v6).alloc (Nat.le_refl _) _).cell (p := ⟨w.heap.size, 1, none⟩) lb6).trans d1⟩ (fun hHeld => ?_)
            clear hK K; (try simp only [Act.put, List.setIfInBounds_toArray, List.set_cons_zero, List.set_cons_succ])
            have hone := (oneP v6 ⟨n, 2, p1, q1, y1, z1⟩).read.as
            have hb7 : Below v6.heap.size v6 (World.alloc v6 (.cells #[.string n, .int .i64 2, .int .i64 p1, .int .i64 q1, .int .i64 y1, .int .i64 z1] 50)).drew := ((Below.refl v6.heap.size v6).alloc (Nat.le_refl _) _).drew
            replace hone : EPerson.AS (World.alloc v6 (.cells #[.string n, .int .i64 2, .int .i64 p1, .int .i64 q1, .int .i64 y1, .int .i64 z1] 50)).drew v6.heap.size (v6.heap.size + 1) (some ⟨v6.heap.size, 0, none⟩) [⟨n, 2, p1, q1, y1, z1⟩] := hone.drew
            generalize (World.alloc v6 (.cells #[.string n, .int .i64 2, .int .i64 p1, .int .i64 q1, .int .i64 y1, .int .i64 z1] 50)).drew = v7 at *
            have F7 := F6.below hb7; have FB7 := FB6.below hb7 lF6; have hz7 := hb7.size; have hb07 := hb06.trans (hb7.mono (Nat.le_of_lt lF6)); have lF7 := FB7.lt
            replace d0 := (hb7.cell (p := ⟨w.heap.size, 0, none⟩) lb6).trans d0; replace d1 := (hb7.cell (p := ⟨w.heap.size, 1, none⟩) lb6).trans d1; replace cf0 := (hb7.cell (p := ⟨gf, 0, none⟩) lF6).trans cf0
            refine wpAnyH_ready (rs := [4]) (by kernel_rfl) (by simp) ?_
            refine AllReadyH.cons (o := { dst := some 137, op := _, type := _, pos := _, after := _, guard := _ }) rfl (fun K hK => ?_) (AllReadyH.nil)
            go_simp
            refine hK.out _ _ ⟨d0, d1⟩ (fun hHeld => ?_)
            clear hK K; (try simp only [Act.put, List.setIfInBounds_toArray, List.set_cons_zero, List.set_cons_succ])
            refine wpAnyH_ready (rs := [18]) (by kernel_rfl) (by simp) ?_
            refine AllReadyH.cons (o := { dst := some 151, op := _, type := _, pos := _, after := _, guard := _ }) rfl (fun K hK => ?_) (AllReadyH.nil)
            refine step_appN flatPerson tyPersonS A xs 1 F7.pp rfl hone _ _ rfl rfl rfl rfl (show xs.length + 1 ≤ 1048576 by omega) (by decide) F7.le ?_
            intro A2 c2 w5 ho5 hg5
            rw [show (xs ++ [(⟨n, 2, p1, q1, y1, z1⟩ : Person)]).length = xs.length + 1 by simp]
            have hgc : ∀ k, (k < lo ∨ w.heap.size ≤ k) → k < v7.heap.size → w5.heap[k]? = v7.heap[k]? := fun k k1 k2 => hg5.block k k2 (fun e => by have := hBk k e.symm; omega)
            refine hK.out _ _ ⟨(World.cell?_of_block (hgc w.heap.size (.inr (Nat.le_refl _)) (by omega))).trans d0, (World.cell?_of_block (hgc w.heap.size (.inr (Nat.le_refl _)) (by omega))).trans d1⟩ (fun hHeld => ?_)
            clear hK K; (try simp only [Act.put, List.setIfInBounds_toArray, List.set_cons_zero, List.set_cons_succ])
            have FB8 : Blk w5 gf 25 #[.slice A xs.length c, .slice B ys.length d] := (hgc gf (.inl hgf) lF7).trans FB7
            have F8 := F7.addP ho5 hg5; have hb08 := hb07.trans ((F7.belowP hg5).mono (Nat.le_of_lt hgf)); have lb8 : w.heap.size < w5.heap.size := by have := hg5.size; omega
            replace d0 := (World.cell?_of_block (hgc w.heap.size (.inr (Nat.le_refl _)) (by omega))).trans d0; replace d1 := (World.cell?_of_block (hgc w.heap.size (.inr (Nat.le_refl _)) (by omega))).trans d1; clear cf0
            refine wpAnyH_take (i := 19) (oi := { dst := some 152, op := _, type := _, pos := _, after := _, guard := _ }) (v := ?_) rfl (by kernel_rfl) (by kernel_rfl) (by kernel_rfl) (fun _ _ _ h => h) (Or.inl ⟨by rfl, ?_⟩) (by assumption) ?_; rotate_left; (intro w hSw; (try dsimp only at hSw); go_simp); (try with_reducible rfl); (try simp only [Act.put, List.setIfInBounds_toArray, List.set_cons_zero, List.set_cons_succ])
            refine wpAnyH_take (i := 20) (oi := { dst := some 153, op := _, type := _, pos := _, after := _, guard := _ }) (v := ?_) rfl (by kernel_rfl) (by kernel_rfl) (by kernel_rfl) (fun _ _ _ h => h) (Or.inl ⟨by rfl, ?_⟩) (by assumption) ?_; rotate_left; (intro w hSw; (try dsimp only at hSw); go_simp); (try with_reducible rfl); (try simp only [Act.put, List.setIfInBounds_toArray, List.set_cons_zero, List.set_cons_succ])
            refine wpAnyH_ready (rs := [21]) (by kernel_rfl) (by simp) ?_
            refine AllReadyH.cons (o := { dst := none, op := _, type := _, pos := _, after := _, guard := _ }) rfl (fun K hK => ?_) (AllReadyH.nil)
            have u0 := FB8.cell (i := 0) rfl; have f0 := FB8.free 0; have l8 := FB8.lt
            go_simp
            refine hK.out _ _ ⟨(World.cell?_setCell_other _ _ _ _ (by first | (simp; done) | (simp; omega))).trans d0, (World.cell?_setCell_other _ _ _ _ (by first | (simp; done) | (simp; omega))).trans d1⟩ (fun hHeld => ?_)
            clear hK K; (try simp only [Act.put, List.setIfInBounds_toArray, List.set_cons_zero, List.set_cons_succ])
            refine wpAnyH_done (by kernel_rfl) ?_ _
            have FB9 := FB8.set 0 (.slice A2 (xs.length + 1) c2)
            have F9 := F8.off (i := 0) FB8 (by decide) (by decide) (.slice A2 (xs.length + 1) c2)
            replace hb08 := hb08.setCell (p := ⟨gf, 0, none⟩) (Nat.le_refl _) (.slice A2 (xs.length + 1) c2)
            generalize w5.setCell ⟨gf, 0, none⟩ (.slice A2 (xs.length + 1) c2) = w7 at *
            clear ho5 hg5 hgc hone d0 d1 FB8 F8 u0 f0 F7 FB7 hb7 F6 FB6
            cases pb <;> cases qb <;> cases yb <;> cases zb
            · go_wp2
              go_ret
              rw [HN.out.trans (if_neg (by simp))]; exact ⟨rfl, hb08⟩
            · go_wp2
              go_ret
              rw [HN.out.trans (if_neg (by simp))]; exact ⟨rfl, hb08⟩
            · go_wp2
              go_ret
              rw [HN.out.trans (if_neg (by simp))]; exact ⟨rfl, hb08⟩
            · go_wp2
              go_ret
              rw [HN.out.trans (if_neg (by simp))]; exact ⟨rfl, hb08⟩
            · go_wp2
              go_ret
              rw [HN.out.trans (if_neg (by simp))]; exact ⟨rfl, hb08⟩
            · go_wp2
              go_ret
              rw [HN.out.trans (if_neg (by simp))]; exact ⟨rfl, hb08⟩
            · go_wp2
              go_ret
              rw [HN.out.trans (if_neg (by simp))]; exact ⟨rfl, hb08⟩
            · go_wp2
              go_ret
              rw [HN.out.trans (if_neg (by simp))]; exact ⟨rfl, hb08⟩
            · go_wp2
              go_ret
              rw [HN.out.trans (if_neg (by simp))]; exact ⟨rfl, hb08⟩
            · go_wp2
              go_ret
              rw [HN.out.trans (if_neg (by simp))]; exact ⟨rfl, hb08⟩
            · go_wp2
              go_ret
              rw [HN.out.trans (if_neg (by simp))]; exact ⟨rfl, hb08⟩
            · go_wp2
              go_ret
              rw [HN.out.trans (if_neg (by simp))]; exact ⟨rfl, hb08⟩
            · go_wp2
              go_ret
              rw [HN.out.trans (if_neg (by simp))]; exact ⟨rfl, hb08⟩
            · go_wp2
              go_ret
              rw [HN.out.trans (if_neg (by simp))]; exact ⟨rfl, hb08⟩
            · go_wp2
              go_ret
              rw [HN.out.trans (if_neg (by simp))]; exact ⟨rfl, hb08⟩
            · go_wp2
              go_ret
              rw [HN.out.trans (if_pos (by simp))]; exact ⟨A2, c2, B, d, rfl, by rw [List.length_append]; exact FB9, F9, hb08⟩
      have HN := Lib.hid (show lineM readP openP ⟨xs, ys⟩ [g, n, a, b, y, z] = none by rw [lineM, if_neg]; rintro (h1 | h1); exact hg h1; exact hg2 h1)
      have Hs := fun W => readSex_any g W
      rw [show sexM g = 0 by rw [sexM, if_neg hg, if_neg hg2]] at Hs
      clear hg hg2
      go_wp2_with (go_at_call 37; (with_reducible refine (Hs _).mono ?_); rintro e v2 ⟨rfl, rfl⟩)
      go_ret
      rw [HN.out]; exact ⟨rfl, hbw.mono (Nat.le_of_lt lF0)⟩
    · have HN := Lib.hid (lineI_none (rd := readP) (ro := openP) (f := ⟨xs, ys⟩) h5 h6)
      have n5 : ((ws.length : Int) != 5) = true := by simp; omega
      have n6 : ((ws.length : Int) != 6) = true := by simp; omega
      obtain ⟨u, r, rfl⟩ := List.exists_cons_of_ne_nil hne
      have c0 := hW 0 u rfl
      rw [Nat.zero_add] at c0
      have hn0 : 0 < (u :: r).length := by simp
      generalize (u :: r).length = m at *
      clear h5 h6 hW hne
      by_cases hun : u = wUnion
      · have hun2 : u = ⟨#[117, 110, 105, 111, 110]⟩ := hun
        subst hun2
        clear hun
        go_wp2
        go_ret
        rw [HN.out]; exact ⟨rfl, hbw.mono (Nat.le_of_lt lF0)⟩
      have n1 := bytesI_ne (l := [117, 110, 105, 111, 110]) hun
      clear hun
      go_wp2
      go_ret
      rw [HN.out]; exact ⟨rfl, hbw.mono (Nat.le_of_lt lF0)⟩
end Go.Proofs.YthpcippgifmabaaGreatDoor
