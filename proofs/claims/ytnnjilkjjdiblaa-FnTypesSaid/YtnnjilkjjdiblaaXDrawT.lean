/-
  A kin type drawn from bytes: it is valid, whatever the bytes are.
-/
import Derived.Test.YtnnjilkjjdiblaaXGFrom
import Derived.Test.YtnnjilkjjdiblaaXGCur
import Derived.Test.YtnnjilkjjdiblaaXParseM
namespace Go.Proofs.Ytnnjilkjjdiblaa
set_option maxRecDepth 100000
open Go.RowKit

theorem addS_age {t : KinType} (h : typeOk t = true) (hl : t.steps.length < 8) {k a : Int} (hk : k = 3 ∨ k = 4) (ha : 0 ≤ a ∧ a ≤ 2) : typeOk (addS t ⟨k, a⟩) = true := by
  rw [addS_ok h hl]
  simp only [stepOk, decide_eq_true_eq]
  omega
/-- A valid type of at most n steps, owned by what is new; the cursor has gone on. -/
def RetDrawT (g : Nat) (n : Int) (w : World) (e : Ending) (w' : World) : Prop :=
  ∃ (ego : Int) (zs : List Step) (A : Option Addr) (c : Nat), e = .returned (.agg #[.int .i64 ego, .slice A zs.length c]) ∧ typeOk ⟨ego, zs⟩ = true ∧ (zs.length : Int) ≤ n ∧ EStep.OS w' w.heap.size w'.heap.size (.slice A zs.length c) zs ∧ Cur w' g ∧ Chg g (g + 1) w w'
def DrawTRel (g : Nat) (n : Int) (w : World) (i : Value) (wr : World) : Prop :=
  ∃ (k : Nat) (ego : Int) (zs : List Step) (A : Option Addr) (c : Nat), i = .int .i64 k ∧ typeOk ⟨ego, zs⟩ = true ∧ (zs.length : Int) + k ≤ n ∧ Blk wr (w.heap.size + 1) 30 #[.int .i64 ego, .slice A zs.length c] ∧ Blk wr w.heap.size 30 #[.int .i64 0, .slice none 0 0] ∧
    EStep.OS wr (w.heap.size + 2) wr.heap.size (.slice A zs.length c) zs ∧ Cur wr g ∧ Chg g (g + 1) w wr ∧ w.heap.size + 2 ≤ wr.heap.size

theorem Chg.then_below {w w' w'' : World} {lo hi B : Nat} (h : Chg lo hi w w') (hb : Below B w' w'') (hB : w.heap.size ≤ B) : Chg lo hi w w'' :=
  ⟨hb.os.trans h.os, hb.tape.trans h.tape, hb.output.trans h.output, Nat.le_trans h.size hb.size, fun k hk hd => (hb.block k (by omega)).trans (h.block k hk hd)⟩

theorem flat_two (zs : List Step) : (zs.flatMap fun s => [Value.int .i64 s.kind, .int .i64 s.age]).length = zs.length * 2 := by
  induction zs with
  | nil => rfl
  | cons x r ih => rw [List.flatMap_cons, List.length_append, ih]; simp; omega
theorem set_age {zs : List Step} {s : Step} {b : Int} : ((zs ++ [s]).flatMap fun s => [Value.int .i64 s.kind, .int .i64 s.age]).set (((zs ++ [s]).length - 1) * 2 + 1) (.int .i64 b) = (zs ++ [(⟨s.kind, b⟩ : Step)]).flatMap fun s => [Value.int .i64 s.kind, .int .i64 s.age] := by
  rw [List.flatMap_append, List.flatMap_append, show (zs ++ [s]).length - 1 = zs.length by simp, List.set_append_right _ _ (by rw [flat_two]; omega), flat_two, show zs.length * 2 + 1 - zs.length * 2 = 1 by omega]; rfl
theorem undrewT {w w' : World} {lo hi : Nat} (h : Chg lo hi w.drew w') : Chg lo hi w w' := ⟨h.os, h.tape, h.output, h.size, h.block⟩
set_option maxHeartbeats 8000000 in
theorem l3Draw_any (g : Nat) (n : Int) (w : World) (h : Cur w g) (h0 : 0 ≤ n) (h1 : n ≤ 8) : Calls Try.prog 83 #[.pointer (some ⟨g, 0, none⟩), .int .i64 n] w (RetDrawT g n w) := by
  have hg := h.lt
  have hn : IntKind.i64.wrap (n + 1) = n + 1 := by rw [IntKind.wrap_i64]; omega
  go_enter Try.func83, Try.ntmps83
  go_upto_region 2 with (go_at_call 170; refine (l01Below_any g 3 _ (h.below ((Below.refl _ _).alloc (Nat.le_refl _) _) hg) (by omega) (by omega)).mono ?_; rintro e w1 ⟨x, hx0, hx1, rfl, hc1, hch1, hs1⟩)
  simp only [szs] at hs1
  have r1 : Blk w1 w.heap.size 30 #[.int .i64 0, .slice none 0 0] := (Blk.new w rfl).chg hch1 (.inr (by omega))
  generalize hW : w1.alloc (.cells #[.int .i64 x, .slice none 0 0] 30) = w2
  have r2 : Blk w2 w.heap.size 30 #[.int .i64 0, .slice none 0 0] := by subst hW; exact r1.alloc _
  have b2 : Blk w2 (w.heap.size + 1) 30 #[.int .i64 x, .slice none 0 0] := by subst hW; exact Blk.new _ (by omega)
  have hc2 : Cur w2 g := by subst hW; exact hc1.below ((Below.refl _ _).alloc (Nat.le_refl _) _) hc1.lt
  have hch2 : Chg g (g + 1) w w2 := by subst hW; exact (((Chg.refl g (g + 1) w).alloc _).trans hch1).alloc _
  have z2 : w.heap.size + 2 = w2.heap.size := by subst hW; simp; omega
  clear hW r1 hc1 hch1 hs1
  go_upto_region 3 with (go_at_call 170; refine (l01Below_any g (n + 1) _ hc2 (by omega) (by omega)).mono ?_; rintro e w3 ⟨y, hy0, hy1, rfl, hc3, hch3, hs3⟩)
  obtain ⟨k0, rfl⟩ := Int.eq_ofNat_of_zero_le hy0
  have hx : typeOk ⟨x, []⟩ = true := typeOk_bare ⟨hx0, by omega⟩
  have r3 := r2.chg hch3 (.inr (by omega))
  have b3 := b2.chg hch3 (.inr (by omega))
  have hch3' := hch2.trans hch3
  clear r2 b2 hc2 hch2 hch3
  go_loopw [6] (fun i wr => DrawTRel g n w i wr) (fun i _ => (intOf i).toNat)
  case atStart => exact ⟨k0, x, [], none, 0, rfl, hx, by simp; omega, b3, r3, Elem.OS.nil, hc3, hch3', by omega⟩
  case round =>
    obtain ⟨k, ego, zs, A, c, rfl, ht, hl, hbx, hrs, ho, hcr, hchr, hzr⟩ := hrel
    by_cases hk : 0 < k
    · have hk' : (0 : Int) < (k : Int) := by omega
      obtain ⟨wo, rfl⟩ : ∃ x, x = wr := ⟨_, rfl⟩
      obtain ⟨k, rfl⟩ : ∃ k', k = k' + 1 := ⟨k - 1, by omega⟩
      have hlt : zs.length < 8 := by omega
      have g0 := hbx.cell (i := 0) rfl; have g1 := hbx.cell (i := 1) rfl
      have lb := hbx.lt
      have HMM := Lib.hid (fun (u : KinType) (h : u ∈ moreM ⟨ego, zs⟩) => moreTo_mem (k := 8) h)
      have hml := moreTo_len ⟨ego, zs⟩ 8
      have hmn := moreM_ne ⟨ego, zs⟩
      have hml' : (moreM ⟨ego, zs⟩).length ≤ 8 := hml
      obtain ⟨ms, hms⟩ : ∃ ms, moreM ⟨ego, zs⟩ = ms := ⟨_, rfl⟩
      rw [hms] at HMM hml' hmn
      have HMS := Lib.hid hms
      clear hms hml
      have HT := Lib.hid ht
      clear ht
      go_upto_region 6 with (go_at_call 112; (have H := l3More_any A c _ _ ego zs wo ho.read.as (Nat.le_refl _) HT.out hlt); rw [HMS.out] at H; refine H.mono ?_; rintro e w5 ⟨T, ct, rfl, hts, hb5⟩)
      have z5 := hb5.size
      have hbx5 := hbx.below hb5 lb
      have hrs5 := hrs.below hb5 hrs.lt
      have hc5 := hcr.below hb5 hcr.lt
      have hch5 := hchr.then_below hb5 (by omega)
      clear hbx hrs hcr hchr ho g0 g1
      obtain ⟨css, k1, k2, k3⟩ := hts
      obtain ⟨gT, cT, hv, q1, q2, q3⟩ := k1.form (by omega)
      injection hv with hv _ hcT
      subst hv; subst hcT
      have HK1 := Lib.hid k1; have HK2 := Lib.hid k2
      clear k1 k2 k3
      go_upto_region 7 with (go_at_call 170; refine (l01Below_any g ms.length _ hc5 (by omega) (by omega)).mono ?_; rintro e w6 ⟨y6, hy6, hy6', rfl, hc6, hch6, hs6⟩; (obtain ⟨j, rfl⟩ := Int.eq_ofNat_of_zero_le hy6); (obtain ⟨⟨t0, t1⟩, htj⟩ : ∃ u, ms[j]? = some u := ⟨_, List.getElem?_eq_getElem (show j < ms.length by omega)⟩); (obtain ⟨cs, hcs, v1, hcse, hv1⟩ := HK2.out.at_ j _ htj); (obtain ⟨A7, c7, rfl, -, -, hst⟩ := hv1.read.open_); subst hcse; (have hd0 := (HK1.out.cell (flatten_at HK2.out.read.sizes hcs (j := 0) (u := .int .i64 t0) rfl)).1); (have hd1 := (HK1.out.cell (flatten_at HK2.out.read.sizes hcs (j := 1) (u := .slice A7 t1.length c7) rfl)).1); simp only [EKin, Nat.add_zero] at hd0 hd1; (replace hd0 := (hch6.cell (p := ⟨gT, j * 2, none⟩) (by simp; omega) (.inr (by simp; omega))).trans hd0); (replace hd1 := (hch6.cell (p := ⟨gT, j * 2 + 1, none⟩) (by simp; omega) (.inr (by simp; omega))).trans hd1); (have hbx6 := hbx5.chg hch6 (.inr (by omega))); (have g0 := hbx6.cell (i := 0) rfl); (have g1 := hbx6.cell (i := 1) rfl); (have h0' := hbx6.free 0); (have h1' := hbx6.free 1); (have i6 : (0 : Int) ≤ (j : Int) ∧ (j : Int) < (ms.length : Int) := by omega); (have lb6 := hbx6.lt))
      obtain ⟨i, hi8, hok, hu⟩ := HMM.out _ (List.mem_of_getElem? htj)
      injection hu with hu0 hu1
      simp only at hu0 hu1
      subst hu0
      have htok : typeOk ⟨t0, t1⟩ = true := by rw [hu1]; exact (addS_ok (t := ⟨t0, zs⟩) HT.out hlt _).trans hok
      have hl1 : t1.length ≤ zs.length + 1 ∧ zs.length + 1 ≤ t1.length := by rw [hu1]; simp
      have HU := Lib.hid hu1
      clear hu1
      generalize hW : (w6.setCell ⟨w.heap.size + 1, 0, none⟩ (.int .i64 t0)).setCell ⟨w.heap.size + 1, 1, none⟩ (.slice A7 t1.length c7) = w7
      have b7 : Blk w7 (w.heap.size + 1) 30 #[.int .i64 t0, .slice A7 t1.length c7] := by subst hW; exact (hbx6.set 0 _).set 1 _
      have hb7 : Below (w.heap.size + 1) w6 w7 := by subst hW; (with_reducible repeat' first | exact Below.refl _ _ | assumption | (refine Below.setCell ?_ (by first | omega | (simp; omega) | (simp; done) | (dsimp only; omega)) _) | (refine Below.alloc ?_ (by first | omega | (simp; omega) | (simp; done) | (dsimp only; omega)) _) | (refine below_drewN ?_ _) | (refine Below.drew ?_))
      have z7 : w6.heap.size = w7.heap.size := by subst hW; simp [World.setCell]
      have o6 : EStep.OS w6 wo.heap.size w5.heap.size (.slice A7 t1.length c7) t1 := hv1.same (Same.of_chg hch6 (Nat.le_refl _) (.inr (by omega)))
      have o7 : EStep.OS w7 wo.heap.size w7.heap.size (.slice A7 t1.length c7) t1 := by
        subst hW; exact (o6.same (by (with_reducible repeat' first | exact Same.refl _ _ _ | assumption | (refine Same.setCell ?_ (by first | omega | (simp; omega) | (simp; done) | (dsimp only; omega)) _) | (refine Same.alloc ?_ (by first | omega | (simp; omega) | (simp; done) | (dsimp only; omega)) _) | (refine Same.drewN ?_ _) | (refine Same.drew ?_)))).mono (Nat.le_refl _) (by simp [World.setCell]; omega)
      clear hW
      have rs7 := (hrs5.chg hch6 (.inr (by omega))).below hb7 (by omega)
      have hc7 := hc6.below hb7 (by omega)
      have hch7 := (hch5.trans hch6).then_below hb7 (by omega)
      clear hbx6 hc6 hch6 hv1 hst hd0 hd1 o6 hbx5 hrs5 hc5 hch5 g0 g1 h0' h1'
      obtain ⟨gS, cS, hvS, s1, s2, s3⟩ := (flat_os.1 o7).form (by omega)
      injection hvS with hvS _ hcS
      subst hvS; subst hcS
      obtain ⟨b', off', ⟨kd, ag⟩, he, -, -, -, hxk, hk0, hk1⟩ := AStep.at_ (k := t1.length - 1) o7.read.as (by omega)
      injection he with he
      injection he with he1 he2 _
      subst he1; subst he2
      simp only [Nat.zero_add] at hk0 hk1
      have g1 := b7.cell (i := 1) rfl
      have lb7 := b7.lt
      have n7 : IntKind.i64.wrap ((t1.length : Int) - 1) = ((t1.length - 1 : Nat) : Int) := by rw [IntKind.wrap_i64]; omega
      have n8 : (0 : Int) ≤ ((t1.length - 1 : Nat) : Int) ∧ ((t1.length - 1 : Nat) : Int) < (t1.length : Int) := by omega
      go_upto_region 8 with fail
      have hks : (⟨kd, ag⟩ : Step) = kindS i := by
        have h2 := HU.out
        rw [h2] at hxk
        have e : (zs ++ [kindS i]).length - 1 = zs.length := by simp
        have h3 : (zs ++ [kindS i])[zs.length]? = some ⟨kd, ag⟩ := by rw [← e]; exact hxk
        rw [List.getElem?_append_right (Nat.le_refl _), Nat.sub_self] at h3
        exact (Option.some.inj h3).symm
      clear hxk
      have o8 := o7.mono (show w.heap.size + 2 ≤ wo.heap.size by omega) (Nat.le_refl _)
      by_cases h34 : kd = 3 ∨ kd = 4
      · rcases h34 with rfl | rfl
        all_goals
          go_upto_region 9 with (go_at_call 171; refine (l01Once_any g 3 _ hc7 (by omega) (by omega)).mono ?_; rintro e w8 ⟨x8, rfl, hc8, hch8, hs8⟩; (have b8 := b7.chg hch8 (.inr (by omega))); (have rs8 := rs7.chg hch8 (.inr (by omega))); (have o9 := (o8.same (Same.of_chg hch8 (Nat.le_refl _) (.inr (by omega)))).mono (Nat.le_refl _) (Nat.le_of_eq hs8.symm)); (have hch9 := hch7.trans hch8); (have g1 := b8.cell (i := 1) rfl); (have lb8 := b8.lt))
          case roundEnd => exact ⟨⟨k, t0, t1, _, _, by go_num, htok, by omega, b8, rs8, o9, hc8, hch9, by omega⟩, by simp [intOf]⟩
          have hflat : (t1.flatMap fun s => [Value.int .i64 s.kind, .int .i64 s.age])[(t1.length - 1) * 2 + 1]? = some (.int .i64 ag) := by
            rw [HU.out, show (zs ++ [kindS i]).length - 1 = zs.length by simp, List.flatMap_append, List.getElem?_append_right (by rw [flat_two]; omega), flat_two, show zs.length * 2 + 1 - zs.length * 2 = 1 by omega, ← hks]; rfl
          refine wp_region_held_drew (S := fun w' => w'.cell? ⟨w.heap.size + 1, 1, none⟩ = some (.slice (some ⟨gS, 0, none⟩) t1.length c7)) (by kernel_rfl) g1 (fun hHeld => ?_)
          refine wpAnyH_take (i := 0) (oi := { dst := some 48, op := _, type := _, pos := _, after := _, guard := _ }) (v := ?_) rfl (by kernel_rfl) (by kernel_rfl) (by kernel_rfl) (fun _ _ _ h => h) (Or.inl ⟨by rfl, ?_⟩) (by assumption) ?_; rotate_left; (intro w hSw; (try dsimp only at hSw); go_simp); (try with_reducible rfl); (try simp only [Act.put, List.setIfInBounds_toArray, List.set_cons_zero, List.set_cons_succ])
          refine wpAnyH_take (i := 1) (oi := { dst := some 49, op := _, type := _, pos := _, after := _, guard := _ }) (v := ?_) rfl (by kernel_rfl) (by kernel_rfl) (by kernel_rfl) (fun _ _ _ h => h) (Or.inl ⟨by rfl, ?_⟩) (by assumption) ?_; rotate_left; (intro w hSw; (try dsimp only at hSw); go_simp); (try with_reducible rfl); (try simp only [Act.put, List.setIfInBounds_toArray, List.set_cons_zero, List.set_cons_succ])
          refine wpAnyH_take (i := 2) (oi := { dst := some 50, op := _, type := _, pos := _, after := _, guard := _ }) (v := ?_) rfl (by kernel_rfl) (by kernel_rfl) (by kernel_rfl) (fun _ _ _ h => h) (Or.inl ⟨by rfl, ?_⟩) (by assumption) ?_; rotate_left; (intro w hSw; (try dsimp only at hSw); go_simp); (try with_reducible rfl); (try simp only [Act.put, List.setIfInBounds_toArray, List.set_cons_zero, List.set_cons_succ])
          refine wpAnyH_take (i := 3) (oi := { dst := some 51, op := _, type := _, pos := _, after := _, guard := _ }) (v := ?_) rfl (by kernel_rfl) (by kernel_rfl) (by kernel_rfl) (fun _ _ _ h => h) (Or.inl ⟨by rfl, ?_⟩) (by assumption) ?_; rotate_left; (intro w hSw; (try dsimp only at hSw); go_simp); (try with_reducible rfl); (try simp only [Act.put, List.setIfInBounds_toArray, List.set_cons_zero, List.set_cons_succ])
          refine wpAnyH_take (i := 4) (oi := { dst := some 52, op := _, type := _, pos := _, after := _, guard := _ }) (v := ?_) rfl (by kernel_rfl) (by kernel_rfl) (by kernel_rfl) (fun _ _ _ h => h) (Or.inl ⟨by rfl, ?_⟩) (by assumption) ?_; rotate_left; (intro w hSw; (try dsimp only at hSw); go_simp); (try with_reducible rfl); (try simp only [Act.put, List.setIfInBounds_toArray, List.set_cons_zero, List.set_cons_succ])
          refine wpAnyH_take (i := 5) (oi := { dst := some 53, op := _, type := _, pos := _, after := _, guard := _ }) (v := ?_) rfl (by kernel_rfl) (by kernel_rfl) (by kernel_rfl) (fun _ _ _ h => h) (Or.inl ⟨by rfl, ?_⟩) (by assumption) ?_; rotate_left; (intro w hSw; (try dsimp only at hSw); go_simp); (try with_reducible rfl); (try simp only [Act.put, List.setIfInBounds_toArray, List.set_cons_zero, List.set_cons_succ])
          refine wpAnyH_take (i := 6) (oi := { dst := some 54, op := _, type := _, pos := _, after := _, guard := _ }) (v := ?_) rfl (by kernel_rfl) (by kernel_rfl) (by kernel_rfl) (fun _ _ _ h => h) (Or.inl ⟨by rfl, ?_⟩) (by assumption) ?_; rotate_left; (intro w hSw; (try dsimp only at hSw); go_simp); (try with_reducible rfl); (try simp only [Act.put, List.setIfInBounds_toArray, List.set_cons_zero, List.set_cons_succ])
          refine wpAnyH_ready (rs := [7]) (by kernel_rfl) (by simp) ?_
          refine AllReadyH.cons (o := { dst := some 55, op := _, type := _, pos := _, after := _, guard := _ }) rfl (fun K hK => ?_) AllReadyH.nil
          go_simp
          (go_at_call 170; refine (l01Below_any g 2 _ hc8.drew (by omega) (by omega)).mono ?_; rintro e w9 ⟨y9, hy9, hy9', rfl, hc9, hch10, hs9⟩; replace hch10 := undrewT hch10; (replace hs9 : w9.heap.size = w8.heap.size := hs9); (replace g1 := (hch10.cell (p := ⟨w.heap.size + 1, 1, none⟩) (by simp; omega) (.inr (by simp; omega))).trans g1); (have o10 := o9.same (Same.of_chg hch10 (Nat.le_refl _) (.inr (by omega)))); (obtain ⟨ck, cf⟩ := (flat_os.1 o10).cell (j := (t1.length - 1) * 2 + 1) (u := .int .i64 ag) hflat); (have lgS : gS < w9.heap.size := by omega))
          try go_wp2_with fail
          refine hK.out _ _ g1 (fun hHeld => ?_)
          clear hK K; (try simp only [Act.put, List.setIfInBounds_toArray, List.set_cons_zero, List.set_cons_succ])
          refine wpAnyH_take (i := 8) (oi := { dst := some 56, op := _, type := _, pos := _, after := _, guard := _ }) (v := ?_) rfl (by kernel_rfl) (by kernel_rfl) (by kernel_rfl) (fun _ _ _ h => h) (Or.inl ⟨by rfl, ?_⟩) (by assumption) ?_; rotate_left; (intro w hSw; (try dsimp only at hSw); go_simp); (try with_reducible rfl); (try simp only [Act.put, List.setIfInBounds_toArray, List.set_cons_zero, List.set_cons_succ])
          refine wpAnyH_take (i := 9) (oi := { dst := some 57, op := _, type := _, pos := _, after := _, guard := _ }) (v := ?_) rfl (by kernel_rfl) (by kernel_rfl) (by kernel_rfl) (fun _ _ _ h => h) (Or.inl ⟨by rfl, ?_⟩) (by assumption) ?_; rotate_left; (intro w hSw; (try dsimp only at hSw); go_simp); (try with_reducible rfl); (try simp only [Act.put, List.setIfInBounds_toArray, List.set_cons_zero, List.set_cons_succ])
          refine wpAnyH_take (i := 10) (oi := { dst := some 58, op := _, type := _, pos := _, after := _, guard := _ }) (v := ?_) rfl (by kernel_rfl) (by kernel_rfl) (by kernel_rfl) (fun _ _ _ h => h) (Or.inl ⟨by rfl, ?_⟩) (by assumption) ?_; rotate_left; (intro w hSw; (try dsimp only at hSw); go_simp); (try with_reducible rfl); (try simp only [Act.put, List.setIfInBounds_toArray, List.set_cons_zero, List.set_cons_succ])
          refine wpAnyH_ready (rs := [11]) (by kernel_rfl) (by simp) ?_
          refine AllReadyH.cons (o := { dst := none, op := _, type := _, pos := _, after := _, guard := _ }) rfl (fun K hK => ?_) AllReadyH.nil
          go_simp
          refine hK.out _ _ (by first | exact g1 | (simp [go_sem]; exact g1)) (fun hHeld => ?_)
          clear hK K; (try simp only [Act.put, List.setIfInBounds_toArray, List.set_cons_zero, List.set_cons_succ])
          refine wpAnyH_done (by kernel_rfl) ?_ _
          have hset := (flat_os.1 o10).set (j := (t1.length - 1) * 2 + 1) (u := .int .i64 (1 + y9)) (by rw [flat_two]; omega)
          have hage := addS_age (t := ⟨t0, zs⟩) HT.out hlt (k := (kindS i).kind) (a := 1 + y9) (by rw [← hks]; simp) (by omega)
          have hvs := set_age (zs := zs) (s := kindS i) (b := 1 + y9)
          rw [← HU.out] at hvs
          rw [hvs] at hset
          have hlen : (zs ++ [(⟨(kindS i).kind, 1 + y9⟩ : Step)]).length = t1.length := by rw [HU.out]; simp
          have b9 := (b8.chg hch10 (.inr (by omega))).far (p := ⟨gS, (t1.length - 1) * 2 + 1, none⟩) (by simp; omega) (.int .i64 (1 + y9))
          have rs9 := (rs8.chg hch10 (.inr (by omega))).far (p := ⟨gS, (t1.length - 1) * 2 + 1, none⟩) (by simp; omega) (.int .i64 (1 + y9))
          have hbl : Below w.heap.size w9 (w9.setCell ⟨gS, (t1.length - 1) * 2 + 1, none⟩ (.int .i64 (1 + y9))) := by (with_reducible repeat' first | exact Below.refl _ _ | assumption | (refine Below.setCell ?_ (by first | omega | (simp; omega) | (simp; done) | (dsimp only; omega)) _) | (refine Below.alloc ?_ (by first | omega | (simp; omega) | (simp; done) | (dsimp only; omega)) _) | (refine below_drewN ?_ _) | (refine Below.drew ?_))
          have hw9 : IntKind.i64.wrap (1 + y9) = 1 + y9 := by rw [IntKind.wrap_i64]; omega
          go_wp2_with fail
          have oE : EStep.OS (w9.setCell ⟨gS, (t1.length - 1) * 2 + 1, none⟩ (.int .i64 (1 + y9))) (w.heap.size + 2) w8.heap.size (.slice (some ⟨gS, 0, none⟩) (zs ++ [(⟨(kindS i).kind, 1 + y9⟩ : Step)]).length c7) (zs ++ [⟨(kindS i).kind, 1 + y9⟩]) := flat_os.2 (by rw [hlen]; exact hset)
          exact ⟨⟨k, t0, zs ++ [(⟨(kindS i).kind, 1 + y9⟩ : Step)], some ⟨gS, 0, none⟩, c7, by go_num, hage, by rw [hlen]; omega, by rw [hlen]; exact b9, rs9, oE.mono (Nat.le_refl _) (by simp [World.setCell]; omega), hc9.below hbl hg, (hch9.trans hch10).then_below hbl (Nat.le_refl _), by simp [World.setCell]; omega⟩, by simp [intOf]⟩
      · have n3 : (kd == 3) = false := by rw [beq_eq_false_iff_ne]; omega
        have n4 : (kd == 4) = false := by rw [beq_eq_false_iff_ne]; omega
        clear h34 hks
        go_wp2_with fail
        exact ⟨⟨k, t0, t1, _, _, by go_num, htok, by omega, b7, rs7, o8, hc7, hch7, by omega⟩, by simp [intOf]⟩
    · have hk' : ¬ (0 : Int) < (k : Int) := by omega
      have g0 := hbx.cell (i := 0) rfl; have g1 := hbx.cell (i := 1) rfl
      have e0 := hrs.cell (i := 0) rfl; have e1 := hrs.cell (i := 1) rfl; have f0 := hrs.free 0; have f1 := hrs.free 1
      have lb := hbx.lt; have lr := hrs.lt
      go_wp2_with fail
      have R := (hrs.set 0 (.int .i64 ego)).set 1 (.slice A zs.length c)
      have hbl : Below w.heap.size wr ((wr.setCell ⟨w.heap.size, 0, none⟩ (.int .i64 ego)).setCell ⟨w.heap.size, 1, none⟩ (.slice A zs.length c)) := by (with_reducible repeat' first | exact Below.refl _ _ | assumption | (refine Below.setCell ?_ (by first | omega | (simp; omega) | (simp; done) | (dsimp only; omega)) _) | (refine Below.alloc ?_ (by first | omega | (simp; omega) | (simp; done) | (dsimp only; omega)) _) | (refine below_drewN ?_ _) | (refine Below.drew ?_))
      exact bodyPost_ret (v := .agg #[.int .i64 ego, .slice A zs.length c]) (by simp [results, Try.results83, go_sem, R.cell (i := 0) rfl, R.cell (i := 1) rfl]) rfl ⟨ego, zs, A, c, rfl, ht, by omega, (ho.same (by (with_reducible repeat' first | exact Same.refl _ _ _ | assumption | (refine Same.setCell ?_ (by first | omega | (simp; omega) | (simp; done) | (dsimp only; omega)) _) | (refine Same.alloc ?_ (by first | omega | (simp; omega) | (simp; done) | (dsimp only; omega)) _) | (refine Same.drewN ?_ _) | (refine Same.drew ?_)))).mono (by omega) (by simp [World.setCell]), hcr.below hbl hg, hchr.then_below hbl (Nat.le_refl _)⟩
end Go.Proofs.Ytnnjilkjjdiblaa
