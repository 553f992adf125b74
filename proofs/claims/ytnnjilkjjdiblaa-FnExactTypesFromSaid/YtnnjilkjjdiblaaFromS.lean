/-
  Kin types of a few steps, in the reference.
-/
import Derived.Test.YtnnjilkjjdiblaaFromM
import Derived.Test.YtnnjilkjjdiblaaJoinT
import Derived.Deep.Cut
import Derived.Deep.DeepCutAuto
namespace Go.Proofs.Ytnnjilkjjdiblaa
set_option maxRecDepth 100000
open Go.RowKit

def RetKins (w : World) (m : List KinType) (e : Ending) (w' : World) : Prop :=
  ∃ (A : Option Addr) (c : Nat), e = .returned (.slice A m.length c) ∧ EKin.OS w' w.heap.size w'.heap.size (.slice A m.length c) m ∧ Below w.heap.size w w'
def MoreRel (t : KinType) (lo : Nat) (W : World) (v i : Value) (wr : World) : Prop :=
  ∃ (k : Nat) (A : Option Addr) (c : Nat), k ≤ 8 ∧ i = .int .i64 ((k : Int) + 1) ∧ v = .slice A (moreTo t k).length c ∧ EKin.OS wr lo wr.heap.size (.slice A (moreTo t k).length c) (moreTo t k) ∧ Below lo W wr ∧ lo ≤ wr.heap.size

set_option maxHeartbeats 4000000 in
theorem l3More_any (D : Option Addr) (e lo hi : Nat) (ego : Int) (zs : List Step) (w : World) (h : EStep.AS w lo hi D zs) (hh : hi ≤ w.heap.size) (ht : typeOk ⟨ego, zs⟩ = true) (hl : zs.length < 8) :
    Calls Try.prog 112 #[.agg #[.int .i64 ego, .slice D zs.length e]] w (RetKins w (moreM ⟨ego, zs⟩)) := by
  have HAD := Lib.hid (addS_ok ht hl)
  clear ht
  have HH := Lib.hid h; clear h
  go_enter Try.func112, Try.ntmps112
  go_wp2_with fail
  have ho0 : EKin.OS ((w.alloc (.cells #[.int .i64 ego, .slice D zs.length e] 30)).alloc (.cells #[] EKin.e)) _ _ _ [] := Elem.OS.made0 (E := EKin) (w.alloc (.cells #[.int .i64 ego, .slice D zs.length e] 30))
  simp only [szs] at ho0
  generalize hW : (w.alloc (.cells #[.int .i64 ego, .slice D zs.length e] 30)).alloc (.cells #[] EKin.e) = W at ho0
  have a0 : W.cell? ⟨w.heap.size, 0, none⟩ = some (.int .i64 ego) := by subst hW; simp [go_sem]
  have a1 : W.cell? ⟨w.heap.size, 1, none⟩ = some (.slice D zs.length e) := by subst hW; simp [go_sem]
  have hb : Below w.heap.size w W := by subst hW; (with_reducible repeat' first | exact Below.refl _ _ | assumption | (refine Below.setCell ?_ (by first | omega | (simp; omega) | (simp; done) | (dsimp only; omega)) _) | (refine Below.alloc ?_ (by first | omega | (simp; omega) | (simp; done) | (dsimp only; omega)) _) | (refine below_drewN ?_ _) | (refine Below.drew ?_))
  have z0 : w.heap.size + 1 + 1 = W.heap.size := by subst hW; simp
  have hW' : (w.alloc (.cells #[.int .i64 ego, .slice D zs.length e] 30)).alloc (.cells #[] 30) = W := hW
  rw [hW']
  clear hW hW'
  go_loopw [3, 4] (fun v i wr => MoreRel ⟨ego, zs⟩ (w.heap.size + 1) W v i wr) (fun _ i _ => 9 - (intOf i).toNat)
  case atStart => exact ⟨0, _, _, Nat.zero_le _, rfl, rfl, by rw [← z0]; exact ho0, Below.refl _ _, by omega⟩
  case round =>
    obtain ⟨k, A, c, hk, rfl, rfl, ho, hbr, hsz⟩ := hrel
    replace a0 := (hbr.cell (p := ⟨w.heap.size, 0, none⟩) (by simp)).trans a0
    replace a1 := (hbr.cell (p := ⟨w.heap.size, 1, none⟩) (by simp)).trans a1
    have hbw := hb.trans (hbr.mono (by omega))
    by_cases hlt : k < 8
    · have hlen := moreTo_len ⟨ego, zs⟩ k
      have lw : w.heap.size < wr.heap.size := by omega
      go_upto_region 6 with fail
      generalize hW5 : wr.alloc (.cells #[.int .i64 ego, .slice none 0 0] 30) = W5
      have r5 : Blk W5 wr.heap.size 30 #[.int .i64 ego, .slice none 0 0] := by subst hW5; exact Blk.new _ rfl
      have hb5 : Below wr.heap.size wr W5 := by subst hW5; (with_reducible repeat' first | exact Below.refl _ _ | assumption | (refine Below.setCell ?_ (by first | omega | (simp; omega) | (simp; done) | (dsimp only; omega)) _) | (refine Below.alloc ?_ (by first | omega | (simp; omega) | (simp; done) | (dsimp only; omega)) _) | (refine below_drewN ?_ _) | (refine Below.drew ?_))
      have z5 : wr.heap.size + 1 = W5.heap.size := by subst hW5; simp
      clear hW5
      have h5 := HH.out.same (Same.of_below (hbw.trans (hb5.mono (by omega))) hh)
      have b1 := (hb5.cell (p := ⟨w.heap.size, 1, none⟩) (by simp; omega)).trans a1
      have q1 := r5.cell (i := 1) rfl
      have lw5 : w.heap.size < W5.heap.size := by omega
      have lr5 : wr.heap.size < W5.heap.size := by omega
      go_upto_region 7 with (at_builtin; refine wpList_appN flatStep tyStepS none [] e (Elem.OS.nil (lo := W5.heap.size) (hi := W5.heap.size)) rfl h5 _ _ rfl rfl rfl rfl (by simp; omega) (by decide) (Nat.le_refl _) ?_; intro A4 c4 w4 o4 hg4; simp only [List.nil_append] at o4 ⊢; (have hb4 : Below W5.heap.size W5 w4 := Below.grown (Below.refl _ _) hg4 (Nat.le_refl _) (fun k hk => by simp [Value.ownBlock] at hk)); (have z4 := hb4.size); (have r4 := r5.below hb4 lr5); (have f1 := r4.free 1); (have q4 := r4.cell (i := 1) rfl))
      generalize hW6 : w4.setCell ⟨wr.heap.size, 1, none⟩ (.slice A4 zs.length c4) = W6
      have r6 : Blk W6 wr.heap.size 30 #[.int .i64 ego, .slice A4 zs.length c4] := by subst hW6; exact r4.set 1 _
      have o6 : EStep.OS W6 W5.heap.size W6.heap.size (.slice A4 zs.length c4) zs := by subst hW6; exact (o4.same (by (with_reducible repeat' first | exact Same.refl _ _ _ | assumption | (refine Same.setCell ?_ (by first | omega | (simp; omega) | (simp; done) | (dsimp only; omega)) _) | (refine Same.alloc ?_ (by first | omega | (simp; omega) | (simp; done) | (dsimp only; omega)) _) | (refine Same.drewN ?_ _) | (refine Same.drew ?_)))).mono (Nat.le_refl _) (by simp [World.setCell])
      have hb6 : Below wr.heap.size wr W6 := by subst hW6; (with_reducible repeat' first | exact Below.refl _ _ | assumption | (refine Below.setCell ?_ (by first | omega | (simp; omega) | (simp; done) | (dsimp only; omega)) _) | (refine Below.alloc ?_ (by first | omega | (simp; omega) | (simp; done) | (dsimp only; omega)) _) | (refine below_drewN ?_ _) | (refine Below.drew ?_) | (refine Below.trans ?_ (hb4.mono (by first | omega | (simp; omega) | (simp; done) | (dsimp only; omega)))) | (refine Below.trans ?_ (hb5.mono (by first | omega | (simp; omega) | (simp; done) | (dsimp only; omega)))))
      have z6 : W5.heap.size ≤ W6.heap.size := by subst hW6; simpa [World.setCell] using z4
      clear hW6 r4 o4 hb4 hg4 q4 f1 z4 q1 b1
      have q6 := r6.cell (i := 1) rfl
      have lr6 : wr.heap.size < W6.heap.size := by omega
      obtain ⟨us, hus⟩ : ∃ us, zs ++ [kindS k] = us := ⟨_, rfl⟩
      have HUS := Lib.hid hus
      have HUL := Lib.hid (show us.length = zs.length + 1 by rw [← hus]; simp)
      clear hus
      go_upto_region 8 with (at_builtin; refine wpList_app1 tyStepS A4 zs (kindS k) [.int .i64 ((k : Int) + 1), .int .i64 0] ⟨W6.heap.size, 0, none⟩ 1 (lo := W5.heap.size) (hi := W6.heap.size) (o6.same (by (with_reducible repeat' first | exact Same.refl _ _ _ | assumption | (refine Same.setCell ?_ (by first | omega | (simp; omega) | (simp; done) | (dsimp only; omega)) _) | (refine Same.alloc ?_ (by first | omega | (simp; omega) | (simp; done) | (dsimp only; omega)) _) | (refine Same.drewN ?_ _) | (refine Same.drew ?_)))) rfl (by first | omega | (simp; omega) | (simp; done) | (dsimp only; omega)) z6 rfl _ _ rfl rfl rfl rfl (cell_row_at _ #[.int .i64 ((k : Int) + 1), .int .i64 0] _ _ rfl) (by simp; exact ⟨rfl, rfl⟩) (by omega) (by decide) (fun A7 c7 w7 o7 hg7 hc7 hm7 => ?_); rw [HUS.out] at o7; rw [← HUL.out]; (have hb7 : Below wr.heap.size wr w7 := Below.grown (by (with_reducible repeat' first | exact Below.refl _ _ | assumption | (refine Below.setCell ?_ (by first | omega | (simp; omega) | (simp; done) | (dsimp only; omega)) _) | (refine Below.alloc ?_ (by first | omega | (simp; omega) | (simp; done) | (dsimp only; omega)) _) | (refine below_drewN ?_ _) | (refine Below.drew ?_) | (refine Below.trans ?_ (hb6.mono (by first | omega | (simp; omega) | (simp; done) | (dsimp only; omega)))))) hg7 (by simp; omega) (fun k hk => by have := (o6.blkv k hk).1; omega)); (have r7 := (r6.alloc (.cells #[.int .i64 ((k : Int) + 1), .int .i64 0] 72)).grown hg7 (fun e => by have := (o6.blkv _ e.symm).1; omega)); (have f7 := r7.free 1); (have q7 := r7.cell (i := 1) rfl); (have z7 := hg7.size); (have lr7 : wr.heap.size < w7.heap.size := r7.lt); simp only [szs] at z7)
      generalize hW8 : w7.setCell ⟨wr.heap.size, 1, none⟩ (.slice A7 us.length c7) = W8
      have r8 : Blk W8 wr.heap.size 30 #[.int .i64 ego, .slice A7 us.length c7] := by subst hW8; exact r7.set 1 _
      have o8 : EStep.OS W8 W5.heap.size W8.heap.size (.slice A7 us.length c7) us := by rw [← HUL.out] at o7; subst hW8; exact (o7.same (by (with_reducible repeat' first | exact Same.refl _ _ _ | assumption | (refine Same.setCell ?_ (by first | omega | (simp; omega) | (simp; done) | (dsimp only; omega)) _) | (refine Same.alloc ?_ (by first | omega | (simp; omega) | (simp; done) | (dsimp only; omega)) _) | (refine Same.drewN ?_ _) | (refine Same.drew ?_)))).mono (Nat.le_refl _) (by simp [World.setCell])
      have hb8 : Below wr.heap.size wr W8 := by subst hW8; (with_reducible repeat' first | exact Below.refl _ _ | assumption | (refine Below.setCell ?_ (by first | omega | (simp; omega) | (simp; done) | (dsimp only; omega)) _) | (refine Below.alloc ?_ (by first | omega | (simp; omega) | (simp; done) | (dsimp only; omega)) _) | (refine below_drewN ?_ _) | (refine Below.drew ?_) | (refine Below.trans ?_ (hb7.mono (by first | omega | (simp; omega) | (simp; done) | (dsimp only; omega)))))
      have z8 : W5.heap.size ≤ W8.heap.size := by subst hW8; simp [World.setCell]; omega
      clear hW8 r7 o7 hb7 hg7 q7 f7 z7 hb6 o6 r6 q6 hc7 hm7 lr7
      have p0 := r8.cell (i := 0) rfl; have p1 := r8.cell (i := 1) rfl
      have lr8 : wr.heap.size < W8.heap.size := by omega
      have HB8 := Lib.hid hb8; clear hb8
      cases hok : stepOk (kindS k) (sexM ⟨ego, zs⟩) with
      | false =>
        have HT := Lib.hid (show typeOk ⟨ego, us⟩ = false by rw [← HUS.out, ← hok, ← HAD.out]; rfl)
        have HM := Lib.hid (moreTo_no hok)
        clear hok
        go_wp2_with (go_at_call 85; (with_reducible refine (specIsType_any ego A7 c7 _ _ us _ o8.read.as (Nat.le_refl _)).mono ?_); rintro e w9 ⟨rfl, hb9⟩; simp only [HT.out])
        refine ⟨⟨k + 1, A, c, by omega, by go_num, by rw [HM.out], ?_, ?_, ?_⟩, by simp [intOf]; omega⟩
        · rw [HM.out]; exact (ho.same ((Same.of_below HB8.out (Nat.le_refl _)).trans (Same.of_below hb9 (by omega)))).mono (Nat.le_refl _) (Nat.le_trans HB8.out.size hb9.size)
        · exact hbr.trans ((HB8.out.mono (by omega)).trans (hb9.mono (by omega)))
        · exact Nat.le_trans (by omega) hb9.size
      | true =>
        have HT := Lib.hid (show typeOk ⟨ego, us⟩ = true by rw [← HUS.out, ← hok, ← HAD.out]; rfl)
        have HM := Lib.hid (moreTo_yes hok)
        clear hok
        go_upto_region 9 with (go_at_call 85; (with_reducible refine (specIsType_any ego A7 c7 _ _ us _ o8.read.as (Nat.le_refl _)).mono ?_); rintro e w9 ⟨rfl, hb9⟩; simp only [HT.out])
        have r9 := r8.below hb9 lr8
        have s0 := r9.cell (i := 0) rfl; have s1 := r9.cell (i := 1) rfl
        have o9 := o8.same (Same.of_below hb9 (Nat.le_refl _))
        have hb19 : Below wr.heap.size wr w9 := HB8.out.trans (hb9.mono (by omega))
        have ho9 := ho.same (Same.of_below hb19 (Nat.le_refl _))
        have z9 := hb9.size
        have lr9 : wr.heap.size < w9.heap.size := by omega
        have HB19 := Lib.hid hb19
        clear hb19 hb9 p0 p1
        have hx9 : EKin.O (w9.alloc (.cells #[.int .i64 ego, .slice A7 us.length c7] 30)) wr.heap.size (w9.alloc (.cells #[.int .i64 ego, .slice A7 us.length c7] 30)).heap.size [.int .i64 ego, .slice A7 us.length c7] (addS ⟨ego, zs⟩ (kindS k)) :=
          ⟨_, rfl, by rw [show (addS ⟨ego, zs⟩ (kindS k)).steps = us from HUS.out]; exact (o9.same (by (with_reducible repeat' first | exact Same.refl _ _ _ | assumption | (refine Same.setCell ?_ (by first | omega | (simp; omega) | (simp; done) | (dsimp only; omega)) _) | (refine Same.alloc ?_ (by first | omega | (simp; omega) | (simp; done) | (dsimp only; omega)) _) | (refine Same.drewN ?_ _) | (refine Same.drew ?_)))).mono (by omega) (by simp; omega)⟩
        have HX9 := Lib.hid hx9; clear hx9
        go_wp2_with (at_builtin; refine wpList_app1 tyKinS A (moreTo ⟨ego, zs⟩ k) (addS ⟨ego, zs⟩ (kindS k)) [.int .i64 ego, .slice A7 us.length c7] ⟨w9.heap.size, 0, none⟩ 1 (lo := w.heap.size + 1) (hi := wr.heap.size) (ho9.same (by (with_reducible repeat' first | exact Same.refl _ _ _ | assumption | (refine Same.setCell ?_ (by first | omega | (simp; omega) | (simp; done) | (dsimp only; omega)) _) | (refine Same.alloc ?_ (by first | omega | (simp; omega) | (simp; done) | (dsimp only; omega)) _) | (refine Same.drewN ?_ _) | (refine Same.drew ?_)))) rfl (by first | omega | (simp; omega) | (simp; done) | (dsimp only; omega)) hsz HX9.out _ _ rfl rfl rfl rfl (cell_row_at _ #[.int .i64 ego, .slice A7 us.length c7] _ _ rfl) (by simp; exact ⟨rfl, rfl⟩) (by omega) (by decide) (fun A' c' w1 ho1 hg1 hc1 hm1 => ?_))
        refine ⟨⟨k + 1, A', c', by omega, by go_num, by rw [HM.out]; simp, by rw [HM.out]; simpa using ho1, ?_, ?_⟩, by simp [intOf]; omega⟩
        · exact Below.grown (w := w9.alloc _) (by have hq := HB19.out; (with_reducible repeat' first | exact Below.refl _ _ | assumption | (refine Below.setCell ?_ (by first | omega | (simp; omega) | (simp; done) | (dsimp only; omega)) _) | (refine Below.alloc ?_ (by first | omega | (simp; omega) | (simp; done) | (dsimp only; omega)) _) | (refine below_drewN ?_ _) | (refine Below.drew ?_) | (refine Below.trans ?_ (hq.mono (by first | omega | (simp; omega) | (simp; done) | (dsimp only; omega)))) | (refine Below.trans ?_ (hbr.mono (by first | omega | (simp; omega) | (simp; done) | (dsimp only; omega)))))) hg1 (by simp; omega) (fun k hk => (ho.blkv k hk).1)
        · have := hg1.size; simp at this; omega
    · obtain rfl : k = 8 := by omega
      go_wp2
      go_ret
      exact ⟨A, c, rfl, ho.mono (by omega) (Nat.le_refl _), hbw⟩
def FromRel (ego : Int) (n B : Nat) (W : World) (v5 v6 v7 : Value) (wr : World) : Prop :=
  ∃ (k : Nat) (A : Option Addr) (c : Nat) (A2 : Option Addr) (c2 : Nat), k ≤ n ∧ v7 = .int .i64 k ∧ v5 = .slice A (outM ego k).length c ∧ v6 = .slice A2 (lastM ego k).length c2 ∧
    EKin.OS wr B wr.heap.size (.slice A (outM ego k).length c) (outM ego k) ∧ EKin.AS wr B wr.heap.size A2 (lastM ego k) ∧ Below B W wr ∧ B ≤ wr.heap.size
def NextRel (ts : List KinType) (W : World) (v i : Value) (wr : World) : Prop :=
  ∃ (j : Nat) (A : Option Addr) (c : Nat), j ≤ ts.length ∧ i = .int .i64 j ∧ v = .slice A ((ts.take j).flatMap moreM).length c ∧
    EKin.OS wr W.heap.size wr.heap.size (.slice A ((ts.take j).flatMap moreM).length c) ((ts.take j).flatMap moreM) ∧ Below W.heap.size W wr
theorem one_kin (w : World) (ego : Int) : EKin.OS (w.alloc (.cells #[.int .i64 ego, .slice none 0 0] 30)) w.heap.size (w.alloc (.cells #[.int .i64 ego, .slice none 0 0] 30)).heap.size (.slice (some ⟨w.heap.size, 0, none⟩) 1 1) [⟨ego, []⟩] := by
  have hf : Fill (w.alloc (.cells #[.int .i64 ego, .slice none 0 0] 30)) w.heap.size EKin.e 2 [.int .i64 ego, .slice none 0 0] 2 := ⟨_, heap_alloc_new w _, rfl, fun i hi => by
    rcases (by omega : i = 0 ∨ i = 1) with rfl | rfl <;> rfl⟩
  refine ⟨[[.int .i64 ego, .slice none 0 0]], hf.own (n := 1) (sz := 2) rfl rfl (Nat.le_refl _) (by simp [BIG]), ⟨rfl, fun i x hx => ?_, fun i j cs cs' b hij hi hj => ?_⟩, fun cs hcs b hb => ?_⟩
  · cases i with
    | zero => simp at hx; subst hx; exact ⟨_, rfl, .slice none 0 0, rfl, Elem.OS.nil⟩
    | succ i => simp at hx
  · cases i with
    | zero =>
      cases j with
      | zero => omega
      | succ j => simp at hj
    | succ i => simp at hi
  · simp at hcs; subst hcs
    have := blocks_typ (x := ⟨ego, []⟩) (v := .slice none 0 0) (b := b)
    simp only [vsTyp] at this
    rw [this] at hb
    simp [Value.ownBlock] at hb
theorem RetKins.nil {w w' : World} (h : Below w.heap.size w w') : RetKins w [] (.returned (.slice none 0 0)) w' := ⟨none, 0, rfl, Elem.OS.nil, h⟩

set_option maxHeartbeats 4000000 in
theorem specTypesFrom_any (ego n : Int) (w : World) : Calls Try.prog 32 #[.int .i64 ego, .int .i64 n] w (RetKins w (fromM ego n)) := by
  by_cases hok : (ego = 1 ∨ ego = 2) ∧ 1 ≤ n ∧ n ≤ 3
  · obtain ⟨he, h1, h3⟩ := hok
    obtain ⟨n, rfl⟩ := Int.eq_ofNat_of_zero_le (by omega : 0 ≤ n)
    have hn3 : n ≤ 3 := by omega
    rw [fromM_in he (by omega) hn3]
    have HI := Lib.hid (inB_true (x := (n : Int)) (a := 1) (b := 3) ⟨h1, h3⟩)
    have HE := Lib.hid he
    have hreg : ∃ b1 b2 : Bool, (ego != 1) = b1 ∧ (ego != 2) = b2 ∧ (b1 = false ∨ b2 = false) := ⟨_, _, rfl, rfl, by rcases he with rfl | rfl <;> simp⟩
    clear he h1 h3
    obtain ⟨b1, b2, e1, e2, hb12⟩ := hreg
    cases b1 <;> cases b2
    all_goals first | (exfalso; simp at hb12; done) | skip
    all_goals
      clear hb12
      go_enter Try.func32, Try.ntmps32
      go_upto_region 3 with (go_at_call 111; refine (l1In_any _ _ _ _).mono ?_; rintro e w' ⟨rfl, rfl⟩; simp only [HI.out])
      go_upto_region 6 with fail
      generalize hW : (w.alloc (.cells #[] 30)).alloc (.cells #[.int .i64 ego, .slice none 0 0] 30) = W
      have ho0 : EKin.OS W w.heap.size W.heap.size (.slice (some ⟨w.heap.size, 0, none⟩) 0 0) [] := by
        have h : EKin.OS (w.alloc (.cells #[] 30)) w.heap.size (w.alloc (.cells #[] 30)).heap.size (.slice (some ⟨w.heap.size, 0, none⟩) 0 0) [] := Elem.OS.made0 (E := EKin) w
        subst hW; exact (h.same (by (with_reducible repeat' first | exact Same.refl _ _ _ | assumption | (refine Same.setCell ?_ (by first | omega | (simp; omega) | (simp; done) | (dsimp only; omega)) _) | (refine Same.alloc ?_ (by first | omega | (simp; omega) | (simp; done) | (dsimp only; omega)) _) | (refine Same.drewN ?_ _) | (refine Same.drew ?_)))).mono (Nat.le_refl _) (by simp)
      have hl0 : EKin.AS W w.heap.size W.heap.size (some ⟨w.heap.size + 1, 0, none⟩) [⟨ego, []⟩] := by
        have h := one_kin (w.alloc (.cells #[] 30)) ego
        simp only [szs] at h
        subst hW; exact (h.mono (by omega) (by simp)).read.as
      have hb0 : Below w.heap.size w W := by subst hW; (with_reducible repeat' first | exact Below.refl _ _ | assumption | (refine Below.setCell ?_ (by first | omega | (simp; omega) | (simp; done) | (dsimp only; omega)) _) | (refine Below.alloc ?_ (by first | omega | (simp; omega) | (simp; done) | (dsimp only; omega)) _) | (refine below_drewN ?_ _) | (refine Below.drew ?_))
      have z0 : w.heap.size + 1 + 1 = W.heap.size := by subst hW; simp
      clear hW
      go_loopw [5, 6, 7] (fun v5 v6 v7 wr => FromRel ego n w.heap.size W v5 v6 v7 wr) (fun _ _ i _ => n - (intOf i).toNat)
      case atStart => exact ⟨0, _, _, _, _, Nat.zero_le _, rfl, rfl, rfl, ho0, hl0, Below.refl _ _, by omega⟩
      case round =>
        obtain ⟨k, A, c, A2, c2, hk, rfl, rfl, rfl, ho, hla, hbr, hsz⟩ := hrel
        by_cases hlt : k < n
        · have hl1 := lastM_le (ego := ego) (k := k) (by omega)
          have hl2 := lastM_le (ego := ego) (k := k + 1) (by omega)
          have hl3 := outM_le (ego := ego) (k := k) (by omega)
          have HT := Lib.hid (fun (t : KinType) (h : t ∈ lastM ego k) => lastM_mem HE.out (k := k) (by omega) h)
          have HLS := Lib.hid (show (lastM ego k).flatMap moreM = lastM ego (k + 1) from rfl)
          have HOS := Lib.hid (show outM ego (k + 1) = outM ego k ++ lastM ego (k + 1) from rfl)
          obtain ⟨ts, hts⟩ : ∃ ts, lastM ego k = ts := ⟨_, rfl⟩
          rw [hts] at hl1 hla HT HLS ⊢
          clear hts
          go_upto_region 10 with fail
          generalize hW1 : wr.alloc (.cells #[] 30) = W1
          have hn0 : EKin.OS W1 wr.heap.size W1.heap.size (.slice (some ⟨wr.heap.size, 0, none⟩) 0 0) [] := by subst hW1; exact Elem.OS.made0 (E := EKin) wr
          have hb1 : Below wr.heap.size wr W1 := by subst hW1; (with_reducible repeat' first | exact Below.refl _ _ | assumption | (refine Below.setCell ?_ (by first | omega | (simp; omega) | (simp; done) | (dsimp only; omega)) _) | (refine Below.alloc ?_ (by first | omega | (simp; omega) | (simp; done) | (dsimp only; omega)) _) | (refine below_drewN ?_ _) | (refine Below.drew ?_))
          clear hW1
          obtain ⟨wo, rfl⟩ : ∃ wo : World, wo = wr := ⟨_, rfl⟩
          go_loopw [8, 34] (fun v i w2 => NextRel ts wo v i w2) (fun _ i _ => ts.length - (intOf i).toNat)
          case atStart => exact ⟨0, _, _, Nat.zero_le _, rfl, rfl, by simpa using hn0, hb1⟩
          case round =>
            obtain ⟨j, B, d, hj, rfl, rfl, hn, hbn⟩ := hrel
            have hfl := flatMore_len (ts.take j)
            rw [List.length_take] at hfl
            have HJ := Lib.hid (show (ts.take (j + 1)).flatMap moreM = _ from rfl)
            obtain ⟨ns, hns⟩ : ∃ ns, (ts.take j).flatMap moreM = ns := ⟨_, rfl⟩
            rw [hns] at hn hfl ⊢
            have HNS := Lib.hid hns
            clear hns HJ
            have zn := hbn.size
            by_cases hlt2 : j < ts.length
            · obtain ⟨b, off, ⟨t0, t1⟩, A1, c1, rfl, g1, g2, _, htj, hc0, hc1, hst⟩ := AKin.at_ (hla.same (Same.of_below hbn (Nat.le_refl _))) hlt2
              obtain ⟨m1, m2, -⟩ := HT.out _ (List.mem_of_getElem? htj)
              simp only at hc0 hc1 hst m2
              have hfs := flatMore_succ htj
              rw [HNS.out] at hfs
              have HFS := Lib.hid hfs
              clear hfs
              have hmo := moreTo_len ⟨t0, t1⟩ 8
              have lb : b < wr.heap.size := by omega
              have i1 : (0 : Int) ≤ (j : Int) ∧ (j : Int) < (ts.length : Int) := by omega
              have HM1 := Lib.hid m1
              have m8 : t1.length < 8 := by omega
              clear htj m1 m2
              go_wp2_with (first
                | (go_at_call 112; (with_reducible refine (l3More_any _ _ _ _ t0 t1 _ (hst.same (by (with_reducible repeat' first | exact Same.refl _ _ _ | assumption | (refine Same.setCell ?_ (by first | omega | (simp; omega) | (simp; done) | (dsimp only; omega)) _) | (refine Same.alloc ?_ (by first | omega | (simp; omega) | (simp; done) | (dsimp only; omega)) _) | (refine Same.drewN ?_ _) | (refine Same.drew ?_)))) (by first | omega | (simp; omega) | (simp; done) | (dsimp only; omega)) HM1.out m8).mono ?_); rintro e w4 ⟨A4, c4, rfl, ho4, hb4⟩; (have z4 := hb4.size); (have hb4' : Below wo.heap.size wo w4 := by (with_reducible repeat' first | exact Below.refl _ _ | assumption | (refine Below.setCell ?_ (by first | omega | (simp; omega) | (simp; done) | (dsimp only; omega)) _) | (refine Below.alloc ?_ (by first | omega | (simp; omega) | (simp; done) | (dsimp only; omega)) _) | (refine below_drewN ?_ _) | (refine Below.drew ?_) | (refine Below.trans ?_ (hb4.mono (by first | omega | (simp; omega) | (simp; done) | (dsimp only; omega)))) | (refine Below.trans ?_ (hbn.mono (by first | omega | (simp; omega) | (simp; done) | (dsimp only; omega)))))); (try simp only [szs] at z4))
                | (at_builtin; refine wpList_appAll tyKinS EKin_one B ns (mid := (wr.alloc (.cells #[.int .i64 t0, .slice A1 t1.length c1] 30)).heap.size) ((hn.same (by (with_reducible repeat' first | exact Same.refl _ _ _ | assumption | (refine Same.setCell ?_ (by first | omega | (simp; omega) | (simp; done) | (dsimp only; omega)) _) | (refine Same.alloc ?_ (by first | omega | (simp; omega) | (simp; done) | (dsimp only; omega)) _) | (refine Same.drewN ?_ _) | (refine Same.drew ?_) | (refine Same.trans ?_ (Same.of_below hb4 (by first | omega | (simp; omega) | (simp; done) | (dsimp only; omega))))))).mono (Nat.le_refl _) (by simp)) rfl ho4 rfl (by simp; omega) (by simp; omega) (Nat.le_refl _) _ _ rfl rfl rfl rfl (by unfold moreM; omega) (by decide) ?_; intro A5 c5 w5 ho5 hg5 _))
              refine ⟨⟨j + 1, A5, c5, by omega, by go_num, by rw [HFS.out, List.length_append], by rw [HFS.out, List.length_append]; exact ho5, Below.grown hb4' hg5 (by omega) (fun k hk => (hn.blkv k hk).1)⟩, by simp [intOf]; omega⟩
            · obtain rfl : j = ts.length := by omega
              have hns := HNS.out
              rw [List.take_length, HLS.out] at hns
              subst hns
              have hoo := ho.same (Same.of_below hbn (Nat.le_refl _))
              go_wp2_with (at_builtin; refine wpList_appAll tyKinS EKin_one A (outM ego k) hoo rfl hn rfl hsz zn (Nat.le_refl _) _ _ rfl rfl rfl rfl (by omega) (by decide) ?_; intro A5 c5 w5 ho5 hg5 hr5)
              have z5 := hg5.size
              refine ⟨⟨k + 1, A5, c5, B, d, by omega, by go_num, by rw [HOS.out, List.length_append], rfl, by rw [HOS.out, List.length_append]; exact ho5, hr5.mono (by omega) (by omega), ?_, by omega⟩, by simp [intOf]; omega⟩
              exact Below.grown (hbr.trans (hbn.mono (by omega))) hg5 (by omega) (fun k hk => (ho.blkv k hk).1)
        · obtain rfl : k = n := by omega
          go_wp2
          go_ret
          exact ⟨A, c, rfl, ho, hb0.trans hbr⟩
  · rw [fromM_out hok]
    by_cases he : ego = 1 ∨ ego = 2
    · have HI := Lib.hid (inB_false (x := n) (a := 1) (b := 3) (fun h => hok ⟨he, h⟩))
      have hreg : ∃ b1 b2 : Bool, (ego != 1) = b1 ∧ (ego != 2) = b2 ∧ (b1 = false ∨ b2 = false) := ⟨_, _, rfl, rfl, by rcases he with rfl | rfl <;> simp⟩
      clear he hok
      obtain ⟨b1, b2, e1, e2, hb12⟩ := hreg
      cases b1 <;> cases b2
      all_goals first | (exfalso; simp at hb12; done) | skip
      all_goals
        clear hb12
        go_enter Try.func32, Try.ntmps32
        go_wp2_with (go_at_call 111; refine (l1In_any _ _ _ _).mono ?_; rintro e w' ⟨rfl, rfl⟩; simp only [HI.out])
        go_ret
        exact RetKins.nil (Below.refl _ _)
    · have n1 : (ego != 1) = true := by simp; omega
      have n2 : (ego != 2) = true := by simp; omega
      clear he hok
      go_enter Try.func32, Try.ntmps32
      go_wp2_with (go_at_call 111; refine (l1In_any _ _ _ _).mono ?_; rintro e w' ⟨rfl, rfl⟩)
      go_ret
      exact RetKins.nil (Below.refl _ _)
end Go.Proofs.Ytnnjilkjjdiblaa
