/-
  Kin types of a few steps, in the program.
-/
import Derived.Test.YtnnjilkjjdiblaaFromS
namespace Go.Proofs.Ytnnjilkjjdiblaa
set_option maxRecDepth 100000
open Go.RowKit

/-- append(out, x), as wpList_app1; it is told too where the new slice lies. -/
theorem wpList_app1b {α : Type} {E : Elem α} {t bytes lo hi n c0 : Nat} {w : World} {ops : Array Oper} {rest : List Oper} {o : Oper} {a : Act} {Q : Exit → Act → World → Prop} (T : SlTy E t bytes) (A0 : Option Addr) (xs : List α) (x : α) (cs : List Value) (ad : Addr) (c : Nat)
    (hown : E.OS w lo hi (.slice A0 n c0) xs) (hn : xs.length = n) (hhi : hi ≤ w.heap.size) (hlo : lo ≤ hi) (hx : E.O w hi w.heap.size cs x) (s y : Operand)
    (ho : o.op = .call { callee := .builtin .append, args := #[s, y], argTypes := #[t, t] }) (hgd : o.guard = none) (hs : a.eval s = .slice A0 n c0) (hy : a.eval y = .slice (some ad) 1 c)
    (hcs : ∀ (j : Nat) (u : Value), cs[j]? = some u → w.cell? (ad.add j) = some u) (h1 : ∀ u ∈ cs, u.oneCell' = true) (hb : n + 1 ≤ 1048576) (hby : bytes ≤ 128)
    (h : ∀ A' c' w', E.OS w' lo w'.heap.size (.slice A' (n + 1) c') (xs ++ [x]) → w.grownBy w' (Value.slice A0 n c0).ownBlock → ((Value.slice A' (n + 1) c').ownBlock = (Value.slice A0 n c0).ownBlock ∨ (Value.slice A' (n + 1) c').ownBlock = some w.heap.size) → wpList Try.prog ops Q rest (a.put o.dst (.slice A' (n + 1) c')) w') :
    wpList Try.prog ops Q (o :: rest) a w := by
  subst hn
  obtain ⟨css, k1, k2, k3⟩ := hown
  obtain ⟨i, z, i1, i2, i3, i4, i5⟩ := T.hi
  have hmul : (xs.length + 1) * bytes ≤ 1048576 * 128 := Nat.mul_le_mul hb hby
  have hcl : cs.length = E.sz := E.len (E.read hx)
  refine wpList_append_own_at _ hgd s y t ho lo E.e i z E.sz bytes T.ht i1 i2 i3 i4 i5 T.pos _ _ css.flatten hs k1.1 ad 1 c cs hy (by rw [hcl, Nat.one_mul]) hcs h1 (by simp only [maxLen]; omega) (by omega) (by omega) ?_
  intro v' w' p1 p2 p3 p4
  have hos : E.OS w' lo w'.heap.size v' (xs ++ [x]) := Elem.OS.app k1 k2 k3 hhi hlo hx p1 p2 p4 (by unfold BIG; omega)
  obtain ⟨A', c', e1, e2, e3, _⟩ := hos.read.open_
  subst e1
  simp only [List.length_append, List.length_singleton] at hos p4 h ⊢
  exact h A' c' w' hos p2 p4

def MoreRelI (ns : List KinType) (t : KinType) (lo bt : Nat) (D : Value) (W : World) (v i : Value) (wr : World) : Prop :=
  ∃ (k : Nat) (A : Option Addr) (c : Nat), k ≤ 8 ∧ i = .int .i64 ((k : Int) + 1) ∧ v = .slice A (ns ++ moreTo t k).length c ∧ EKin.OS wr lo wr.heap.size (.slice A (ns ++ moreTo t k).length c) (ns ++ moreTo t k) ∧
    (Value.slice A (ns ++ moreTo t k).length c).ownBlock ≠ some bt ∧ Blk wr bt 30 #[.int .i64 t.ego, D] ∧ Below lo W wr ∧ lo ≤ wr.heap.size

set_option maxHeartbeats 8000000 in
theorem implTypesFrom_in (ego : Int) (n : Nat) (w : World) (he : ego = 1 ∨ ego = 2) (h1 : 1 ≤ n) (hn3 : n ≤ 3) : Calls Try.prog 33 #[.int .i64 ego, .int .i64 n] w (RetKins w (outM ego n)) := by
  have HE := Lib.hid he
  have hreg : ∃ b1 b2 : Bool, (ego != 1) = b1 ∧ (ego != 2) = b2 ∧ (b1 = false ∨ b2 = false) := ⟨_, _, rfl, rfl, by rcases he with rfl | rfl <;> simp⟩
  clear he
  obtain ⟨b1, b2, e1, e2, hb12⟩ := hreg
  cases b1 <;> cases b2
  all_goals first | (exfalso; simp at hb12; done) | skip
  all_goals
    clear hb12
    go_enter Try.func33, Try.ntmps33
    go_upto_region 3 with fail
    go_upto_region 6 with fail
    generalize hW : (w.alloc (.cells #[.int .i64 ego, .slice none 0 0] 30)) = W
    have hl0 : EKin.AS W w.heap.size W.heap.size (some ⟨w.heap.size, 0, none⟩) [⟨ego, []⟩] := by
      subst hW; exact (one_kin w ego).read.as
    have hb0 : Below w.heap.size w W := by subst hW; (with_reducible repeat' first | exact Below.refl _ _ | assumption | (refine Below.setCell ?_ (by first | omega | (simp; omega) | (simp; done) | (dsimp only; omega)) _) | (refine Below.alloc ?_ (by first | omega | (simp; omega) | (simp; done) | (dsimp only; omega)) _) | (refine below_drewN ?_ _) | (refine Below.drew ?_))
    have z0 : w.heap.size + 1 = W.heap.size := by subst hW; simp
    clear hW
    go_loopw [5, 6, 30] (fun v5 v6 v7 wr => FromRel ego n w.heap.size W v5 v6 v7 wr) (fun _ _ i _ => n - (intOf i).toNat)
    case atStart => exact ⟨0, _, _, _, _, Nat.zero_le _, rfl, rfl, rfl, Elem.OS.nil, hl0, Below.refl _ _, by omega⟩
    case round =>
      obtain ⟨k, A, c, A2, c2, hk, rfl, rfl, rfl, ho, hla, hbr, hsz⟩ := hrel
      by_cases hlt : k < n
      · have hl1 := lastM_le (ego := ego) (k := k) (by omega)
        have hl2 := lastM_le (ego := ego) (k := k + 1) (by omega)
        have hl3 := outM_le (ego := ego) (k := k) (by omega)
        have HT := Lib.hid (fun (t : KinType) (h : t ∈ lastM ego k) => lastM_mem HE.out (k := k) (by omega) h)
        have HLS := Lib.hid (show (lastM ego k).flatMap moreM = lastM ego (k + 1) from rfl)
        have HOS := Lib.hid (show outM ego (k + 1) = outM ego k ++ lastM ego (k + 1) from rfl)
        obtain ⟨ts, hts⟩ : ∃ ts, lastM ego k = ts := ⟨_, rfl⟩
        rw [hts] at hl1 hla HT HLS ⊢
        clear hts
        go_upto_region 9 with fail
        obtain ⟨wo, rfl⟩ : ∃ wo : World, wo = wr := ⟨_, rfl⟩
        go_loopw [7, 34] (fun v i w2 => NextRel ts wo v i w2) (fun _ i _ => ts.length - (intOf i).toNat)
        case atStart => exact ⟨0, _, _, Nat.zero_le _, rfl, rfl, Elem.OS.nil, Below.refl _ _⟩
        case round =>
          obtain ⟨j, B, d, hj, rfl, rfl, hn, hbn⟩ := hrel
          have hfl := flatMore_len (ts.take j)
          rw [List.length_take] at hfl
          obtain ⟨ns, hns⟩ : ∃ ns, (ts.take j).flatMap moreM = ns := ⟨_, rfl⟩
          rw [hns] at hn hfl ⊢
          have HNS := Lib.hid hns
          clear hns
          have zn := hbn.size
          by_cases hlt2 : j < ts.length
          · obtain ⟨b, off, ⟨t0, t1⟩, A1, c1, rfl, g1, g2, _, htj, hc0, hc1, hst⟩ := AKin.at_ (hla.same (Same.of_below hbn (Nat.le_refl _))) hlt2
            obtain ⟨m1, m2, -⟩ := HT.out _ (List.mem_of_getElem? htj)
            simp only at hc0 hc1 hst m2
            have hfs := flatMore_succ htj
            rw [HNS.out] at hfs
            have HFS := Lib.hid hfs
            clear hfs
            have lb : b < wr.heap.size := by omega
            have i1 : (0 : Int) ≤ (j : Int) ∧ (j : Int) < (ts.length : Int) := by omega
            have HM1 := Lib.hid m1
            have m8 : t1.length < 8 := by omega
            clear htj m1 m2
            go_upto_region 12 with fail
            generalize hW3 : wr.alloc (.cells #[.int .i64 t0, .slice A1 t1.length c1] 30) = W3
            have r3 : Blk W3 wr.heap.size 30 #[.int .i64 t0, .slice A1 t1.length c1] := by subst hW3; exact Blk.new _ rfl
            have hn3' : EKin.OS W3 wo.heap.size W3.heap.size (.slice B ns.length d) ns := by subst hW3; exact (hn.same (by (with_reducible repeat' first | exact Same.refl _ _ _ | assumption | (refine Same.setCell ?_ (by first | omega | (simp; omega) | (simp; done) | (dsimp only; omega)) _) | (refine Same.alloc ?_ (by first | omega | (simp; omega) | (simp; done) | (dsimp only; omega)) _) | (refine Same.drewN ?_ _) | (refine Same.drew ?_)))).mono (Nat.le_refl _) (by simp)
            have hne0 : (Value.slice B ns.length d).ownBlock ≠ some wr.heap.size := fun e => by have := (hn.blkv _ e).2; omega
            have hb3 : Below wo.heap.size wo W3 := by subst hW3; (with_reducible repeat' first | exact Below.refl _ _ | assumption | (refine Below.setCell ?_ (by first | omega | (simp; omega) | (simp; done) | (dsimp only; omega)) _) | (refine Below.alloc ?_ (by first | omega | (simp; omega) | (simp; done) | (dsimp only; omega)) _) | (refine below_drewN ?_ _) | (refine Below.drew ?_) | (refine Below.trans ?_ (hbn.mono (by first | omega | (simp; omega) | (simp; done) | (dsimp only; omega)))))
            have z3 : wr.heap.size + 1 = W3.heap.size := by subst hW3; simp
            have hst3 := hst.same (Same.of_below (show Below wo.heap.size wr W3 by subst hW3; (with_reducible repeat' first | exact Below.refl _ _ | assumption | (refine Below.setCell ?_ (by first | omega | (simp; omega) | (simp; done) | (dsimp only; omega)) _) | (refine Below.alloc ?_ (by first | omega | (simp; omega) | (simp; done) | (dsimp only; omega)) _) | (refine below_drewN ?_ _) | (refine Below.drew ?_))) (Nat.le_refl _))
            clear hW3 hc0 hc1 hst
            obtain ⟨w2, rfl⟩ : ∃ w2 : World, w2 = wr := ⟨_, rfl⟩
            go_loopw [7, 10] (fun v i wr => MoreRelI ns ⟨t0, t1⟩ wo.heap.size w2.heap.size (.slice A1 t1.length c1) W3 v i wr) (fun _ i _ => 9 - (intOf i).toNat)
            case atStart => exact ⟨0, B, d, Nat.zero_le _, rfl, by simp [moreTo], by simpa [moreTo] using hn3', by simpa [moreTo] using hne0, r3, Below.refl _ _, by omega⟩
            case round =>
              obtain ⟨i, C, f, hi, rfl, rfl, hq, hne, r4, hb4, z4⟩ := hrel
              have hml := moreTo_len ⟨t0, t1⟩ i
              have HMS := Lib.hid (show ∀ i, ns ++ moreTo ⟨t0, t1⟩ i = ns ++ moreTo ⟨t0, t1⟩ i from fun _ => rfl)
              clear HMS
              obtain ⟨ms, hms⟩ : ∃ ms, ns ++ moreTo ⟨t0, t1⟩ i = ms := ⟨_, rfl⟩
              have hmsl : ms.length ≤ ns.length + 8 := by rw [← hms, List.length_append]; omega
              rw [hms] at hq hne ⊢
              have HMS := Lib.hid hms
              clear hms hml
              have q0 := r4.cell (i := 0) rfl; have q1 := r4.cell (i := 1) rfl
              have lr4 := r4.lt
              have hst4 := hst3.same (Same.of_below hb4 (Nat.le_refl _))
              by_cases hlt3 : i < 8
              · cases hok : stepOk (kindS i) (sexM ⟨t0, t1⟩) with
                | false =>
                  have HT3 := Lib.hid hok
                  have HM := Lib.hid (show ns ++ moreTo ⟨t0, t1⟩ (i + 1) = ms by rw [moreTo_no hok]; exact HMS.out)
                  clear hok
                  go_wp2_with (first
                    | (go_at_call 88; (with_reducible refine (sexOf_any t0 A1 c1 _ _ t1 _ (hst4.same (by (with_reducible repeat' first | exact Same.refl _ _ _ | assumption | (refine Same.setCell ?_ (by first | omega | (simp; omega) | (simp; done) | (dsimp only; omega)) _) | (refine Same.alloc ?_ (by first | omega | (simp; omega) | (simp; done) | (dsimp only; omega)) _) | (refine Same.drewN ?_ _) | (refine Same.drew ?_)))) (by first | omega | (simp; omega) | (simp; done) | (dsimp only; omega)) HM1.out).mono ?_); rintro e w5 ⟨rfl, hb5⟩; (obtain ⟨hb5c, hb5f⟩ := bcell hb5); (have hb5z := hb5.size); (try simp only [szs] at hb5c hb5f hb5z))
                    | (go_at_call 113; (with_reducible refine (stepFits_any _ 0 _ _).mono ?_); rintro e w6 ⟨rfl, hb6⟩; rw [show stepOk ⟨(i : Int) + 1, 0⟩ (sexM ⟨t0, t1⟩) = false from HT3.out]; (obtain ⟨hb6c, hb6f⟩ := bcell hb6); (have hb6z := hb6.size); (try simp only [szs] at hb6c hb6f hb6z)))
                  have hbb : Below wr.heap.size wr w6 := by (with_reducible repeat' first | exact Below.refl _ _ | assumption | (refine Below.setCell ?_ (by first | omega | (simp; omega) | (simp; done) | (dsimp only; omega)) _) | (refine Below.alloc ?_ (by first | omega | (simp; omega) | (simp; done) | (dsimp only; omega)) _) | (refine below_drewN ?_ _) | (refine Below.drew ?_) | (refine Below.trans ?_ (hb6.mono (by first | omega | (simp; omega) | (simp; done) | (dsimp only; omega)))) | (refine Below.trans ?_ (hb5.mono (by first | omega | (simp; omega) | (simp; done) | (dsimp only; omega)))))
                  exact ⟨⟨i + 1, C, f, by omega, by go_num, by rw [HM.out], by rw [HM.out]; exact (hq.same (Same.of_below hbb (Nat.le_refl _))).mono (Nat.le_refl _) hbb.size, by rw [HM.out]; exact hne, r4.below hbb lr4, hb4.trans (hbb.mono z4), Nat.le_trans z4 hbb.size⟩, by simp [intOf]; omega⟩
                | true =>
                  have HT3 := Lib.hid hok
                  have HM := Lib.hid (show ns ++ moreTo ⟨t0, t1⟩ (i + 1) = ms ++ [addS ⟨t0, t1⟩ (kindS i)] by rw [moreTo_yes hok, ← List.append_assoc, HMS.out])
                  clear hok
                  go_upto_region 15 with (first
                    | (go_at_call 88; (with_reducible refine (sexOf_any t0 A1 c1 _ _ t1 _ (hst4.same (by (with_reducible repeat' first | exact Same.refl _ _ _ | assumption | (refine Same.setCell ?_ (by first | omega | (simp; omega) | (simp; done) | (dsimp only; omega)) _) | (refine Same.alloc ?_ (by first | omega | (simp; omega) | (simp; done) | (dsimp only; omega)) _) | (refine Same.drewN ?_ _) | (refine Same.drew ?_)))) (by first | omega | (simp; omega) | (simp; done) | (dsimp only; omega)) HM1.out).mono ?_); rintro e w5 ⟨rfl, hb5⟩; (obtain ⟨hb5c, hb5f⟩ := bcell hb5); (have hb5z := hb5.size); (try simp only [szs] at hb5c hb5f hb5z))
                    | (go_at_call 113; (with_reducible refine (stepFits_any _ 0 _ _).mono ?_); rintro e w6 ⟨rfl, hb6⟩; rw [show stepOk ⟨(i : Int) + 1, 0⟩ (sexM ⟨t0, t1⟩) = true from HT3.out]; (obtain ⟨hb6c, hb6f⟩ := bcell hb6); (have hb6z := hb6.size); (try simp only [szs] at hb6c hb6f hb6z)))
                  have hbb : Below wr.heap.size wr w6 := by (with_reducible repeat' first | exact Below.refl _ _ | assumption | (refine Below.setCell ?_ (by first | omega | (simp; omega) | (simp; done) | (dsimp only; omega)) _) | (refine Below.alloc ?_ (by first | omega | (simp; omega) | (simp; done) | (dsimp only; omega)) _) | (refine below_drewN ?_ _) | (refine Below.drew ?_) | (refine Below.trans ?_ (hb6.mono (by first | omega | (simp; omega) | (simp; done) | (dsimp only; omega)))) | (refine Below.trans ?_ (hb5.mono (by first | omega | (simp; omega) | (simp; done) | (dsimp only; omega)))))
                  have r6 := r4.below hbb lr4
                  have hq6 := (hq.same (Same.of_below hbb (Nat.le_refl _))).mono (Nat.le_refl _) hbb.size
                  have hst6 := hst4.same (Same.of_below hbb z4)
                  have z6 := hbb.size
                  have hb46 := hb4.trans (hbb.mono z4)
                  clear hb5 hb5c hb5f hb6 hb6c hb6f hbb hq hst4 r4 q0 q1
                  have q0 := r6.cell (i := 0) rfl; have q1 := r6.cell (i := 1) rfl
                  have lr6 := r6.lt
                  go_upto_region 16 with (go_at_call 114; (with_reducible refine (copyType_any t0 A1 c1 _ _ t1 _ hst6 (by first | omega | (simp; omega) | (simp; done) | (dsimp only; omega)) (by omega)).mono ?_); rintro e w7 ⟨A7, c7, rfl, o7, hb7⟩)
                  have z7 := hb7.size
                  generalize hW8 : w7.alloc (.cells #[.int .i64 t0, .slice A7 t1.length c7] 30) = W8
                  have r8 : Blk W8 w7.heap.size 30 #[.int .i64 t0, .slice A7 t1.length c7] := by subst hW8; exact Blk.new _ rfl
                  have hb78 : Below w6.heap.size w6 W8 := by subst hW8; (with_reducible repeat' first | exact Below.refl _ _ | assumption | (refine Below.setCell ?_ (by first | omega | (simp; omega) | (simp; done) | (dsimp only; omega)) _) | (refine Below.alloc ?_ (by first | omega | (simp; omega) | (simp; done) | (dsimp only; omega)) _) | (refine below_drewN ?_ _) | (refine Below.drew ?_) | (refine Below.trans ?_ (hb7.mono (by first | omega | (simp; omega) | (simp; done) | (dsimp only; omega)))))
                  have o8 : EStep.OS W8 w6.heap.size w7.heap.size (.slice A7 t1.length c7) t1 := by subst hW8; exact o7.same (by (with_reducible repeat' first | exact Same.refl _ _ _ | assumption | (refine Same.setCell ?_ (by first | omega | (simp; omega) | (simp; done) | (dsimp only; omega)) _) | (refine Same.alloc ?_ (by first | omega | (simp; omega) | (simp; done) | (dsimp only; omega)) _) | (refine Same.drewN ?_ _) | (refine Same.drew ?_)))
                  have z8 : w7.heap.size + 1 = W8.heap.size := by subst hW8; simp
                  clear hW8 o7 hb7 q0 q1
                  have p1 := r8.cell (i := 1) rfl
                  have lr8 : w7.heap.size < W8.heap.size := by omega
                  obtain ⟨us, hus⟩ : ∃ us, t1 ++ [kindS i] = us := ⟨_, rfl⟩
                  have HUS := Lib.hid hus
                  have HUL := Lib.hid (show us.length = t1.length + 1 by rw [← hus]; simp)
                  clear hus
                  go_upto_region 17 with (at_builtin; refine wpList_app1b tyStepS A7 t1 (kindS i) [.int .i64 ((i : Int) + 1), .int .i64 0] ⟨W8.heap.size, 0, none⟩ 1 (lo := w6.heap.size) (hi := w7.heap.size) (o8.same (by (with_reducible repeat' first | exact Same.refl _ _ _ | assumption | (refine Same.setCell ?_ (by first | omega | (simp; omega) | (simp; done) | (dsimp only; omega)) _) | (refine Same.alloc ?_ (by first | omega | (simp; omega) | (simp; done) | (dsimp only; omega)) _) | (refine Same.drewN ?_ _) | (refine Same.drew ?_)))) rfl (by first | omega | (simp; omega) | (simp; done) | (dsimp only; omega)) z7 rfl _ _ rfl rfl rfl rfl (cell_row_at _ #[.int .i64 ((i : Int) + 1), .int .i64 0] _ _ rfl) (by simp; exact ⟨rfl, rfl⟩) (by omega) (by decide) (fun A9 c9 w9 o9 hg9 hv9 => ?_); rw [HUS.out] at o9; rw [← HUL.out]; (have hb9 : Below w6.heap.size w6 w9 := Below.grown (by (with_reducible repeat' first | exact Below.refl _ _ | assumption | (refine Below.setCell ?_ (by first | omega | (simp; omega) | (simp; done) | (dsimp only; omega)) _) | (refine Below.alloc ?_ (by first | omega | (simp; omega) | (simp; done) | (dsimp only; omega)) _) | (refine below_drewN ?_ _) | (refine Below.drew ?_) | (refine Below.trans ?_ (hb78.mono (by first | omega | (simp; omega) | (simp; done) | (dsimp only; omega)))))) hg9 (by simp; omega) (fun k hk => by have := (o8.blkv k hk).1; omega)); (have r9 := (r8.alloc (.cells #[.int .i64 ((i : Int) + 1), .int .i64 0] 72)).grown hg9 (fun e => by have := (o8.blkv _ e.symm).2; omega)); (have f9 := r9.free 1); (have q9 := r9.cell (i := 1) rfl); (have z9 := hg9.size); (have lr9 : w7.heap.size < w9.heap.size := r9.lt); (have hnv : (Value.slice A9 (t1.length + 1) c9).ownBlock ≠ some w7.heap.size := fun e => by rcases hv9 with h | h; (· rw [h] at e; have := (o8.blkv _ e).2; omega); (· rw [h] at e; simp at e; omega)); simp only [szs] at z9)
                  generalize hW10 : w9.setCell ⟨w7.heap.size, 1, none⟩ (.slice A9 us.length c9) = W10
                  have r10 : Blk W10 w7.heap.size 30 #[.int .i64 t0, .slice A9 us.length c9] := by subst hW10; exact r9.set 1 _
                  have o10 : EStep.OS W10 w6.heap.size W10.heap.size (.slice A9 us.length c9) us := by
                    rw [← HUL.out] at o9 hnv; subst hW10
                    exact (flat_os.2 ((flat_os.1 o9).loc fun b hb => Below.heap_setCell _ _ _ _ fun e => hnv (by rw [hb, e]))).mono (Nat.le_refl _) (by simp [World.setCell])
                  have hb10 : Below w6.heap.size w6 W10 := by subst hW10; (with_reducible repeat' first | exact Below.refl _ _ | assumption | (refine Below.setCell ?_ (by first | omega | (simp; omega) | (simp; done) | (dsimp only; omega)) _) | (refine Below.alloc ?_ (by first | omega | (simp; omega) | (simp; done) | (dsimp only; omega)) _) | (refine below_drewN ?_ _) | (refine Below.drew ?_) | (refine Below.trans ?_ (hb9.mono (by first | omega | (simp; omega) | (simp; done) | (dsimp only; omega)))))
                  have z10 : w9.heap.size = W10.heap.size := by subst hW10; simp [World.setCell]
                  clear hW10 r9 o9 hb9 hg9 q9 f9 hv9 hnv hb78 o8 r8 p1
                  have s0 := r10.cell (i := 0) rfl; have s1 := r10.cell (i := 1) rfl
                  have lr10 : w7.heap.size < W10.heap.size := by omega
                  have z6' : w6.heap.size ≤ W10.heap.size := hb10.size
                  have hq10 := hq6.same (Same.of_below hb10 (Nat.le_refl _))
                  have HX9 := Lib.hid (show EKin.O (W10.alloc (.cells #[.int .i64 t0, .slice A9 us.length c9] 30)) w6.heap.size (W10.alloc (.cells #[.int .i64 t0, .slice A9 us.length c9] 30)).heap.size [.int .i64 t0, .slice A9 us.length c9] (addS ⟨t0, t1⟩ (kindS i)) from
                    ⟨_, rfl, by rw [show (addS ⟨t0, t1⟩ (kindS i)).steps = us from HUS.out]; exact (o10.same (by (with_reducible repeat' first | exact Same.refl _ _ _ | assumption | (refine Same.setCell ?_ (by first | omega | (simp; omega) | (simp; done) | (dsimp only; omega)) _) | (refine Same.alloc ?_ (by first | omega | (simp; omega) | (simp; done) | (dsimp only; omega)) _) | (refine Same.drewN ?_ _) | (refine Same.drew ?_)))).mono (Nat.le_refl _) (by simp)⟩)
                  have HB10 := Lib.hid hb10
                  clear hb10 z10
                  go_wp2_with (at_builtin; refine wpList_app1b tyKinS C ms (addS ⟨t0, t1⟩ (kindS i)) [.int .i64 t0, .slice A9 us.length c9] ⟨W10.heap.size, 0, none⟩ 1 (lo := wo.heap.size) (hi := w6.heap.size) (hq10.same (by (with_reducible repeat' first | exact Same.refl _ _ _ | assumption | (refine Same.setCell ?_ (by first | omega | (simp; omega) | (simp; done) | (dsimp only; omega)) _) | (refine Same.alloc ?_ (by first | omega | (simp; omega) | (simp; done) | (dsimp only; omega)) _) | (refine Same.drewN ?_ _) | (refine Same.drew ?_)))) rfl (by first | omega | (simp; omega) | (simp; done) | (dsimp only; omega)) (by omega) HX9.out _ _ rfl rfl rfl rfl (cell_row_at _ #[.int .i64 t0, .slice A9 us.length c9] _ _ rfl) (by simp; exact ⟨rfl, rfl⟩) (by omega) (by decide) (fun A' c' wz oz hgz hvz => ?_))
                  have hml1 : (ns ++ moreTo ⟨t0, t1⟩ (i + 1)).length = ms.length + 1 := by rw [HM.out]; simp
                  refine ⟨⟨i + 1, A', c', by omega, by go_num, by rw [hml1], by rw [hml1, HM.out]; exact oz, ?_, ?_, ?_, ?_⟩, by simp [intOf]; omega⟩
                  · rw [hml1]; intro e
                    rcases hvz with h | h
                    · rw [h] at e; exact hne e
                    · rw [h] at e; simp at e; omega
                  · exact ((r6.below HB10.out lr6).alloc _).grown hgz (fun e => hne e.symm)
                  · exact Below.grown (w := W10.alloc _) (by have hq := HB10.out; (with_reducible repeat' first | exact Below.refl _ _ | assumption | (refine Below.setCell ?_ (by first | omega | (simp; omega) | (simp; done) | (dsimp only; omega)) _) | (refine Below.alloc ?_ (by first | omega | (simp; omega) | (simp; done) | (dsimp only; omega)) _) | (refine below_drewN ?_ _) | (refine Below.drew ?_) | (refine Below.trans ?_ (hq.mono (by first | omega | (simp; omega) | (simp; done) | (dsimp only; omega)))) | (refine Below.trans ?_ (hb46.mono (by first | omega | (simp; omega) | (simp; done) | (dsimp only; omega)))))) hgz (by simp; omega) (fun k hk => (hq10.blkv k hk).1)
                  · have := hgz.size; simp at this; omega
              · obtain rfl : i = 8 := by omega
                have hfs := HFS.out
                rw [show moreM ⟨t0, t1⟩ = moreTo ⟨t0, t1⟩ 8 from rfl, HMS.out] at hfs
                have HFS2 := Lib.hid hfs
                clear hfs
                go_wp2
                exact ⟨⟨j + 1, C, f, by omega, by go_num, by rw [HFS2.out], by rw [HFS2.out]; exact hq, hb3.trans hb4⟩, by simp [intOf]; omega⟩
          · obtain rfl : j = ts.length := by omega
            have hns := HNS.out
            rw [List.take_length, HLS.out] at hns
            subst hns
            have hoo := ho.same (Same.of_below hbn (Nat.le_refl _))
            go_wp2_with (at_builtin; refine wpList_appAll tyKinS EKin_one A (outM ego k) hoo rfl hn rfl hsz zn (Nat.le_refl _) _ _ rfl rfl rfl rfl (by omega) (by decide) ?_; intro A5 c5 w5 ho5 hg5 hr5)
            have z5 := hg5.size
            refine ⟨⟨k + 1, A5, c5, B, d, by omega, by go_num, by rw [HOS.out, List.length_append], rfl, by rw [HOS.out, List.length_append]; exact ho5, hr5.mono (by omega) (by omega), ?_, by omega⟩, by simp [intOf]; omega⟩
            exact Below.grown (hbr.trans (hbn.mono (by omega))) hg5 (by omega) (fun k hk => (ho.blkv k hk).1)
      · obtain rfl : k = n := by omega
        go_wp2
        go_ret
        exact ⟨A, c, rfl, ho, hb0.trans hbr⟩
theorem implTypesFrom_any (ego n : Int) (w : World) : Calls Try.prog 33 #[.int .i64 ego, .int .i64 n] w (RetKins w (fromM ego n)) := by
  by_cases hok : (ego = 1 ∨ ego = 2) ∧ 1 ≤ n ∧ n ≤ 3
  · obtain ⟨he, h1, h3⟩ := hok
    obtain ⟨n, rfl⟩ := Int.eq_ofNat_of_zero_le (by omega : 0 ≤ n)
    rw [fromM_in he (by omega) (by omega)]
    exact implTypesFrom_in ego n w he (by omega) (by omega)
  · rw [fromM_out hok]
    by_cases he : ego = 1 ∨ ego = 2
    · have hn : n < 1 ∨ 3 < n := by
        rcases Int.lt_or_le n 1 with h | h
        · exact .inl h
        · right; rcases Int.lt_or_le 3 n with h' | h'
          · exact h'
          · exact absurd ⟨he, h, h'⟩ hok
      have hreg : ∃ b1 b2 : Bool, (ego != 1) = b1 ∧ (ego != 2) = b2 ∧ (b1 = false ∨ b2 = false) := ⟨_, _, rfl, rfl, by rcases he with rfl | rfl <;> simp⟩
      clear he hok
      obtain ⟨b1, b2, e1, e2, hb12⟩ := hreg
      cases b1 <;> cases b2
      all_goals first | (exfalso; simp at hb12; done) | skip
      all_goals
        clear hb12
        go_enter Try.func33, Try.ntmps33
        rcases hn with hn | hn
        · go_wp2
          go_ret
          exact RetKins.nil (Below.refl _ _)
        · have hn1 : ¬ n < 1 := by omega
          go_wp2
          go_ret
          exact RetKins.nil (Below.refl _ _)
    · have n1 : (ego != 1) = true := by simp; omega
      have n2 : (ego != 2) = true := by simp; omega
      clear he hok
      go_enter Try.func33, Try.ntmps33
      go_wp2
      go_ret
      exact RetKins.nil (Below.refl _ _)
end Go.Proofs.Ytnnjilkjjdiblaa
