/-
  The first place and the first rule that fits: what a rewriting step gives.
-/
import Derived.Test.YtnanlbglgflecaaRepl
namespace Go.Proofs.Ytnanlbglgflecaa
set_option maxRecDepth 100000
open Go.RowKit

/-- The first rule of the list that fits at a place, from rule number 'k' on. -/
def rewIn (t : KinType) (i : Nat) : List Rule → Nat → Option (Rule × Nat)
  | [], _ => none
  | r :: rs, k => if fitsM r t i = true then some (r, k) else rewIn t i rs (k + 1)
/-- The first place where a rule fits, among 'n' places from 'i' on. -/
def rewFrom (rs : List Rule) (t : KinType) : Nat → Nat → Option (Rule × Nat × Nat)
  | 0, _ => none
  | n + 1, i => match rewIn t i rs 0 with
    | some (r, k) => some (r, k, i)
    | none => rewFrom rs t n (i + 1)
def stepM (rs : List Rule) (t : KinType) : KinType × Int × Int × Bool :=
  match rewFrom rs t t.steps.length 0 with
  | some (r, k, i) => (replM r t i, (k : Int), (i : Int), true)
  | none => (zeroT, 0, 0, false)
def rewM (rs : List Rule) (t : KinType) : KinType × Int × Int × Bool := if rulesOk rs && typeOk t then stepM rs t else (zeroT, 0, 0, false)

theorem rewIn_none {t : KinType} {i : Nat} {rs : List Rule} (h : ∀ r ∈ rs, fitsM r t i = false) (k : Nat) : rewIn t i rs k = none := by
  induction rs generalizing k with
  | nil => rfl
  | cons r rs ih =>
    rw [rewIn, if_neg (by rw [h r (List.mem_cons_self ..)]; decide)]
    exact ih (fun q hq => h q (List.mem_cons_of_mem _ hq)) _
theorem rewIn_at {t : KinType} {i : Nat} {r : Rule} : ∀ (rs : List Rule) (k j : Nat), rs[k]? = some r → (∀ m q, m < k → rs[m]? = some q → fitsM q t i = false) → fitsM r t i = true → rewIn t i rs j = some (r, j + k)
  | [], k, j, h, _, _ => by simp at h
  | q :: rs, 0, j, h, _, hf => by
    simp only [List.getElem?_cons_zero, Option.some.injEq] at h
    subst h
    rw [rewIn, if_pos hf]; rfl
  | q :: rs, k + 1, j, h, hb, hf => by
    have h0 := hb 0 q (by omega) rfl
    rw [rewIn, if_neg (by rw [h0]; decide), rewIn_at rs k (j + 1) (by simpa using h) (fun m p hm hp => hb (m + 1) p (by omega) (by simpa using hp)) hf]
    rw [show j + 1 + k = j + (k + 1) by omega]
theorem rewFrom_none {rs : List Rule} {t : KinType} : ∀ (n i : Nat), (∀ m, i ≤ m → m < i + n → ∀ r ∈ rs, fitsM r t m = false) → rewFrom rs t n i = none
  | 0, _, _ => rfl
  | n + 1, i, h => by
    rw [rewFrom, rewIn_none (h i (by omega) (by omega)) 0]
    exact rewFrom_none n (i + 1) (fun m h1 h2 => h m (by omega) (by omega))
theorem rewFrom_at {rs : List Rule} {t : KinType} {r : Rule} {k i : Nat} (hk : rs[k]? = some r) (hb : ∀ m q, m < k → rs[m]? = some q → fitsM q t i = false) (hf : fitsM r t i = true) :
    ∀ (n j : Nat), j ≤ i → i < j + n → (∀ m, j ≤ m → m < i → ∀ q ∈ rs, fitsM q t m = false) → rewFrom rs t n j = some (r, k, i)
  | 0, j, h1, h2, _ => by omega
  | n + 1, j, h1, h2, h3 => by
    by_cases e : j = i
    · subst e
      rw [rewFrom, rewIn_at rs k 0 hk hb hf, Nat.zero_add]
    · rw [rewFrom, rewIn_none (h3 j (by omega) (by omega)) 0]
      exact rewFrom_at hk hb hf n (j + 1) (by omega) (by omega) (fun m a b => h3 m (by omega) b)
theorem stepM_none {rs : List Rule} {t : KinType} (h : ∀ m, m < t.steps.length → ∀ r ∈ rs, fitsM r t m = false) : stepM rs t = (zeroT, 0, 0, false) := by
  rw [stepM, rewFrom_none _ _ (fun m _ h2 => h m (by omega))]
theorem stepM_at {rs : List Rule} {t : KinType} {r : Rule} {k i : Nat} (hi : i < t.steps.length) (hk : rs[k]? = some r) (hb : ∀ m q, m < k → rs[m]? = some q → fitsM q t i = false) (hf : fitsM r t i = true) (ha : ∀ m, m < i → ∀ q ∈ rs, fitsM q t m = false) :
    stepM rs t = (replM r t i, (k : Int), (i : Int), true) := by
  rw [stepM, rewFrom_at hk hb hf _ 0 (by omega) (by omega) (fun m _ h2 => ha m h2)]
end Go.Proofs.Ytnanlbglgflecaa
