/-
  The text of a family: the model.
-/
import Derived.Test.YthpcippgifmabaaGreatDoorGFam
import Derived.Lib.ItoaMem
import Derived.Lib.Join
namespace Go.Proofs.YthpcippgifmabaaGreatDoor
set_option maxRecDepth 100000
open Go.RowKit

def yearT (n : Int) : ByteArray := if n < 0 then ⟨#[45]⟩ else ⟨(Lib.itoa n).toArray⟩
def personName (xs : List Person) (p : Int) : ByteArray := match xs[p.toNat]? with
  | some x => x.name
  | none => ⟨#[]⟩
def nameT (xs : List Person) (p : Int) : ByteArray := if p < 0 then ⟨#[45]⟩ else personName xs p
def sexT (s : Int) : ByteArray := if s = 1 then ⟨#[109, 97, 110]⟩ else ⟨#[119, 111, 109, 97, 110]⟩
def fieldsP (xs : List Person) (x : Person) : List ByteArray := [sexT x.sex, x.name, nameT xs x.father, nameT xs x.mother, yearT x.born, yearT x.died]
def fieldsU (xs : List Person) (y : Union) : List ByteArray := [⟨#[117, 110, 105, 111, 110]⟩, nameT xs y.man, nameT xs y.woman, yearT y.since, yearT y.till]
def joinF (fs : List ByteArray) : List UInt8 := Lib.join (fs.map (·.data.toList)) [32]
def peopleL (xs : List Person) (k : Nat) : List UInt8 := (xs.take k).flatMap fun x => joinF (fieldsP xs x) ++ [10]
def unionsL (xs : List Person) (ys : List Union) (k : Nat) : List UInt8 := peopleL xs xs.length ++ (ys.take k).flatMap fun y => joinF (fieldsU xs y) ++ [10]
def familyT (xs : List Person) (ys : List Union) : ByteArray := if famOk xs ys = true then ⟨(unionsL xs ys ys.length).toArray⟩ else ⟨#[]⟩

theorem peopleL_succ {xs : List Person} {k : Nat} {x : Person} (h : xs[k]? = some x) : peopleL xs (k + 1) = peopleL xs k ++ (joinF (fieldsP xs x) ++ [10]) := by
  rw [peopleL, List.take_add_one, h, List.flatMap_append, peopleL]
  simp
theorem unionsL_zero (xs : List Person) (ys : List Union) : unionsL xs ys 0 = peopleL xs xs.length := by simp [unionsL]
theorem unionsL_succ {xs : List Person} {ys : List Union} {k : Nat} {y : Union} (h : ys[k]? = some y) : unionsL xs ys (k + 1) = unionsL xs ys k ++ (joinF (fieldsU xs y) ++ [10]) := by
  rw [unionsL, List.take_add_one, h, List.flatMap_append, unionsL, List.append_assoc]
  simp
theorem joinF_six (a b c d e f : ByteArray) : joinF [a, b, c, d, e, f] = a.data.toList ++ 32 :: (b.data.toList ++ 32 :: (c.data.toList ++ 32 :: (d.data.toList ++ 32 :: (e.data.toList ++ 32 :: f.data.toList)))) := by
  simp [joinF, Lib.join_cons, Lib.joinTail]
theorem joinF_five (a b c d e : ByteArray) : joinF [a, b, c, d, e] = a.data.toList ++ 32 :: (b.data.toList ++ 32 :: (c.data.toList ++ 32 :: (d.data.toList ++ 32 :: e.data.toList))) := by
  simp [joinF, Lib.join_cons, Lib.joinTail]

/-- A row of bytes as a string. -/
def mkT (l : List UInt8) : ByteArray := ⟨l.toArray⟩
theorem mkT_size (l : List UInt8) : (mkT l).size = l.length := by simp [mkT, ByteArray.size]
theorem mkT_data (l : List UInt8) : (mkT l).data.toList = l := rfl
theorem mkT_nil : mkT [] = ⟨#[]⟩ := rfl
theorem mkT_bytes (s : ByteArray) : mkT s.data.toList = s := rfl
theorem mkT_app (a b : List UInt8) : mkT (a ++ b) = mkT a ++ mkT b := by
  apply ByteArray.ext
  rw [ByteArray.data_append]
  exact (List.append_toArray a b).symm
theorem len_bytes (s : ByteArray) : s.data.toList.length = s.size := Array.length_toList

theorem decDigits_small {u : Nat} (h : u < 10000) : (Lib.decDigits u).length ≤ 4 := by
  rw [Lib.decDigits]; split
  · simp
  rw [Lib.decDigits]; split
  · simp
  rw [Lib.decDigits]; split
  · simp
  rw [Lib.decDigits, dif_pos (by omega)]
  simp
theorem yearT_size {n : Int} (h : n ≤ 9999) : (yearT n).size ≤ 4 := by
  unfold yearT; split
  · show 1 ≤ 4; omega
  · rename_i h0
    obtain ⟨u, rfl⟩ := Int.eq_ofNat_of_zero_le (by omega : 0 ≤ n)
    rw [Lib.itoa_nonneg]
    have := decDigits_small (u := u) (by omega)
    simpa [ByteArray.size] using this
theorem nameOk_size {s : ByteArray} (h : nameOk s = true) : 1 ≤ s.size ∧ s.size ≤ 12 := by
  simp only [nameOk, Bool.and_eq_true, decide_eq_true_eq] at h; exact h.1
/-- A valid family's person. -/
structure PersonIn (xs : List Person) (k : Nat) (x : Person) : Prop where
  name : nameOk x.name = true
  alive : aliveOk x = true
  dad : x.father = -1 ∨ ∃ (m : Nat) (y : Person), x.father = m ∧ m < k ∧ xs[m]? = some y
  mum : x.mother = -1 ∨ ∃ (m : Nat) (y : Person), x.mother = m ∧ m < k ∧ xs[m]? = some y
theorem parentOk_known {xs : List Person} {k : Nat} {q sex late : Int} (h : parentOk xs k q sex late = true) (hk : k < xs.length) : q = -1 ∨ ∃ (m : Nat) (y : Person), q = m ∧ m < k ∧ xs[m]? = some y := by
  unfold parentOk at h
  split at h
  · exact .inl (by assumption)
  split at h
  · cases h
  · refine .inr ⟨q.toNat, xs[q.toNat]'(by omega), by omega, by omega, List.getElem?_eq_getElem _⟩
theorem famOk_person {xs : List Person} {ys : List Union} {k : Nat} {x : Person} (h : famOk xs ys = true) (hk : xs[k]? = some x) : PersonIn xs k x := by
  have hl := (List.getElem?_eq_some_iff.1 hk).1
  have h1 := peopleOk_get (famOk_parts h).2.2.1 hl
  rw [personOk_of hk] at h1
  obtain ⟨a, b, -, c, d⟩ := personOf_parts h1
  exact ⟨a, b, parentOk_known c hl, parentOk_known d hl⟩
theorem personName_size {xs : List Person} {ys : List Union} (h : famOk xs ys = true) (p : Int) : (personName xs p).size ≤ 12 := by
  unfold personName
  split
  · rename_i x hx; exact (nameOk_size (famOk_person h hx).name).2
  · show 0 ≤ 12; omega
theorem nameT_size {xs : List Person} {ys : List Union} (h : famOk xs ys = true) (p : Int) : (nameT xs p).size ≤ 12 := by
  unfold nameT; split
  · show 1 ≤ 12; omega
  · exact personName_size h p
theorem sexT_size (s : Int) : (sexT s).size ≤ 5 := by
  unfold sexT; split
  · show 3 ≤ 5; omega
  · show 5 ≤ 5; omega
theorem joinP_len {xs : List Person} {ys : List Union} {k : Nat} {x : Person} (h : famOk xs ys = true) (hk : xs[k]? = some x) : (joinF (fieldsP xs x)).length ≤ 54 := by
  have hp := famOk_person h hk
  have a := aliveOk_parts hp.alive
  have h1 := sexT_size x.sex
  have h2 := (nameOk_size hp.name).2
  have h3 := nameT_size h x.father
  have h4 := nameT_size h x.mother
  have h5 := yearT_size (n := x.born) (by omega)
  have h6 := yearT_size (n := x.died) (by omega)
  rw [fieldsP, joinF_six]
  simp only [List.length_append, List.length_cons, len_bytes]
  omega
theorem joinU_len {xs : List Person} {ys : List Union} {y : Union} (h : famOk xs ys = true) (hs : y.since ≤ 9999) (ht : y.till ≤ 9999) : (joinF (fieldsU xs y)).length ≤ 54 := by
  have h3 := nameT_size h y.man
  have h4 := nameT_size h y.woman
  have h5 := yearT_size hs
  have h6 := yearT_size ht
  rw [fieldsU, joinF_five]
  simp only [List.length_append, List.length_cons, List.length_nil, len_bytes]
  omega
theorem flat_len {α : Type} (f : α → List UInt8) (n : Nat) : ∀ (l : List α), (∀ x ∈ l, (f x).length ≤ n) → (l.flatMap f).length ≤ n * l.length := by
  intro l
  induction l with
  | nil => intro _; simp
  | cons x r ih =>
    intro h
    have h1 := h x (by simp)
    have h2 := ih fun y hy => h y (by simp [hy])
    simp only [List.flatMap_cons, List.length_append, List.length_cons, Nat.mul_succ]
    omega
theorem peopleL_len {xs : List Person} {ys : List Union} (h : famOk xs ys = true) (k : Nat) : (peopleL xs k).length ≤ 2200 := by
  have h1 := flat_len (fun x => joinF (fieldsP xs x) ++ [10]) 55 (xs.take k) fun x hx => by
    obtain ⟨i, hi, rfl⟩ := List.getElem_of_mem (List.mem_of_mem_take hx)
    have := joinP_len h (List.getElem?_eq_getElem hi)
    simp; omega
  have h2 := (famOk_parts h).1
  have h3 : (xs.take k).length ≤ xs.length := by rw [List.length_take]; omega
  show ((xs.take k).flatMap _).length ≤ _
  omega
theorem unionsL_len {xs : List Person} {ys : List Union} (h : famOk xs ys = true) (hu : ∀ y ∈ ys, y.since ≤ 9999 ∧ y.till ≤ 9999) (k : Nat) : (unionsL xs ys k).length ≤ 5500 := by
  have h1 := flat_len (fun y => joinF (fieldsU xs y) ++ [10]) 55 (ys.take k) fun y hy => by
    have hq := hu y (List.mem_of_mem_take hy)
    have := joinU_len h hq.1 hq.2
    simp; omega
  have h2 := (famOk_parts h).2.1
  have h3 : (ys.take k).length ≤ ys.length := by rw [List.length_take]; omega
  have h4 := peopleL_len h xs.length
  rw [unionsL, List.length_append]
  have h5 : ((ys.take k).flatMap fun y => joinF (fieldsU xs y) ++ [10]).length ≤ 55 * (ys.take k).length := h1
  omega
end Go.Proofs.YthpcippgifmabaaGreatDoor
