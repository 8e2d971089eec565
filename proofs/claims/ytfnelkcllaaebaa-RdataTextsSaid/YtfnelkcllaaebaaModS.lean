/- The plain words on names. No condition. -/
namespace Go.Proofs.Ytfnelkcllaaebaa
abbrev Str := ByteArray
/-- A small letter for a great one. -/
def lowB (b : UInt8) : UInt8 := if 65 ≤ b.toNat ∧ b.toNat ≤ 90 then b + 32 else b
/-- A string's bytes, and back. -/
def bs (s : ByteArray) : List UInt8 := s.data.toList
def ofB (l : List UInt8) : ByteArray := ⟨l.toArray⟩
theorem bs_ofB (l : List UInt8) : bs (ofB l) = l := rfl
theorem ofB_bs (s : ByteArray) : ofB (bs s) = s := rfl
theorem bs_length (s : ByteArray) : (bs s).length = s.size := Array.length_toList
theorem bs_inj {a b : ByteArray} (h : bs a = bs b) : a = b := by rw [← ofB_bs a, ← ofB_bs b, h]
theorem ofB_size (l : List UInt8) : (ofB l).size = l.length := by rw [← bs_length, bs_ofB]
/-- With small letters. -/
def small (s : ByteArray) : ByteArray := ofB ((bs s).map lowB)
/-- How many bytes a name takes. -/
def nsize : List Str → Nat
  | [] => 1
  | l :: n => l.size + 1 + nsize n
def nsound (n : List Str) : Bool := decide ((∀ l ∈ n, 1 ≤ l.size ∧ l.size ≤ 63) ∧ nsize n ≤ 255)
def neq (a b : List Str) : Bool := decide (a.map small = b.map small)
theorem nsize_append (a b : List Str) : nsize (a ++ b) + 1 = nsize a + nsize b := by
  induction a with
  | nil => simp [nsize]; omega
  | cons x a ih => simp only [List.cons_append, nsize]; omega
theorem nsize_ge (a : List Str) : a.length + 1 ≤ nsize a := by
  induction a with
  | nil => simp [nsize]
  | cons x a ih => simp only [List.length_cons, nsize]; omega
theorem nsize_ge2 (a : List Str) (h : ∀ l ∈ a, 1 ≤ l.size) : 2 * a.length + 1 ≤ nsize a := by
  induction a with
  | nil => simp [nsize]
  | cons x a ih =>
    have h1 := h x (by simp)
    have h2 := ih (fun l hl => h l (by simp [hl]))
    simp only [List.length_cons, nsize]; omega
theorem nsize_le (a : List Str) (m : Nat) (h : ∀ l ∈ a, l.size ≤ m) : nsize a ≤ a.length * (m + 1) + 1 := by
  induction a with
  | nil => simp [nsize]
  | cons x a ih =>
    have h1 := h x (by simp)
    have h2 := ih (fun l hl => h l (by simp [hl]))
    simp only [List.length_cons, nsize]
    have h3 : (a.length + 1) * (m + 1) = a.length * (m + 1) + (m + 1) := by rw [Nat.add_mul, Nat.one_mul]
    omega
theorem small_size (s : ByteArray) : (small s).size = s.size := by simp [small, ofB_size, bs_length]
/-- The first k bytes made small. -/
def mixB (l : List UInt8) (k : Nat) : List UInt8 := (l.take k).map lowB ++ l.drop k
theorem mixB_length (l : List UInt8) (k : Nat) : (mixB l k).length = l.length := by
  simp [mixB]; omega
theorem mixB_at (l : List UInt8) (k : Nat) (x : UInt8) (h : l[k]? = some x) : (mixB l k)[k]? = some x := by
  obtain ⟨hlt, he⟩ := List.getElem?_eq_some_iff.1 h
  unfold mixB
  rw [List.getElem?_append_right (by simp; omega)]
  simp only [List.length_map, List.length_take, List.getElem?_drop]
  rw [show k + (k - min k l.length) = k from by omega, h]
theorem mixB_succ (l : List UInt8) (k : Nat) (x : UInt8) (h : l[k]? = some x) : mixB l (k + 1) = (mixB l k).set k (lowB x) := by
  obtain ⟨hlt, he⟩ := List.getElem?_eq_some_iff.1 h
  unfold mixB
  have hl : ((l.take k).map lowB).length = k := by simp; omega
  have e := List.set_append_right (s := (l.take k).map lowB) (t := l.drop k) k (lowB x) (by omega)
  rw [e, hl, List.take_add_one, h, Nat.sub_self, List.drop_eq_getElem_cons hlt, he]
  simp
theorem mixB_all (l : List UInt8) (k : Nat) (h : l.length ≤ k) : mixB l k = l.map lowB := by
  unfold mixB; rw [List.take_of_length_le h, List.drop_of_length_le h, List.append_nil]
theorem lowB_yes (x : UInt8) (h1 : 65 ≤ (x.toNat : Int)) (h2 : (x.toNat : Int) ≤ 90) : ((lowB x).toNat : Int) = (x.toNat : Int) + 32 := by
  have : (x + 32).toNat = x.toNat + 32 := by rw [UInt8.toNat_add]; simp; omega
  unfold lowB; rw [if_pos (by omega), this]; simp
theorem lowB_no (x : UInt8) (h : ¬ (65 ≤ (x.toNat : Int) ∧ (x.toNat : Int) ≤ 90)) : lowB x = x := by
  unfold lowB; rw [if_neg (by omega)]
theorem mixB_same (l : List UInt8) (k : Nat) (x : UInt8) (h : l[k]? = some x) (hx : lowB x = x) : mixB l (k + 1) = mixB l k := by
  rw [mixB_succ l k x h, hx]
  apply List.ext_getElem?
  intro i
  rw [List.getElem?_set]
  split
  · rename_i e
    subst e
    have h2 := mixB_at l k x h
    split
    · exact h2.symm
    · rename_i hn
      have := (List.getElem?_eq_some_iff.1 h2).1
      exact absurd this hn
  · rfl
end Go.Proofs.Ytfnelkcllaaebaa
