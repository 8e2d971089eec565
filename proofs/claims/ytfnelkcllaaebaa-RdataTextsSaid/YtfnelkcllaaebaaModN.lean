/- The plain words on numbers as bytes. No condition. -/
namespace Go.Proofs.Ytfnelkcllaaebaa
/-- Has a number so many bytes? -/
def fits (n size : Int) : Bool := decide (1 ≤ size ∧ size ≤ 7 ∧ 0 ≤ n ∧ n < 256 ^ size.toNat)
/-- The number of bytes, the greatest first. -/
def beN (l : List UInt8) : Nat := l.foldl (fun n x => n * 256 + x.toNat) 0
/-- The bytes of a number. -/
def be (n : Int) : Nat → List UInt8
  | 0 => []
  | k + 1 => UInt8.ofNat ((n / 256 ^ k).toNat % 256) :: be n k
/-- A number behind bytes. -/
def putN (b : List UInt8) (n size : Int) : List UInt8 := if fits n size = true then b ++ be n size.toNat else b
/-- The number at a place. -/
def getN (b : List UInt8) (at_ size : Int) : Int × Int :=
  if size < 1 ∨ 7 < size ∨ at_ < 0 then (0, 1) else if (b.length : Int) < at_ + size then (0, 3) else ((beN ((b.drop at_.toNat).take size.toNat) : Int), 0)
theorem be_length (n : Int) (k : Nat) : (be n k).length = k := by induction k with
  | zero => rfl
  | succ k ih => simp [be, ih]
theorem beN_snoc (l : List UInt8) (x : UInt8) : beN (l ++ [x]) = beN l * 256 + x.toNat := by simp [beN]
theorem beN_lt (l : List UInt8) : beN l < 256 ^ l.length := by
  have key : ∀ (l : List UInt8) (n : Nat), l.foldl (fun n x => n * 256 + x.toNat) n < (n + 1) * 256 ^ l.length := by
    intro l
    induction l with
    | nil => intro n; simp
    | cons x l ih =>
      intro n
      simp only [List.foldl_cons, List.length_cons]
      have h1 := ih (n * 256 + x.toNat)
      have h2 := x.toNat_lt
      have h3 : (n * 256 + x.toNat + 1) * 256 ^ l.length ≤ ((n + 1) * 256) * 256 ^ l.length := Nat.mul_le_mul_right _ (by omega)
      rw [Nat.pow_succ, Nat.mul_comm (256 ^ l.length) 256, ← Nat.mul_assoc]
      omega
  have := key l 0
  simpa [beN] using this
theorem fits_iff (n size : Int) : fits n size = true ↔ 1 ≤ size ∧ size ≤ 7 ∧ 0 ≤ n ∧ n < 256 ^ size.toNat := by simp [fits]
theorem pow8 (k : Nat) : (2 : Int) ^ (8 * k) = 256 ^ k := by rw [Int.pow_mul]; rfl
theorem pow256_le {a b : Nat} (h : a ≤ b) : (256 : Int) ^ a ≤ 256 ^ b := by
  have := Nat.pow_le_pow_right (n := 256) (by decide) h
  have h2 : ((256 ^ a : Nat) : Int) ≤ ((256 ^ b : Nat) : Int) := Int.ofNat_le.2 this
  exact h2
theorem pow256_pos (a : Nat) : (0 : Int) < 256 ^ a := by
  exact Int.pow_pos (by decide)
theorem fits_div (n size : Int) (h1 : 1 ≤ size) (h7 : size ≤ 7) (h0 : 0 ≤ n) : (n / 2 ^ (8 * size).toNat == 0) = fits n size := by
  have e : (8 * size).toNat = 8 * size.toNat := by omega
  rw [e, pow8]
  have hp := pow256_pos size.toNat
  have hd := Int.mul_ediv_add_emod n (256 ^ size.toNat)
  have hm := Int.emod_lt_of_pos n hp
  have hm0 := Int.emod_nonneg n (Int.ne_of_gt hp)
  rw [Bool.eq_iff_iff, fits_iff, beq_iff_eq]
  constructor
  · intro h
    rw [h] at hd
    exact ⟨h1, h7, h0, by omega⟩
  · intro ⟨_, _, _, h⟩
    exact Int.ediv_eq_zero_of_lt h0 h
theorem fits_no (n size : Int) (h : ¬ (1 ≤ size ∧ size ≤ 7 ∧ 0 ≤ n)) : fits n size = false := by
  rw [Bool.eq_false_iff]; intro hf; rw [fits_iff] at hf; exact h ⟨hf.1, hf.2.1, hf.2.2.1⟩
theorem fits_bound (n size : Int) (h : fits n size = true) : 0 ≤ n ∧ n < 72057594037927936 ∧ 1 ≤ size ∧ size ≤ 7 := by
  rw [fits_iff] at h
  obtain ⟨h1, h2, h3, h4⟩ := h
  refine ⟨h3, ?_, h1, h2⟩
  have := pow256_le (show size.toNat ≤ 7 by omega)
  have e : (256 : Int) ^ 7 = 72057594037927936 := by decide
  omega
theorem div_div_256 (n : Int) (k : Nat) : n / 256 ^ k / 256 = n / 256 ^ (k + 1) := by
  rw [Int.ediv_ediv_of_nonneg (Int.le_of_lt (pow256_pos k)), Int.pow_succ]
theorem fits_div' (n size : Int) (h1 : 1 ≤ size) (h7 : size ≤ 7) (h0 : 0 ≤ n) : (n / 256 ^ size.toNat == 0) = fits n size := by
  rw [← fits_div n size h1 h7 h0]
  have e : (8 * size).toNat = 8 * size.toNat := by omega
  rw [e, pow8]
theorem getN_arg (b : List UInt8) (at_ size : Int) (h : ¬ (1 ≤ size ∧ size ≤ 7 ∧ 0 ≤ at_)) : getN b at_ size = (0, 1) := by
  unfold getN; rw [if_pos (by omega)]
theorem getN_short (b : List UInt8) (at_ size : Int) (h : 1 ≤ size ∧ size ≤ 7 ∧ 0 ≤ at_) (h2 : (b.length : Int) < at_ + size) : getN b at_ size = (0, 3) := by
  unfold getN; rw [if_neg (by omega), if_pos h2]
theorem getN_ok (b : List UInt8) (at_ size : Int) (h : 1 ≤ size ∧ size ≤ 7 ∧ 0 ≤ at_) (h2 : at_ + size ≤ (b.length : Int)) : getN b at_ size = ((beN ((b.drop at_.toNat).take size.toNat) : Int), 0) := by
  unfold getN; rw [if_neg (by omega), if_neg (by omega)]
theorem take_drop_snoc (b : List UInt8) (a k : Nat) (x : UInt8) (h : b[a + k]? = some x) : (b.drop a).take (k + 1) = (b.drop a).take k ++ [x] := by
  rw [List.take_add_one, List.getElem?_drop, h]; rfl
theorem beN_take_lt (b : List UInt8) (a k : Nat) (h : k ≤ 6) : beN ((b.drop a).take k) < 281474976710656 := by
  have h1 := beN_lt ((b.drop a).take k)
  have h2 : ((b.drop a).take k).length ≤ 6 := Nat.le_trans (List.length_take_le _ _) h
  have h3 := Nat.pow_le_pow_right (n := 256) (by decide) h2
  have e : 256 ^ 6 = 281474976710656 := by decide
  omega
theorem or_byte (n : Nat) (x : UInt8) : n * 256 ||| x.toNat = n * 256 + x.toNat := by
  have h := Nat.two_pow_add_eq_or_of_lt (i := 8) (show x.toNat < 2 ^ 8 from x.toNat_lt) n
  rw [Nat.mul_comm n 256]; exact h.symm
end Go.Proofs.Ytfnelkcllaaebaa
