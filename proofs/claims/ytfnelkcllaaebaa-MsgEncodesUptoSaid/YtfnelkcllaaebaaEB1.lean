/- Parts of one proof, joined: ModN, ModS, ModG, ModD. Conditions: those that each theorem states. -/
section
/- The plain words on numbers as bytes. No condition. -/
namespace Go.Proofs.Ytfnelkcllaaebaa
/-- Has a number so many bytes? -/
def fits (n size : Int) : Bool := decide (1 ≤ size ∧ size ≤ 7 ∧ 0 ≤ n ∧ n < 256 ^ size.toNat)
/-- The number of bytes, the greatest first. -/
def beN (l : List UInt8) : Nat := l.foldl (fun n x => n * 256 + x.toNat) 0
/-- The bytes of a number. -/
def be (n : Int) : Nat → List UInt8
  | 0 => []
  | k + 1 => UInt8.ofNat ((n / 256 ^ k).toNat % 256) :: be n k
/-- A number behind bytes. -/
def putN (b : List UInt8) (n size : Int) : List UInt8 := if fits n size = true then b ++ be n size.toNat else b
/-- The number at a place. -/
def getN (b : List UInt8) (at_ size : Int) : Int × Int :=
  if size < 1 ∨ 7 < size ∨ at_ < 0 then (0, 1) else if (b.length : Int) < at_ + size then (0, 3) else ((beN ((b.drop at_.toNat).take size.toNat) : Int), 0)
theorem be_length (n : Int) (k : Nat) : (be n k).length = k := by induction k with
  | zero => rfl
  | succ k ih => simp [be, ih]
theorem fits_iff (n size : Int) : fits n size = true ↔ 1 ≤ size ∧ size ≤ 7 ∧ 0 ≤ n ∧ n < 256 ^ size.toNat := by simp [fits]
theorem pow8 (k : Nat) : (2 : Int) ^ (8 * k) = 256 ^ k := by rw [Int.pow_mul]; rfl
theorem pow256_le {a b : Nat} (h : a ≤ b) : (256 : Int) ^ a ≤ 256 ^ b := by
  have := Nat.pow_le_pow_right (n := 256) (by decide) h
  have h2 : ((256 ^ a : Nat) : Int) ≤ ((256 ^ b : Nat) : Int) := Int.ofNat_le.2 this
  exact h2
theorem pow256_pos (a : Nat) : (0 : Int) < 256 ^ a := by
  exact Int.pow_pos (by decide)
theorem fits_div (n size : Int) (h1 : 1 ≤ size) (h7 : size ≤ 7) (h0 : 0 ≤ n) : (n / 2 ^ (8 * size).toNat == 0) = fits n size := by
  have e : (8 * size).toNat = 8 * size.toNat := by omega
  rw [e, pow8]
  have hp := pow256_pos size.toNat
  have hd := Int.mul_ediv_add_emod n (256 ^ size.toNat)
  have hm := Int.emod_lt_of_pos n hp
  have hm0 := Int.emod_nonneg n (Int.ne_of_gt hp)
  rw [Bool.eq_iff_iff, fits_iff, beq_iff_eq]
  constructor
  · intro h
    rw [h] at hd
    exact ⟨h1, h7, h0, by omega⟩
  · intro ⟨_, _, _, h⟩
    exact Int.ediv_eq_zero_of_lt h0 h
theorem fits_no (n size : Int) (h : ¬ (1 ≤ size ∧ size ≤ 7 ∧ 0 ≤ n)) : fits n size = false := by
  rw [Bool.eq_false_iff]; intro hf; rw [fits_iff] at hf; exact h ⟨hf.1, hf.2.1, hf.2.2.1⟩
theorem fits_bound (n size : Int) (h : fits n size = true) : 0 ≤ n ∧ n < 72057594037927936 ∧ 1 ≤ size ∧ size ≤ 7 := by
  rw [fits_iff] at h
  obtain ⟨h1, h2, h3, h4⟩ := h
  refine ⟨h3, ?_, h1, h2⟩
  have := pow256_le (show size.toNat ≤ 7 by omega)
  have e : (256 : Int) ^ 7 = 72057594037927936 := by decide
  omega
theorem div_div_256 (n : Int) (k : Nat) : n / 256 ^ k / 256 = n / 256 ^ (k + 1) := by
  rw [Int.ediv_ediv_of_nonneg (Int.le_of_lt (pow256_pos k)), Int.pow_succ]
theorem fits_div' (n size : Int) (h1 : 1 ≤ size) (h7 : size ≤ 7) (h0 : 0 ≤ n) : (n / 256 ^ size.toNat == 0) = fits n size := by
  rw [← fits_div n size h1 h7 h0]
  have e : (8 * size).toNat = 8 * size.toNat := by omega
  rw [e, pow8]
theorem getN_short (b : List UInt8) (at_ size : Int) (h : 1 ≤ size ∧ size ≤ 7 ∧ 0 ≤ at_) (h2 : (b.length : Int) < at_ + size) : getN b at_ size = (0, 3) := by
  unfold getN; rw [if_neg (by omega), if_pos h2]
theorem getN_ok (b : List UInt8) (at_ size : Int) (h : 1 ≤ size ∧ size ≤ 7 ∧ 0 ≤ at_) (h2 : at_ + size ≤ (b.length : Int)) : getN b at_ size = ((beN ((b.drop at_.toNat).take size.toNat) : Int), 0) := by
  unfold getN; rw [if_neg (by omega), if_neg (by omega)]
end Go.Proofs.Ytfnelkcllaaebaa
end
section
/- The plain words on names. No condition. -/
namespace Go.Proofs.Ytfnelkcllaaebaa
abbrev Str := ByteArray
/-- A small letter for a great one. -/
def lowB (b : UInt8) : UInt8 := if 65 ≤ b.toNat ∧ b.toNat ≤ 90 then b + 32 else b
/-- A string's bytes, and back. -/
def bs (s : ByteArray) : List UInt8 := s.data.toList
def ofB (l : List UInt8) : ByteArray := ⟨l.toArray⟩
theorem bs_ofB (l : List UInt8) : bs (ofB l) = l := rfl
theorem ofB_bs (s : ByteArray) : ofB (bs s) = s := rfl
theorem bs_length (s : ByteArray) : (bs s).length = s.size := Array.length_toList
theorem bs_inj {a b : ByteArray} (h : bs a = bs b) : a = b := by rw [← ofB_bs a, ← ofB_bs b, h]
theorem ofB_size (l : List UInt8) : (ofB l).size = l.length := by rw [← bs_length, bs_ofB]
/-- With small letters. -/
def small (s : ByteArray) : ByteArray := ofB ((bs s).map lowB)
/-- How many bytes a name takes. -/
def nsize : List Str → Nat
  | [] => 1
  | l :: n => l.size + 1 + nsize n
def nsound (n : List Str) : Bool := decide ((∀ l ∈ n, 1 ≤ l.size ∧ l.size ≤ 63) ∧ nsize n ≤ 255)
theorem nsize_append (a b : List Str) : nsize (a ++ b) + 1 = nsize a + nsize b := by
  induction a with
  | nil => simp [nsize]; omega
  | cons x a ih => simp only [List.cons_append, nsize]; omega
theorem nsize_ge (a : List Str) : a.length + 1 ≤ nsize a := by
  induction a with
  | nil => simp [nsize]
  | cons x a ih => simp only [List.length_cons, nsize]; omega
theorem nsize_ge2 (a : List Str) (h : ∀ l ∈ a, 1 ≤ l.size) : 2 * a.length + 1 ≤ nsize a := by
  induction a with
  | nil => simp [nsize]
  | cons x a ih =>
    have h1 := h x (by simp)
    have h2 := ih (fun l hl => h l (by simp [hl]))
    simp only [List.length_cons, nsize]; omega
theorem nsize_le (a : List Str) (m : Nat) (h : ∀ l ∈ a, l.size ≤ m) : nsize a ≤ a.length * (m + 1) + 1 := by
  induction a with
  | nil => simp [nsize]
  | cons x a ih =>
    have h1 := h x (by simp)
    have h2 := ih (fun l hl => h l (by simp [hl]))
    simp only [List.length_cons, nsize]
    have h3 : (a.length + 1) * (m + 1) = a.length * (m + 1) + (m + 1) := by rw [Nat.add_mul, Nat.one_mul]
    omega
end Go.Proofs.Ytfnelkcllaaebaa
end
section
/- The plain words on reading names. No condition. -/
namespace Go.Proofs.Ytfnelkcllaaebaa
/-- Reading a name from a state on: the labels, the place behind, the error. -/
def getNm (b : List UInt8) (at_ begin_ size next : Nat) (n : List Str) : List Str × Int × Int :=
  match b[at_]? with
  | none => ([], 0, 3)
  | some c =>
    if c.toNat = 0 then (n, ((max next (at_ + 1) : Nat) : Int), 0)
    else if 192 ≤ c.toNat then
      match b[at_ + 1]? with
      | none => ([], 0, 3)
      | some d =>
        if h : begin_ ≤ (c.toNat - 192) * 256 + d.toNat then ([], 0, 6)
        else getNm b ((c.toNat - 192) * 256 + d.toNat) ((c.toNat - 192) * 256 + d.toNat) size (max next (at_ + 2)) n
    else if 63 < c.toNat then ([], 0, 5)
    else if h : b.length < at_ + 1 + c.toNat then ([], 0, 3)
    else if 255 < size + 1 + c.toNat then ([], 0, 5)
    else getNm b (at_ + 1 + c.toNat) begin_ (size + 1 + c.toNat) next (n ++ [ofB ((b.take (at_ + 1 + c.toNat)).drop (at_ + 1))])
termination_by (begin_, b.length - at_)
decreasing_by
  · exact Prod.Lex.left _ _ (by omega)
  · exact Prod.Lex.right _ (by omega)
/-- wname.Get. -/
def getName (b : List UInt8) (at_ : Int) : List Str × Int × Int :=
  if at_ < 0 then ([], 0, 1) else getNm b at_.toNat at_.toNat 1 0 []
section
variable {b : List UInt8} {a g s x : Nat} {n : List Str}
theorem getNm_zero {c : UInt8} (h : b[a]? = some c) (hc : c.toNat = 0) : getNm b a g s x n = (n, ((max x (a + 1) : Nat) : Int), 0) := by
  rw [getNm]; simp only [h, hc, if_true]
theorem getNm_ptr_loop {c d : UInt8} (h : b[a]? = some c) (hc : 192 ≤ c.toNat) (h2 : b[a + 1]? = some d) (hg : g ≤ (c.toNat - 192) * 256 + d.toNat) : getNm b a g s x n = ([], 0, 6) := by
  rw [getNm]; simp only [h, h2]; rw [if_neg (by omega), if_pos hc, dif_pos hg]
theorem getNm_ptr {c d : UInt8} (h : b[a]? = some c) (hc : 192 ≤ c.toNat) (h2 : b[a + 1]? = some d) (hg : (c.toNat - 192) * 256 + d.toNat < g) :
    getNm b a g s x n = getNm b ((c.toNat - 192) * 256 + d.toNat) ((c.toNat - 192) * 256 + d.toNat) s (max x (a + 2)) n := by
  rw [getNm]; simp only [h, h2]; rw [if_neg (by omega), if_pos hc, dif_neg (by omega)]
theorem getNm_long {c : UInt8} (h : b[a]? = some c) (hc : c.toNat ≠ 0) (h2 : c.toNat ≤ 63) (h3 : a + 1 + c.toNat ≤ b.length) (h4 : 255 < s + 1 + c.toNat) : getNm b a g s x n = ([], 0, 5) := by
  rw [getNm]; simp only [h]; rw [if_neg hc, if_neg (by omega), if_neg (by omega), dif_neg (by omega), if_pos h4]
theorem getNm_label {c : UInt8} (h : b[a]? = some c) (hc : c.toNat ≠ 0) (h2 : c.toNat ≤ 63) (h3 : a + 1 + c.toNat ≤ b.length) (h4 : s + 1 + c.toNat ≤ 255) :
    getNm b a g s x n = getNm b (a + 1 + c.toNat) g (s + 1 + c.toNat) x (n ++ [ofB ((b.take (a + 1 + c.toNat)).drop (a + 1))]) := by
  rw [getNm]; simp only [h]; rw [if_neg hc, if_neg (by omega), if_neg (by omega), dif_neg (by omega), if_neg (by omega)]
end
end Go.Proofs.Ytfnelkcllaaebaa
end
section
/- The plain words on data: what a type's data may be, how they are read. No condition. -/
namespace Go.Proofs.Ytfnelkcllaaebaa
/-- What a record says. -/
structure Dat where
  bytes : List UInt8
  host : List Str
  mail : List Str
  nums : List Int
  texts : List Str
def Dat.zero : Dat := ⟨[], [], [], [], []⟩
/-- rdata's shape. -/
structure Shape where
  bytes : Int
  host : Bool
  mail : Bool
  short : Bool
  nums : Nat
  size : Nat
  texts : Bool
  first : Bool
def shapeOf (kind : Int) : Shape :=
  if kind = 1 then ⟨4, false, false, false, 0, 0, false, false⟩
  else if kind = 28 then ⟨16, false, false, false, 0, 0, false, false⟩
  else if kind = 2 ∨ kind = 5 ∨ kind = 12 then ⟨0, true, false, true, 0, 0, false, false⟩
  else if kind = 15 then ⟨0, true, false, true, 1, 2, false, true⟩
  else if kind = 6 then ⟨0, true, true, true, 5, 4, false, false⟩
  else if kind = 33 then ⟨0, true, false, false, 3, 2, false, true⟩
  else if kind = 16 then ⟨0, false, false, false, 0, 0, true, false⟩
  else ⟨-1, false, false, false, 0, 0, false, false⟩
/-- A number read up to an end. -/
def rNum (l : List UInt8) (e a size : Nat) : Except Int (Int × Nat) :=
  if e < a + size then .error 3 else .ok ((beN ((l.drop a).take size) : Int), a + size)
def rName (l : List UInt8) (e a : Nat) : Except Int (List Str × Nat) :=
  let r := getName l a
  if r.2.2 ≠ 0 then .error r.2.2 else if (e : Int) < r.2.1 then .error 3 else .ok (r.1, r.2.1.toNat)
def rBytes (l : List UInt8) (e a n : Nat) : Except Int (List UInt8 × Nat) :=
  if e < a + n then .error 3 else .ok ((l.take (a + n)).drop a, a + n)
def rNums (l : List UInt8) (e : Nat) (size : Nat) : Nat → Nat → List Int → Except Int (List Int × Nat)
  | 0, a, out => .ok (out, a)
  | k + 1, a, out => match rNum l e a size with
    | .error x => .error x
    | .ok (n, a') => rNums l e size k a' (out ++ [n])
def rTexts (l : List UInt8) (e a : Nat) (out : List Str) : Except Int (List Str × Nat) :=
  if _h : a < e then
    if out.length = 64 then .error 4
    else match l[a]? with
      | none => .error 3
      | some c =>
        if e < a + 1 + c.toNat then .error 3
        else rTexts l e (a + 1 + c.toNat) (out ++ [ofB ((l.take (a + 1 + c.toNat)).drop (a + 1))])
  else if out = [] then .error 2 else .ok (out, a)
termination_by e - a
/-- reader.data. -/
def rData (l : List UInt8) (e a : Nat) (s : Shape) : Except Int Dat := do
  let (by_, tx, a) ← (if 0 < s.bytes then do let (x, a) ← rBytes l e a s.bytes.toNat; pure (x, ([] : List Str), a)
    else if s.bytes < 0 then do let (x, a) ← rBytes l e a (e - a); pure (x, ([] : List Str), a)
    else if s.texts then do let (x, a) ← rTexts l e a []; pure (([] : List UInt8), x, a)
    else pure ([], [], a))
  let (nf, a) ← (if s.first then rNums l e s.size s.nums a [] else pure ([], a))
  let (ho, a) ← (if s.host then rName l e a else pure ([], a))
  let (ma, a) ← (if s.mail then rName l e a else pure ([], a))
  let (nl, a) ← (if s.first then pure (nf, a) else rNums l e s.size s.nums a [])
  if a < e then .error 7 else pure ⟨by_, ho, ma, nl, tx⟩
/-- rdata.Get. -/
def getData (l : List UInt8) (at_ size kind : Int) : Dat × Int :=
  if at_ < 0 ∨ size < 0 ∨ kind < 1 ∨ 65535 < kind then (Dat.zero, 1)
  else if (l.length : Int) < at_ + size then (Dat.zero, 3)
  else match rData l (at_ + size).toNat at_.toNat (shapeOf kind) with
    | .error k => (Dat.zero, k)
    | .ok d => (d, 0)
theorem rData_bytes (l : List UInt8) (e a n : Nat) (hn : 0 < (n : Int)) : rData l e a ⟨n, false, false, false, 0, 0, false, false⟩ =
    (match rBytes l e a n with | .error k => .error k | .ok (x, a1) => if a1 < e then .error 7 else .ok ⟨x, [], [], [], []⟩) := by
  unfold rData
  simp only [hn, if_true, Int.toNat_natCast]
  cases rBytes l e a n with
  | error k => rfl
  | ok p => simp [rNums, bind, Except.bind, pure, Except.pure]
theorem rData_texts (l : List UInt8) (e a : Nat) : rData l e a ⟨0, false, false, false, 0, 0, true, false⟩ =
    (match rTexts l e a [] with | .error k => .error k | .ok (x, a1) => if a1 < e then .error 7 else .ok ⟨[], [], [], [], x⟩) := by
  unfold rData
  simp only [show ¬ (0 : Int) < 0 from by decide, if_true, if_false]
  cases rTexts l e a [] with
  | error k => rfl
  | ok p => simp [rNums, bind, Except.bind, pure, Except.pure]
theorem rData_host (l : List UInt8) (e a : Nat) : rData l e a ⟨0, true, false, true, 0, 0, false, false⟩ =
    (match rName l e a with | .error k => .error k | .ok (x, a1) => if a1 < e then .error 7 else .ok ⟨[], x, [], [], []⟩) := by
  unfold rData
  simp only [show ¬ (0 : Int) < 0 from by decide, Bool.false_eq_true, if_true, if_false, bind, Except.bind, pure, Except.pure, rNums]
  cases rName l e a <;> rfl
theorem rData_first (l : List UInt8) (e a n s : Nat) (sh : Bool) : rData l e a ⟨0, true, false, sh, n, s, false, true⟩ =
    (match rNums l e s n a [] with | .error k => .error k | .ok (y, a1) => (match rName l e a1 with | .error k => .error k | .ok (x, a2) => if a2 < e then .error 7 else .ok ⟨[], x, [], y, []⟩)) := by
  unfold rData
  simp only [show ¬ (0 : Int) < 0 from by decide, Bool.false_eq_true, if_true, if_false, bind, Except.bind, pure, Except.pure]
  cases rNums l e s n a [] with
  | error k => rfl
  | ok p =>
    simp only
    cases rName l e p.2 <;> rfl
theorem rData_soa (l : List UInt8) (e a : Nat) : rData l e a ⟨0, true, true, true, 5, 4, false, false⟩ =
    (match rName l e a with | .error k => .error k | .ok (x, a1) => (match rName l e a1 with | .error k => .error k | .ok (y, a2) => (match rNums l e 4 5 a2 [] with | .error k => .error k | .ok (z, a3) => if a3 < e then .error 7 else .ok ⟨[], x, y, z, []⟩))) := by
  unfold rData
  simp only [show ¬ (0 : Int) < 0 from by decide, Bool.false_eq_true, if_true, if_false, bind, Except.bind, pure, Except.pure]
  cases rName l e a with
  | error k => rfl
  | ok p =>
    simp only
    cases rName l e p.2 with
    | error k => rfl
    | ok p =>
      simp only
      cases rNums l e 4 5 p.2 [] <;> rfl
end Go.Proofs.Ytfnelkcllaaebaa
end
