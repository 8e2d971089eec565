/- The plain words on data: what a type's data may be, how they are read. No condition. -/
import Derived.Test.YtfnelkcllaaebaaModG
namespace Go.Proofs.Ytfnelkcllaaebaa
/-- What a record says. -/
structure Dat where
  bytes : List UInt8
  host : List Str
  mail : List Str
  nums : List Int
  texts : List Str
def Dat.zero : Dat := ⟨[], [], [], [], []⟩
/-- rdata's shape. -/
structure Shape where
  bytes : Int
  host : Bool
  mail : Bool
  short : Bool
  nums : Nat
  size : Nat
  texts : Bool
  first : Bool
def shapeOf (kind : Int) : Shape :=
  if kind = 1 then ⟨4, false, false, false, 0, 0, false, false⟩
  else if kind = 28 then ⟨16, false, false, false, 0, 0, false, false⟩
  else if kind = 2 ∨ kind = 5 ∨ kind = 12 then ⟨0, true, false, true, 0, 0, false, false⟩
  else if kind = 15 then ⟨0, true, false, true, 1, 2, false, true⟩
  else if kind = 6 then ⟨0, true, true, true, 5, 4, false, false⟩
  else if kind = 33 then ⟨0, true, false, false, 3, 2, false, true⟩
  else if kind = 16 then ⟨0, false, false, false, 0, 0, true, false⟩
  else ⟨-1, false, false, false, 0, 0, false, false⟩
/-- A number read up to an end. -/
def rNum (l : List UInt8) (e a size : Nat) : Except Int (Int × Nat) :=
  if e < a + size then .error 3 else .ok ((beN ((l.drop a).take size) : Int), a + size)
def rName (l : List UInt8) (e a : Nat) : Except Int (List Str × Nat) :=
  let r := getName l a
  if r.2.2 ≠ 0 then .error r.2.2 else if (e : Int) < r.2.1 then .error 3 else .ok (r.1, r.2.1.toNat)
def rBytes (l : List UInt8) (e a n : Nat) : Except Int (List UInt8 × Nat) :=
  if e < a + n then .error 3 else .ok ((l.take (a + n)).drop a, a + n)
def rNums (l : List UInt8) (e : Nat) (size : Nat) : Nat → Nat → List Int → Except Int (List Int × Nat)
  | 0, a, out => .ok (out, a)
  | k + 1, a, out => match rNum l e a size with
    | .error x => .error x
    | .ok (n, a') => rNums l e size k a' (out ++ [n])
def rTexts (l : List UInt8) (e a : Nat) (out : List Str) : Except Int (List Str × Nat) :=
  if _h : a < e then
    if out.length = 64 then .error 4
    else match l[a]? with
      | none => .error 3
      | some c =>
        if e < a + 1 + c.toNat then .error 3
        else rTexts l e (a + 1 + c.toNat) (out ++ [ofB ((l.take (a + 1 + c.toNat)).drop (a + 1))])
  else if out = [] then .error 2 else .ok (out, a)
termination_by e - a
/-- reader.data. -/
def rData (l : List UInt8) (e a : Nat) (s : Shape) : Except Int Dat := do
  let (by_, tx, a) ← (if 0 < s.bytes then do let (x, a) ← rBytes l e a s.bytes.toNat; pure (x, ([] : List Str), a)
    else if s.bytes < 0 then do let (x, a) ← rBytes l e a (e - a); pure (x, ([] : List Str), a)
    else if s.texts then do let (x, a) ← rTexts l e a []; pure (([] : List UInt8), x, a)
    else pure ([], [], a))
  let (nf, a) ← (if s.first then rNums l e s.size s.nums a [] else pure ([], a))
  let (ho, a) ← (if s.host then rName l e a else pure ([], a))
  let (ma, a) ← (if s.mail then rName l e a else pure ([], a))
  let (nl, a) ← (if s.first then pure (nf, a) else rNums l e s.size s.nums a [])
  if a < e then .error 7 else pure ⟨by_, ho, ma, nl, tx⟩
/-- rdata.Get. -/
def getData (l : List UInt8) (at_ size kind : Int) : Dat × Int :=
  if at_ < 0 ∨ size < 0 ∨ kind < 1 ∨ 65535 < kind then (Dat.zero, 1)
  else if (l.length : Int) < at_ + size then (Dat.zero, 3)
  else match rData l (at_ + size).toNat at_.toNat (shapeOf kind) with
    | .error k => (Dat.zero, k)
    | .ok d => (d, 0)
theorem rData_bytes (l : List UInt8) (e a n : Nat) (hn : 0 < (n : Int)) : rData l e a ⟨n, false, false, false, 0, 0, false, false⟩ =
    (match rBytes l e a n with | .error k => .error k | .ok (x, a1) => if a1 < e then .error 7 else .ok ⟨x, [], [], [], []⟩) := by
  unfold rData
  simp only [hn, if_true, Int.toNat_natCast]
  cases rBytes l e a n with
  | error k => rfl
  | ok p => simp [rNums, bind, Except.bind, pure, Except.pure]
theorem rData_rest (l : List UInt8) (e a : Nat) : rData l e a ⟨-1, false, false, false, 0, 0, false, false⟩ =
    (match rBytes l e a (e - a) with | .error k => .error k | .ok (x, a1) => if a1 < e then .error 7 else .ok ⟨x, [], [], [], []⟩) := by
  unfold rData
  simp only [show ¬ (0 : Int) < -1 from by decide, show (-1 : Int) < 0 from by decide, if_true, if_false]
  cases rBytes l e a (e - a) with
  | error k => rfl
  | ok p => simp [rNums, bind, Except.bind, pure, Except.pure]
theorem rData_texts (l : List UInt8) (e a : Nat) : rData l e a ⟨0, false, false, false, 0, 0, true, false⟩ =
    (match rTexts l e a [] with | .error k => .error k | .ok (x, a1) => if a1 < e then .error 7 else .ok ⟨[], [], [], [], x⟩) := by
  unfold rData
  simp only [show ¬ (0 : Int) < 0 from by decide, if_true, if_false]
  cases rTexts l e a [] with
  | error k => rfl
  | ok p => simp [rNums, bind, Except.bind, pure, Except.pure]
theorem rData_host (l : List UInt8) (e a : Nat) : rData l e a ⟨0, true, false, true, 0, 0, false, false⟩ =
    (match rName l e a with | .error k => .error k | .ok (x, a1) => if a1 < e then .error 7 else .ok ⟨[], x, [], [], []⟩) := by
  unfold rData
  simp only [show ¬ (0 : Int) < 0 from by decide, Bool.false_eq_true, if_true, if_false, bind, Except.bind, pure, Except.pure, rNums]
  cases rName l e a <;> rfl
theorem rData_first (l : List UInt8) (e a n s : Nat) (sh : Bool) : rData l e a ⟨0, true, false, sh, n, s, false, true⟩ =
    (match rNums l e s n a [] with | .error k => .error k | .ok (y, a1) => (match rName l e a1 with | .error k => .error k | .ok (x, a2) => if a2 < e then .error 7 else .ok ⟨[], x, [], y, []⟩)) := by
  unfold rData
  simp only [show ¬ (0 : Int) < 0 from by decide, Bool.false_eq_true, if_true, if_false, bind, Except.bind, pure, Except.pure]
  cases rNums l e s n a [] with
  | error k => rfl
  | ok p =>
    simp only
    cases rName l e p.2 <;> rfl
theorem rData_soa (l : List UInt8) (e a : Nat) : rData l e a ⟨0, true, true, true, 5, 4, false, false⟩ =
    (match rName l e a with | .error k => .error k | .ok (x, a1) => (match rName l e a1 with | .error k => .error k | .ok (y, a2) => (match rNums l e 4 5 a2 [] with | .error k => .error k | .ok (z, a3) => if a3 < e then .error 7 else .ok ⟨[], x, y, z, []⟩))) := by
  unfold rData
  simp only [show ¬ (0 : Int) < 0 from by decide, Bool.false_eq_true, if_true, if_false, bind, Except.bind, pure, Except.pure]
  cases rName l e a with
  | error k => rfl
  | ok p =>
    simp only
    cases rName l e p.2 with
    | error k => rfl
    | ok p =>
      simp only
      cases rNums l e 4 5 p.2 [] <;> rfl
end Go.Proofs.Ytfnelkcllaaebaa
