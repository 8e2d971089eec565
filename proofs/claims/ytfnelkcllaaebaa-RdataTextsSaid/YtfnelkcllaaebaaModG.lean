/- The plain words on reading names. No condition. -/
import Derived.Test.YtfnelkcllaaebaaModN
import Derived.Test.YtfnelkcllaaebaaModS
namespace Go.Proofs.Ytfnelkcllaaebaa
/-- Reading a name from a state on: the labels, the place behind, the error. -/
def getNm (b : List UInt8) (at_ begin_ size next : Nat) (n : List Str) : List Str × Int × Int :=
  match b[at_]? with
  | none => ([], 0, 3)
  | some c =>
    if c.toNat = 0 then (n, ((max next (at_ + 1) : Nat) : Int), 0)
    else if 192 ≤ c.toNat then
      match b[at_ + 1]? with
      | none => ([], 0, 3)
      | some d =>
        if h : begin_ ≤ (c.toNat - 192) * 256 + d.toNat then ([], 0, 6)
        else getNm b ((c.toNat - 192) * 256 + d.toNat) ((c.toNat - 192) * 256 + d.toNat) size (max next (at_ + 2)) n
    else if 63 < c.toNat then ([], 0, 5)
    else if h : b.length < at_ + 1 + c.toNat then ([], 0, 3)
    else if 255 < size + 1 + c.toNat then ([], 0, 5)
    else getNm b (at_ + 1 + c.toNat) begin_ (size + 1 + c.toNat) next (n ++ [ofB ((b.take (at_ + 1 + c.toNat)).drop (at_ + 1))])
termination_by (begin_, b.length - at_)
decreasing_by
  · exact Prod.Lex.left _ _ (by omega)
  · exact Prod.Lex.right _ (by omega)
/-- wname.Get. -/
def getName (b : List UInt8) (at_ : Int) : List Str × Int × Int :=
  if at_ < 0 then ([], 0, 1) else getNm b at_.toNat at_.toNat 1 0 []
section
variable {b : List UInt8} {a g s x : Nat} {n : List Str}
theorem getNm_end (h : b[a]? = none) : getNm b a g s x n = ([], 0, 3) := by rw [getNm]; simp only [h]
theorem getNm_zero {c : UInt8} (h : b[a]? = some c) (hc : c.toNat = 0) : getNm b a g s x n = (n, ((max x (a + 1) : Nat) : Int), 0) := by
  rw [getNm]; simp only [h, hc, if_true]
theorem getNm_ptr_end {c : UInt8} (h : b[a]? = some c) (hc : 192 ≤ c.toNat) (h2 : b[a + 1]? = none) : getNm b a g s x n = ([], 0, 3) := by
  rw [getNm]; simp only [h, h2]; rw [if_neg (by omega), if_pos hc]
theorem getNm_ptr_loop {c d : UInt8} (h : b[a]? = some c) (hc : 192 ≤ c.toNat) (h2 : b[a + 1]? = some d) (hg : g ≤ (c.toNat - 192) * 256 + d.toNat) : getNm b a g s x n = ([], 0, 6) := by
  rw [getNm]; simp only [h, h2]; rw [if_neg (by omega), if_pos hc, dif_pos hg]
theorem getNm_ptr {c d : UInt8} (h : b[a]? = some c) (hc : 192 ≤ c.toNat) (h2 : b[a + 1]? = some d) (hg : (c.toNat - 192) * 256 + d.toNat < g) :
    getNm b a g s x n = getNm b ((c.toNat - 192) * 256 + d.toNat) ((c.toNat - 192) * 256 + d.toNat) s (max x (a + 2)) n := by
  rw [getNm]; simp only [h, h2]; rw [if_neg (by omega), if_pos hc, dif_neg (by omega)]
theorem getNm_bad {c : UInt8} (h : b[a]? = some c) (hc : c.toNat < 192) (h2 : 63 < c.toNat) : getNm b a g s x n = ([], 0, 5) := by
  rw [getNm]; simp only [h]; rw [if_neg (by omega), if_neg (by omega), if_pos h2]
theorem getNm_short {c : UInt8} (h : b[a]? = some c) (hc : c.toNat ≠ 0) (h2 : c.toNat ≤ 63) (h3 : b.length < a + 1 + c.toNat) : getNm b a g s x n = ([], 0, 3) := by
  rw [getNm]; simp only [h]; rw [if_neg hc, if_neg (by omega), if_neg (by omega), dif_pos h3]
theorem getNm_long {c : UInt8} (h : b[a]? = some c) (hc : c.toNat ≠ 0) (h2 : c.toNat ≤ 63) (h3 : a + 1 + c.toNat ≤ b.length) (h4 : 255 < s + 1 + c.toNat) : getNm b a g s x n = ([], 0, 5) := by
  rw [getNm]; simp only [h]; rw [if_neg hc, if_neg (by omega), if_neg (by omega), dif_neg (by omega), if_pos h4]
theorem getNm_label {c : UInt8} (h : b[a]? = some c) (hc : c.toNat ≠ 0) (h2 : c.toNat ≤ 63) (h3 : a + 1 + c.toNat ≤ b.length) (h4 : s + 1 + c.toNat ≤ 255) :
    getNm b a g s x n = getNm b (a + 1 + c.toNat) g (s + 1 + c.toNat) x (n ++ [ofB ((b.take (a + 1 + c.toNat)).drop (a + 1))]) := by
  rw [getNm]; simp only [h]; rw [if_neg hc, if_neg (by omega), if_neg (by omega), dif_neg (by omega), if_neg (by omega)]
end
theorem getN_one {b : List UInt8} {a : Nat} {c : UInt8} (h : b[a]? = some c) : getN b a 1 = ((c.toNat : Int), 0) := by
  have hlt := (List.getElem?_eq_some_iff.1 h).1
  rw [getN_ok b a 1 (by omega) (by omega)]
  have := take_drop_snoc b a 0 c (by simpa using h)
  simp at this
  simp [this, beN]
theorem getN_one_end {b : List UInt8} {a : Nat} (h : b[a]? = none) : getN b a 1 = (0, 3) := by
  rw [List.getElem?_eq_none_iff] at h
  exact getN_short b a 1 (by omega) (by omega)
theorem getN_two {b : List UInt8} {a : Nat} {c d : UInt8} (h : b[a]? = some c) (h2 : b[a + 1]? = some d) : getN b a 2 = ((c.toNat : Int) * 256 + (d.toNat : Int), 0) := by
  have hlt := (List.getElem?_eq_some_iff.1 h2).1
  rw [getN_ok b a 2 (by omega) (by omega)]
  have e1 := take_drop_snoc b a 0 c (by simpa using h)
  have e2 := take_drop_snoc b a 1 d (by simpa using h2)
  simp at e1 e2
  simp [e2, e1, beN]
theorem getN_two_end {b : List UInt8} {a : Nat} {c : UInt8} (h : b[a]? = some c) (h2 : b[a + 1]? = none) : getN b a 2 = (0, 3) := by
  rw [List.getElem?_eq_none_iff] at h2
  exact getN_short b a 2 (by omega) (by omega)
end Go.Proofs.Ytfnelkcllaaebaa
