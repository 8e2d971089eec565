/- Parts of one proof, joined: LInv, LSame. Conditions: those that each theorem states. -/
import Derived.Test.YtfnelkcllaaebaaEB8
section
/- What holds while law04.RdataSame's loop makes the own host's letters great. No condition. -/
open Go.RowKit
set_option linter.unusedVariables false
set_option linter.unusedSimpArgs false
namespace Go.Proofs.Ytfnelkcllaaebaa
/-- A great letter for a small one. -/
def upB (b : UInt8) : UInt8 := if 97 ≤ b.toNat ∧ b.toNat ≤ 122 then b - 32 else b
def up (s : ByteArray) : ByteArray := ofB ((bs s).map upB)
theorem NewS.type {α : Type} {V : α → Value} {e : TypeId} {w : World} {base : Nat} {v : Value} {l : List α} (h : NewS V e w base v l) (hl : l ≠ []) {g : Nat} (hv : v.ownBlock = some g) : ∃ cur, w.heap[g]? = some (.cells cur e (0, 0)) := by
  rcases (h.2 hl).2 with ⟨rfl, hn⟩ | ⟨g', cap, cur, rfl, _, hh, _⟩
  · exact absurd (List.eq_nil_of_length_eq_zero hn) hl
  · simp [Value.ownBlock] at hv
    subst hv
    exact ⟨cur, hh⟩
section
variable {w W W' : World} {g base : Nat} {a : Dat} {a0 a1 a2 a3 a4 b0 b1 b2 b3 b4 x0 x1 x2 x3 x4 : Value} {l : List Str}
end
end Go.Proofs.Ytfnelkcllaaebaa
end
section
/- Contract of law04.RdataSame. No condition but that slices read as lists, room, and the labels' sizes. -/
open Go.RowKit
set_option linter.unusedVariables false
set_option linter.unusedSimpArgs false
namespace Go.Proofs.Ytfnelkcllaaebaa
end Go.Proofs.Ytfnelkcllaaebaa
end
