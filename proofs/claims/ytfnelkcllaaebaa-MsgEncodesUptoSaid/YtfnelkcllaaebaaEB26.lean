/- Parts of one proof, joined: RtS, LDBack. Conditions: those that each theorem states. -/
import Derived.Test.YtfnelkcllaaebaaEB13
import Derived.Test.YtfnelkcllaaebaaEB11
import Derived.Test.YtfnelkcllaaebaaEB25
import Derived.Test.YtfnelkcllaaebaaEB9
section
/- Data cut by one byte do not read, but bytes and several texts. No condition: plain lists. -/
set_option linter.unusedVariables false
set_option linter.unusedSimpArgs false
namespace Go.Proofs.Ytfnelkcllaaebaa
end Go.Proofs.Ytfnelkcllaaebaa
end
section
/- Contract of law04.RdataBack. No condition but that the data and the bytes stand in memory, and the strings' and numbers' sizes. -/
open Go.RowKit
set_option linter.unusedVariables false
set_option linter.unusedSimpArgs false
namespace Go.Proofs.Ytfnelkcllaaebaa
/-- A writer made behind a world. -/
structure WInv (w0 : World) (p mp : Nat) (v : Value) (N : Nat) (b : List UInt8) (f : Rests) (W : World) : Prop where
  wr : WrP W p mp v N b f
  ext : Ext w0 W
  sof : ∀ j, Sof p mp v j → w0.heap.size ≤ j
theorem WInv.to_ext {w0 : World} {p mp : Nat} {v : Value} {N : Nat} {b : List UInt8} {f : Rests} {W W' : World} (h : WInv w0 p mp v N b f W) (hE : Ext W W') : WInv w0 p mp v N b f W' := ⟨h.wr.ext hE, h.ext.trans hE, h.sof⟩
theorem WInv.step {w0 : World} {p mp : Nat} {v : Value} {N N' : Nat} {b b' : List UInt8} {f f' : Rests} {W W' : World} (h : WInv w0 p mp v N b f W) (hW : Wrote p mp v N' b' f' W W') : ∃ v', WInv w0 p mp v' N' b' f' W' := by
  obtain ⟨v', hw, hs⟩ := hW
  refine ⟨v', hw, ext_kp h.ext hs.1 h.sof, fun j hj => ?_⟩
  rcases hs.2 j hj with h1 | h1
  · exact h.sof j h1
  · exact Nat.le_trans h.ext.size h1
theorem WInv.start {w W : World} (hW : WrP W (w.heap.size + 1) w.heap.size (.slice none 0 0) 0 [] (fun _ => none)) (hE : Ext w W) : WInv w (w.heap.size + 1) w.heap.size (.slice none 0 0) 0 [] (fun _ => none) W :=
  ⟨hW, hE, by rintro j (rfl | rfl | hj); omega; omega; simp [Value.ownBlock] at hj⟩
end Go.Proofs.Ytfnelkcllaaebaa
end
