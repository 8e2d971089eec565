/- Parts of one proof, joined: Open3. Conditions: those that each theorem states. -/
import Derived.Test.YtfnelkcllaaebaaEB15
import Derived.Test.YtfnelkcllaaebaaEB17
section
/- Arguments opened: questions, lists of names, messages. No condition. -/
open Go.RowKit Go.ChangeShapes Go.WideShapes Go.ChangeAt
set_option linter.unusedVariables false
set_option linter.unusedSimpArgs false
namespace Go.Proofs.Ytfnelkcllaaebaa
theorem i64_range {c : Int} (h : (Lit.int .i64 c).wf = true) : -9223372036854775808 ≤ c ∧ c ≤ 9223372036854775807 := by
  simpa [Lit.wf, IntKind.min, IntKind.max, IntKind.signed, IntKind.bits] using h
section
variable {H : Type} {enc : TypeId × Value → H} {w : World} {base : Nat} {spare : Nat → Bool} {held : Bool}
theorem trod_struct3 {P : Program} {t : TypeId} {f0 f1 f2 : Field} {fuel : Nat} {cs : List Value} {x : DataW H × List MemPlace} (ht : P.underlying t = some (.struct #[f0, f1, f2])) (h : DataW.trod enc P w base spare held fuel t cs = some x) :
    ∃ y0 y1 y2 n, cs.length = P.cellsOf t ∧ DataW.trod enc P w base spare held n f0.type ((cs.drop f0.offset).take (P.cellsOf f0.type)) = some y0 ∧
      DataW.trod enc P w base spare held n f1.type ((cs.drop f1.offset).take (P.cellsOf f1.type)) = some y1 ∧ DataW.trod enc P w base spare held n f2.type ((cs.drop f2.offset).take (P.cellsOf f2.type)) = some y2 := by
  obtain ⟨xs, n, _, rfl, hl, hlen, hf⟩ := DataW.trod_struct ht h
  match xs, hlen with
  | [y0, y1, y2], _ => exact ⟨y0, y1, y2, n, hl, by simpa using hf 0 f0 rfl, by simpa using hf 1 f1 rfl, by simpa using hf 2 f2 rfl⟩
theorem list3 {α : Type} {cs : List α} (h : cs.length = 3) : ∃ c0 c1 c2, cs = [c0, c1, c2] := by
  match cs, h with
  | [c0, c1, c2], _ => exact ⟨c0, c1, c2, rfl⟩
/-- What a question read from an argument holds besides. -/
def QOk (q : Qst) : Prop := Fits q.name ∧ (Lit.int .i64 q.type).wf = true ∧ (Lit.int .i64 q.cls).wf = true
theorem cells46 : Try.prog.cellsOf 46 = 3 := by kernel_rfl
theorem open_qst {n : Nat} {cs : List Value} {y : DataW H × List MemPlace} (hl : cs.length = 3) (h : DataW.trod enc Try.prog w base spare held n 46 cs = some y) : ∃ q, QR w cs q ∧ QOk q := by
  obtain ⟨c0, c1, c2, rfl⟩ := list3 hl
  obtain ⟨y0, y1, y2, n, _, h0, h1, h2⟩ := trod_struct3 Try.underlying46 h
  simp only [cells23, cells3, List.drop, List.take] at h0 h1 h2
  obtain ⟨l0, r0, s0⟩ := open_names h0
  obtain ⟨i1, e1, _, w1⟩ := DataW.trod_int Try.underlying3 h1
  obtain ⟨i2, e2, _, w2⟩ := DataW.trod_int Try.underlying3 h2
  injection e1 with e1
  injection e2 with e2
  subst e1 e2
  exact ⟨⟨l0, i1, i2⟩, ⟨_, rfl, r0⟩, s0, w1, w2⟩
end
end Go.Proofs.Ytfnelkcllaaebaa
end
