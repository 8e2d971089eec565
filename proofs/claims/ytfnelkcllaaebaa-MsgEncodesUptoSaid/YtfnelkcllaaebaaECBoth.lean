/- Parts of one proof, joined: Both. Conditions: those that each theorem states. -/
import Derived.Test.YtfnelkcllaaebaaEB24
import Derived.Test.YtfnelkcllaaebaaEB26
section
/- Two writers side by side, the program's and the document's. No condition: laws on worlds; and rr.Put where nothing is put. -/
open Go.RowKit
set_option linter.unusedVariables false
set_option linter.unusedSimpArgs false
namespace Go.Proofs.Ytfnelkcllaaebaa
/-- A new writer of the document's at a fresh block. -/
theorem mr_new {w : World} {q : Nat} (hb : w.heap[q]? = some (.cells #[.slice none 0 0, .slice none 0 0] 76 (0, 0))) : MrW w q (.slice none 0 0) (.slice none 0 0) [] (fun _ => none) 0 :=
  ⟨[], ⟨hb, ⟨⟨Fl.nil _ _, fun h => absurd rfl h⟩, fun _ => ⟨none, rfl⟩⟩, OwnM.nil _ _ _ _ _⟩, rfl, (by intro r hr; cases hr), Nat.le_refl _⟩
end Go.Proofs.Ytfnelkcllaaebaa
end
