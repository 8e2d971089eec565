/- Parts of one proof, joined: RrGet, Ans5. Conditions: those that each theorem states. -/
import Derived.Test.YtfnelkcllaaebaaEB12
import Derived.Test.YtfnelkcllaaebaaEB13
import Derived.Test.YtfnelkcllaaebaaEB8
section
/- Contract of rr.Get. No condition but that the bytes read as a list, and their number. -/
open Go.RowKit
set_option linter.unusedVariables false
set_option linter.unusedSimpArgs false
namespace Go.Proofs.Ytfnelkcllaaebaa
section
variable {l : List UInt8} {a : Int} {n : List Str} {x k : Int}
end
/-- All nine cells are written. -/
def nine (W : World) (b : Nat) (c0 c1 c2 c3 c4 c5 c6 c7 c8 : Value) : World :=
  ((((((((W.setCell ⟨b, 0, none⟩ c0).setCell ⟨b, 1, none⟩ c1).setCell ⟨b, 2, none⟩ c2).setCell ⟨b, 3, none⟩ c3).setCell ⟨b, 4, none⟩ c4).setCell ⟨b, 5, none⟩ c5).setCell ⟨b, 6, none⟩ c6).setCell ⟨b, 7, none⟩ c7).setCell ⟨b, 8, none⟩ c8
end Go.Proofs.Ytfnelkcllaaebaa
end
section
/- Contract of law05.answers. No condition. -/
open Go.RowKit
set_option linter.unusedVariables false
set_option linter.unusedSimpArgs false
namespace Go.Proofs.Ytfnelkcllaaebaa
end Go.Proofs.Ytfnelkcllaaebaa
end
