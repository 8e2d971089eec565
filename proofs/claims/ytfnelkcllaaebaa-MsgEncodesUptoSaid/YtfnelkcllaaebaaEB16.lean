/- Parts of one proof, joined: LSets, SetP, LOrder. Conditions: those that each theorem states. -/
import Derived.Test.YtfnelkcllaaebaaEB14
import Derived.Deep.RegionHeld3
section
/- Contract of law05.RrSets. No condition but that slices read as lists, and the strings' sizes. -/
open Go.RowKit
set_option linter.unusedVariables false
set_option linter.unusedSimpArgs false
namespace Go.Proofs.Ytfnelkcllaaebaa
end Go.Proofs.Ytfnelkcllaaebaa
end
section
/- Sets of records: the order and what is there twice do not matter. No condition: plain lists. -/
set_option linter.unusedVariables false
set_option linter.unusedSimpArgs false
namespace Go.Proofs.Ytfnelkcllaaebaa
end Go.Proofs.Ytfnelkcllaaebaa
end
section
/- Contract of law05.RrOrder. No condition but that the slice reads as a list, and the strings' sizes. -/
open Go.RowKit
set_option linter.unusedVariables false
set_option linter.unusedSimpArgs false
namespace Go.Proofs.Ytfnelkcllaaebaa
end Go.Proofs.Ytfnelkcllaaebaa
end
