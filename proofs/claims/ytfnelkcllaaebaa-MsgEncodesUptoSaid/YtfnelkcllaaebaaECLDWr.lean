/- Parts of one proof, joined: LDWr. Conditions: those that each theorem states. -/
import Derived.Test.YtfnelkcllaaebaaECBoth
section
/- Contract of law04.RdataWrites. No condition but that the data and the names stand in memory, and the strings' and numbers' sizes. -/
open Go.RowKit
set_option linter.unusedVariables false
set_option linter.unusedSimpArgs false
namespace Go.Proofs.Ytfnelkcllaaebaa
end Go.Proofs.Ytfnelkcllaaebaa
end
