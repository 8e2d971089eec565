/- Parts of one proof, joined: WGet, Rdr, Rdr2, Rdr3. Conditions: those that each theorem states. -/
import Derived.Test.YtfnelkcllaaebaaEB2
import Derived.Test.YtfnelkcllaaebaaEB3
import Derived.Test.YtfnelkcllaaebaaEB1
import Derived.Test.YtfnelkcllaaebaaEB4
import Derived.Deep.RegionWith
import Derived.Deep.RegionHeld3
import Derived.Outline
import Derived.Deep.LoopGhost
section
/- Contract of wname.Get. No condition but that the bytes read as a list. -/
open Go.RowKit
set_option linter.unusedVariables false
set_option linter.unusedSimpArgs false
namespace Go.Proofs.Ytfnelkcllaaebaa
end Go.Proofs.Ytfnelkcllaaebaa
end
section
/- Contracts of rdata's reader. The bytes lie in an elder world w0; the reader's block is younger. -/
open Go.RowKit
set_option linter.unusedVariables false
set_option linter.unusedSimpArgs false
namespace Go.Proofs.Ytfnelkcllaaebaa
end Go.Proofs.Ytfnelkcllaaebaa
end
section
/- Contracts of rdata's reader: nums, texts. -/
open Go.RowKit
set_option linter.unusedVariables false
set_option linter.unusedSimpArgs false
namespace Go.Proofs.Ytfnelkcllaaebaa
/-- A shape's cells. -/
def shapeC (s : Shape) : Array Value := #[.int .i64 s.bytes, .bool s.host, .bool s.mail, .bool s.short, .int .i64 s.nums, .int .i64 s.size, .bool s.texts, .bool s.first]
end Go.Proofs.Ytfnelkcllaaebaa
end
section
/- Contracts of rdata's reader: texts. -/
open Go.RowKit
set_option linter.unusedVariables false
set_option linter.unusedSimpArgs false
namespace Go.Proofs.Ytfnelkcllaaebaa
end Go.Proofs.Ytfnelkcllaaebaa
end
