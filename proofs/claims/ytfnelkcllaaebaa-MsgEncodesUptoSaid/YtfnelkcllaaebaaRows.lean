/-
  No cell of these rows narrows 'for every input' (looked for: loops, veiled, ifaces, maps, wideKeys, modest, calm, conditions, laid).
  DERIVED. THE GIVEN ROWS OF THIS SEAT. 22 by the template 'for every input the law returns true; each argument reads behind the call as it read before'; 0 by the template 'total and deterministic' (their statements: YtfnelkcllaaebaaTotals.lean).
  GIVEN WITH THE SEED: the statements are not yours to turn. If you find one false, say at which input.
  Laid BY PROGRAM, IN A SANDBOX (cutbox-rows.mjs): the forced cells as the released guide's own fill.sh prints them over the translation 3e279c4acc227b22… (all of the seat's roots in one cut). By AI agents, Wed Nov 11 2026. No macro, syntax, notation, axiom, sorry.
-/
import Derived.Test.YtfnelkcllaaebaaChecked
import GoSem.Claim
import GoSem.ClaimJoined
import GoSem.ClaimMapViews
import Derived.JoinedTies
import Derived.KernelRfl
namespace Go.Proofs.Ytfnelkcllaaebaa
/- THE CELL 'sum', in the pinned program and in every row, IS THE sha256 OF THE DUMP (.gsa) THAT YtfnelkcllaaebaaProg.lean LOADS. Nothing in Lean hashes anything: it is a label: what it is worth is what the hold of that sum in a sandbox is worth. -/
noncomputable def Try.pinned : Pinned := { name := "ytfnelkcllaaebaa", sum := "3e279c4acc227b22fdf778490a2282a104b4ce7ca4e669bb36288feac321f7e7", checked := Try.checked }
namespace Rows
def none {H : Type} : Left H := { results := [], args := [] }

/-- 'gazetteerlaw04.RdataSame': WHATEVER THE INPUT: true; the input reads as it did. -/
def rdataSameSpec : ChangeSpec := { name := "rdataSame", fn := fun _ => fun
  | [d1, d2] => { results := [.lit (.bool true)], args := [d1, d2] }
  | _ => none }
def rdataSameRow : OpenClaim := { program := "ytfnelkcllaaebaa", sum := "3e279c4acc227b22fdf778490a2282a104b4ce7ca4e669bb36288feac321f7e7", func := "gazetteer/gazetteerlaw04.RdataSame", spec := "rdataSame", unfollowed := true, recurses := true, apart := false }
def RdataSameSaid : Prop := rdataSameRow.holds Try.pinned (OpenSpec.ofChange rdataSameSpec)

/-- ITS FALSE NEIGHBOUR: 'it returns false'. Refute it at one input. -/
def rdataSameWrong : ChangeSpec := { name := "rdataSame", fn := fun _ => fun
  | [d1, d2] => { results := [.lit (.bool false)], args := [d1, d2] }
  | _ => none }
def RdataSameWrongFalsely : Prop := rdataSameRow.holds Try.pinned (OpenSpec.ofChange rdataSameWrong)

/-- 'gazetteerlaw04.RdataTexts': WHATEVER THE INPUT: true; the input reads as it did. -/
def rdataTextsSpec : ChangeSpec := { name := "rdataTexts", fn := fun _ => fun
  | [d1, d2, d3] => { results := [.lit (.bool true)], args := [d1, d2, d3] }
  | _ => none }
def rdataTextsRow : OpenClaim := { program := "ytfnelkcllaaebaa", sum := "3e279c4acc227b22fdf778490a2282a104b4ce7ca4e669bb36288feac321f7e7", func := "gazetteer/gazetteerlaw04.RdataTexts", spec := "rdataTexts", unfollowed := true, recurses := true, apart := false }
def RdataTextsSaid : Prop := rdataTextsRow.holds Try.pinned (OpenSpec.ofChange rdataTextsSpec)

/-- ITS FALSE NEIGHBOUR: 'it returns false'. Refute it at one input. -/
def rdataTextsWrong : ChangeSpec := { name := "rdataTexts", fn := fun _ => fun
  | [d1, d2, d3] => { results := [.lit (.bool false)], args := [d1, d2, d3] }
  | _ => none }
def RdataTextsWrongFalsely : Prop := rdataTextsRow.holds Try.pinned (OpenSpec.ofChange rdataTextsWrong)

/-- 'gazetteerlaw06.MsgEncodes': WHATEVER THE INPUT: true; the input reads as it did. -/
def msgEncodesSpec : ChangeSpec := { name := "msgEncodes", fn := fun _ => fun
  | [d] => { results := [.lit (.bool true)], args := [d] }
  | _ => none }
def msgEncodesRow : OpenClaim := { program := "ytfnelkcllaaebaa", sum := "3e279c4acc227b22fdf778490a2282a104b4ce7ca4e669bb36288feac321f7e7", func := "gazetteer/gazetteerlaw06.MsgEncodes", spec := "msgEncodes", unfollowed := true, recurses := true, apart := false }
def MsgEncodesSaid : Prop := msgEncodesRow.holds Try.pinned (OpenSpec.ofChange msgEncodesSpec)

/-- ITS FALSE NEIGHBOUR: 'it returns false'. Refute it at one input. -/
def msgEncodesWrong : ChangeSpec := { name := "msgEncodes", fn := fun _ => fun
  | [d] => { results := [.lit (.bool false)], args := [d] }
  | _ => none }
def MsgEncodesWrongFalsely : Prop := msgEncodesRow.holds Try.pinned (OpenSpec.ofChange msgEncodesWrong)

/-- 'gazetteerlaw06.MsgShort': WHATEVER THE INPUT: true; the input reads as it did. -/
def msgShortSpec : ChangeSpec := { name := "msgShort", fn := fun _ => fun
  | [d1, d2] => { results := [.lit (.bool true)], args := [d1, d2] }
  | _ => none }
def msgShortRow : OpenClaim := { program := "ytfnelkcllaaebaa", sum := "3e279c4acc227b22fdf778490a2282a104b4ce7ca4e669bb36288feac321f7e7", func := "gazetteer/gazetteerlaw06.MsgShort", spec := "msgShort", unfollowed := true, recurses := true, apart := false }
def MsgShortSaid : Prop := msgShortRow.holds Try.pinned (OpenSpec.ofChange msgShortSpec)

/-- ITS FALSE NEIGHBOUR: 'it returns false'. Refute it at one input. -/
def msgShortWrong : ChangeSpec := { name := "msgShort", fn := fun _ => fun
  | [d1, d2] => { results := [.lit (.bool false)], args := [d1, d2] }
  | _ => none }
def MsgShortWrongFalsely : Prop := msgShortRow.holds Try.pinned (OpenSpec.ofChange msgShortWrong)

/-- 'gazetteerlaw18.ScrubQueries': WHATEVER THE INPUT: true; the input reads as it did. -/
def scrubQueriesSpec : ChangeSpec := { name := "scrubQueries", fn := fun _ => fun
  | [d] => { results := [.lit (.bool true)], args := [d] }
  | _ => none }
def scrubQueriesRow : OpenClaim := { program := "ytfnelkcllaaebaa", sum := "3e279c4acc227b22fdf778490a2282a104b4ce7ca4e669bb36288feac321f7e7", func := "gazetteer/gazetteerlaw18.ScrubQueries", spec := "scrubQueries", unfollowed := true, recurses := true, apart := false }
def ScrubQueriesSaid : Prop := scrubQueriesRow.holds Try.pinned (OpenSpec.ofChange scrubQueriesSpec)

/-- ITS FALSE NEIGHBOUR: 'it returns false'. Refute it at one input. -/
def scrubQueriesWrong : ChangeSpec := { name := "scrubQueries", fn := fun _ => fun
  | [d] => { results := [.lit (.bool false)], args := [d] }
  | _ => none }
def ScrubQueriesWrongFalsely : Prop := scrubQueriesRow.holds Try.pinned (OpenSpec.ofChange scrubQueriesWrong)

/-- 'gazetteerlaw05.RrSets': WHATEVER THE INPUT: true; the input reads as it did. -/
def rrSetsSpec : ChangeSpec := { name := "rrSets", fn := fun _ => fun
  | [d1, d2, d3, d4] => { results := [.lit (.bool true)], args := [d1, d2, d3, d4] }
  | _ => none }
def rrSetsRow : OpenClaim := { program := "ytfnelkcllaaebaa", sum := "3e279c4acc227b22fdf778490a2282a104b4ce7ca4e669bb36288feac321f7e7", func := "gazetteer/gazetteerlaw05.RrSets", spec := "rrSets", unfollowed := true, recurses := true, apart := false }
def RrSetsSaid : Prop := rrSetsRow.holds Try.pinned (OpenSpec.ofChange rrSetsSpec)

/-- ITS FALSE NEIGHBOUR: 'it returns false'. Refute it at one input. -/
def rrSetsWrong : ChangeSpec := { name := "rrSets", fn := fun _ => fun
  | [d1, d2, d3, d4] => { results := [.lit (.bool false)], args := [d1, d2, d3, d4] }
  | _ => none }
def RrSetsWrongFalsely : Prop := rrSetsRow.holds Try.pinned (OpenSpec.ofChange rrSetsWrong)

/-- 'gazetteerlaw05.RrOrder': WHATEVER THE INPUT: true; the input reads as it did. -/
def rrOrderSpec : ChangeSpec := { name := "rrOrder", fn := fun _ => fun
  | [d1, d2] => { results := [.lit (.bool true)], args := [d1, d2] }
  | _ => none }
def rrOrderRow : OpenClaim := { program := "ytfnelkcllaaebaa", sum := "3e279c4acc227b22fdf778490a2282a104b4ce7ca4e669bb36288feac321f7e7", func := "gazetteer/gazetteerlaw05.RrOrder", spec := "rrOrder", unfollowed := true, recurses := true, apart := false }
def RrOrderSaid : Prop := rrOrderRow.holds Try.pinned (OpenSpec.ofChange rrOrderSpec)

/-- ITS FALSE NEIGHBOUR: 'it returns false'. Refute it at one input. -/
def rrOrderWrong : ChangeSpec := { name := "rrOrder", fn := fun _ => fun
  | [d1, d2] => { results := [.lit (.bool false)], args := [d1, d2] }
  | _ => none }
def RrOrderWrongFalsely : Prop := rrOrderRow.holds Try.pinned (OpenSpec.ofChange rrOrderWrong)

/-- 'gazetteerlaw05.RrNames': WHATEVER THE INPUT: true; the input reads as it did. -/
def rrNamesSpec : ChangeSpec := { name := "rrNames", fn := fun _ => fun
  | [d] => { results := [.lit (.bool true)], args := [d] }
  | _ => none }
def rrNamesRow : OpenClaim := { program := "ytfnelkcllaaebaa", sum := "3e279c4acc227b22fdf778490a2282a104b4ce7ca4e669bb36288feac321f7e7", func := "gazetteer/gazetteerlaw05.RrNames", spec := "rrNames", unfollowed := true, recurses := true, apart := false }
def RrNamesSaid : Prop := rrNamesRow.holds Try.pinned (OpenSpec.ofChange rrNamesSpec)

/-- ITS FALSE NEIGHBOUR: 'it returns false'. Refute it at one input. -/
def rrNamesWrong : ChangeSpec := { name := "rrNames", fn := fun _ => fun
  | [d] => { results := [.lit (.bool false)], args := [d] }
  | _ => none }
def RrNamesWrongFalsely : Prop := rrNamesRow.holds Try.pinned (OpenSpec.ofChange rrNamesWrong)

/-- 'gazetteerlaw04.RdataWrites': WHATEVER THE INPUT: true; the input reads as it did. -/
def rdataWritesSpec : ChangeSpec := { name := "rdataWrites", fn := fun _ => fun
  | [d1, d2, d3] => { results := [.lit (.bool true)], args := [d1, d2, d3] }
  | _ => none }
def rdataWritesRow : OpenClaim := { program := "ytfnelkcllaaebaa", sum := "3e279c4acc227b22fdf778490a2282a104b4ce7ca4e669bb36288feac321f7e7", func := "gazetteer/gazetteerlaw04.RdataWrites", spec := "rdataWrites", unfollowed := true, recurses := true, apart := false }
def RdataWritesSaid : Prop := rdataWritesRow.holds Try.pinned (OpenSpec.ofChange rdataWritesSpec)

/-- ITS FALSE NEIGHBOUR: 'it returns false'. Refute it at one input. -/
def rdataWritesWrong : ChangeSpec := { name := "rdataWrites", fn := fun _ => fun
  | [d1, d2, d3] => { results := [.lit (.bool false)], args := [d1, d2, d3] }
  | _ => none }
def RdataWritesWrongFalsely : Prop := rdataWritesRow.holds Try.pinned (OpenSpec.ofChange rdataWritesWrong)

/-- 'gazetteerlaw04.RdataBack': WHATEVER THE INPUT: true; the input reads as it did. -/
def rdataBackSpec : ChangeSpec := { name := "rdataBack", fn := fun _ => fun
  | [d1, d2, d3, d4] => { results := [.lit (.bool true)], args := [d1, d2, d3, d4] }
  | _ => none }
def rdataBackRow : OpenClaim := { program := "ytfnelkcllaaebaa", sum := "3e279c4acc227b22fdf778490a2282a104b4ce7ca4e669bb36288feac321f7e7", func := "gazetteer/gazetteerlaw04.RdataBack", spec := "rdataBack", unfollowed := true, recurses := true, apart := false }
def RdataBackSaid : Prop := rdataBackRow.holds Try.pinned (OpenSpec.ofChange rdataBackSpec)

/-- ITS FALSE NEIGHBOUR: 'it returns false'. Refute it at one input. -/
def rdataBackWrong : ChangeSpec := { name := "rdataBack", fn := fun _ => fun
  | [d1, d2, d3, d4] => { results := [.lit (.bool false)], args := [d1, d2, d3, d4] }
  | _ => none }
def RdataBackWrongFalsely : Prop := rdataBackRow.holds Try.pinned (OpenSpec.ofChange rdataBackWrong)

/-- 'gazetteerlaw07.CutFits': WHATEVER THE INPUT: true; the input reads as it did. -/
def cutFitsSpec : ChangeSpec := { name := "cutFits", fn := fun _ => fun
  | [d1, d2] => { results := [.lit (.bool true)], args := [d1, d2] }
  | _ => none }
def cutFitsRow : OpenClaim := { program := "ytfnelkcllaaebaa", sum := "3e279c4acc227b22fdf778490a2282a104b4ce7ca4e669bb36288feac321f7e7", func := "gazetteer/gazetteerlaw07.CutFits", spec := "cutFits", unfollowed := true, recurses := true, apart := false }
def CutFitsSaid : Prop := cutFitsRow.holds Try.pinned (OpenSpec.ofChange cutFitsSpec)

/-- ITS FALSE NEIGHBOUR: 'it returns false'. Refute it at one input. -/
def cutFitsWrong : ChangeSpec := { name := "cutFits", fn := fun _ => fun
  | [d1, d2] => { results := [.lit (.bool false)], args := [d1, d2] }
  | _ => none }
def CutFitsWrongFalsely : Prop := cutFitsRow.holds Try.pinned (OpenSpec.ofChange cutFitsWrong)

/-- 'gazetteerlaw05.RrWrites': WHATEVER THE INPUT: true; the input reads as it did. -/
def rrWritesSpec : ChangeSpec := { name := "rrWrites", fn := fun _ => fun
  | [d] => { results := [.lit (.bool true)], args := [d] }
  | _ => none }
def rrWritesRow : OpenClaim := { program := "ytfnelkcllaaebaa", sum := "3e279c4acc227b22fdf778490a2282a104b4ce7ca4e669bb36288feac321f7e7", func := "gazetteer/gazetteerlaw05.RrWrites", spec := "rrWrites", unfollowed := true, recurses := true, apart := false }
def RrWritesSaid : Prop := rrWritesRow.holds Try.pinned (OpenSpec.ofChange rrWritesSpec)

/-- ITS FALSE NEIGHBOUR: 'it returns false'. Refute it at one input. -/
def rrWritesWrong : ChangeSpec := { name := "rrWrites", fn := fun _ => fun
  | [d] => { results := [.lit (.bool false)], args := [d] }
  | _ => none }
def RrWritesWrongFalsely : Prop := rrWritesRow.holds Try.pinned (OpenSpec.ofChange rrWritesWrong)

/-- 'gazetteerlaw05.RrBack': WHATEVER THE INPUT: true; the input reads as it did. -/
def rrBackSpec : ChangeSpec := { name := "rrBack", fn := fun _ => fun
  | [d] => { results := [.lit (.bool true)], args := [d] }
  | _ => none }
def rrBackRow : OpenClaim := { program := "ytfnelkcllaaebaa", sum := "3e279c4acc227b22fdf778490a2282a104b4ce7ca4e669bb36288feac321f7e7", func := "gazetteer/gazetteerlaw05.RrBack", spec := "rrBack", unfollowed := true, recurses := true, apart := false }
def RrBackSaid : Prop := rrBackRow.holds Try.pinned (OpenSpec.ofChange rrBackSpec)

/-- ITS FALSE NEIGHBOUR: 'it returns false'. Refute it at one input. -/
def rrBackWrong : ChangeSpec := { name := "rrBack", fn := fun _ => fun
  | [d] => { results := [.lit (.bool false)], args := [d] }
  | _ => none }
def RrBackWrongFalsely : Prop := rrBackRow.holds Try.pinned (OpenSpec.ofChange rrBackWrong)

/-- 'gazetteerlaw06.MsgBack': WHATEVER THE INPUT: true; the input reads as it did. -/
def msgBackSpec : ChangeSpec := { name := "msgBack", fn := fun _ => fun
  | [d1, d2] => { results := [.lit (.bool true)], args := [d1, d2] }
  | _ => none }
def msgBackRow : OpenClaim := { program := "ytfnelkcllaaebaa", sum := "3e279c4acc227b22fdf778490a2282a104b4ce7ca4e669bb36288feac321f7e7", func := "gazetteer/gazetteerlaw06.MsgBack", spec := "msgBack", unfollowed := true, recurses := true, apart := false }
def MsgBackSaid : Prop := msgBackRow.holds Try.pinned (OpenSpec.ofChange msgBackSpec)

/-- ITS FALSE NEIGHBOUR: 'it returns false'. Refute it at one input. -/
def msgBackWrong : ChangeSpec := { name := "msgBack", fn := fun _ => fun
  | [d1, d2] => { results := [.lit (.bool false)], args := [d1, d2] }
  | _ => none }
def MsgBackWrongFalsely : Prop := msgBackRow.holds Try.pinned (OpenSpec.ofChange msgBackWrong)

/-- 'gazetteerlaw06.MsgCuts': WHATEVER THE INPUT: true; the input reads as it did. -/
def msgCutsSpec : ChangeSpec := { name := "msgCuts", fn := fun _ => fun
  | [d1, d2, d3] => { results := [.lit (.bool true)], args := [d1, d2, d3] }
  | _ => none }
def msgCutsRow : OpenClaim := { program := "ytfnelkcllaaebaa", sum := "3e279c4acc227b22fdf778490a2282a104b4ce7ca4e669bb36288feac321f7e7", func := "gazetteer/gazetteerlaw06.MsgCuts", spec := "msgCuts", unfollowed := true, recurses := true, apart := false }
def MsgCutsSaid : Prop := msgCutsRow.holds Try.pinned (OpenSpec.ofChange msgCutsSpec)

/-- ITS FALSE NEIGHBOUR: 'it returns false'. Refute it at one input. -/
def msgCutsWrong : ChangeSpec := { name := "msgCuts", fn := fun _ => fun
  | [d1, d2, d3] => { results := [.lit (.bool false)], args := [d1, d2, d3] }
  | _ => none }
def MsgCutsWrongFalsely : Prop := msgCutsRow.holds Try.pinned (OpenSpec.ofChange msgCutsWrong)

/-- 'gazetteerlaw06.MsgMany': WHATEVER THE INPUT: true; the input reads as it did. -/
def msgManySpec : ChangeSpec := { name := "msgMany", fn := fun _ => fun
  | [d1, d2] => { results := [.lit (.bool true)], args := [d1, d2] }
  | _ => none }
def msgManyRow : OpenClaim := { program := "ytfnelkcllaaebaa", sum := "3e279c4acc227b22fdf778490a2282a104b4ce7ca4e669bb36288feac321f7e7", func := "gazetteer/gazetteerlaw06.MsgMany", spec := "msgMany", unfollowed := true, recurses := true, apart := false }
def MsgManySaid : Prop := msgManyRow.holds Try.pinned (OpenSpec.ofChange msgManySpec)

/-- ITS FALSE NEIGHBOUR: 'it returns false'. Refute it at one input. -/
def msgManyWrong : ChangeSpec := { name := "msgMany", fn := fun _ => fun
  | [d1, d2] => { results := [.lit (.bool false)], args := [d1, d2] }
  | _ => none }
def MsgManyWrongFalsely : Prop := msgManyRow.holds Try.pinned (OpenSpec.ofChange msgManyWrong)

/-- 'gazetteerlaw06.MsgFlags': WHATEVER THE INPUT: true; the input reads as it did. -/
def msgFlagsSpec : ChangeSpec := { name := "msgFlags", fn := fun _ => fun
  | [d1, d2] => { results := [.lit (.bool true)], args := [d1, d2] }
  | _ => none }
def msgFlagsRow : OpenClaim := { program := "ytfnelkcllaaebaa", sum := "3e279c4acc227b22fdf778490a2282a104b4ce7ca4e669bb36288feac321f7e7", func := "gazetteer/gazetteerlaw06.MsgFlags", spec := "msgFlags", unfollowed := true, recurses := true, apart := false }
def MsgFlagsSaid : Prop := msgFlagsRow.holds Try.pinned (OpenSpec.ofChange msgFlagsSpec)

/-- ITS FALSE NEIGHBOUR: 'it returns false'. Refute it at one input. -/
def msgFlagsWrong : ChangeSpec := { name := "msgFlags", fn := fun _ => fun
  | [d1, d2] => { results := [.lit (.bool false)], args := [d1, d2] }
  | _ => none }
def MsgFlagsWrongFalsely : Prop := msgFlagsRow.holds Try.pinned (OpenSpec.ofChange msgFlagsWrong)

/-- 'gazetteerlaw18.ScrubGuess': WHATEVER THE INPUT: true; the input reads as it did. -/
def scrubGuessSpec : ChangeSpec := { name := "scrubGuess", fn := fun _ => fun
  | [d1, d2, d3, d4] => { results := [.lit (.bool true)], args := [d1, d2, d3, d4] }
  | _ => none }
def scrubGuessRow : OpenClaim := { program := "ytfnelkcllaaebaa", sum := "3e279c4acc227b22fdf778490a2282a104b4ce7ca4e669bb36288feac321f7e7", func := "gazetteer/gazetteerlaw18.ScrubGuess", spec := "scrubGuess", unfollowed := true, recurses := true, apart := false }
def ScrubGuessSaid : Prop := scrubGuessRow.holds Try.pinned (OpenSpec.ofChange scrubGuessSpec)

/-- ITS FALSE NEIGHBOUR: 'it returns false'. Refute it at one input. -/
def scrubGuessWrong : ChangeSpec := { name := "scrubGuess", fn := fun _ => fun
  | [d1, d2, d3, d4] => { results := [.lit (.bool false)], args := [d1, d2, d3, d4] }
  | _ => none }
def ScrubGuessWrongFalsely : Prop := scrubGuessRow.holds Try.pinned (OpenSpec.ofChange scrubGuessWrong)

/-- 'gazetteerlaw18.ScrubEcho': WHATEVER THE INPUT: true; the input reads as it did. -/
def scrubEchoSpec : ChangeSpec := { name := "scrubEcho", fn := fun _ => fun
  | [d] => { results := [.lit (.bool true)], args := [d] }
  | _ => none }
def scrubEchoRow : OpenClaim := { program := "ytfnelkcllaaebaa", sum := "3e279c4acc227b22fdf778490a2282a104b4ce7ca4e669bb36288feac321f7e7", func := "gazetteer/gazetteerlaw18.ScrubEcho", spec := "scrubEcho", unfollowed := true, recurses := true, apart := false }
def ScrubEchoSaid : Prop := scrubEchoRow.holds Try.pinned (OpenSpec.ofChange scrubEchoSpec)

/-- ITS FALSE NEIGHBOUR: 'it returns false'. Refute it at one input. -/
def scrubEchoWrong : ChangeSpec := { name := "scrubEcho", fn := fun _ => fun
  | [d] => { results := [.lit (.bool false)], args := [d] }
  | _ => none }
def ScrubEchoWrongFalsely : Prop := scrubEchoRow.holds Try.pinned (OpenSpec.ofChange scrubEchoWrong)

/-- 'gazetteerlaw07.CutWhole': WHATEVER THE INPUT: true; the input reads as it did. -/
def cutWholeSpec : ChangeSpec := { name := "cutWhole", fn := fun _ => fun
  | [d1, d2] => { results := [.lit (.bool true)], args := [d1, d2] }
  | _ => none }
def cutWholeRow : OpenClaim := { program := "ytfnelkcllaaebaa", sum := "3e279c4acc227b22fdf778490a2282a104b4ce7ca4e669bb36288feac321f7e7", func := "gazetteer/gazetteerlaw07.CutWhole", spec := "cutWhole", unfollowed := true, recurses := true, apart := false }
def CutWholeSaid : Prop := cutWholeRow.holds Try.pinned (OpenSpec.ofChange cutWholeSpec)

/-- ITS FALSE NEIGHBOUR: 'it returns false'. Refute it at one input. -/
def cutWholeWrong : ChangeSpec := { name := "cutWhole", fn := fun _ => fun
  | [d1, d2] => { results := [.lit (.bool false)], args := [d1, d2] }
  | _ => none }
def CutWholeWrongFalsely : Prop := cutWholeRow.holds Try.pinned (OpenSpec.ofChange cutWholeWrong)

/-- 'gazetteerlaw07.CutMore': WHATEVER THE INPUT: true; the input reads as it did. -/
def cutMoreSpec : ChangeSpec := { name := "cutMore", fn := fun _ => fun
  | [d1, d2, d3] => { results := [.lit (.bool true)], args := [d1, d2, d3] }
  | _ => none }
def cutMoreRow : OpenClaim := { program := "ytfnelkcllaaebaa", sum := "3e279c4acc227b22fdf778490a2282a104b4ce7ca4e669bb36288feac321f7e7", func := "gazetteer/gazetteerlaw07.CutMore", spec := "cutMore", unfollowed := true, recurses := true, apart := false }
def CutMoreSaid : Prop := cutMoreRow.holds Try.pinned (OpenSpec.ofChange cutMoreSpec)

/-- ITS FALSE NEIGHBOUR: 'it returns false'. Refute it at one input. -/
def cutMoreWrong : ChangeSpec := { name := "cutMore", fn := fun _ => fun
  | [d1, d2, d3] => { results := [.lit (.bool false)], args := [d1, d2, d3] }
  | _ => none }
def CutMoreWrongFalsely : Prop := cutMoreRow.holds Try.pinned (OpenSpec.ofChange cutMoreWrong)

/-- 'gazetteerlaw07.CutSets': WHATEVER THE INPUT: true; the input reads as it did. -/
def cutSetsSpec : ChangeSpec := { name := "cutSets", fn := fun _ => fun
  | [d1, d2, d3] => { results := [.lit (.bool true)], args := [d1, d2, d3] }
  | _ => none }
def cutSetsRow : OpenClaim := { program := "ytfnelkcllaaebaa", sum := "3e279c4acc227b22fdf778490a2282a104b4ce7ca4e669bb36288feac321f7e7", func := "gazetteer/gazetteerlaw07.CutSets", spec := "cutSets", unfollowed := true, recurses := true, apart := false }
def CutSetsSaid : Prop := cutSetsRow.holds Try.pinned (OpenSpec.ofChange cutSetsSpec)

/-- ITS FALSE NEIGHBOUR: 'it returns false'. Refute it at one input. -/
def cutSetsWrong : ChangeSpec := { name := "cutSets", fn := fun _ => fun
  | [d1, d2, d3] => { results := [.lit (.bool false)], args := [d1, d2, d3] }
  | _ => none }
def CutSetsWrongFalsely : Prop := cutSetsRow.holds Try.pinned (OpenSpec.ofChange cutSetsWrong)

/- THE SECOND FORM. 'bulk': how many values and letters a reading holds, each counted each time it is reached (what is shared counts as often as it is met; a slice's spare places count too). A statement '..UptoSaid' is the law's where the arguments, and the package variables that the reading takes, are together of bulk at most 1048576: NARROWER than '..Said'. Prove '..Said' where nothing that the law and all that it calls make is longer than what came in: it says more and counts as full. Else prove '..UptoSaid'. A law counts once. -/
mutual
def uptoBulk {H : Type} : DataW H → Nat
  | .lit (.string bytes) => bytes.length + 1
  | .lit _ => 1
  | .nil => 1
  | .ptr d => uptoBulk d + 1
  | .slice elems spare => uptoBulkAll elems + uptoBulkAll spare + 1
  | .agg parts => uptoBulkAll parts + 1
  | .iface _ d => uptoBulk d + 1
  | .map entries => uptoBulkEntries entries + 1
  | .held _ => 1
def uptoBulkAll {H : Type} : List (DataW H) → Nat
  | [] => 0
  | d :: r => uptoBulk d + uptoBulkAll r
def uptoBulkEntries {H : Type} : List (Lit × DataW H) → Nat
  | [] => 0
  | x :: r => uptoBulkEntry x + uptoBulkEntries r
def uptoBulkEntry {H : Type} : Lit × DataW H → Nat
  | (.string bytes, d) => bytes.length + uptoBulk d + 1
  | (_, d) => uptoBulk d + 1
 end
def uptoSmall : (H : Type) → List (DataW H) → Bool := fun _ ds => decide (uptoBulkAll ds ≤ 1048576)
def OpenSpec.upto (s : _root_.Go.ChangeSpec) : _root_.Go.OpenSpec := { _root_.Go.OpenSpec.ofChange s with cond := some uptoSmall }

/-- 'gazetteerlaw04.RdataSame', WHERE WHAT IT READS IS OF BULK AT MOST 1048576: true; the input reads as it did. -/
def rdataSameUptoRow : OpenClaim := { program := "ytfnelkcllaaebaa", sum := "3e279c4acc227b22fdf778490a2282a104b4ce7ca4e669bb36288feac321f7e7", func := "gazetteer/gazetteerlaw04.RdataSame", spec := "rdataSame", unfollowed := true, recurses := true, apart := false, narrowed := true }
def RdataSameUptoSaid : Prop := rdataSameUptoRow.holds Try.pinned (OpenSpec.upto rdataSameSpec)

/-- 'gazetteerlaw04.RdataTexts', WHERE WHAT IT READS IS OF BULK AT MOST 1048576: true; the input reads as it did. -/
def rdataTextsUptoRow : OpenClaim := { program := "ytfnelkcllaaebaa", sum := "3e279c4acc227b22fdf778490a2282a104b4ce7ca4e669bb36288feac321f7e7", func := "gazetteer/gazetteerlaw04.RdataTexts", spec := "rdataTexts", unfollowed := true, recurses := true, apart := false, narrowed := true }
def RdataTextsUptoSaid : Prop := rdataTextsUptoRow.holds Try.pinned (OpenSpec.upto rdataTextsSpec)

/-- 'gazetteerlaw06.MsgEncodes', WHERE WHAT IT READS IS OF BULK AT MOST 1048576: true; the input reads as it did. -/
def msgEncodesUptoRow : OpenClaim := { program := "ytfnelkcllaaebaa", sum := "3e279c4acc227b22fdf778490a2282a104b4ce7ca4e669bb36288feac321f7e7", func := "gazetteer/gazetteerlaw06.MsgEncodes", spec := "msgEncodes", unfollowed := true, recurses := true, apart := false, narrowed := true }
def MsgEncodesUptoSaid : Prop := msgEncodesUptoRow.holds Try.pinned (OpenSpec.upto msgEncodesSpec)

/-- 'gazetteerlaw06.MsgShort', WHERE WHAT IT READS IS OF BULK AT MOST 1048576: true; the input reads as it did. -/
def msgShortUptoRow : OpenClaim := { program := "ytfnelkcllaaebaa", sum := "3e279c4acc227b22fdf778490a2282a104b4ce7ca4e669bb36288feac321f7e7", func := "gazetteer/gazetteerlaw06.MsgShort", spec := "msgShort", unfollowed := true, recurses := true, apart := false, narrowed := true }
def MsgShortUptoSaid : Prop := msgShortUptoRow.holds Try.pinned (OpenSpec.upto msgShortSpec)

/-- 'gazetteerlaw18.ScrubQueries', WHERE WHAT IT READS IS OF BULK AT MOST 1048576: true; the input reads as it did. -/
def scrubQueriesUptoRow : OpenClaim := { program := "ytfnelkcllaaebaa", sum := "3e279c4acc227b22fdf778490a2282a104b4ce7ca4e669bb36288feac321f7e7", func := "gazetteer/gazetteerlaw18.ScrubQueries", spec := "scrubQueries", unfollowed := true, recurses := true, apart := false, narrowed := true }
def ScrubQueriesUptoSaid : Prop := scrubQueriesUptoRow.holds Try.pinned (OpenSpec.upto scrubQueriesSpec)

/-- 'gazetteerlaw05.RrSets', WHERE WHAT IT READS IS OF BULK AT MOST 1048576: true; the input reads as it did. -/
def rrSetsUptoRow : OpenClaim := { program := "ytfnelkcllaaebaa", sum := "3e279c4acc227b22fdf778490a2282a104b4ce7ca4e669bb36288feac321f7e7", func := "gazetteer/gazetteerlaw05.RrSets", spec := "rrSets", unfollowed := true, recurses := true, apart := false, narrowed := true }
def RrSetsUptoSaid : Prop := rrSetsUptoRow.holds Try.pinned (OpenSpec.upto rrSetsSpec)

/-- 'gazetteerlaw05.RrOrder', WHERE WHAT IT READS IS OF BULK AT MOST 1048576: true; the input reads as it did. -/
def rrOrderUptoRow : OpenClaim := { program := "ytfnelkcllaaebaa", sum := "3e279c4acc227b22fdf778490a2282a104b4ce7ca4e669bb36288feac321f7e7", func := "gazetteer/gazetteerlaw05.RrOrder", spec := "rrOrder", unfollowed := true, recurses := true, apart := false, narrowed := true }
def RrOrderUptoSaid : Prop := rrOrderUptoRow.holds Try.pinned (OpenSpec.upto rrOrderSpec)

/-- 'gazetteerlaw05.RrNames', WHERE WHAT IT READS IS OF BULK AT MOST 1048576: true; the input reads as it did. -/
def rrNamesUptoRow : OpenClaim := { program := "ytfnelkcllaaebaa", sum := "3e279c4acc227b22fdf778490a2282a104b4ce7ca4e669bb36288feac321f7e7", func := "gazetteer/gazetteerlaw05.RrNames", spec := "rrNames", unfollowed := true, recurses := true, apart := false, narrowed := true }
def RrNamesUptoSaid : Prop := rrNamesUptoRow.holds Try.pinned (OpenSpec.upto rrNamesSpec)

/-- 'gazetteerlaw04.RdataWrites', WHERE WHAT IT READS IS OF BULK AT MOST 1048576: true; the input reads as it did. -/
def rdataWritesUptoRow : OpenClaim := { program := "ytfnelkcllaaebaa", sum := "3e279c4acc227b22fdf778490a2282a104b4ce7ca4e669bb36288feac321f7e7", func := "gazetteer/gazetteerlaw04.RdataWrites", spec := "rdataWrites", unfollowed := true, recurses := true, apart := false, narrowed := true }
def RdataWritesUptoSaid : Prop := rdataWritesUptoRow.holds Try.pinned (OpenSpec.upto rdataWritesSpec)

/-- 'gazetteerlaw04.RdataBack', WHERE WHAT IT READS IS OF BULK AT MOST 1048576: true; the input reads as it did. -/
def rdataBackUptoRow : OpenClaim := { program := "ytfnelkcllaaebaa", sum := "3e279c4acc227b22fdf778490a2282a104b4ce7ca4e669bb36288feac321f7e7", func := "gazetteer/gazetteerlaw04.RdataBack", spec := "rdataBack", unfollowed := true, recurses := true, apart := false, narrowed := true }
def RdataBackUptoSaid : Prop := rdataBackUptoRow.holds Try.pinned (OpenSpec.upto rdataBackSpec)

/-- 'gazetteerlaw07.CutFits', WHERE WHAT IT READS IS OF BULK AT MOST 1048576: true; the input reads as it did. -/
def cutFitsUptoRow : OpenClaim := { program := "ytfnelkcllaaebaa", sum := "3e279c4acc227b22fdf778490a2282a104b4ce7ca4e669bb36288feac321f7e7", func := "gazetteer/gazetteerlaw07.CutFits", spec := "cutFits", unfollowed := true, recurses := true, apart := false, narrowed := true }
def CutFitsUptoSaid : Prop := cutFitsUptoRow.holds Try.pinned (OpenSpec.upto cutFitsSpec)

/-- 'gazetteerlaw05.RrWrites', WHERE WHAT IT READS IS OF BULK AT MOST 1048576: true; the input reads as it did. -/
def rrWritesUptoRow : OpenClaim := { program := "ytfnelkcllaaebaa", sum := "3e279c4acc227b22fdf778490a2282a104b4ce7ca4e669bb36288feac321f7e7", func := "gazetteer/gazetteerlaw05.RrWrites", spec := "rrWrites", unfollowed := true, recurses := true, apart := false, narrowed := true }
def RrWritesUptoSaid : Prop := rrWritesUptoRow.holds Try.pinned (OpenSpec.upto rrWritesSpec)

/-- 'gazetteerlaw05.RrBack', WHERE WHAT IT READS IS OF BULK AT MOST 1048576: true; the input reads as it did. -/
def rrBackUptoRow : OpenClaim := { program := "ytfnelkcllaaebaa", sum := "3e279c4acc227b22fdf778490a2282a104b4ce7ca4e669bb36288feac321f7e7", func := "gazetteer/gazetteerlaw05.RrBack", spec := "rrBack", unfollowed := true, recurses := true, apart := false, narrowed := true }
def RrBackUptoSaid : Prop := rrBackUptoRow.holds Try.pinned (OpenSpec.upto rrBackSpec)

/-- 'gazetteerlaw06.MsgBack', WHERE WHAT IT READS IS OF BULK AT MOST 1048576: true; the input reads as it did. -/
def msgBackUptoRow : OpenClaim := { program := "ytfnelkcllaaebaa", sum := "3e279c4acc227b22fdf778490a2282a104b4ce7ca4e669bb36288feac321f7e7", func := "gazetteer/gazetteerlaw06.MsgBack", spec := "msgBack", unfollowed := true, recurses := true, apart := false, narrowed := true }
def MsgBackUptoSaid : Prop := msgBackUptoRow.holds Try.pinned (OpenSpec.upto msgBackSpec)

/-- 'gazetteerlaw06.MsgCuts', WHERE WHAT IT READS IS OF BULK AT MOST 1048576: true; the input reads as it did. -/
def msgCutsUptoRow : OpenClaim := { program := "ytfnelkcllaaebaa", sum := "3e279c4acc227b22fdf778490a2282a104b4ce7ca4e669bb36288feac321f7e7", func := "gazetteer/gazetteerlaw06.MsgCuts", spec := "msgCuts", unfollowed := true, recurses := true, apart := false, narrowed := true }
def MsgCutsUptoSaid : Prop := msgCutsUptoRow.holds Try.pinned (OpenSpec.upto msgCutsSpec)

/-- 'gazetteerlaw06.MsgMany', WHERE WHAT IT READS IS OF BULK AT MOST 1048576: true; the input reads as it did. -/
def msgManyUptoRow : OpenClaim := { program := "ytfnelkcllaaebaa", sum := "3e279c4acc227b22fdf778490a2282a104b4ce7ca4e669bb36288feac321f7e7", func := "gazetteer/gazetteerlaw06.MsgMany", spec := "msgMany", unfollowed := true, recurses := true, apart := false, narrowed := true }
def MsgManyUptoSaid : Prop := msgManyUptoRow.holds Try.pinned (OpenSpec.upto msgManySpec)

/-- 'gazetteerlaw06.MsgFlags', WHERE WHAT IT READS IS OF BULK AT MOST 1048576: true; the input reads as it did. -/
def msgFlagsUptoRow : OpenClaim := { program := "ytfnelkcllaaebaa", sum := "3e279c4acc227b22fdf778490a2282a104b4ce7ca4e669bb36288feac321f7e7", func := "gazetteer/gazetteerlaw06.MsgFlags", spec := "msgFlags", unfollowed := true, recurses := true, apart := false, narrowed := true }
def MsgFlagsUptoSaid : Prop := msgFlagsUptoRow.holds Try.pinned (OpenSpec.upto msgFlagsSpec)

/-- 'gazetteerlaw18.ScrubGuess', WHERE WHAT IT READS IS OF BULK AT MOST 1048576: true; the input reads as it did. -/
def scrubGuessUptoRow : OpenClaim := { program := "ytfnelkcllaaebaa", sum := "3e279c4acc227b22fdf778490a2282a104b4ce7ca4e669bb36288feac321f7e7", func := "gazetteer/gazetteerlaw18.ScrubGuess", spec := "scrubGuess", unfollowed := true, recurses := true, apart := false, narrowed := true }
def ScrubGuessUptoSaid : Prop := scrubGuessUptoRow.holds Try.pinned (OpenSpec.upto scrubGuessSpec)

/-- 'gazetteerlaw18.ScrubEcho', WHERE WHAT IT READS IS OF BULK AT MOST 1048576: true; the input reads as it did. -/
def scrubEchoUptoRow : OpenClaim := { program := "ytfnelkcllaaebaa", sum := "3e279c4acc227b22fdf778490a2282a104b4ce7ca4e669bb36288feac321f7e7", func := "gazetteer/gazetteerlaw18.ScrubEcho", spec := "scrubEcho", unfollowed := true, recurses := true, apart := false, narrowed := true }
def ScrubEchoUptoSaid : Prop := scrubEchoUptoRow.holds Try.pinned (OpenSpec.upto scrubEchoSpec)

/-- 'gazetteerlaw07.CutWhole', WHERE WHAT IT READS IS OF BULK AT MOST 1048576: true; the input reads as it did. -/
def cutWholeUptoRow : OpenClaim := { program := "ytfnelkcllaaebaa", sum := "3e279c4acc227b22fdf778490a2282a104b4ce7ca4e669bb36288feac321f7e7", func := "gazetteer/gazetteerlaw07.CutWhole", spec := "cutWhole", unfollowed := true, recurses := true, apart := false, narrowed := true }
def CutWholeUptoSaid : Prop := cutWholeUptoRow.holds Try.pinned (OpenSpec.upto cutWholeSpec)

/-- 'gazetteerlaw07.CutMore', WHERE WHAT IT READS IS OF BULK AT MOST 1048576: true; the input reads as it did. -/
def cutMoreUptoRow : OpenClaim := { program := "ytfnelkcllaaebaa", sum := "3e279c4acc227b22fdf778490a2282a104b4ce7ca4e669bb36288feac321f7e7", func := "gazetteer/gazetteerlaw07.CutMore", spec := "cutMore", unfollowed := true, recurses := true, apart := false, narrowed := true }
def CutMoreUptoSaid : Prop := cutMoreUptoRow.holds Try.pinned (OpenSpec.upto cutMoreSpec)

/-- 'gazetteerlaw07.CutSets', WHERE WHAT IT READS IS OF BULK AT MOST 1048576: true; the input reads as it did. -/
def cutSetsUptoRow : OpenClaim := { program := "ytfnelkcllaaebaa", sum := "3e279c4acc227b22fdf778490a2282a104b4ce7ca4e669bb36288feac321f7e7", func := "gazetteer/gazetteerlaw07.CutSets", spec := "cutSets", unfollowed := true, recurses := true, apart := false, narrowed := true }
def CutSetsUptoSaid : Prop := cutSetsUptoRow.holds Try.pinned (OpenSpec.upto cutSetsSpec)

end Rows
end Go.Proofs.Ytfnelkcllaaebaa
