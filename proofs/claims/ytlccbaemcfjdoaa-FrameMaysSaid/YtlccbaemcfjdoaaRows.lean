/-
  No cell of these rows narrows 'for every input' (looked for: loops, veiled, ifaces, maps, wideKeys, modest, calm, conditions, laid).
  DERIVED. THE GIVEN ROWS OF THIS SEAT. 25 by the template 'for every input the law returns true; each argument reads behind the call as it read before'; 0 by the template 'total and deterministic' (their statements: YtlccbaemcfjdoaaTotals.lean).
  GIVEN WITH THE SEED: the statements are not yours to turn. If you find one false, say at which input.
  Laid BY PROGRAM, IN A SANDBOX (cutbox-rows.mjs): the forced cells as the released guide's own fill.sh prints them over the translation 8be61607420ab43e… (all of the seat's roots in one cut). By AI agents, Wed Nov 11 2026. No macro, syntax, notation, axiom, sorry.
-/
import Derived.Test.YtlccbaemcfjdoaaChecked
import GoSem.Claim
import GoSem.ClaimJoined
import GoSem.ClaimMapViews
import Derived.JoinedTies
import Derived.KernelRfl
namespace Go.Proofs.Ytlccbaemcfjdoaa
/- THE CELL 'sum', in the pinned program and in every row, IS THE sha256 OF THE DUMP (.gsa) THAT YtlccbaemcfjdoaaProg.lean LOADS. Nothing in Lean hashes anything: it is a label: what it is worth is what the hold of that sum in a sandbox is worth. -/
noncomputable def Try.pinned : Pinned := { name := "ytlccbaemcfjdoaa", sum := "8be61607420ab43e8dd87725d452165fe9379cc46218df7101dfc4089ccc8003", checked := Try.checked }
namespace Rows
def none {H : Type} : Left H := { results := [], args := [] }

/-- 'rickyardlaw17.ProgRows': WHATEVER THE INPUT: true; the input reads as it did. -/
def progRowsSpec : ChangeSpec := { name := "progRows", fn := fun _ => fun
  | [d1, d2, d3] => { results := [.lit (.bool true)], args := [d1, d2, d3] }
  | _ => none }
def progRowsRow : OpenClaim := { program := "ytlccbaemcfjdoaa", sum := "8be61607420ab43e8dd87725d452165fe9379cc46218df7101dfc4089ccc8003", func := "rickyard/rickyardlaw17.ProgRows", spec := "progRows", apart := false }
def ProgRowsSaid : Prop := progRowsRow.holds Try.pinned (OpenSpec.ofChange progRowsSpec)

/-- ITS FALSE NEIGHBOUR: 'it returns false'. Refute it at one input. -/
def progRowsWrong : ChangeSpec := { name := "progRows", fn := fun _ => fun
  | [d1, d2, d3] => { results := [.lit (.bool false)], args := [d1, d2, d3] }
  | _ => none }
def ProgRowsWrongFalsely : Prop := progRowsRow.holds Try.pinned (OpenSpec.ofChange progRowsWrong)

/-- 'rickyardlaw17.ProgSizes': WHATEVER THE INPUT: true; the input reads as it did. -/
def progSizesSpec : ChangeSpec := { name := "progSizes", fn := fun _ => fun
  | [d1, d2, d3, d4] => { results := [.lit (.bool true)], args := [d1, d2, d3, d4] }
  | _ => none }
def progSizesRow : OpenClaim := { program := "ytlccbaemcfjdoaa", sum := "8be61607420ab43e8dd87725d452165fe9379cc46218df7101dfc4089ccc8003", func := "rickyard/rickyardlaw17.ProgSizes", spec := "progSizes", apart := false }
def ProgSizesSaid : Prop := progSizesRow.holds Try.pinned (OpenSpec.ofChange progSizesSpec)

/-- ITS FALSE NEIGHBOUR: 'it returns false'. Refute it at one input. -/
def progSizesWrong : ChangeSpec := { name := "progSizes", fn := fun _ => fun
  | [d1, d2, d3, d4] => { results := [.lit (.bool false)], args := [d1, d2, d3, d4] }
  | _ => none }
def ProgSizesWrongFalsely : Prop := progSizesRow.holds Try.pinned (OpenSpec.ofChange progSizesWrong)

/-- 'rickyardlaw17.ProgAll': WHATEVER THE INPUT: true; the input reads as it did. -/
def progAllSpec : ChangeSpec := { name := "progAll", fn := fun _ => fun
  | [d1, d2] => { results := [.lit (.bool true)], args := [d1, d2] }
  | _ => none }
def progAllRow : OpenClaim := { program := "ytlccbaemcfjdoaa", sum := "8be61607420ab43e8dd87725d452165fe9379cc46218df7101dfc4089ccc8003", func := "rickyard/rickyardlaw17.ProgAll", spec := "progAll", apart := false }
def ProgAllSaid : Prop := progAllRow.holds Try.pinned (OpenSpec.ofChange progAllSpec)

/-- ITS FALSE NEIGHBOUR: 'it returns false'. Refute it at one input. -/
def progAllWrong : ChangeSpec := { name := "progAll", fn := fun _ => fun
  | [d1, d2] => { results := [.lit (.bool false)], args := [d1, d2] }
  | _ => none }
def ProgAllWrongFalsely : Prop := progAllRow.holds Try.pinned (OpenSpec.ofChange progAllWrong)

/-- 'rickyardlaw17.ProgMade': WHATEVER THE INPUT: true; the input reads as it did. -/
def progMadeSpec : ChangeSpec := { name := "progMade", fn := fun _ => fun
  | [d] => { results := [.lit (.bool true)], args := [d] }
  | _ => none }
def progMadeRow : OpenClaim := { program := "ytlccbaemcfjdoaa", sum := "8be61607420ab43e8dd87725d452165fe9379cc46218df7101dfc4089ccc8003", func := "rickyard/rickyardlaw17.ProgMade", spec := "progMade", apart := false }
def ProgMadeSaid : Prop := progMadeRow.holds Try.pinned (OpenSpec.ofChange progMadeSpec)

/-- ITS FALSE NEIGHBOUR: 'it returns false'. Refute it at one input. -/
def progMadeWrong : ChangeSpec := { name := "progMade", fn := fun _ => fun
  | [d] => { results := [.lit (.bool false)], args := [d] }
  | _ => none }
def ProgMadeWrongFalsely : Prop := progMadeRow.holds Try.pinned (OpenSpec.ofChange progMadeWrong)

/-- 'rickyardlaw17.ProgWays': WHATEVER THE INPUT: true; the input reads as it did. -/
def progWaysSpec : ChangeSpec := { name := "progWays", fn := fun _ => fun
  | [d1, d2, d3] => { results := [.lit (.bool true)], args := [d1, d2, d3] }
  | _ => none }
def progWaysRow : OpenClaim := { program := "ytlccbaemcfjdoaa", sum := "8be61607420ab43e8dd87725d452165fe9379cc46218df7101dfc4089ccc8003", func := "rickyard/rickyardlaw17.ProgWays", spec := "progWays", apart := false }
def ProgWaysSaid : Prop := progWaysRow.holds Try.pinned (OpenSpec.ofChange progWaysSpec)

/-- ITS FALSE NEIGHBOUR: 'it returns false'. Refute it at one input. -/
def progWaysWrong : ChangeSpec := { name := "progWays", fn := fun _ => fun
  | [d1, d2, d3] => { results := [.lit (.bool false)], args := [d1, d2, d3] }
  | _ => none }
def ProgWaysWrongFalsely : Prop := progWaysRow.holds Try.pinned (OpenSpec.ofChange progWaysWrong)

/-- 'rickyardlaw17.ProgMore': WHATEVER THE INPUT: true; the input reads as it did. -/
def progMoreSpec : ChangeSpec := { name := "progMore", fn := fun _ => fun
  | [d1, d2, d3] => { results := [.lit (.bool true)], args := [d1, d2, d3] }
  | _ => none }
def progMoreRow : OpenClaim := { program := "ytlccbaemcfjdoaa", sum := "8be61607420ab43e8dd87725d452165fe9379cc46218df7101dfc4089ccc8003", func := "rickyard/rickyardlaw17.ProgMore", spec := "progMore", apart := false }
def ProgMoreSaid : Prop := progMoreRow.holds Try.pinned (OpenSpec.ofChange progMoreSpec)

/-- ITS FALSE NEIGHBOUR: 'it returns false'. Refute it at one input. -/
def progMoreWrong : ChangeSpec := { name := "progMore", fn := fun _ => fun
  | [d1, d2, d3] => { results := [.lit (.bool false)], args := [d1, d2, d3] }
  | _ => none }
def ProgMoreWrongFalsely : Prop := progMoreRow.holds Try.pinned (OpenSpec.ofChange progMoreWrong)

/-- 'rickyardlaw18.FramePuts': WHATEVER THE INPUT: true; the input reads as it did. -/
def framePutsSpec : ChangeSpec := { name := "framePuts", fn := fun _ => fun
  | [d1, d2, d3] => { results := [.lit (.bool true)], args := [d1, d2, d3] }
  | _ => none }
def framePutsRow : OpenClaim := { program := "ytlccbaemcfjdoaa", sum := "8be61607420ab43e8dd87725d452165fe9379cc46218df7101dfc4089ccc8003", func := "rickyard/rickyardlaw18.FramePuts", spec := "framePuts", apart := false }
def FramePutsSaid : Prop := framePutsRow.holds Try.pinned (OpenSpec.ofChange framePutsSpec)

/-- ITS FALSE NEIGHBOUR: 'it returns false'. Refute it at one input. -/
def framePutsWrong : ChangeSpec := { name := "framePuts", fn := fun _ => fun
  | [d1, d2, d3] => { results := [.lit (.bool false)], args := [d1, d2, d3] }
  | _ => none }
def FramePutsWrongFalsely : Prop := framePutsRow.holds Try.pinned (OpenSpec.ofChange framePutsWrong)

/-- 'rickyardlaw18.FrameMays': WHATEVER THE INPUT: true; the input reads as it did. -/
def frameMaysSpec : ChangeSpec := { name := "frameMays", fn := fun _ => fun
  | [d1, d2, d3, d4] => { results := [.lit (.bool true)], args := [d1, d2, d3, d4] }
  | _ => none }
def frameMaysRow : OpenClaim := { program := "ytlccbaemcfjdoaa", sum := "8be61607420ab43e8dd87725d452165fe9379cc46218df7101dfc4089ccc8003", func := "rickyard/rickyardlaw18.FrameMays", spec := "frameMays", apart := false }
def FrameMaysSaid : Prop := frameMaysRow.holds Try.pinned (OpenSpec.ofChange frameMaysSpec)

/-- ITS FALSE NEIGHBOUR: 'it returns false'. Refute it at one input. -/
def frameMaysWrong : ChangeSpec := { name := "frameMays", fn := fun _ => fun
  | [d1, d2, d3, d4] => { results := [.lit (.bool false)], args := [d1, d2, d3, d4] }
  | _ => none }
def FrameMaysWrongFalsely : Prop := frameMaysRow.holds Try.pinned (OpenSpec.ofChange frameMaysWrong)

/-- 'rickyardlaw18.FrameWrites': WHATEVER THE INPUT: true; the input reads as it did. -/
def frameWritesSpec : ChangeSpec := { name := "frameWrites", fn := fun _ => fun
  | [d1, d2, d3, d4, d5, d6] => { results := [.lit (.bool true)], args := [d1, d2, d3, d4, d5, d6] }
  | _ => none }
def frameWritesRow : OpenClaim := { program := "ytlccbaemcfjdoaa", sum := "8be61607420ab43e8dd87725d452165fe9379cc46218df7101dfc4089ccc8003", func := "rickyard/rickyardlaw18.FrameWrites", spec := "frameWrites", apart := false }
def FrameWritesSaid : Prop := frameWritesRow.holds Try.pinned (OpenSpec.ofChange frameWritesSpec)

/-- ITS FALSE NEIGHBOUR: 'it returns false'. Refute it at one input. -/
def frameWritesWrong : ChangeSpec := { name := "frameWrites", fn := fun _ => fun
  | [d1, d2, d3, d4, d5, d6] => { results := [.lit (.bool false)], args := [d1, d2, d3, d4, d5, d6] }
  | _ => none }
def FrameWritesWrongFalsely : Prop := frameWritesRow.holds Try.pinned (OpenSpec.ofChange frameWritesWrong)

/-- 'rickyardlaw18.FrameBack': WHATEVER THE INPUT: true; the input reads as it did. -/
def frameBackSpec : ChangeSpec := { name := "frameBack", fn := fun _ => fun
  | [d1, d2, d3, d4, d5] => { results := [.lit (.bool true)], args := [d1, d2, d3, d4, d5] }
  | _ => none }
def frameBackRow : OpenClaim := { program := "ytlccbaemcfjdoaa", sum := "8be61607420ab43e8dd87725d452165fe9379cc46218df7101dfc4089ccc8003", func := "rickyard/rickyardlaw18.FrameBack", spec := "frameBack", apart := false }
def FrameBackSaid : Prop := frameBackRow.holds Try.pinned (OpenSpec.ofChange frameBackSpec)

/-- ITS FALSE NEIGHBOUR: 'it returns false'. Refute it at one input. -/
def frameBackWrong : ChangeSpec := { name := "frameBack", fn := fun _ => fun
  | [d1, d2, d3, d4, d5] => { results := [.lit (.bool false)], args := [d1, d2, d3, d4, d5] }
  | _ => none }
def FrameBackWrongFalsely : Prop := frameBackRow.holds Try.pinned (OpenSpec.ofChange frameBackWrong)

/-- 'rickyardlaw18.FrameReads': WHATEVER THE INPUT: true; the input reads as it did. -/
def frameReadsSpec : ChangeSpec := { name := "frameReads", fn := fun _ => fun
  | [d1, d2, d3, d4, d5] => { results := [.lit (.bool true)], args := [d1, d2, d3, d4, d5] }
  | _ => none }
def frameReadsRow : OpenClaim := { program := "ytlccbaemcfjdoaa", sum := "8be61607420ab43e8dd87725d452165fe9379cc46218df7101dfc4089ccc8003", func := "rickyard/rickyardlaw18.FrameReads", spec := "frameReads", apart := false }
def FrameReadsSaid : Prop := frameReadsRow.holds Try.pinned (OpenSpec.ofChange frameReadsSpec)

/-- ITS FALSE NEIGHBOUR: 'it returns false'. Refute it at one input. -/
def frameReadsWrong : ChangeSpec := { name := "frameReads", fn := fun _ => fun
  | [d1, d2, d3, d4, d5] => { results := [.lit (.bool false)], args := [d1, d2, d3, d4, d5] }
  | _ => none }
def FrameReadsWrongFalsely : Prop := frameReadsRow.holds Try.pinned (OpenSpec.ofChange frameReadsWrong)

/-- 'rickyardlaw18.FrameStacks': WHATEVER THE INPUT: true; the input reads as it did. -/
def frameStacksSpec : ChangeSpec := { name := "frameStacks", fn := fun _ => fun
  | [d1, d2, d3, d4] => { results := [.lit (.bool true)], args := [d1, d2, d3, d4] }
  | _ => none }
def frameStacksRow : OpenClaim := { program := "ytlccbaemcfjdoaa", sum := "8be61607420ab43e8dd87725d452165fe9379cc46218df7101dfc4089ccc8003", func := "rickyard/rickyardlaw18.FrameStacks", spec := "frameStacks", apart := false }
def FrameStacksSaid : Prop := frameStacksRow.holds Try.pinned (OpenSpec.ofChange frameStacksSpec)

/-- ITS FALSE NEIGHBOUR: 'it returns false'. Refute it at one input. -/
def frameStacksWrong : ChangeSpec := { name := "frameStacks", fn := fun _ => fun
  | [d1, d2, d3, d4] => { results := [.lit (.bool false)], args := [d1, d2, d3, d4] }
  | _ => none }
def FrameStacksWrongFalsely : Prop := frameStacksRow.holds Try.pinned (OpenSpec.ofChange frameStacksWrong)

/-- 'rickyardlaw18.FrameNone': WHATEVER THE INPUT: true; the input reads as it did. -/
def frameNoneSpec : ChangeSpec := { name := "frameNone", fn := fun _ => fun
  | [d1, d2, d3, d4] => { results := [.lit (.bool true)], args := [d1, d2, d3, d4] }
  | _ => none }
def frameNoneRow : OpenClaim := { program := "ytlccbaemcfjdoaa", sum := "8be61607420ab43e8dd87725d452165fe9379cc46218df7101dfc4089ccc8003", func := "rickyard/rickyardlaw18.FrameNone", spec := "frameNone", apart := false }
def FrameNoneSaid : Prop := frameNoneRow.holds Try.pinned (OpenSpec.ofChange frameNoneSpec)

/-- ITS FALSE NEIGHBOUR: 'it returns false'. Refute it at one input. -/
def frameNoneWrong : ChangeSpec := { name := "frameNone", fn := fun _ => fun
  | [d1, d2, d3, d4] => { results := [.lit (.bool false)], args := [d1, d2, d3, d4] }
  | _ => none }
def FrameNoneWrongFalsely : Prop := frameNoneRow.holds Try.pinned (OpenSpec.ofChange frameNoneWrong)

/-- 'rickyardlaw20.ScanReads': WHATEVER THE INPUT: true; the input reads as it did. -/
def scanReadsSpec : ChangeSpec := { name := "scanReads", fn := fun _ => fun
  | [d1, d2, d3, d4] => { results := [.lit (.bool true)], args := [d1, d2, d3, d4] }
  | _ => none }
def scanReadsRow : OpenClaim := { program := "ytlccbaemcfjdoaa", sum := "8be61607420ab43e8dd87725d452165fe9379cc46218df7101dfc4089ccc8003", func := "rickyard/rickyardlaw20.ScanReads", spec := "scanReads", apart := false }
def ScanReadsSaid : Prop := scanReadsRow.holds Try.pinned (OpenSpec.ofChange scanReadsSpec)

/-- ITS FALSE NEIGHBOUR: 'it returns false'. Refute it at one input. -/
def scanReadsWrong : ChangeSpec := { name := "scanReads", fn := fun _ => fun
  | [d1, d2, d3, d4] => { results := [.lit (.bool false)], args := [d1, d2, d3, d4] }
  | _ => none }
def ScanReadsWrongFalsely : Prop := scanReadsRow.holds Try.pinned (OpenSpec.ofChange scanReadsWrong)

/-- 'rickyardlaw20.ScanStacks': WHATEVER THE INPUT: true; the input reads as it did. -/
def scanStacksSpec : ChangeSpec := { name := "scanStacks", fn := fun _ => fun
  | [d1, d2, d3, d4] => { results := [.lit (.bool true)], args := [d1, d2, d3, d4] }
  | _ => none }
def scanStacksRow : OpenClaim := { program := "ytlccbaemcfjdoaa", sum := "8be61607420ab43e8dd87725d452165fe9379cc46218df7101dfc4089ccc8003", func := "rickyard/rickyardlaw20.ScanStacks", spec := "scanStacks", apart := false }
def ScanStacksSaid : Prop := scanStacksRow.holds Try.pinned (OpenSpec.ofChange scanStacksSpec)

/-- ITS FALSE NEIGHBOUR: 'it returns false'. Refute it at one input. -/
def scanStacksWrong : ChangeSpec := { name := "scanStacks", fn := fun _ => fun
  | [d1, d2, d3, d4] => { results := [.lit (.bool false)], args := [d1, d2, d3, d4] }
  | _ => none }
def ScanStacksWrongFalsely : Prop := scanStacksRow.holds Try.pinned (OpenSpec.ofChange scanStacksWrong)

/-- 'rickyardlaw20.ScanRaw': WHATEVER THE INPUT: true; the input reads as it did. -/
def scanRawSpec : ChangeSpec := { name := "scanRaw", fn := fun _ => fun
  | [d1, d2, d3, d4, d5] => { results := [.lit (.bool true)], args := [d1, d2, d3, d4, d5] }
  | _ => none }
def scanRawRow : OpenClaim := { program := "ytlccbaemcfjdoaa", sum := "8be61607420ab43e8dd87725d452165fe9379cc46218df7101dfc4089ccc8003", func := "rickyard/rickyardlaw20.ScanRaw", spec := "scanRaw", apart := false }
def ScanRawSaid : Prop := scanRawRow.holds Try.pinned (OpenSpec.ofChange scanRawSpec)

/-- ITS FALSE NEIGHBOUR: 'it returns false'. Refute it at one input. -/
def scanRawWrong : ChangeSpec := { name := "scanRaw", fn := fun _ => fun
  | [d1, d2, d3, d4, d5] => { results := [.lit (.bool false)], args := [d1, d2, d3, d4, d5] }
  | _ => none }
def ScanRawWrongFalsely : Prop := scanRawRow.holds Try.pinned (OpenSpec.ofChange scanRawWrong)

/-- 'rickyardlaw20.ScanSame': WHATEVER THE INPUT: true; the input reads as it did. -/
def scanSameSpec : ChangeSpec := { name := "scanSame", fn := fun _ => fun
  | [d1, d2, d3, d4] => { results := [.lit (.bool true)], args := [d1, d2, d3, d4] }
  | _ => none }
def scanSameRow : OpenClaim := { program := "ytlccbaemcfjdoaa", sum := "8be61607420ab43e8dd87725d452165fe9379cc46218df7101dfc4089ccc8003", func := "rickyard/rickyardlaw20.ScanSame", spec := "scanSame", apart := false }
def ScanSameSaid : Prop := scanSameRow.holds Try.pinned (OpenSpec.ofChange scanSameSpec)

/-- ITS FALSE NEIGHBOUR: 'it returns false'. Refute it at one input. -/
def scanSameWrong : ChangeSpec := { name := "scanSame", fn := fun _ => fun
  | [d1, d2, d3, d4] => { results := [.lit (.bool false)], args := [d1, d2, d3, d4] }
  | _ => none }
def ScanSameWrongFalsely : Prop := scanSameRow.holds Try.pinned (OpenSpec.ofChange scanSameWrong)

/-- 'rickyardlaw20.ScanApart': WHATEVER THE INPUT: true; the input reads as it did. -/
def scanApartSpec : ChangeSpec := { name := "scanApart", fn := fun _ => fun
  | [d1, d2, d3, d4] => { results := [.lit (.bool true)], args := [d1, d2, d3, d4] }
  | _ => none }
def scanApartRow : OpenClaim := { program := "ytlccbaemcfjdoaa", sum := "8be61607420ab43e8dd87725d452165fe9379cc46218df7101dfc4089ccc8003", func := "rickyard/rickyardlaw20.ScanApart", spec := "scanApart", apart := false }
def ScanApartSaid : Prop := scanApartRow.holds Try.pinned (OpenSpec.ofChange scanApartSpec)

/-- ITS FALSE NEIGHBOUR: 'it returns false'. Refute it at one input. -/
def scanApartWrong : ChangeSpec := { name := "scanApart", fn := fun _ => fun
  | [d1, d2, d3, d4] => { results := [.lit (.bool false)], args := [d1, d2, d3, d4] }
  | _ => none }
def ScanApartWrongFalsely : Prop := scanApartRow.holds Try.pinned (OpenSpec.ofChange scanApartWrong)

/-- 'rickyardlaw20.ScanNone': WHATEVER THE INPUT: true; the input reads as it did. -/
def scanNoneSpec : ChangeSpec := { name := "scanNone", fn := fun _ => fun
  | [d1, d2, d3, d4] => { results := [.lit (.bool true)], args := [d1, d2, d3, d4] }
  | _ => none }
def scanNoneRow : OpenClaim := { program := "ytlccbaemcfjdoaa", sum := "8be61607420ab43e8dd87725d452165fe9379cc46218df7101dfc4089ccc8003", func := "rickyard/rickyardlaw20.ScanNone", spec := "scanNone", apart := false }
def ScanNoneSaid : Prop := scanNoneRow.holds Try.pinned (OpenSpec.ofChange scanNoneSpec)

/-- ITS FALSE NEIGHBOUR: 'it returns false'. Refute it at one input. -/
def scanNoneWrong : ChangeSpec := { name := "scanNone", fn := fun _ => fun
  | [d1, d2, d3, d4] => { results := [.lit (.bool false)], args := [d1, d2, d3, d4] }
  | _ => none }
def ScanNoneWrongFalsely : Prop := scanNoneRow.holds Try.pinned (OpenSpec.ofChange scanNoneWrong)

/-- 'rickyardlaw19.MoveStacks': WHATEVER THE INPUT: true; the input reads as it did. -/
def moveStacksSpec : ChangeSpec := { name := "moveStacks", fn := fun _ => fun
  | [d1, d2, d3, d4, d5, d6, d7] => { results := [.lit (.bool true)], args := [d1, d2, d3, d4, d5, d6, d7] }
  | _ => none }
def moveStacksRow : OpenClaim := { program := "ytlccbaemcfjdoaa", sum := "8be61607420ab43e8dd87725d452165fe9379cc46218df7101dfc4089ccc8003", func := "rickyard/rickyardlaw19.MoveStacks", spec := "moveStacks", apart := false }
def MoveStacksSaid : Prop := moveStacksRow.holds Try.pinned (OpenSpec.ofChange moveStacksSpec)

/-- ITS FALSE NEIGHBOUR: 'it returns false'. Refute it at one input. -/
def moveStacksWrong : ChangeSpec := { name := "moveStacks", fn := fun _ => fun
  | [d1, d2, d3, d4, d5, d6, d7] => { results := [.lit (.bool false)], args := [d1, d2, d3, d4, d5, d6, d7] }
  | _ => none }
def MoveStacksWrongFalsely : Prop := moveStacksRow.holds Try.pinned (OpenSpec.ofChange moveStacksWrong)

/-- 'rickyardlaw19.MoveFixes': WHATEVER THE INPUT: true; the input reads as it did. -/
def moveFixesSpec : ChangeSpec := { name := "moveFixes", fn := fun _ => fun
  | [d1, d2, d3, d4] => { results := [.lit (.bool true)], args := [d1, d2, d3, d4] }
  | _ => none }
def moveFixesRow : OpenClaim := { program := "ytlccbaemcfjdoaa", sum := "8be61607420ab43e8dd87725d452165fe9379cc46218df7101dfc4089ccc8003", func := "rickyard/rickyardlaw19.MoveFixes", spec := "moveFixes", apart := false }
def MoveFixesSaid : Prop := moveFixesRow.holds Try.pinned (OpenSpec.ofChange moveFixesSpec)

/-- ITS FALSE NEIGHBOUR: 'it returns false'. Refute it at one input. -/
def moveFixesWrong : ChangeSpec := { name := "moveFixes", fn := fun _ => fun
  | [d1, d2, d3, d4] => { results := [.lit (.bool false)], args := [d1, d2, d3, d4] }
  | _ => none }
def MoveFixesWrongFalsely : Prop := moveFixesRow.holds Try.pinned (OpenSpec.ofChange moveFixesWrong)

/-- 'rickyardlaw19.MoveRefuses': WHATEVER THE INPUT: true; the input reads as it did. -/
def moveRefusesSpec : ChangeSpec := { name := "moveRefuses", fn := fun _ => fun
  | [d1, d2, d3, d4, d5, d6, d7, d8] => { results := [.lit (.bool true)], args := [d1, d2, d3, d4, d5, d6, d7, d8] }
  | _ => none }
def moveRefusesRow : OpenClaim := { program := "ytlccbaemcfjdoaa", sum := "8be61607420ab43e8dd87725d452165fe9379cc46218df7101dfc4089ccc8003", func := "rickyard/rickyardlaw19.MoveRefuses", spec := "moveRefuses", apart := false }
def MoveRefusesSaid : Prop := moveRefusesRow.holds Try.pinned (OpenSpec.ofChange moveRefusesSpec)

/-- ITS FALSE NEIGHBOUR: 'it returns false'. Refute it at one input. -/
def moveRefusesWrong : ChangeSpec := { name := "moveRefuses", fn := fun _ => fun
  | [d1, d2, d3, d4, d5, d6, d7, d8] => { results := [.lit (.bool false)], args := [d1, d2, d3, d4, d5, d6, d7, d8] }
  | _ => none }
def MoveRefusesWrongFalsely : Prop := moveRefusesRow.holds Try.pinned (OpenSpec.ofChange moveRefusesWrong)

/-- 'rickyardlaw19.MoveNone': WHATEVER THE INPUT: true; the input reads as it did. -/
def moveNoneSpec : ChangeSpec := { name := "moveNone", fn := fun _ => fun
  | [d1, d2, d3, d4, d5, d6] => { results := [.lit (.bool true)], args := [d1, d2, d3, d4, d5, d6] }
  | _ => none }
def moveNoneRow : OpenClaim := { program := "ytlccbaemcfjdoaa", sum := "8be61607420ab43e8dd87725d452165fe9379cc46218df7101dfc4089ccc8003", func := "rickyard/rickyardlaw19.MoveNone", spec := "moveNone", apart := false }
def MoveNoneSaid : Prop := moveNoneRow.holds Try.pinned (OpenSpec.ofChange moveNoneSpec)

/-- ITS FALSE NEIGHBOUR: 'it returns false'. Refute it at one input. -/
def moveNoneWrong : ChangeSpec := { name := "moveNone", fn := fun _ => fun
  | [d1, d2, d3, d4, d5, d6] => { results := [.lit (.bool false)], args := [d1, d2, d3, d4, d5, d6] }
  | _ => none }
def MoveNoneWrongFalsely : Prop := moveNoneRow.holds Try.pinned (OpenSpec.ofChange moveNoneWrong)

/-- 'rickyardlaw19.MoveKeeps': WHATEVER THE INPUT: true; the input reads as it did. -/
def moveKeepsSpec : ChangeSpec := { name := "moveKeeps", fn := fun _ => fun
  | [d1, d2, d3, d4, d5, d6, d7] => { results := [.lit (.bool true)], args := [d1, d2, d3, d4, d5, d6, d7] }
  | _ => none }
def moveKeepsRow : OpenClaim := { program := "ytlccbaemcfjdoaa", sum := "8be61607420ab43e8dd87725d452165fe9379cc46218df7101dfc4089ccc8003", func := "rickyard/rickyardlaw19.MoveKeeps", spec := "moveKeeps", apart := false }
def MoveKeepsSaid : Prop := moveKeepsRow.holds Try.pinned (OpenSpec.ofChange moveKeepsSpec)

/-- ITS FALSE NEIGHBOUR: 'it returns false'. Refute it at one input. -/
def moveKeepsWrong : ChangeSpec := { name := "moveKeeps", fn := fun _ => fun
  | [d1, d2, d3, d4, d5, d6, d7] => { results := [.lit (.bool false)], args := [d1, d2, d3, d4, d5, d6, d7] }
  | _ => none }
def MoveKeepsWrongFalsely : Prop := moveKeepsRow.holds Try.pinned (OpenSpec.ofChange moveKeepsWrong)

/-- 'rickyardlaw19.MoveBack': WHATEVER THE INPUT: true; the input reads as it did. -/
def moveBackSpec : ChangeSpec := { name := "moveBack", fn := fun _ => fun
  | [d1, d2, d3, d4, d5, d6] => { results := [.lit (.bool true)], args := [d1, d2, d3, d4, d5, d6] }
  | _ => none }
def moveBackRow : OpenClaim := { program := "ytlccbaemcfjdoaa", sum := "8be61607420ab43e8dd87725d452165fe9379cc46218df7101dfc4089ccc8003", func := "rickyard/rickyardlaw19.MoveBack", spec := "moveBack", apart := false }
def MoveBackSaid : Prop := moveBackRow.holds Try.pinned (OpenSpec.ofChange moveBackSpec)

/-- ITS FALSE NEIGHBOUR: 'it returns false'. Refute it at one input. -/
def moveBackWrong : ChangeSpec := { name := "moveBack", fn := fun _ => fun
  | [d1, d2, d3, d4, d5, d6] => { results := [.lit (.bool false)], args := [d1, d2, d3, d4, d5, d6] }
  | _ => none }
def MoveBackWrongFalsely : Prop := moveBackRow.holds Try.pinned (OpenSpec.ofChange moveBackWrong)

/- THE SECOND FORM. 'bulk': how many values and letters a reading holds, each counted each time it is reached (what is shared counts as often as it is met; a slice's spare places count too). A statement '..UptoSaid' is the law's where the arguments, and the package variables that the reading takes, are together of bulk at most 1048576: NARROWER than '..Said'. Prove '..Said' where nothing that the law and all that it calls make is longer than what came in: it says more and counts as full. Else prove '..UptoSaid'. A law counts once. -/
mutual
def uptoBulk {H : Type} : DataW H → Nat
  | .lit (.string bytes) => bytes.length + 1
  | .lit _ => 1
  | .nil => 1
  | .ptr d => uptoBulk d + 1
  | .slice elems spare => uptoBulkAll elems + uptoBulkAll spare + 1
  | .agg parts => uptoBulkAll parts + 1
  | .iface _ d => uptoBulk d + 1
  | .map entries => uptoBulkEntries entries + 1
  | .held _ => 1
def uptoBulkAll {H : Type} : List (DataW H) → Nat
  | [] => 0
  | d :: r => uptoBulk d + uptoBulkAll r
def uptoBulkEntries {H : Type} : List (Lit × DataW H) → Nat
  | [] => 0
  | x :: r => uptoBulkEntry x + uptoBulkEntries r
def uptoBulkEntry {H : Type} : Lit × DataW H → Nat
  | (.string bytes, d) => bytes.length + uptoBulk d + 1
  | (_, d) => uptoBulk d + 1
 end
def uptoSmall : (H : Type) → List (DataW H) → Bool := fun _ ds => decide (uptoBulkAll ds ≤ 1048576)
def OpenSpec.upto (s : _root_.Go.ChangeSpec) : _root_.Go.OpenSpec := { _root_.Go.OpenSpec.ofChange s with cond := some uptoSmall }

/-- 'rickyardlaw17.ProgRows', WHERE WHAT IT READS IS OF BULK AT MOST 1048576: true; the input reads as it did. -/
def progRowsUptoRow : OpenClaim := { program := "ytlccbaemcfjdoaa", sum := "8be61607420ab43e8dd87725d452165fe9379cc46218df7101dfc4089ccc8003", func := "rickyard/rickyardlaw17.ProgRows", spec := "progRows", apart := false, narrowed := true }
def ProgRowsUptoSaid : Prop := progRowsUptoRow.holds Try.pinned (OpenSpec.upto progRowsSpec)

/-- 'rickyardlaw17.ProgSizes', WHERE WHAT IT READS IS OF BULK AT MOST 1048576: true; the input reads as it did. -/
def progSizesUptoRow : OpenClaim := { program := "ytlccbaemcfjdoaa", sum := "8be61607420ab43e8dd87725d452165fe9379cc46218df7101dfc4089ccc8003", func := "rickyard/rickyardlaw17.ProgSizes", spec := "progSizes", apart := false, narrowed := true }
def ProgSizesUptoSaid : Prop := progSizesUptoRow.holds Try.pinned (OpenSpec.upto progSizesSpec)

/-- 'rickyardlaw17.ProgAll', WHERE WHAT IT READS IS OF BULK AT MOST 1048576: true; the input reads as it did. -/
def progAllUptoRow : OpenClaim := { program := "ytlccbaemcfjdoaa", sum := "8be61607420ab43e8dd87725d452165fe9379cc46218df7101dfc4089ccc8003", func := "rickyard/rickyardlaw17.ProgAll", spec := "progAll", apart := false, narrowed := true }
def ProgAllUptoSaid : Prop := progAllUptoRow.holds Try.pinned (OpenSpec.upto progAllSpec)

/-- 'rickyardlaw17.ProgMade', WHERE WHAT IT READS IS OF BULK AT MOST 1048576: true; the input reads as it did. -/
def progMadeUptoRow : OpenClaim := { program := "ytlccbaemcfjdoaa", sum := "8be61607420ab43e8dd87725d452165fe9379cc46218df7101dfc4089ccc8003", func := "rickyard/rickyardlaw17.ProgMade", spec := "progMade", apart := false, narrowed := true }
def ProgMadeUptoSaid : Prop := progMadeUptoRow.holds Try.pinned (OpenSpec.upto progMadeSpec)

/-- 'rickyardlaw17.ProgWays', WHERE WHAT IT READS IS OF BULK AT MOST 1048576: true; the input reads as it did. -/
def progWaysUptoRow : OpenClaim := { program := "ytlccbaemcfjdoaa", sum := "8be61607420ab43e8dd87725d452165fe9379cc46218df7101dfc4089ccc8003", func := "rickyard/rickyardlaw17.ProgWays", spec := "progWays", apart := false, narrowed := true }
def ProgWaysUptoSaid : Prop := progWaysUptoRow.holds Try.pinned (OpenSpec.upto progWaysSpec)

/-- 'rickyardlaw17.ProgMore', WHERE WHAT IT READS IS OF BULK AT MOST 1048576: true; the input reads as it did. -/
def progMoreUptoRow : OpenClaim := { program := "ytlccbaemcfjdoaa", sum := "8be61607420ab43e8dd87725d452165fe9379cc46218df7101dfc4089ccc8003", func := "rickyard/rickyardlaw17.ProgMore", spec := "progMore", apart := false, narrowed := true }
def ProgMoreUptoSaid : Prop := progMoreUptoRow.holds Try.pinned (OpenSpec.upto progMoreSpec)

/-- 'rickyardlaw18.FramePuts', WHERE WHAT IT READS IS OF BULK AT MOST 1048576: true; the input reads as it did. -/
def framePutsUptoRow : OpenClaim := { program := "ytlccbaemcfjdoaa", sum := "8be61607420ab43e8dd87725d452165fe9379cc46218df7101dfc4089ccc8003", func := "rickyard/rickyardlaw18.FramePuts", spec := "framePuts", apart := false, narrowed := true }
def FramePutsUptoSaid : Prop := framePutsUptoRow.holds Try.pinned (OpenSpec.upto framePutsSpec)

/-- 'rickyardlaw18.FrameMays', WHERE WHAT IT READS IS OF BULK AT MOST 1048576: true; the input reads as it did. -/
def frameMaysUptoRow : OpenClaim := { program := "ytlccbaemcfjdoaa", sum := "8be61607420ab43e8dd87725d452165fe9379cc46218df7101dfc4089ccc8003", func := "rickyard/rickyardlaw18.FrameMays", spec := "frameMays", apart := false, narrowed := true }
def FrameMaysUptoSaid : Prop := frameMaysUptoRow.holds Try.pinned (OpenSpec.upto frameMaysSpec)

/-- 'rickyardlaw18.FrameWrites', WHERE WHAT IT READS IS OF BULK AT MOST 1048576: true; the input reads as it did. -/
def frameWritesUptoRow : OpenClaim := { program := "ytlccbaemcfjdoaa", sum := "8be61607420ab43e8dd87725d452165fe9379cc46218df7101dfc4089ccc8003", func := "rickyard/rickyardlaw18.FrameWrites", spec := "frameWrites", apart := false, narrowed := true }
def FrameWritesUptoSaid : Prop := frameWritesUptoRow.holds Try.pinned (OpenSpec.upto frameWritesSpec)

/-- 'rickyardlaw18.FrameBack', WHERE WHAT IT READS IS OF BULK AT MOST 1048576: true; the input reads as it did. -/
def frameBackUptoRow : OpenClaim := { program := "ytlccbaemcfjdoaa", sum := "8be61607420ab43e8dd87725d452165fe9379cc46218df7101dfc4089ccc8003", func := "rickyard/rickyardlaw18.FrameBack", spec := "frameBack", apart := false, narrowed := true }
def FrameBackUptoSaid : Prop := frameBackUptoRow.holds Try.pinned (OpenSpec.upto frameBackSpec)

/-- 'rickyardlaw18.FrameReads', WHERE WHAT IT READS IS OF BULK AT MOST 1048576: true; the input reads as it did. -/
def frameReadsUptoRow : OpenClaim := { program := "ytlccbaemcfjdoaa", sum := "8be61607420ab43e8dd87725d452165fe9379cc46218df7101dfc4089ccc8003", func := "rickyard/rickyardlaw18.FrameReads", spec := "frameReads", apart := false, narrowed := true }
def FrameReadsUptoSaid : Prop := frameReadsUptoRow.holds Try.pinned (OpenSpec.upto frameReadsSpec)

/-- 'rickyardlaw18.FrameStacks', WHERE WHAT IT READS IS OF BULK AT MOST 1048576: true; the input reads as it did. -/
def frameStacksUptoRow : OpenClaim := { program := "ytlccbaemcfjdoaa", sum := "8be61607420ab43e8dd87725d452165fe9379cc46218df7101dfc4089ccc8003", func := "rickyard/rickyardlaw18.FrameStacks", spec := "frameStacks", apart := false, narrowed := true }
def FrameStacksUptoSaid : Prop := frameStacksUptoRow.holds Try.pinned (OpenSpec.upto frameStacksSpec)

/-- 'rickyardlaw18.FrameNone', WHERE WHAT IT READS IS OF BULK AT MOST 1048576: true; the input reads as it did. -/
def frameNoneUptoRow : OpenClaim := { program := "ytlccbaemcfjdoaa", sum := "8be61607420ab43e8dd87725d452165fe9379cc46218df7101dfc4089ccc8003", func := "rickyard/rickyardlaw18.FrameNone", spec := "frameNone", apart := false, narrowed := true }
def FrameNoneUptoSaid : Prop := frameNoneUptoRow.holds Try.pinned (OpenSpec.upto frameNoneSpec)

/-- 'rickyardlaw20.ScanReads', WHERE WHAT IT READS IS OF BULK AT MOST 1048576: true; the input reads as it did. -/
def scanReadsUptoRow : OpenClaim := { program := "ytlccbaemcfjdoaa", sum := "8be61607420ab43e8dd87725d452165fe9379cc46218df7101dfc4089ccc8003", func := "rickyard/rickyardlaw20.ScanReads", spec := "scanReads", apart := false, narrowed := true }
def ScanReadsUptoSaid : Prop := scanReadsUptoRow.holds Try.pinned (OpenSpec.upto scanReadsSpec)

/-- 'rickyardlaw20.ScanStacks', WHERE WHAT IT READS IS OF BULK AT MOST 1048576: true; the input reads as it did. -/
def scanStacksUptoRow : OpenClaim := { program := "ytlccbaemcfjdoaa", sum := "8be61607420ab43e8dd87725d452165fe9379cc46218df7101dfc4089ccc8003", func := "rickyard/rickyardlaw20.ScanStacks", spec := "scanStacks", apart := false, narrowed := true }
def ScanStacksUptoSaid : Prop := scanStacksUptoRow.holds Try.pinned (OpenSpec.upto scanStacksSpec)

/-- 'rickyardlaw20.ScanRaw', WHERE WHAT IT READS IS OF BULK AT MOST 1048576: true; the input reads as it did. -/
def scanRawUptoRow : OpenClaim := { program := "ytlccbaemcfjdoaa", sum := "8be61607420ab43e8dd87725d452165fe9379cc46218df7101dfc4089ccc8003", func := "rickyard/rickyardlaw20.ScanRaw", spec := "scanRaw", apart := false, narrowed := true }
def ScanRawUptoSaid : Prop := scanRawUptoRow.holds Try.pinned (OpenSpec.upto scanRawSpec)

/-- 'rickyardlaw20.ScanSame', WHERE WHAT IT READS IS OF BULK AT MOST 1048576: true; the input reads as it did. -/
def scanSameUptoRow : OpenClaim := { program := "ytlccbaemcfjdoaa", sum := "8be61607420ab43e8dd87725d452165fe9379cc46218df7101dfc4089ccc8003", func := "rickyard/rickyardlaw20.ScanSame", spec := "scanSame", apart := false, narrowed := true }
def ScanSameUptoSaid : Prop := scanSameUptoRow.holds Try.pinned (OpenSpec.upto scanSameSpec)

/-- 'rickyardlaw20.ScanApart', WHERE WHAT IT READS IS OF BULK AT MOST 1048576: true; the input reads as it did. -/
def scanApartUptoRow : OpenClaim := { program := "ytlccbaemcfjdoaa", sum := "8be61607420ab43e8dd87725d452165fe9379cc46218df7101dfc4089ccc8003", func := "rickyard/rickyardlaw20.ScanApart", spec := "scanApart", apart := false, narrowed := true }
def ScanApartUptoSaid : Prop := scanApartUptoRow.holds Try.pinned (OpenSpec.upto scanApartSpec)

/-- 'rickyardlaw20.ScanNone', WHERE WHAT IT READS IS OF BULK AT MOST 1048576: true; the input reads as it did. -/
def scanNoneUptoRow : OpenClaim := { program := "ytlccbaemcfjdoaa", sum := "8be61607420ab43e8dd87725d452165fe9379cc46218df7101dfc4089ccc8003", func := "rickyard/rickyardlaw20.ScanNone", spec := "scanNone", apart := false, narrowed := true }
def ScanNoneUptoSaid : Prop := scanNoneUptoRow.holds Try.pinned (OpenSpec.upto scanNoneSpec)

/-- 'rickyardlaw19.MoveStacks', WHERE WHAT IT READS IS OF BULK AT MOST 1048576: true; the input reads as it did. -/
def moveStacksUptoRow : OpenClaim := { program := "ytlccbaemcfjdoaa", sum := "8be61607420ab43e8dd87725d452165fe9379cc46218df7101dfc4089ccc8003", func := "rickyard/rickyardlaw19.MoveStacks", spec := "moveStacks", apart := false, narrowed := true }
def MoveStacksUptoSaid : Prop := moveStacksUptoRow.holds Try.pinned (OpenSpec.upto moveStacksSpec)

/-- 'rickyardlaw19.MoveFixes', WHERE WHAT IT READS IS OF BULK AT MOST 1048576: true; the input reads as it did. -/
def moveFixesUptoRow : OpenClaim := { program := "ytlccbaemcfjdoaa", sum := "8be61607420ab43e8dd87725d452165fe9379cc46218df7101dfc4089ccc8003", func := "rickyard/rickyardlaw19.MoveFixes", spec := "moveFixes", apart := false, narrowed := true }
def MoveFixesUptoSaid : Prop := moveFixesUptoRow.holds Try.pinned (OpenSpec.upto moveFixesSpec)

/-- 'rickyardlaw19.MoveRefuses', WHERE WHAT IT READS IS OF BULK AT MOST 1048576: true; the input reads as it did. -/
def moveRefusesUptoRow : OpenClaim := { program := "ytlccbaemcfjdoaa", sum := "8be61607420ab43e8dd87725d452165fe9379cc46218df7101dfc4089ccc8003", func := "rickyard/rickyardlaw19.MoveRefuses", spec := "moveRefuses", apart := false, narrowed := true }
def MoveRefusesUptoSaid : Prop := moveRefusesUptoRow.holds Try.pinned (OpenSpec.upto moveRefusesSpec)

/-- 'rickyardlaw19.MoveNone', WHERE WHAT IT READS IS OF BULK AT MOST 1048576: true; the input reads as it did. -/
def moveNoneUptoRow : OpenClaim := { program := "ytlccbaemcfjdoaa", sum := "8be61607420ab43e8dd87725d452165fe9379cc46218df7101dfc4089ccc8003", func := "rickyard/rickyardlaw19.MoveNone", spec := "moveNone", apart := false, narrowed := true }
def MoveNoneUptoSaid : Prop := moveNoneUptoRow.holds Try.pinned (OpenSpec.upto moveNoneSpec)

/-- 'rickyardlaw19.MoveKeeps', WHERE WHAT IT READS IS OF BULK AT MOST 1048576: true; the input reads as it did. -/
def moveKeepsUptoRow : OpenClaim := { program := "ytlccbaemcfjdoaa", sum := "8be61607420ab43e8dd87725d452165fe9379cc46218df7101dfc4089ccc8003", func := "rickyard/rickyardlaw19.MoveKeeps", spec := "moveKeeps", apart := false, narrowed := true }
def MoveKeepsUptoSaid : Prop := moveKeepsUptoRow.holds Try.pinned (OpenSpec.upto moveKeepsSpec)

/-- 'rickyardlaw19.MoveBack', WHERE WHAT IT READS IS OF BULK AT MOST 1048576: true; the input reads as it did. -/
def moveBackUptoRow : OpenClaim := { program := "ytlccbaemcfjdoaa", sum := "8be61607420ab43e8dd87725d452165fe9379cc46218df7101dfc4089ccc8003", func := "rickyard/rickyardlaw19.MoveBack", spec := "moveBack", apart := false, narrowed := true }
def MoveBackUptoSaid : Prop := moveBackUptoRow.holds Try.pinned (OpenSpec.upto moveBackSpec)

end Rows
end Go.Proofs.Ytlccbaemcfjdoaa
