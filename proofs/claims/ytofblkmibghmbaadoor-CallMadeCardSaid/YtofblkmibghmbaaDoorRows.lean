/-
  NARROWER THAN 'FOR EVERY INPUT', by the rows' own cells (each row's printed sentence says how): FltApart: laid · FltSigns: laid · FltWords: laid · FltFloors: laid · FltWhole: laid · FltOrder: laid · FltNone: laid · FltAll: laid · CallAll: laid · CallBack: laid · CallTexts: laid · CallRights: laid · CallMade: laid · TraceFronts: laid · TraceLines: laid · TraceTexts: laid.
  DERIVED. THE GIVEN ROWS OF THIS SEAT. 16 by the template 'for every input the law returns true; each argument reads behind the call as it read before'; 0 by the template 'total and deterministic' (their statements: YtofblkmibghmbaaDoorTotals.lean).
  GIVEN WITH THE SEED: the statements are not yours to turn. If you find one false, say at which input.
  Laid BY PROGRAM, IN A SANDBOX (cutbox-rows.mjs): the forced cells as the released guide's own fill.sh prints them over the translation f457bc265b0d49f9… (all of the seat's roots in one cut). By AI agents, Wed Nov 11 2026. No macro, syntax, notation, axiom, sorry.
-/
import Derived.Test.YtofblkmibghmbaaDoorChecked
import GoSem.PinnedTables
import GoSem.Claim
import GoSem.ClaimJoined
import GoSem.ClaimMapViews
import Derived.JoinedTies
import Derived.KernelRfl
namespace Go.Proofs.YtofblkmibghmbaaDoor
/- THE CELL 'sum', in the pinned program and in every row, IS THE sha256 OF THE DUMP (.gsa) THAT YtofblkmibghmbaaDoorProg.lean LOADS. Nothing in Lean hashes anything: it is a label: what it is worth is what the hold of that sum in a sandbox is worth. -/
noncomputable def Tryd.pinned : Pinned := { name := "ytofblkmibghmbaadoor", sum := "f457bc265b0d49f96c063795c66397b1a0ea4cd7e30a7ad2239e71af2af2fc66", checked := Tryd.checked }
namespace Rows
def none {H : Type} : Left H := { results := [], args := [] }

/- WHAT THE LISTED PACKAGE-LEVEL VARIABLES READ AS WHEN THE CALL BEGINS. Each datum BY PROGRAM (the guide's laid-datum.mjs) off the statement by which the dump's own 'gosem.cut.vars' lays the variable. In a bare row this is a premise. The card (YtofblkmibghmbaaDoorCards.lean) ties it to the program's text. -/
def laid_math_bits_deBruijn32tab {H : Type} : DataW H := .agg [.lit (.int .u8 0), .lit (.int .u8 1), .lit (.int .u8 28), .lit (.int .u8 2), .lit (.int .u8 29), .lit (.int .u8 14), .lit (.int .u8 24), .lit (.int .u8 3), .lit (.int .u8 30), .lit (.int .u8 22), .lit (.int .u8 20), .lit (.int .u8 15), .lit (.int .u8 25), .lit (.int .u8 17), .lit (.int .u8 4), .lit (.int .u8 8), .lit (.int .u8 31), .lit (.int .u8 27), .lit (.int .u8 13), .lit (.int .u8 23), .lit (.int .u8 21), .lit (.int .u8 19), .lit (.int .u8 16), .lit (.int .u8 7), .lit (.int .u8 26), .lit (.int .u8 12), .lit (.int .u8 18), .lit (.int .u8 6), .lit (.int .u8 11), .lit (.int .u8 5), .lit (.int .u8 10), .lit (.int .u8 9)]
def laid_math_bits_deBruijn64tab {H : Type} : DataW H := .agg [.lit (.int .u8 0), .lit (.int .u8 1), .lit (.int .u8 56), .lit (.int .u8 2), .lit (.int .u8 57), .lit (.int .u8 49), .lit (.int .u8 28), .lit (.int .u8 3), .lit (.int .u8 61), .lit (.int .u8 58), .lit (.int .u8 42), .lit (.int .u8 50), .lit (.int .u8 38), .lit (.int .u8 29), .lit (.int .u8 17), .lit (.int .u8 4), .lit (.int .u8 62), .lit (.int .u8 47), .lit (.int .u8 59), .lit (.int .u8 36), .lit (.int .u8 45), .lit (.int .u8 43), .lit (.int .u8 51), .lit (.int .u8 22), .lit (.int .u8 53), .lit (.int .u8 39), .lit (.int .u8 33), .lit (.int .u8 30), .lit (.int .u8 24), .lit (.int .u8 18), .lit (.int .u8 12), .lit (.int .u8 5), .lit (.int .u8 63), .lit (.int .u8 55), .lit (.int .u8 48), .lit (.int .u8 27), .lit (.int .u8 60), .lit (.int .u8 41), .lit (.int .u8 37), .lit (.int .u8 16), .lit (.int .u8 46), .lit (.int .u8 35), .lit (.int .u8 44), .lit (.int .u8 21), .lit (.int .u8 52), .lit (.int .u8 32), .lit (.int .u8 23), .lit (.int .u8 11), .lit (.int .u8 54), .lit (.int .u8 26), .lit (.int .u8 40), .lit (.int .u8 15), .lit (.int .u8 34), .lit (.int .u8 20), .lit (.int .u8 31), .lit (.int .u8 10), .lit (.int .u8 25), .lit (.int .u8 14), .lit (.int .u8 19), .lit (.int .u8 9), .lit (.int .u8 13), .lit (.int .u8 8), .lit (.int .u8 7), .lit (.int .u8 6)]
def laid_internal_strconv_uint64pow10 {H : Type} : DataW H := .agg [.lit (.int .u64 1), .lit (.int .u64 10), .lit (.int .u64 100), .lit (.int .u64 1000), .lit (.int .u64 10000), .lit (.int .u64 100000), .lit (.int .u64 1000000), .lit (.int .u64 10000000), .lit (.int .u64 100000000), .lit (.int .u64 1000000000), .lit (.int .u64 10000000000), .lit (.int .u64 100000000000), .lit (.int .u64 1000000000000), .lit (.int .u64 10000000000000), .lit (.int .u64 100000000000000), .lit (.int .u64 1000000000000000), .lit (.int .u64 10000000000000000), .lit (.int .u64 100000000000000000), .lit (.int .u64 1000000000000000000), .lit (.int .u64 10000000000000000000)]
def laid_unicode_utf8_acceptRanges {H : Type} : DataW H := .agg [.agg [.lit (.int .u8 128), .lit (.int .u8 191)], .agg [.lit (.int .u8 160), .lit (.int .u8 191)], .agg [.lit (.int .u8 128), .lit (.int .u8 159)], .agg [.lit (.int .u8 144), .lit (.int .u8 191)], .agg [.lit (.int .u8 128), .lit (.int .u8 143)], .agg [.lit (.int .u8 0), .lit (.int .u8 0)], .agg [.lit (.int .u8 0), .lit (.int .u8 0)], .agg [.lit (.int .u8 0), .lit (.int .u8 0)], .agg [.lit (.int .u8 0), .lit (.int .u8 0)], .agg [.lit (.int .u8 0), .lit (.int .u8 0)], .agg [.lit (.int .u8 0), .lit (.int .u8 0)], .agg [.lit (.int .u8 0), .lit (.int .u8 0)], .agg [.lit (.int .u8 0), .lit (.int .u8 0)], .agg [.lit (.int .u8 0), .lit (.int .u8 0)], .agg [.lit (.int .u8 0), .lit (.int .u8 0)], .agg [.lit (.int .u8 0), .lit (.int .u8 0)]]
def laid_strconv_ErrRange {H : Type} : DataW H := .iface "*errors.errorString" (.ptr (.agg [.lit (.string [118, 97, 108, 117, 101, 32, 111, 117, 116, 32, 111, 102, 32, 114, 97, 110, 103, 101])]))
def laid_strconv_ErrSyntax {H : Type} : DataW H := .iface "*errors.errorString" (.ptr (.agg [.lit (.string [105, 110, 118, 97, 108, 105, 100, 32, 115, 121, 110, 116, 97, 120])]))
/-- One of Go's own tables, pinned by name: the form's constant. -/
def laid_unicode_utf8_first : DataW Unit := Go.Pinned.utf8First

/-- 'rickyardlaw2.FltApart': WHATEVER THE INPUT: true; the input reads as it did. -/
def fltApartSpec : ChangeSpec := { name := "fltApart", fn := fun _ => fun
  | [d1, d2] => { results := [.lit (.bool true)], args := [d1, d2] }
  | _ => none }
def fltApartRow : OpenClaim := { program := "ytofblkmibghmbaadoor", sum := "f457bc265b0d49f96c063795c66397b1a0ea4cd7e30a7ad2239e71af2af2fc66", func := "rickyard/rickyardlaw2.FltApart", spec := "fltApart", inPlace := ["math.Float64frombits", "math.Float64bits", "math.archTrunc"], named := ["internal/strconv.uint64pow10", "math/bits.deBruijn32tab", "math/bits.deBruijn64tab"], apart := false, laid := [("math/bits.deBruijn32tab", laid_math_bits_deBruijn32tab), ("math/bits.deBruijn64tab", laid_math_bits_deBruijn64tab), ("internal/strconv.uint64pow10", laid_internal_strconv_uint64pow10)] }
def FltApartSaid : Prop := fltApartRow.holds Tryd.pinned (OpenSpec.ofChange fltApartSpec)

/-- ITS FALSE NEIGHBOUR: 'it returns false'. Refute it at one input. -/
def fltApartWrong : ChangeSpec := { name := "fltApart", fn := fun _ => fun
  | [d1, d2] => { results := [.lit (.bool false)], args := [d1, d2] }
  | _ => none }
def FltApartWrongFalsely : Prop := fltApartRow.holds Tryd.pinned (OpenSpec.ofChange fltApartWrong)

/-- 'rickyardlaw2.FltSigns': WHATEVER THE INPUT: true; the input reads as it did. -/
def fltSignsSpec : ChangeSpec := { name := "fltSigns", fn := fun _ => fun
  | [d1, d2] => { results := [.lit (.bool true)], args := [d1, d2] }
  | _ => none }
def fltSignsRow : OpenClaim := { program := "ytofblkmibghmbaadoor", sum := "f457bc265b0d49f96c063795c66397b1a0ea4cd7e30a7ad2239e71af2af2fc66", func := "rickyard/rickyardlaw2.FltSigns", spec := "fltSigns", inPlace := ["math.Float64frombits", "math.Float64bits", "math.archTrunc"], named := ["internal/strconv.uint64pow10", "math/bits.deBruijn32tab", "math/bits.deBruijn64tab"], apart := false, laid := [("math/bits.deBruijn32tab", laid_math_bits_deBruijn32tab), ("math/bits.deBruijn64tab", laid_math_bits_deBruijn64tab), ("internal/strconv.uint64pow10", laid_internal_strconv_uint64pow10)] }
def FltSignsSaid : Prop := fltSignsRow.holds Tryd.pinned (OpenSpec.ofChange fltSignsSpec)

/-- ITS FALSE NEIGHBOUR: 'it returns false'. Refute it at one input. -/
def fltSignsWrong : ChangeSpec := { name := "fltSigns", fn := fun _ => fun
  | [d1, d2] => { results := [.lit (.bool false)], args := [d1, d2] }
  | _ => none }
def FltSignsWrongFalsely : Prop := fltSignsRow.holds Tryd.pinned (OpenSpec.ofChange fltSignsWrong)

/-- 'rickyardlaw2.FltWords': WHATEVER THE INPUT: true; the input reads as it did. -/
def fltWordsSpec : ChangeSpec := { name := "fltWords", fn := fun _ => fun
  | [d1, d2] => { results := [.lit (.bool true)], args := [d1, d2] }
  | _ => none }
def fltWordsRow : OpenClaim := { program := "ytofblkmibghmbaadoor", sum := "f457bc265b0d49f96c063795c66397b1a0ea4cd7e30a7ad2239e71af2af2fc66", func := "rickyard/rickyardlaw2.FltWords", spec := "fltWords", inPlace := ["math.Float64frombits", "math.Float64bits", "math.archTrunc", "math.archFloor"], named := ["internal/strconv.uint64pow10", "math/bits.deBruijn32tab", "math/bits.deBruijn64tab"], apart := false, laid := [("math/bits.deBruijn32tab", laid_math_bits_deBruijn32tab), ("math/bits.deBruijn64tab", laid_math_bits_deBruijn64tab), ("internal/strconv.uint64pow10", laid_internal_strconv_uint64pow10)] }
def FltWordsSaid : Prop := fltWordsRow.holds Tryd.pinned (OpenSpec.ofChange fltWordsSpec)

/-- ITS FALSE NEIGHBOUR: 'it returns false'. Refute it at one input. -/
def fltWordsWrong : ChangeSpec := { name := "fltWords", fn := fun _ => fun
  | [d1, d2] => { results := [.lit (.bool false)], args := [d1, d2] }
  | _ => none }
def FltWordsWrongFalsely : Prop := fltWordsRow.holds Tryd.pinned (OpenSpec.ofChange fltWordsWrong)

/-- 'rickyardlaw2.FltFloors': WHATEVER THE INPUT: true; the input reads as it did. -/
def fltFloorsSpec : ChangeSpec := { name := "fltFloors", fn := fun _ => fun
  | [d] => { results := [.lit (.bool true)], args := [d] }
  | _ => none }
def fltFloorsRow : OpenClaim := { program := "ytofblkmibghmbaadoor", sum := "f457bc265b0d49f96c063795c66397b1a0ea4cd7e30a7ad2239e71af2af2fc66", func := "rickyard/rickyardlaw2.FltFloors", spec := "fltFloors", inPlace := ["math.Float64frombits", "math.archFloor", "math.Float64bits", "math.archTrunc"], named := ["internal/strconv.uint64pow10", "math/bits.deBruijn32tab", "math/bits.deBruijn64tab"], apart := false, laid := [("math/bits.deBruijn32tab", laid_math_bits_deBruijn32tab), ("math/bits.deBruijn64tab", laid_math_bits_deBruijn64tab), ("internal/strconv.uint64pow10", laid_internal_strconv_uint64pow10)] }
def FltFloorsSaid : Prop := fltFloorsRow.holds Tryd.pinned (OpenSpec.ofChange fltFloorsSpec)

/-- ITS FALSE NEIGHBOUR: 'it returns false'. Refute it at one input. -/
def fltFloorsWrong : ChangeSpec := { name := "fltFloors", fn := fun _ => fun
  | [d] => { results := [.lit (.bool false)], args := [d] }
  | _ => none }
def FltFloorsWrongFalsely : Prop := fltFloorsRow.holds Tryd.pinned (OpenSpec.ofChange fltFloorsWrong)

/-- 'rickyardlaw2.FltWhole': WHATEVER THE INPUT: true; the input reads as it did. -/
def fltWholeSpec : ChangeSpec := { name := "fltWhole", fn := fun _ => fun
  | [d1, d2, d3, d4] => { results := [.lit (.bool true)], args := [d1, d2, d3, d4] }
  | _ => none }
def fltWholeRow : OpenClaim := { program := "ytofblkmibghmbaadoor", sum := "f457bc265b0d49f96c063795c66397b1a0ea4cd7e30a7ad2239e71af2af2fc66", func := "rickyard/rickyardlaw2.FltWhole", spec := "fltWhole", inPlace := ["math.Float64bits", "math.Float64frombits", "math.archTrunc", "math.archFloor"], named := ["internal/strconv.uint64pow10", "math/bits.deBruijn32tab", "math/bits.deBruijn64tab"], apart := false, laid := [("math/bits.deBruijn32tab", laid_math_bits_deBruijn32tab), ("math/bits.deBruijn64tab", laid_math_bits_deBruijn64tab), ("internal/strconv.uint64pow10", laid_internal_strconv_uint64pow10)] }
def FltWholeSaid : Prop := fltWholeRow.holds Tryd.pinned (OpenSpec.ofChange fltWholeSpec)

/-- ITS FALSE NEIGHBOUR: 'it returns false'. Refute it at one input. -/
def fltWholeWrong : ChangeSpec := { name := "fltWhole", fn := fun _ => fun
  | [d1, d2, d3, d4] => { results := [.lit (.bool false)], args := [d1, d2, d3, d4] }
  | _ => none }
def FltWholeWrongFalsely : Prop := fltWholeRow.holds Tryd.pinned (OpenSpec.ofChange fltWholeWrong)

/-- 'rickyardlaw2.FltOrder': WHATEVER THE INPUT: true; the input reads as it did. -/
def fltOrderSpec : ChangeSpec := { name := "fltOrder", fn := fun _ => fun
  | [d1, d2] => { results := [.lit (.bool true)], args := [d1, d2] }
  | _ => none }
def fltOrderRow : OpenClaim := { program := "ytofblkmibghmbaadoor", sum := "f457bc265b0d49f96c063795c66397b1a0ea4cd7e30a7ad2239e71af2af2fc66", func := "rickyard/rickyardlaw2.FltOrder", spec := "fltOrder", inPlace := ["math.Float64bits", "math.Float64frombits", "math.archTrunc", "math.archMin", "math.archMax"], unfollowed := true, recurses := true, named := ["internal/strconv.uint64pow10", "math/bits.deBruijn32tab", "math/bits.deBruijn64tab"], apart := false, laid := [("math/bits.deBruijn32tab", laid_math_bits_deBruijn32tab), ("math/bits.deBruijn64tab", laid_math_bits_deBruijn64tab), ("internal/strconv.uint64pow10", laid_internal_strconv_uint64pow10)] }
def FltOrderSaid : Prop := fltOrderRow.holds Tryd.pinned (OpenSpec.ofChange fltOrderSpec)

/-- ITS FALSE NEIGHBOUR: 'it returns false'. Refute it at one input. -/
def fltOrderWrong : ChangeSpec := { name := "fltOrder", fn := fun _ => fun
  | [d1, d2] => { results := [.lit (.bool false)], args := [d1, d2] }
  | _ => none }
def FltOrderWrongFalsely : Prop := fltOrderRow.holds Tryd.pinned (OpenSpec.ofChange fltOrderWrong)

/-- 'rickyardlaw2.FltNone': WHATEVER THE INPUT: true; the input reads as it did. -/
def fltNoneSpec : ChangeSpec := { name := "fltNone", fn := fun _ => fun
  | [d1, d2] => { results := [.lit (.bool true)], args := [d1, d2] }
  | _ => none }
def fltNoneRow : OpenClaim := { program := "ytofblkmibghmbaadoor", sum := "f457bc265b0d49f96c063795c66397b1a0ea4cd7e30a7ad2239e71af2af2fc66", func := "rickyard/rickyardlaw2.FltNone", spec := "fltNone", inPlace := ["math.Float64frombits", "math.Float64bits", "math.archMin", "math.archMax", "math.archFloor", "math.archTrunc"], unfollowed := true, recurses := true, named := ["internal/strconv.uint64pow10", "math/bits.deBruijn32tab", "math/bits.deBruijn64tab"], apart := false, laid := [("math/bits.deBruijn32tab", laid_math_bits_deBruijn32tab), ("math/bits.deBruijn64tab", laid_math_bits_deBruijn64tab), ("internal/strconv.uint64pow10", laid_internal_strconv_uint64pow10)] }
def FltNoneSaid : Prop := fltNoneRow.holds Tryd.pinned (OpenSpec.ofChange fltNoneSpec)

/-- ITS FALSE NEIGHBOUR: 'it returns false'. Refute it at one input. -/
def fltNoneWrong : ChangeSpec := { name := "fltNone", fn := fun _ => fun
  | [d1, d2] => { results := [.lit (.bool false)], args := [d1, d2] }
  | _ => none }
def FltNoneWrongFalsely : Prop := fltNoneRow.holds Tryd.pinned (OpenSpec.ofChange fltNoneWrong)

/-- 'rickyardlaw2.FltAll': WHATEVER THE INPUT: true; the input reads as it did. -/
def fltAllSpec : ChangeSpec := { name := "fltAll", fn := fun _ => fun
  | [d1, d2] => { results := [.lit (.bool true)], args := [d1, d2] }
  | _ => none }
def fltAllRow : OpenClaim := { program := "ytofblkmibghmbaadoor", sum := "f457bc265b0d49f96c063795c66397b1a0ea4cd7e30a7ad2239e71af2af2fc66", func := "rickyard/rickyardlaw2.FltAll", spec := "fltAll", inPlace := ["math.Float64frombits", "math.Float64bits", "math.archFloor", "math.archTrunc", "math.archMin", "math.archMax"], unfollowed := true, recurses := true, named := ["internal/strconv.uint64pow10", "math/bits.deBruijn32tab", "math/bits.deBruijn64tab"], apart := false, laid := [("math/bits.deBruijn32tab", laid_math_bits_deBruijn32tab), ("math/bits.deBruijn64tab", laid_math_bits_deBruijn64tab), ("internal/strconv.uint64pow10", laid_internal_strconv_uint64pow10)] }
def FltAllSaid : Prop := fltAllRow.holds Tryd.pinned (OpenSpec.ofChange fltAllSpec)

/-- ITS FALSE NEIGHBOUR: 'it returns false'. Refute it at one input. -/
def fltAllWrong : ChangeSpec := { name := "fltAll", fn := fun _ => fun
  | [d1, d2] => { results := [.lit (.bool false)], args := [d1, d2] }
  | _ => none }
def FltAllWrongFalsely : Prop := fltAllRow.holds Tryd.pinned (OpenSpec.ofChange fltAllWrong)

/-- 'rickyardlaw23.CallAll': WHATEVER THE INPUT: true; the input reads as it did. -/
def callAllSpec : ChangeSpec := { name := "callAll", fn := fun _ => fun
  | [d1, d2] => { results := [.lit (.bool true)], args := [d1, d2] }
  | _ => none }
def callAllRow : OpenClaim := { program := "ytofblkmibghmbaadoor", sum := "f457bc265b0d49f96c063795c66397b1a0ea4cd7e30a7ad2239e71af2af2fc66", func := "rickyard/rickyardlaw23.CallAll", spec := "callAll", inPlace := ["internal/bytealg.CountString", "internal/bytealg.IndexByteString", "internal/bytealg.IndexString"], named := ["unicode/utf8.first", "unicode/utf8.acceptRanges", "internal/bytealg.MaxLen", "strconv.ErrSyntax", "strconv.ErrRange", "internal/strconv.uint64pow10", "math/bits.deBruijn32tab", "math/bits.deBruijn64tab"], apart := false, laid := [("math/bits.deBruijn32tab", laid_math_bits_deBruijn32tab), ("math/bits.deBruijn64tab", laid_math_bits_deBruijn64tab), ("internal/strconv.uint64pow10", laid_internal_strconv_uint64pow10), ("unicode/utf8.acceptRanges", laid_unicode_utf8_acceptRanges), ("strconv.ErrRange", laid_strconv_ErrRange), ("strconv.ErrSyntax", laid_strconv_ErrSyntax), ("unicode/utf8.first", laid_unicode_utf8_first)] }
def CallAllSaid : Prop := callAllRow.holds Tryd.pinned (OpenSpec.ofChange callAllSpec)

/-- ITS FALSE NEIGHBOUR: 'it returns false'. Refute it at one input. -/
def callAllWrong : ChangeSpec := { name := "callAll", fn := fun _ => fun
  | [d1, d2] => { results := [.lit (.bool false)], args := [d1, d2] }
  | _ => none }
def CallAllWrongFalsely : Prop := callAllRow.holds Tryd.pinned (OpenSpec.ofChange callAllWrong)

/-- 'rickyardlaw23.CallBack': WHATEVER THE INPUT: true; the input reads as it did. -/
def callBackSpec : ChangeSpec := { name := "callBack", fn := fun _ => fun
  | [d1, d2, d3, d4] => { results := [.lit (.bool true)], args := [d1, d2, d3, d4] }
  | _ => none }
def callBackRow : OpenClaim := { program := "ytofblkmibghmbaadoor", sum := "f457bc265b0d49f96c063795c66397b1a0ea4cd7e30a7ad2239e71af2af2fc66", func := "rickyard/rickyardlaw23.CallBack", spec := "callBack", inPlace := ["internal/bytealg.CountString", "internal/bytealg.IndexByteString", "internal/bytealg.IndexString"], named := ["internal/strconv.uint64pow10", "math/bits.deBruijn32tab", "math/bits.deBruijn64tab", "unicode/utf8.first", "unicode/utf8.acceptRanges", "internal/bytealg.MaxLen", "strconv.ErrSyntax", "strconv.ErrRange"], apart := false, laid := [("math/bits.deBruijn32tab", laid_math_bits_deBruijn32tab), ("math/bits.deBruijn64tab", laid_math_bits_deBruijn64tab), ("internal/strconv.uint64pow10", laid_internal_strconv_uint64pow10), ("unicode/utf8.acceptRanges", laid_unicode_utf8_acceptRanges), ("strconv.ErrRange", laid_strconv_ErrRange), ("strconv.ErrSyntax", laid_strconv_ErrSyntax), ("unicode/utf8.first", laid_unicode_utf8_first)] }
def CallBackSaid : Prop := callBackRow.holds Tryd.pinned (OpenSpec.ofChange callBackSpec)

/-- ITS FALSE NEIGHBOUR: 'it returns false'. Refute it at one input. -/
def callBackWrong : ChangeSpec := { name := "callBack", fn := fun _ => fun
  | [d1, d2, d3, d4] => { results := [.lit (.bool false)], args := [d1, d2, d3, d4] }
  | _ => none }
def CallBackWrongFalsely : Prop := callBackRow.holds Tryd.pinned (OpenSpec.ofChange callBackWrong)

/-- 'rickyardlaw23.CallTexts': WHATEVER THE INPUT: true; the input reads as it did. -/
def callTextsSpec : ChangeSpec := { name := "callTexts", fn := fun _ => fun
  | [d1, d2, d3, d4, d5] => { results := [.lit (.bool true)], args := [d1, d2, d3, d4, d5] }
  | _ => none }
def callTextsRow : OpenClaim := { program := "ytofblkmibghmbaadoor", sum := "f457bc265b0d49f96c063795c66397b1a0ea4cd7e30a7ad2239e71af2af2fc66", func := "rickyard/rickyardlaw23.CallTexts", spec := "callTexts", inPlace := ["internal/bytealg.CountString", "internal/bytealg.IndexByteString", "internal/bytealg.IndexString"], named := ["internal/strconv.uint64pow10", "math/bits.deBruijn32tab", "math/bits.deBruijn64tab", "unicode/utf8.first", "unicode/utf8.acceptRanges", "internal/bytealg.MaxLen", "strconv.ErrSyntax", "strconv.ErrRange"], apart := false, laid := [("math/bits.deBruijn32tab", laid_math_bits_deBruijn32tab), ("math/bits.deBruijn64tab", laid_math_bits_deBruijn64tab), ("internal/strconv.uint64pow10", laid_internal_strconv_uint64pow10), ("unicode/utf8.acceptRanges", laid_unicode_utf8_acceptRanges), ("strconv.ErrRange", laid_strconv_ErrRange), ("strconv.ErrSyntax", laid_strconv_ErrSyntax), ("unicode/utf8.first", laid_unicode_utf8_first)] }
def CallTextsSaid : Prop := callTextsRow.holds Tryd.pinned (OpenSpec.ofChange callTextsSpec)

/-- ITS FALSE NEIGHBOUR: 'it returns false'. Refute it at one input. -/
def callTextsWrong : ChangeSpec := { name := "callTexts", fn := fun _ => fun
  | [d1, d2, d3, d4, d5] => { results := [.lit (.bool false)], args := [d1, d2, d3, d4, d5] }
  | _ => none }
def CallTextsWrongFalsely : Prop := callTextsRow.holds Tryd.pinned (OpenSpec.ofChange callTextsWrong)

/-- 'rickyardlaw23.CallRights': WHATEVER THE INPUT: true; the input reads as it did. -/
def callRightsSpec : ChangeSpec := { name := "callRights", fn := fun _ => fun
  | [d1, d2] => { results := [.lit (.bool true)], args := [d1, d2] }
  | _ => none }
def callRightsRow : OpenClaim := { program := "ytofblkmibghmbaadoor", sum := "f457bc265b0d49f96c063795c66397b1a0ea4cd7e30a7ad2239e71af2af2fc66", func := "rickyard/rickyardlaw23.CallRights", spec := "callRights", inPlace := ["internal/bytealg.CountString", "internal/bytealg.IndexByteString", "internal/bytealg.IndexString"], named := ["unicode/utf8.first", "unicode/utf8.acceptRanges", "internal/bytealg.MaxLen", "strconv.ErrSyntax", "strconv.ErrRange", "internal/strconv.uint64pow10", "math/bits.deBruijn32tab", "math/bits.deBruijn64tab"], apart := false, laid := [("math/bits.deBruijn32tab", laid_math_bits_deBruijn32tab), ("math/bits.deBruijn64tab", laid_math_bits_deBruijn64tab), ("internal/strconv.uint64pow10", laid_internal_strconv_uint64pow10), ("unicode/utf8.acceptRanges", laid_unicode_utf8_acceptRanges), ("strconv.ErrRange", laid_strconv_ErrRange), ("strconv.ErrSyntax", laid_strconv_ErrSyntax), ("unicode/utf8.first", laid_unicode_utf8_first)] }
def CallRightsSaid : Prop := callRightsRow.holds Tryd.pinned (OpenSpec.ofChange callRightsSpec)

/-- ITS FALSE NEIGHBOUR: 'it returns false'. Refute it at one input. -/
def callRightsWrong : ChangeSpec := { name := "callRights", fn := fun _ => fun
  | [d1, d2] => { results := [.lit (.bool false)], args := [d1, d2] }
  | _ => none }
def CallRightsWrongFalsely : Prop := callRightsRow.holds Tryd.pinned (OpenSpec.ofChange callRightsWrong)

/-- 'rickyardlaw23.CallMade': WHATEVER THE INPUT: true; the input reads as it did. -/
def callMadeSpec : ChangeSpec := { name := "callMade", fn := fun _ => fun
  | [d1, d2, d3, d4, d5, d6, d7, d8] => { results := [.lit (.bool true)], args := [d1, d2, d3, d4, d5, d6, d7, d8] }
  | _ => none }
def callMadeRow : OpenClaim := { program := "ytofblkmibghmbaadoor", sum := "f457bc265b0d49f96c063795c66397b1a0ea4cd7e30a7ad2239e71af2af2fc66", func := "rickyard/rickyardlaw23.CallMade", spec := "callMade", inPlace := ["internal/bytealg.CountString", "internal/bytealg.IndexByteString", "internal/bytealg.IndexString"], named := ["unicode/utf8.first", "unicode/utf8.acceptRanges", "internal/bytealg.MaxLen", "strconv.ErrSyntax", "strconv.ErrRange", "internal/strconv.uint64pow10", "math/bits.deBruijn32tab", "math/bits.deBruijn64tab"], apart := false, laid := [("math/bits.deBruijn32tab", laid_math_bits_deBruijn32tab), ("math/bits.deBruijn64tab", laid_math_bits_deBruijn64tab), ("internal/strconv.uint64pow10", laid_internal_strconv_uint64pow10), ("unicode/utf8.acceptRanges", laid_unicode_utf8_acceptRanges), ("strconv.ErrRange", laid_strconv_ErrRange), ("strconv.ErrSyntax", laid_strconv_ErrSyntax), ("unicode/utf8.first", laid_unicode_utf8_first)] }
def CallMadeSaid : Prop := callMadeRow.holds Tryd.pinned (OpenSpec.ofChange callMadeSpec)

/-- ITS FALSE NEIGHBOUR: 'it returns false'. Refute it at one input. -/
def callMadeWrong : ChangeSpec := { name := "callMade", fn := fun _ => fun
  | [d1, d2, d3, d4, d5, d6, d7, d8] => { results := [.lit (.bool false)], args := [d1, d2, d3, d4, d5, d6, d7, d8] }
  | _ => none }
def CallMadeWrongFalsely : Prop := callMadeRow.holds Tryd.pinned (OpenSpec.ofChange callMadeWrong)

/-- 'rickyardlaw29.TraceFronts': WHATEVER THE INPUT: true; the input reads as it did. -/
def traceFrontsSpec : ChangeSpec := { name := "traceFronts", fn := fun _ => fun
  | [d1, d2, d3, d4] => { results := [.lit (.bool true)], args := [d1, d2, d3, d4] }
  | _ => none }
def traceFrontsRow : OpenClaim := { program := "ytofblkmibghmbaadoor", sum := "f457bc265b0d49f96c063795c66397b1a0ea4cd7e30a7ad2239e71af2af2fc66", func := "rickyard/rickyardlaw29.TraceFronts", spec := "traceFronts", inPlace := ["math.Float64bits", "internal/abi.NoEscape", "math.Float64frombits", "math.archTrunc"], named := ["internal/strconv.uint64pow10", "math/bits.deBruijn32tab", "math/bits.deBruijn64tab"], apart := false, laid := [("math/bits.deBruijn32tab", laid_math_bits_deBruijn32tab), ("math/bits.deBruijn64tab", laid_math_bits_deBruijn64tab), ("internal/strconv.uint64pow10", laid_internal_strconv_uint64pow10)] }
def TraceFrontsSaid : Prop := traceFrontsRow.holds Tryd.pinned (OpenSpec.ofChange traceFrontsSpec)

/-- ITS FALSE NEIGHBOUR: 'it returns false'. Refute it at one input. -/
def traceFrontsWrong : ChangeSpec := { name := "traceFronts", fn := fun _ => fun
  | [d1, d2, d3, d4] => { results := [.lit (.bool false)], args := [d1, d2, d3, d4] }
  | _ => none }
def TraceFrontsWrongFalsely : Prop := traceFrontsRow.holds Tryd.pinned (OpenSpec.ofChange traceFrontsWrong)

/-- 'rickyardlaw29.TraceLines': WHATEVER THE INPUT: true; the input reads as it did. -/
def traceLinesSpec : ChangeSpec := { name := "traceLines", fn := fun _ => fun
  | [d1, d2, d3, d4] => { results := [.lit (.bool true)], args := [d1, d2, d3, d4] }
  | _ => none }
def traceLinesRow : OpenClaim := { program := "ytofblkmibghmbaadoor", sum := "f457bc265b0d49f96c063795c66397b1a0ea4cd7e30a7ad2239e71af2af2fc66", func := "rickyard/rickyardlaw29.TraceLines", spec := "traceLines", inPlace := ["math.Float64bits", "internal/abi.NoEscape", "math.Float64frombits", "math.archTrunc"], named := ["internal/strconv.uint64pow10", "math/bits.deBruijn32tab", "math/bits.deBruijn64tab"], apart := false, laid := [("math/bits.deBruijn32tab", laid_math_bits_deBruijn32tab), ("math/bits.deBruijn64tab", laid_math_bits_deBruijn64tab), ("internal/strconv.uint64pow10", laid_internal_strconv_uint64pow10)] }
def TraceLinesSaid : Prop := traceLinesRow.holds Tryd.pinned (OpenSpec.ofChange traceLinesSpec)

/-- ITS FALSE NEIGHBOUR: 'it returns false'. Refute it at one input. -/
def traceLinesWrong : ChangeSpec := { name := "traceLines", fn := fun _ => fun
  | [d1, d2, d3, d4] => { results := [.lit (.bool false)], args := [d1, d2, d3, d4] }
  | _ => none }
def TraceLinesWrongFalsely : Prop := traceLinesRow.holds Tryd.pinned (OpenSpec.ofChange traceLinesWrong)

/-- 'rickyardlaw29.TraceTexts': WHATEVER THE INPUT: true; the input reads as it did. -/
def traceTextsSpec : ChangeSpec := { name := "traceTexts", fn := fun _ => fun
  | [d1, d2] => { results := [.lit (.bool true)], args := [d1, d2] }
  | _ => none }
def traceTextsRow : OpenClaim := { program := "ytofblkmibghmbaadoor", sum := "f457bc265b0d49f96c063795c66397b1a0ea4cd7e30a7ad2239e71af2af2fc66", func := "rickyard/rickyardlaw29.TraceTexts", spec := "traceTexts", inPlace := ["math.Float64bits", "internal/abi.NoEscape", "math.Float64frombits", "math.archTrunc", "math.archFloor"], named := ["internal/strconv.uint64pow10", "math/bits.deBruijn32tab", "math/bits.deBruijn64tab"], apart := false, laid := [("math/bits.deBruijn32tab", laid_math_bits_deBruijn32tab), ("math/bits.deBruijn64tab", laid_math_bits_deBruijn64tab), ("internal/strconv.uint64pow10", laid_internal_strconv_uint64pow10)] }
def TraceTextsSaid : Prop := traceTextsRow.holds Tryd.pinned (OpenSpec.ofChange traceTextsSpec)

/-- ITS FALSE NEIGHBOUR: 'it returns false'. Refute it at one input. -/
def traceTextsWrong : ChangeSpec := { name := "traceTexts", fn := fun _ => fun
  | [d1, d2] => { results := [.lit (.bool false)], args := [d1, d2] }
  | _ => none }
def TraceTextsWrongFalsely : Prop := traceTextsRow.holds Tryd.pinned (OpenSpec.ofChange traceTextsWrong)

/- THE SECOND FORM. 'bulk': how many values and letters a reading holds, each counted each time it is reached (what is shared counts as often as it is met; a slice's spare places count too). A statement '..UptoSaid' is the law's where the arguments, and the package variables that the reading takes, are together of bulk at most 1048576: NARROWER than '..Said'. Prove '..Said' where nothing that the law and all that it calls make is longer than what came in: it says more and counts as full. Else prove '..UptoSaid'. A law counts once. -/
mutual
def uptoBulk {H : Type} : DataW H → Nat
  | .lit (.string bytes) => bytes.length + 1
  | .lit _ => 1
  | .nil => 1
  | .ptr d => uptoBulk d + 1
  | .slice elems spare => uptoBulkAll elems + uptoBulkAll spare + 1
  | .agg parts => uptoBulkAll parts + 1
  | .iface _ d => uptoBulk d + 1
  | .map entries => uptoBulkEntries entries + 1
  | .held _ => 1
def uptoBulkAll {H : Type} : List (DataW H) → Nat
  | [] => 0
  | d :: r => uptoBulk d + uptoBulkAll r
def uptoBulkEntries {H : Type} : List (Lit × DataW H) → Nat
  | [] => 0
  | x :: r => uptoBulkEntry x + uptoBulkEntries r
def uptoBulkEntry {H : Type} : Lit × DataW H → Nat
  | (.string bytes, d) => bytes.length + uptoBulk d + 1
  | (_, d) => uptoBulk d + 1
 end
def uptoSmall : (H : Type) → List (DataW H) → Bool := fun _ ds => decide (uptoBulkAll ds ≤ 1048576)
def OpenSpec.upto (s : _root_.Go.ChangeSpec) : _root_.Go.OpenSpec := { _root_.Go.OpenSpec.ofChange s with cond := some uptoSmall }

/-- 'rickyardlaw2.FltApart', WHERE WHAT IT READS IS OF BULK AT MOST 1048576: true; the input reads as it did. -/
def fltApartUptoRow : OpenClaim := { program := "ytofblkmibghmbaadoor", sum := "f457bc265b0d49f96c063795c66397b1a0ea4cd7e30a7ad2239e71af2af2fc66", func := "rickyard/rickyardlaw2.FltApart", spec := "fltApart", inPlace := ["math.Float64frombits", "math.Float64bits", "math.archTrunc"], named := ["internal/strconv.uint64pow10", "math/bits.deBruijn32tab", "math/bits.deBruijn64tab"], apart := false, laid := [("math/bits.deBruijn32tab", laid_math_bits_deBruijn32tab), ("math/bits.deBruijn64tab", laid_math_bits_deBruijn64tab), ("internal/strconv.uint64pow10", laid_internal_strconv_uint64pow10)], narrowed := true }
def FltApartUptoSaid : Prop := fltApartUptoRow.holds Tryd.pinned (OpenSpec.upto fltApartSpec)

/-- 'rickyardlaw2.FltSigns', WHERE WHAT IT READS IS OF BULK AT MOST 1048576: true; the input reads as it did. -/
def fltSignsUptoRow : OpenClaim := { program := "ytofblkmibghmbaadoor", sum := "f457bc265b0d49f96c063795c66397b1a0ea4cd7e30a7ad2239e71af2af2fc66", func := "rickyard/rickyardlaw2.FltSigns", spec := "fltSigns", inPlace := ["math.Float64frombits", "math.Float64bits", "math.archTrunc"], named := ["internal/strconv.uint64pow10", "math/bits.deBruijn32tab", "math/bits.deBruijn64tab"], apart := false, laid := [("math/bits.deBruijn32tab", laid_math_bits_deBruijn32tab), ("math/bits.deBruijn64tab", laid_math_bits_deBruijn64tab), ("internal/strconv.uint64pow10", laid_internal_strconv_uint64pow10)], narrowed := true }
def FltSignsUptoSaid : Prop := fltSignsUptoRow.holds Tryd.pinned (OpenSpec.upto fltSignsSpec)

/-- 'rickyardlaw2.FltWords', WHERE WHAT IT READS IS OF BULK AT MOST 1048576: true; the input reads as it did. -/
def fltWordsUptoRow : OpenClaim := { program := "ytofblkmibghmbaadoor", sum := "f457bc265b0d49f96c063795c66397b1a0ea4cd7e30a7ad2239e71af2af2fc66", func := "rickyard/rickyardlaw2.FltWords", spec := "fltWords", inPlace := ["math.Float64frombits", "math.Float64bits", "math.archTrunc", "math.archFloor"], named := ["internal/strconv.uint64pow10", "math/bits.deBruijn32tab", "math/bits.deBruijn64tab"], apart := false, laid := [("math/bits.deBruijn32tab", laid_math_bits_deBruijn32tab), ("math/bits.deBruijn64tab", laid_math_bits_deBruijn64tab), ("internal/strconv.uint64pow10", laid_internal_strconv_uint64pow10)], narrowed := true }
def FltWordsUptoSaid : Prop := fltWordsUptoRow.holds Tryd.pinned (OpenSpec.upto fltWordsSpec)

/-- 'rickyardlaw2.FltFloors', WHERE WHAT IT READS IS OF BULK AT MOST 1048576: true; the input reads as it did. -/
def fltFloorsUptoRow : OpenClaim := { program := "ytofblkmibghmbaadoor", sum := "f457bc265b0d49f96c063795c66397b1a0ea4cd7e30a7ad2239e71af2af2fc66", func := "rickyard/rickyardlaw2.FltFloors", spec := "fltFloors", inPlace := ["math.Float64frombits", "math.archFloor", "math.Float64bits", "math.archTrunc"], named := ["internal/strconv.uint64pow10", "math/bits.deBruijn32tab", "math/bits.deBruijn64tab"], apart := false, laid := [("math/bits.deBruijn32tab", laid_math_bits_deBruijn32tab), ("math/bits.deBruijn64tab", laid_math_bits_deBruijn64tab), ("internal/strconv.uint64pow10", laid_internal_strconv_uint64pow10)], narrowed := true }
def FltFloorsUptoSaid : Prop := fltFloorsUptoRow.holds Tryd.pinned (OpenSpec.upto fltFloorsSpec)

/-- 'rickyardlaw2.FltWhole', WHERE WHAT IT READS IS OF BULK AT MOST 1048576: true; the input reads as it did. -/
def fltWholeUptoRow : OpenClaim := { program := "ytofblkmibghmbaadoor", sum := "f457bc265b0d49f96c063795c66397b1a0ea4cd7e30a7ad2239e71af2af2fc66", func := "rickyard/rickyardlaw2.FltWhole", spec := "fltWhole", inPlace := ["math.Float64bits", "math.Float64frombits", "math.archTrunc", "math.archFloor"], named := ["internal/strconv.uint64pow10", "math/bits.deBruijn32tab", "math/bits.deBruijn64tab"], apart := false, laid := [("math/bits.deBruijn32tab", laid_math_bits_deBruijn32tab), ("math/bits.deBruijn64tab", laid_math_bits_deBruijn64tab), ("internal/strconv.uint64pow10", laid_internal_strconv_uint64pow10)], narrowed := true }
def FltWholeUptoSaid : Prop := fltWholeUptoRow.holds Tryd.pinned (OpenSpec.upto fltWholeSpec)

/-- 'rickyardlaw2.FltOrder', WHERE WHAT IT READS IS OF BULK AT MOST 1048576: true; the input reads as it did. -/
def fltOrderUptoRow : OpenClaim := { program := "ytofblkmibghmbaadoor", sum := "f457bc265b0d49f96c063795c66397b1a0ea4cd7e30a7ad2239e71af2af2fc66", func := "rickyard/rickyardlaw2.FltOrder", spec := "fltOrder", inPlace := ["math.Float64bits", "math.Float64frombits", "math.archTrunc", "math.archMin", "math.archMax"], unfollowed := true, recurses := true, named := ["internal/strconv.uint64pow10", "math/bits.deBruijn32tab", "math/bits.deBruijn64tab"], apart := false, laid := [("math/bits.deBruijn32tab", laid_math_bits_deBruijn32tab), ("math/bits.deBruijn64tab", laid_math_bits_deBruijn64tab), ("internal/strconv.uint64pow10", laid_internal_strconv_uint64pow10)], narrowed := true }
def FltOrderUptoSaid : Prop := fltOrderUptoRow.holds Tryd.pinned (OpenSpec.upto fltOrderSpec)

/-- 'rickyardlaw2.FltNone', WHERE WHAT IT READS IS OF BULK AT MOST 1048576: true; the input reads as it did. -/
def fltNoneUptoRow : OpenClaim := { program := "ytofblkmibghmbaadoor", sum := "f457bc265b0d49f96c063795c66397b1a0ea4cd7e30a7ad2239e71af2af2fc66", func := "rickyard/rickyardlaw2.FltNone", spec := "fltNone", inPlace := ["math.Float64frombits", "math.Float64bits", "math.archMin", "math.archMax", "math.archFloor", "math.archTrunc"], unfollowed := true, recurses := true, named := ["internal/strconv.uint64pow10", "math/bits.deBruijn32tab", "math/bits.deBruijn64tab"], apart := false, laid := [("math/bits.deBruijn32tab", laid_math_bits_deBruijn32tab), ("math/bits.deBruijn64tab", laid_math_bits_deBruijn64tab), ("internal/strconv.uint64pow10", laid_internal_strconv_uint64pow10)], narrowed := true }
def FltNoneUptoSaid : Prop := fltNoneUptoRow.holds Tryd.pinned (OpenSpec.upto fltNoneSpec)

/-- 'rickyardlaw2.FltAll', WHERE WHAT IT READS IS OF BULK AT MOST 1048576: true; the input reads as it did. -/
def fltAllUptoRow : OpenClaim := { program := "ytofblkmibghmbaadoor", sum := "f457bc265b0d49f96c063795c66397b1a0ea4cd7e30a7ad2239e71af2af2fc66", func := "rickyard/rickyardlaw2.FltAll", spec := "fltAll", inPlace := ["math.Float64frombits", "math.Float64bits", "math.archFloor", "math.archTrunc", "math.archMin", "math.archMax"], unfollowed := true, recurses := true, named := ["internal/strconv.uint64pow10", "math/bits.deBruijn32tab", "math/bits.deBruijn64tab"], apart := false, laid := [("math/bits.deBruijn32tab", laid_math_bits_deBruijn32tab), ("math/bits.deBruijn64tab", laid_math_bits_deBruijn64tab), ("internal/strconv.uint64pow10", laid_internal_strconv_uint64pow10)], narrowed := true }
def FltAllUptoSaid : Prop := fltAllUptoRow.holds Tryd.pinned (OpenSpec.upto fltAllSpec)

/-- 'rickyardlaw23.CallAll', WHERE WHAT IT READS IS OF BULK AT MOST 1048576: true; the input reads as it did. -/
def callAllUptoRow : OpenClaim := { program := "ytofblkmibghmbaadoor", sum := "f457bc265b0d49f96c063795c66397b1a0ea4cd7e30a7ad2239e71af2af2fc66", func := "rickyard/rickyardlaw23.CallAll", spec := "callAll", inPlace := ["internal/bytealg.CountString", "internal/bytealg.IndexByteString", "internal/bytealg.IndexString"], named := ["unicode/utf8.first", "unicode/utf8.acceptRanges", "internal/bytealg.MaxLen", "strconv.ErrSyntax", "strconv.ErrRange", "internal/strconv.uint64pow10", "math/bits.deBruijn32tab", "math/bits.deBruijn64tab"], apart := false, laid := [("math/bits.deBruijn32tab", laid_math_bits_deBruijn32tab), ("math/bits.deBruijn64tab", laid_math_bits_deBruijn64tab), ("internal/strconv.uint64pow10", laid_internal_strconv_uint64pow10), ("unicode/utf8.acceptRanges", laid_unicode_utf8_acceptRanges), ("strconv.ErrRange", laid_strconv_ErrRange), ("strconv.ErrSyntax", laid_strconv_ErrSyntax), ("unicode/utf8.first", laid_unicode_utf8_first)], narrowed := true }
def CallAllUptoSaid : Prop := callAllUptoRow.holds Tryd.pinned (OpenSpec.upto callAllSpec)

/-- 'rickyardlaw23.CallBack', WHERE WHAT IT READS IS OF BULK AT MOST 1048576: true; the input reads as it did. -/
def callBackUptoRow : OpenClaim := { program := "ytofblkmibghmbaadoor", sum := "f457bc265b0d49f96c063795c66397b1a0ea4cd7e30a7ad2239e71af2af2fc66", func := "rickyard/rickyardlaw23.CallBack", spec := "callBack", inPlace := ["internal/bytealg.CountString", "internal/bytealg.IndexByteString", "internal/bytealg.IndexString"], named := ["internal/strconv.uint64pow10", "math/bits.deBruijn32tab", "math/bits.deBruijn64tab", "unicode/utf8.first", "unicode/utf8.acceptRanges", "internal/bytealg.MaxLen", "strconv.ErrSyntax", "strconv.ErrRange"], apart := false, laid := [("math/bits.deBruijn32tab", laid_math_bits_deBruijn32tab), ("math/bits.deBruijn64tab", laid_math_bits_deBruijn64tab), ("internal/strconv.uint64pow10", laid_internal_strconv_uint64pow10), ("unicode/utf8.acceptRanges", laid_unicode_utf8_acceptRanges), ("strconv.ErrRange", laid_strconv_ErrRange), ("strconv.ErrSyntax", laid_strconv_ErrSyntax), ("unicode/utf8.first", laid_unicode_utf8_first)], narrowed := true }
def CallBackUptoSaid : Prop := callBackUptoRow.holds Tryd.pinned (OpenSpec.upto callBackSpec)

/-- 'rickyardlaw23.CallTexts', WHERE WHAT IT READS IS OF BULK AT MOST 1048576: true; the input reads as it did. -/
def callTextsUptoRow : OpenClaim := { program := "ytofblkmibghmbaadoor", sum := "f457bc265b0d49f96c063795c66397b1a0ea4cd7e30a7ad2239e71af2af2fc66", func := "rickyard/rickyardlaw23.CallTexts", spec := "callTexts", inPlace := ["internal/bytealg.CountString", "internal/bytealg.IndexByteString", "internal/bytealg.IndexString"], named := ["internal/strconv.uint64pow10", "math/bits.deBruijn32tab", "math/bits.deBruijn64tab", "unicode/utf8.first", "unicode/utf8.acceptRanges", "internal/bytealg.MaxLen", "strconv.ErrSyntax", "strconv.ErrRange"], apart := false, laid := [("math/bits.deBruijn32tab", laid_math_bits_deBruijn32tab), ("math/bits.deBruijn64tab", laid_math_bits_deBruijn64tab), ("internal/strconv.uint64pow10", laid_internal_strconv_uint64pow10), ("unicode/utf8.acceptRanges", laid_unicode_utf8_acceptRanges), ("strconv.ErrRange", laid_strconv_ErrRange), ("strconv.ErrSyntax", laid_strconv_ErrSyntax), ("unicode/utf8.first", laid_unicode_utf8_first)], narrowed := true }
def CallTextsUptoSaid : Prop := callTextsUptoRow.holds Tryd.pinned (OpenSpec.upto callTextsSpec)

/-- 'rickyardlaw23.CallRights', WHERE WHAT IT READS IS OF BULK AT MOST 1048576: true; the input reads as it did. -/
def callRightsUptoRow : OpenClaim := { program := "ytofblkmibghmbaadoor", sum := "f457bc265b0d49f96c063795c66397b1a0ea4cd7e30a7ad2239e71af2af2fc66", func := "rickyard/rickyardlaw23.CallRights", spec := "callRights", inPlace := ["internal/bytealg.CountString", "internal/bytealg.IndexByteString", "internal/bytealg.IndexString"], named := ["unicode/utf8.first", "unicode/utf8.acceptRanges", "internal/bytealg.MaxLen", "strconv.ErrSyntax", "strconv.ErrRange", "internal/strconv.uint64pow10", "math/bits.deBruijn32tab", "math/bits.deBruijn64tab"], apart := false, laid := [("math/bits.deBruijn32tab", laid_math_bits_deBruijn32tab), ("math/bits.deBruijn64tab", laid_math_bits_deBruijn64tab), ("internal/strconv.uint64pow10", laid_internal_strconv_uint64pow10), ("unicode/utf8.acceptRanges", laid_unicode_utf8_acceptRanges), ("strconv.ErrRange", laid_strconv_ErrRange), ("strconv.ErrSyntax", laid_strconv_ErrSyntax), ("unicode/utf8.first", laid_unicode_utf8_first)], narrowed := true }
def CallRightsUptoSaid : Prop := callRightsUptoRow.holds Tryd.pinned (OpenSpec.upto callRightsSpec)

/-- 'rickyardlaw23.CallMade', WHERE WHAT IT READS IS OF BULK AT MOST 1048576: true; the input reads as it did. -/
def callMadeUptoRow : OpenClaim := { program := "ytofblkmibghmbaadoor", sum := "f457bc265b0d49f96c063795c66397b1a0ea4cd7e30a7ad2239e71af2af2fc66", func := "rickyard/rickyardlaw23.CallMade", spec := "callMade", inPlace := ["internal/bytealg.CountString", "internal/bytealg.IndexByteString", "internal/bytealg.IndexString"], named := ["unicode/utf8.first", "unicode/utf8.acceptRanges", "internal/bytealg.MaxLen", "strconv.ErrSyntax", "strconv.ErrRange", "internal/strconv.uint64pow10", "math/bits.deBruijn32tab", "math/bits.deBruijn64tab"], apart := false, laid := [("math/bits.deBruijn32tab", laid_math_bits_deBruijn32tab), ("math/bits.deBruijn64tab", laid_math_bits_deBruijn64tab), ("internal/strconv.uint64pow10", laid_internal_strconv_uint64pow10), ("unicode/utf8.acceptRanges", laid_unicode_utf8_acceptRanges), ("strconv.ErrRange", laid_strconv_ErrRange), ("strconv.ErrSyntax", laid_strconv_ErrSyntax), ("unicode/utf8.first", laid_unicode_utf8_first)], narrowed := true }
def CallMadeUptoSaid : Prop := callMadeUptoRow.holds Tryd.pinned (OpenSpec.upto callMadeSpec)

/-- 'rickyardlaw29.TraceFronts', WHERE WHAT IT READS IS OF BULK AT MOST 1048576: true; the input reads as it did. -/
def traceFrontsUptoRow : OpenClaim := { program := "ytofblkmibghmbaadoor", sum := "f457bc265b0d49f96c063795c66397b1a0ea4cd7e30a7ad2239e71af2af2fc66", func := "rickyard/rickyardlaw29.TraceFronts", spec := "traceFronts", inPlace := ["math.Float64bits", "internal/abi.NoEscape", "math.Float64frombits", "math.archTrunc"], named := ["internal/strconv.uint64pow10", "math/bits.deBruijn32tab", "math/bits.deBruijn64tab"], apart := false, laid := [("math/bits.deBruijn32tab", laid_math_bits_deBruijn32tab), ("math/bits.deBruijn64tab", laid_math_bits_deBruijn64tab), ("internal/strconv.uint64pow10", laid_internal_strconv_uint64pow10)], narrowed := true }
def TraceFrontsUptoSaid : Prop := traceFrontsUptoRow.holds Tryd.pinned (OpenSpec.upto traceFrontsSpec)

/-- 'rickyardlaw29.TraceLines', WHERE WHAT IT READS IS OF BULK AT MOST 1048576: true; the input reads as it did. -/
def traceLinesUptoRow : OpenClaim := { program := "ytofblkmibghmbaadoor", sum := "f457bc265b0d49f96c063795c66397b1a0ea4cd7e30a7ad2239e71af2af2fc66", func := "rickyard/rickyardlaw29.TraceLines", spec := "traceLines", inPlace := ["math.Float64bits", "internal/abi.NoEscape", "math.Float64frombits", "math.archTrunc"], named := ["internal/strconv.uint64pow10", "math/bits.deBruijn32tab", "math/bits.deBruijn64tab"], apart := false, laid := [("math/bits.deBruijn32tab", laid_math_bits_deBruijn32tab), ("math/bits.deBruijn64tab", laid_math_bits_deBruijn64tab), ("internal/strconv.uint64pow10", laid_internal_strconv_uint64pow10)], narrowed := true }
def TraceLinesUptoSaid : Prop := traceLinesUptoRow.holds Tryd.pinned (OpenSpec.upto traceLinesSpec)

/-- 'rickyardlaw29.TraceTexts', WHERE WHAT IT READS IS OF BULK AT MOST 1048576: true; the input reads as it did. -/
def traceTextsUptoRow : OpenClaim := { program := "ytofblkmibghmbaadoor", sum := "f457bc265b0d49f96c063795c66397b1a0ea4cd7e30a7ad2239e71af2af2fc66", func := "rickyard/rickyardlaw29.TraceTexts", spec := "traceTexts", inPlace := ["math.Float64bits", "internal/abi.NoEscape", "math.Float64frombits", "math.archTrunc", "math.archFloor"], named := ["internal/strconv.uint64pow10", "math/bits.deBruijn32tab", "math/bits.deBruijn64tab"], apart := false, laid := [("math/bits.deBruijn32tab", laid_math_bits_deBruijn32tab), ("math/bits.deBruijn64tab", laid_math_bits_deBruijn64tab), ("internal/strconv.uint64pow10", laid_internal_strconv_uint64pow10)], narrowed := true }
def TraceTextsUptoSaid : Prop := traceTextsUptoRow.holds Tryd.pinned (OpenSpec.upto traceTextsSpec)

end Rows
end Go.Proofs.YtofblkmibghmbaaDoor
