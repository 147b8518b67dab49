/-
  DERIVED. GIVEN WITH THE SEED: THE CARDS: each row of YtofblkmibghmbaaDoorRows.lean that lists a variable, with what it lists TIED to the program's text (the seventh form; the later family's looks); each row that meets fmt, with fmt's text TOLD by the authors' own Lean function (tested against real Go, not proved from fmt's source: count such statements apart). THE CARD IS WHAT COUNTS. Prove the row's statement (the work); the ties are given (YtofblkmibghmbaaDoorTie.lean); close each card by the builder's one call (the guide's Derived/Test/ToyasCard.lean, 'card_holds'). Laid BY PROGRAM, IN A SANDBOX (cutbox-door.mjs). By AI agents, Wed Nov 11 2026. No macro, syntax, notation, axiom, sorry.
-/
import Derived.Test.YtofblkmibghmbaaDoorRows
import GoSem.ClaimSeven
namespace Go.Proofs.YtofblkmibghmbaaDoor
namespace Rows

/-- THE TIED CARD OF 'rickyardlaw2.FltApart'. -/
def fltApartCard : Claim7 := { stood := { row := fltApartRow, standIns := [], harness := (true, "58bf5c44c4dbb43c54201ce7946c7322bca203efa5a3678ed560caef1114c237"), looks := true }, kinds := [], alts := [], laidByText := true, laidKinds := [.data, .data, .data], laidTests := true, laidLooks := .later }
def FltApartCardSaid : Prop := Claim7.holds Tryd.pinned (.plain (OpenSpec.ofChange fltApartSpec)) fltApartCard

/-- THE TIED CARD OF 'rickyardlaw2.FltSigns'. -/
def fltSignsCard : Claim7 := { stood := { row := fltSignsRow, standIns := [], harness := (true, "58bf5c44c4dbb43c54201ce7946c7322bca203efa5a3678ed560caef1114c237"), looks := true }, kinds := [], alts := [], laidByText := true, laidKinds := [.data, .data, .data], laidTests := true, laidLooks := .later }
def FltSignsCardSaid : Prop := Claim7.holds Tryd.pinned (.plain (OpenSpec.ofChange fltSignsSpec)) fltSignsCard

/-- THE TIED CARD OF 'rickyardlaw2.FltWords'. -/
def fltWordsCard : Claim7 := { stood := { row := fltWordsRow, standIns := [], harness := (true, "58bf5c44c4dbb43c54201ce7946c7322bca203efa5a3678ed560caef1114c237"), looks := true }, kinds := [], alts := [], laidByText := true, laidKinds := [.data, .data, .data], laidTests := true, laidLooks := .later }
def FltWordsCardSaid : Prop := Claim7.holds Tryd.pinned (.plain (OpenSpec.ofChange fltWordsSpec)) fltWordsCard

/-- THE TIED CARD OF 'rickyardlaw2.FltFloors'. -/
def fltFloorsCard : Claim7 := { stood := { row := fltFloorsRow, standIns := [], harness := (true, "58bf5c44c4dbb43c54201ce7946c7322bca203efa5a3678ed560caef1114c237"), looks := true }, kinds := [], alts := [], laidByText := true, laidKinds := [.data, .data, .data], laidTests := true, laidLooks := .later }
def FltFloorsCardSaid : Prop := Claim7.holds Tryd.pinned (.plain (OpenSpec.ofChange fltFloorsSpec)) fltFloorsCard

/-- THE TIED CARD OF 'rickyardlaw2.FltWhole'. -/
def fltWholeCard : Claim7 := { stood := { row := fltWholeRow, standIns := [], harness := (true, "58bf5c44c4dbb43c54201ce7946c7322bca203efa5a3678ed560caef1114c237"), looks := true }, kinds := [], alts := [], laidByText := true, laidKinds := [.data, .data, .data], laidTests := true, laidLooks := .later }
def FltWholeCardSaid : Prop := Claim7.holds Tryd.pinned (.plain (OpenSpec.ofChange fltWholeSpec)) fltWholeCard

/-- THE TIED CARD OF 'rickyardlaw2.FltOrder'. -/
def fltOrderCard : Claim7 := { stood := { row := fltOrderRow, standIns := [], harness := (true, "58bf5c44c4dbb43c54201ce7946c7322bca203efa5a3678ed560caef1114c237"), looks := true }, kinds := [], alts := [], laidByText := true, laidKinds := [.data, .data, .data], laidTests := true, laidLooks := .later }
def FltOrderCardSaid : Prop := Claim7.holds Tryd.pinned (.plain (OpenSpec.ofChange fltOrderSpec)) fltOrderCard

/-- THE TIED CARD OF 'rickyardlaw2.FltNone'. -/
def fltNoneCard : Claim7 := { stood := { row := fltNoneRow, standIns := [], harness := (true, "58bf5c44c4dbb43c54201ce7946c7322bca203efa5a3678ed560caef1114c237"), looks := true }, kinds := [], alts := [], laidByText := true, laidKinds := [.data, .data, .data], laidTests := true, laidLooks := .later }
def FltNoneCardSaid : Prop := Claim7.holds Tryd.pinned (.plain (OpenSpec.ofChange fltNoneSpec)) fltNoneCard

/-- THE TIED CARD OF 'rickyardlaw2.FltAll'. -/
def fltAllCard : Claim7 := { stood := { row := fltAllRow, standIns := [], harness := (true, "58bf5c44c4dbb43c54201ce7946c7322bca203efa5a3678ed560caef1114c237"), looks := true }, kinds := [], alts := [], laidByText := true, laidKinds := [.data, .data, .data], laidTests := true, laidLooks := .later }
def FltAllCardSaid : Prop := Claim7.holds Tryd.pinned (.plain (OpenSpec.ofChange fltAllSpec)) fltAllCard

/-- THE TIED CARD OF 'rickyardlaw23.CallAll'. -/
def callAllCard : Claim7 := { stood := { row := callAllRow, standIns := [], harness := (true, "58bf5c44c4dbb43c54201ce7946c7322bca203efa5a3678ed560caef1114c237"), looks := true }, kinds := [], alts := [], laidByText := true, laidKinds := [.data, .data, .data, .data, .sentinel, .sentinel, .pinned], laidTests := true, laidLooks := .later }
def CallAllCardSaid : Prop := Claim7.holds Tryd.pinned (.plain (OpenSpec.ofChange callAllSpec)) callAllCard

/-- THE TIED CARD OF 'rickyardlaw23.CallBack'. -/
def callBackCard : Claim7 := { stood := { row := callBackRow, standIns := [], harness := (true, "58bf5c44c4dbb43c54201ce7946c7322bca203efa5a3678ed560caef1114c237"), looks := true }, kinds := [], alts := [], laidByText := true, laidKinds := [.data, .data, .data, .data, .sentinel, .sentinel, .pinned], laidTests := true, laidLooks := .later }
def CallBackCardSaid : Prop := Claim7.holds Tryd.pinned (.plain (OpenSpec.ofChange callBackSpec)) callBackCard

/-- THE TIED CARD OF 'rickyardlaw23.CallTexts'. -/
def callTextsCard : Claim7 := { stood := { row := callTextsRow, standIns := [], harness := (true, "58bf5c44c4dbb43c54201ce7946c7322bca203efa5a3678ed560caef1114c237"), looks := true }, kinds := [], alts := [], laidByText := true, laidKinds := [.data, .data, .data, .data, .sentinel, .sentinel, .pinned], laidTests := true, laidLooks := .later }
def CallTextsCardSaid : Prop := Claim7.holds Tryd.pinned (.plain (OpenSpec.ofChange callTextsSpec)) callTextsCard

/-- THE TIED CARD OF 'rickyardlaw23.CallRights'. -/
def callRightsCard : Claim7 := { stood := { row := callRightsRow, standIns := [], harness := (true, "58bf5c44c4dbb43c54201ce7946c7322bca203efa5a3678ed560caef1114c237"), looks := true }, kinds := [], alts := [], laidByText := true, laidKinds := [.data, .data, .data, .data, .sentinel, .sentinel, .pinned], laidTests := true, laidLooks := .later }
def CallRightsCardSaid : Prop := Claim7.holds Tryd.pinned (.plain (OpenSpec.ofChange callRightsSpec)) callRightsCard

/-- THE TIED CARD OF 'rickyardlaw23.CallMade'. -/
def callMadeCard : Claim7 := { stood := { row := callMadeRow, standIns := [], harness := (true, "58bf5c44c4dbb43c54201ce7946c7322bca203efa5a3678ed560caef1114c237"), looks := true }, kinds := [], alts := [], laidByText := true, laidKinds := [.data, .data, .data, .data, .sentinel, .sentinel, .pinned], laidTests := true, laidLooks := .later }
def CallMadeCardSaid : Prop := Claim7.holds Tryd.pinned (.plain (OpenSpec.ofChange callMadeSpec)) callMadeCard

/-- THE TIED CARD OF 'rickyardlaw29.TraceFronts'. -/
def traceFrontsCard : Claim7 := { stood := { row := traceFrontsRow, standIns := [], harness := (true, "58bf5c44c4dbb43c54201ce7946c7322bca203efa5a3678ed560caef1114c237"), looks := true }, kinds := [], alts := [], laidByText := true, laidKinds := [.data, .data, .data], laidTests := true, laidLooks := .later }
def TraceFrontsCardSaid : Prop := Claim7.holds Tryd.pinned (.plain (OpenSpec.ofChange traceFrontsSpec)) traceFrontsCard

/-- THE TIED CARD OF 'rickyardlaw29.TraceLines'. -/
def traceLinesCard : Claim7 := { stood := { row := traceLinesRow, standIns := [], harness := (true, "58bf5c44c4dbb43c54201ce7946c7322bca203efa5a3678ed560caef1114c237"), looks := true }, kinds := [], alts := [], laidByText := true, laidKinds := [.data, .data, .data], laidTests := true, laidLooks := .later }
def TraceLinesCardSaid : Prop := Claim7.holds Tryd.pinned (.plain (OpenSpec.ofChange traceLinesSpec)) traceLinesCard

/-- THE TIED CARD OF 'rickyardlaw29.TraceTexts'. -/
def traceTextsCard : Claim7 := { stood := { row := traceTextsRow, standIns := [], harness := (true, "58bf5c44c4dbb43c54201ce7946c7322bca203efa5a3678ed560caef1114c237"), looks := true }, kinds := [], alts := [], laidByText := true, laidKinds := [.data, .data, .data], laidTests := true, laidLooks := .later }
def TraceTextsCardSaid : Prop := Claim7.holds Tryd.pinned (.plain (OpenSpec.ofChange traceTextsSpec)) traceTextsCard

/-- THE SECOND FORM's CARD OF 'rickyardlaw2.FltApart'. -/
def fltApartUptoCard : Claim7 := { stood := { row := fltApartUptoRow, standIns := [], harness := (true, "58bf5c44c4dbb43c54201ce7946c7322bca203efa5a3678ed560caef1114c237"), looks := true }, kinds := [], alts := [], laidByText := true, laidKinds := [.data, .data, .data], laidTests := true, laidLooks := .later }
def FltApartUptoCardSaid : Prop := Claim7.holds Tryd.pinned (.plain (OpenSpec.upto fltApartSpec)) fltApartUptoCard

/-- THE SECOND FORM's CARD OF 'rickyardlaw2.FltSigns'. -/
def fltSignsUptoCard : Claim7 := { stood := { row := fltSignsUptoRow, standIns := [], harness := (true, "58bf5c44c4dbb43c54201ce7946c7322bca203efa5a3678ed560caef1114c237"), looks := true }, kinds := [], alts := [], laidByText := true, laidKinds := [.data, .data, .data], laidTests := true, laidLooks := .later }
def FltSignsUptoCardSaid : Prop := Claim7.holds Tryd.pinned (.plain (OpenSpec.upto fltSignsSpec)) fltSignsUptoCard

/-- THE SECOND FORM's CARD OF 'rickyardlaw2.FltWords'. -/
def fltWordsUptoCard : Claim7 := { stood := { row := fltWordsUptoRow, standIns := [], harness := (true, "58bf5c44c4dbb43c54201ce7946c7322bca203efa5a3678ed560caef1114c237"), looks := true }, kinds := [], alts := [], laidByText := true, laidKinds := [.data, .data, .data], laidTests := true, laidLooks := .later }
def FltWordsUptoCardSaid : Prop := Claim7.holds Tryd.pinned (.plain (OpenSpec.upto fltWordsSpec)) fltWordsUptoCard

/-- THE SECOND FORM's CARD OF 'rickyardlaw2.FltFloors'. -/
def fltFloorsUptoCard : Claim7 := { stood := { row := fltFloorsUptoRow, standIns := [], harness := (true, "58bf5c44c4dbb43c54201ce7946c7322bca203efa5a3678ed560caef1114c237"), looks := true }, kinds := [], alts := [], laidByText := true, laidKinds := [.data, .data, .data], laidTests := true, laidLooks := .later }
def FltFloorsUptoCardSaid : Prop := Claim7.holds Tryd.pinned (.plain (OpenSpec.upto fltFloorsSpec)) fltFloorsUptoCard

/-- THE SECOND FORM's CARD OF 'rickyardlaw2.FltWhole'. -/
def fltWholeUptoCard : Claim7 := { stood := { row := fltWholeUptoRow, standIns := [], harness := (true, "58bf5c44c4dbb43c54201ce7946c7322bca203efa5a3678ed560caef1114c237"), looks := true }, kinds := [], alts := [], laidByText := true, laidKinds := [.data, .data, .data], laidTests := true, laidLooks := .later }
def FltWholeUptoCardSaid : Prop := Claim7.holds Tryd.pinned (.plain (OpenSpec.upto fltWholeSpec)) fltWholeUptoCard

/-- THE SECOND FORM's CARD OF 'rickyardlaw2.FltOrder'. -/
def fltOrderUptoCard : Claim7 := { stood := { row := fltOrderUptoRow, standIns := [], harness := (true, "58bf5c44c4dbb43c54201ce7946c7322bca203efa5a3678ed560caef1114c237"), looks := true }, kinds := [], alts := [], laidByText := true, laidKinds := [.data, .data, .data], laidTests := true, laidLooks := .later }
def FltOrderUptoCardSaid : Prop := Claim7.holds Tryd.pinned (.plain (OpenSpec.upto fltOrderSpec)) fltOrderUptoCard

/-- THE SECOND FORM's CARD OF 'rickyardlaw2.FltNone'. -/
def fltNoneUptoCard : Claim7 := { stood := { row := fltNoneUptoRow, standIns := [], harness := (true, "58bf5c44c4dbb43c54201ce7946c7322bca203efa5a3678ed560caef1114c237"), looks := true }, kinds := [], alts := [], laidByText := true, laidKinds := [.data, .data, .data], laidTests := true, laidLooks := .later }
def FltNoneUptoCardSaid : Prop := Claim7.holds Tryd.pinned (.plain (OpenSpec.upto fltNoneSpec)) fltNoneUptoCard

/-- THE SECOND FORM's CARD OF 'rickyardlaw2.FltAll'. -/
def fltAllUptoCard : Claim7 := { stood := { row := fltAllUptoRow, standIns := [], harness := (true, "58bf5c44c4dbb43c54201ce7946c7322bca203efa5a3678ed560caef1114c237"), looks := true }, kinds := [], alts := [], laidByText := true, laidKinds := [.data, .data, .data], laidTests := true, laidLooks := .later }
def FltAllUptoCardSaid : Prop := Claim7.holds Tryd.pinned (.plain (OpenSpec.upto fltAllSpec)) fltAllUptoCard

/-- THE SECOND FORM's CARD OF 'rickyardlaw23.CallAll'. -/
def callAllUptoCard : Claim7 := { stood := { row := callAllUptoRow, standIns := [], harness := (true, "58bf5c44c4dbb43c54201ce7946c7322bca203efa5a3678ed560caef1114c237"), looks := true }, kinds := [], alts := [], laidByText := true, laidKinds := [.data, .data, .data, .data, .sentinel, .sentinel, .pinned], laidTests := true, laidLooks := .later }
def CallAllUptoCardSaid : Prop := Claim7.holds Tryd.pinned (.plain (OpenSpec.upto callAllSpec)) callAllUptoCard

/-- THE SECOND FORM's CARD OF 'rickyardlaw23.CallBack'. -/
def callBackUptoCard : Claim7 := { stood := { row := callBackUptoRow, standIns := [], harness := (true, "58bf5c44c4dbb43c54201ce7946c7322bca203efa5a3678ed560caef1114c237"), looks := true }, kinds := [], alts := [], laidByText := true, laidKinds := [.data, .data, .data, .data, .sentinel, .sentinel, .pinned], laidTests := true, laidLooks := .later }
def CallBackUptoCardSaid : Prop := Claim7.holds Tryd.pinned (.plain (OpenSpec.upto callBackSpec)) callBackUptoCard

/-- THE SECOND FORM's CARD OF 'rickyardlaw23.CallTexts'. -/
def callTextsUptoCard : Claim7 := { stood := { row := callTextsUptoRow, standIns := [], harness := (true, "58bf5c44c4dbb43c54201ce7946c7322bca203efa5a3678ed560caef1114c237"), looks := true }, kinds := [], alts := [], laidByText := true, laidKinds := [.data, .data, .data, .data, .sentinel, .sentinel, .pinned], laidTests := true, laidLooks := .later }
def CallTextsUptoCardSaid : Prop := Claim7.holds Tryd.pinned (.plain (OpenSpec.upto callTextsSpec)) callTextsUptoCard

/-- THE SECOND FORM's CARD OF 'rickyardlaw23.CallRights'. -/
def callRightsUptoCard : Claim7 := { stood := { row := callRightsUptoRow, standIns := [], harness := (true, "58bf5c44c4dbb43c54201ce7946c7322bca203efa5a3678ed560caef1114c237"), looks := true }, kinds := [], alts := [], laidByText := true, laidKinds := [.data, .data, .data, .data, .sentinel, .sentinel, .pinned], laidTests := true, laidLooks := .later }
def CallRightsUptoCardSaid : Prop := Claim7.holds Tryd.pinned (.plain (OpenSpec.upto callRightsSpec)) callRightsUptoCard

/-- THE SECOND FORM's CARD OF 'rickyardlaw23.CallMade'. -/
def callMadeUptoCard : Claim7 := { stood := { row := callMadeUptoRow, standIns := [], harness := (true, "58bf5c44c4dbb43c54201ce7946c7322bca203efa5a3678ed560caef1114c237"), looks := true }, kinds := [], alts := [], laidByText := true, laidKinds := [.data, .data, .data, .data, .sentinel, .sentinel, .pinned], laidTests := true, laidLooks := .later }
def CallMadeUptoCardSaid : Prop := Claim7.holds Tryd.pinned (.plain (OpenSpec.upto callMadeSpec)) callMadeUptoCard

/-- THE SECOND FORM's CARD OF 'rickyardlaw29.TraceFronts'. -/
def traceFrontsUptoCard : Claim7 := { stood := { row := traceFrontsUptoRow, standIns := [], harness := (true, "58bf5c44c4dbb43c54201ce7946c7322bca203efa5a3678ed560caef1114c237"), looks := true }, kinds := [], alts := [], laidByText := true, laidKinds := [.data, .data, .data], laidTests := true, laidLooks := .later }
def TraceFrontsUptoCardSaid : Prop := Claim7.holds Tryd.pinned (.plain (OpenSpec.upto traceFrontsSpec)) traceFrontsUptoCard

/-- THE SECOND FORM's CARD OF 'rickyardlaw29.TraceLines'. -/
def traceLinesUptoCard : Claim7 := { stood := { row := traceLinesUptoRow, standIns := [], harness := (true, "58bf5c44c4dbb43c54201ce7946c7322bca203efa5a3678ed560caef1114c237"), looks := true }, kinds := [], alts := [], laidByText := true, laidKinds := [.data, .data, .data], laidTests := true, laidLooks := .later }
def TraceLinesUptoCardSaid : Prop := Claim7.holds Tryd.pinned (.plain (OpenSpec.upto traceLinesSpec)) traceLinesUptoCard

/-- THE SECOND FORM's CARD OF 'rickyardlaw29.TraceTexts'. -/
def traceTextsUptoCard : Claim7 := { stood := { row := traceTextsUptoRow, standIns := [], harness := (true, "58bf5c44c4dbb43c54201ce7946c7322bca203efa5a3678ed560caef1114c237"), looks := true }, kinds := [], alts := [], laidByText := true, laidKinds := [.data, .data, .data], laidTests := true, laidLooks := .later }
def TraceTextsUptoCardSaid : Prop := Claim7.holds Tryd.pinned (.plain (OpenSpec.upto traceTextsSpec)) traceTextsUptoCard
end Rows
end Go.Proofs.YtofblkmibghmbaaDoor
