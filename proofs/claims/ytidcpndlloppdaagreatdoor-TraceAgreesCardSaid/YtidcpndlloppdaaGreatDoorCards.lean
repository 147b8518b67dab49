/-
  DERIVED. GIVEN WITH THE SEED: THE CARDS: each row of YtidcpndlloppdaaGreatDoorRows.lean that lists a variable, with what it lists TIED to the program's text (the seventh form; the later family's looks); each row that meets fmt, with fmt's text TOLD by the authors' own Lean function (tested against real Go, not proved from fmt's source: count such statements apart). THE CARD IS WHAT COUNTS. Prove the row's statement (the work); the ties are given (YtidcpndlloppdaaGreatDoorTie.lean); close each card by the builder's one call (the guide's Derived/Test/ToyasCard.lean, 'card_holds'). Laid BY PROGRAM, IN A SANDBOX (cutbox-door.mjs). By AI agents, Wed Nov 11 2026. No macro, syntax, notation, axiom, sorry.
-/
import Derived.Test.YtidcpndlloppdaaGreatDoorRows
import GoSem.ClaimSeven
namespace Go.Proofs.YtidcpndlloppdaaGreatDoor
namespace Rows

/-- THE TIED CARD OF 'rickyardlaw29.TracePlays'. -/
def tracePlaysCard : Claim7 := { stood := { row := tracePlaysRow, standIns := [], harness := (true, "5d4329e7af50def1f8856efa05137222b8f142d4be29453ebec0498046d83e5d"), looks := false }, kinds := [], alts := [], laidByText := true, laidKinds := [.data, .data, .data], laidTests := true, laidLooks := .later }
def TracePlaysCardSaid : Prop := Claim7.holds Tryz.pinned (.plain (OpenSpec.ofChange tracePlaysSpec)) tracePlaysCard

/-- THE TIED CARD OF 'rickyardlaw29.TraceAgrees'. -/
def traceAgreesCard : Claim7 := { stood := { row := traceAgreesRow, standIns := [], harness := (true, "5d4329e7af50def1f8856efa05137222b8f142d4be29453ebec0498046d83e5d"), looks := false }, kinds := [], alts := [], laidByText := true, laidKinds := [.data, .data, .data], laidTests := true, laidLooks := .later }
def TraceAgreesCardSaid : Prop := Claim7.holds Tryz.pinned (.plain (OpenSpec.ofChange traceAgreesSpec)) traceAgreesCard

/-- THE TIED CARD OF 'rickyardlaw29.TraceMore'. -/
def traceMoreCard : Claim7 := { stood := { row := traceMoreRow, standIns := [], harness := (true, "5d4329e7af50def1f8856efa05137222b8f142d4be29453ebec0498046d83e5d"), looks := false }, kinds := [], alts := [], laidByText := true, laidKinds := [.data, .data, .data], laidTests := true, laidLooks := .later }
def TraceMoreCardSaid : Prop := Claim7.holds Tryz.pinned (.plain (OpenSpec.ofChange traceMoreSpec)) traceMoreCard

/-- THE SECOND FORM's CARD OF 'rickyardlaw29.TracePlays'. -/
def tracePlaysUptoCard : Claim7 := { stood := { row := tracePlaysUptoRow, standIns := [], harness := (true, "5d4329e7af50def1f8856efa05137222b8f142d4be29453ebec0498046d83e5d"), looks := false }, kinds := [], alts := [], laidByText := true, laidKinds := [.data, .data, .data], laidTests := true, laidLooks := .later }
def TracePlaysUptoCardSaid : Prop := Claim7.holds Tryz.pinned (.plain (OpenSpec.upto tracePlaysSpec)) tracePlaysUptoCard

/-- THE SECOND FORM's CARD OF 'rickyardlaw29.TraceAgrees'. -/
def traceAgreesUptoCard : Claim7 := { stood := { row := traceAgreesUptoRow, standIns := [], harness := (true, "5d4329e7af50def1f8856efa05137222b8f142d4be29453ebec0498046d83e5d"), looks := false }, kinds := [], alts := [], laidByText := true, laidKinds := [.data, .data, .data], laidTests := true, laidLooks := .later }
def TraceAgreesUptoCardSaid : Prop := Claim7.holds Tryz.pinned (.plain (OpenSpec.upto traceAgreesSpec)) traceAgreesUptoCard

/-- THE SECOND FORM's CARD OF 'rickyardlaw29.TraceMore'. -/
def traceMoreUptoCard : Claim7 := { stood := { row := traceMoreUptoRow, standIns := [], harness := (true, "5d4329e7af50def1f8856efa05137222b8f142d4be29453ebec0498046d83e5d"), looks := false }, kinds := [], alts := [], laidByText := true, laidKinds := [.data, .data, .data], laidTests := true, laidLooks := .later }
def TraceMoreUptoCardSaid : Prop := Claim7.holds Tryz.pinned (.plain (OpenSpec.upto traceMoreSpec)) traceMoreUptoCard
end Rows
end Go.Proofs.YtidcpndlloppdaaGreatDoor
