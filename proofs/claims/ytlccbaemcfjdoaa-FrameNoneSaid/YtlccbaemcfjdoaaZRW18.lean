/-
  Layer 18, as plain rules: what is written is read, and nothing else is turned.
  Conditions: none.
-/
import Derived.Test.YtlccbaemcfjdoaaZV18
set_option linter.unusedVariables false
set_option linter.unusedSimpArgs false
namespace Go.Proofs.Ytlccbaemcfjdoaa
open Go.RowKit
section
variable {p : List Fnc} {mem : List Int} {at_ below : Int} {x : Frm} {g : Fnc}
end
end Go.Proofs.Ytlccbaemcfjdoaa
