/-
  Layer 18: what the arguments' memory says, read as words, heads, frames.
  Conditions: none.
-/
import Derived.Test.YtlccbaemcfjdoaaZRD17
import Derived.Test.YtlccbaemcfjdoaaZA18
set_option maxRecDepth 100000
set_option linter.unusedVariables false
namespace Go.Proofs.Ytlccbaemcfjdoaa
open Go.ChangeShapes Go.WideShapes Go.ChangeAt Go.RowKit
section
variable {H : Type} {enc : TypeId × Value → H} {w : World} {base : Nat} {spare : Nat → Bool} {held : Bool} {fuel : Nat}
end
end Go.Proofs.Ytlccbaemcfjdoaa
