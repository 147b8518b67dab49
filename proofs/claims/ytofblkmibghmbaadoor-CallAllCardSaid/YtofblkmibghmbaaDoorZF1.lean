/-
  Layer 2: float64 words: how their rungs stand to one another, and their order.
  Conditions: none.
-/
import Derived.Laws.FloatArith
set_option linter.unusedVariables false
set_option linter.unusedSimpArgs false
namespace Go.Proofs.YtofblkmibghmbaaDoor
open Ieee
def SW : Nat := 9223372036854775808
end Go.Proofs.YtofblkmibghmbaaDoor
