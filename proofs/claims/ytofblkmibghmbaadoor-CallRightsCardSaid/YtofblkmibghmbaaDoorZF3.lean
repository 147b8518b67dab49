/-
  Layer 2: floors, cuts, sums and products of whole numbers.
  Conditions: none.
-/
import Derived.Test.YtofblkmibghmbaaDoorZF2
set_option linter.unusedVariables false
set_option linter.unusedSimpArgs false
set_option exponentiation.threshold 2000
set_option maxRecDepth 20000
namespace Go.Proofs.YtofblkmibghmbaaDoor
open Ieee
end Go.Proofs.YtofblkmibghmbaaDoor
