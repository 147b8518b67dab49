/-
  Layer 2: the lesser and the greater one, ranks, noughts, one word for what is no number.
  Conditions: none.
-/
import Derived.Test.YtofblkmibghmbaaDoorZF4
set_option linter.unusedVariables false
set_option linter.unusedSimpArgs false
set_option exponentiation.threshold 3000
set_option maxRecDepth 20000
namespace Go.Proofs.YtofblkmibghmbaaDoor
open Ieee
end Go.Proofs.YtofblkmibghmbaaDoor
