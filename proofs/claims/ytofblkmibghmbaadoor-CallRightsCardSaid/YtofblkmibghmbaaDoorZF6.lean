/-
  Layer 2: which words are whole numbers; floors against their numbers.
  Conditions: none.
-/
import Derived.Test.YtofblkmibghmbaaDoorZF5
set_option linter.unusedVariables false
set_option linter.unusedSimpArgs false
set_option exponentiation.threshold 3000
set_option maxRecDepth 20000
namespace Go.Proofs.YtofblkmibghmbaaDoor
open Ieee
end Go.Proofs.YtofblkmibghmbaaDoor
