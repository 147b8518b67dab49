/-
  Layer 2: what is written exactly; whole numbers as words; floors.
  Conditions: none.
-/
import Derived.Test.YtofblkmibghmbaaDoorZF1
set_option linter.unusedVariables false
set_option linter.unusedSimpArgs false
namespace Go.Proofs.YtofblkmibghmbaaDoor
open Ieee
set_option exponentiation.threshold 2000
end Go.Proofs.YtofblkmibghmbaaDoor
