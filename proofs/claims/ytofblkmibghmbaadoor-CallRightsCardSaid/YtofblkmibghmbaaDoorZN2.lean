/-
  Layer 2: the document's examples; FltAll.
  Conditions: the tables of the host's library read as the program's text lays them.
-/
import Derived.Test.YtofblkmibghmbaaDoorZT2c
import Derived.Test.YtofblkmibghmbaaDoorZVL
set_option linter.unusedVariables false
set_option linter.unusedSimpArgs false
set_option maxRecDepth 100000
set_option exponentiation.threshold 3000
namespace Go.Proofs.YtofblkmibghmbaaDoor
open Go.RowKit Ieee
section
variable {w : World}
end
end Go.Proofs.YtofblkmibghmbaaDoor
