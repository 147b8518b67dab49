/-
  Layer 2: the document's texts are the plain rule's.
  Conditions: none.
-/
import Derived.Test.YtofblkmibghmbaaDoorZT2c
set_option linter.unusedVariables false
set_option linter.unusedSimpArgs false
set_option maxRecDepth 100000
set_option exponentiation.threshold 3000
namespace Go.Proofs.YtofblkmibghmbaaDoor
open Go.RowKit Ieee
section
variable {w : World}
end
end Go.Proofs.YtofblkmibghmbaaDoor
