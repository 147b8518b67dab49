import Derived.Test.YtofblkmibghmbaaDoorZT2b
import Derived.Test.YtofblkmibghmbaaDoorZVU
/-
  Layer 2: texts of numbers, the program's and the document's, are the plain rule's.
  Conditions: the tables of the host's library read as the program's text lays them.
-/
set_option linter.unusedVariables false
set_option linter.unusedSimpArgs false
set_option maxRecDepth 100000
set_option exponentiation.threshold 3000
namespace Go.Proofs.YtofblkmibghmbaaDoor
open Go.RowKit Ieee
section
variable {w : World}
end
end Go.Proofs.YtofblkmibghmbaaDoor

/-
  What the engine makes of the loaded functions 3, 4, 5, 6, 7, 8, 9, 10: conditions under which a call returns as told, and proofs of that.
  Conditions: none. Printed by a program of this project.
-/
set_option linter.unusedVariables false
set_option maxRecDepth 100000
namespace Go.Proofs.YtofblkmibghmbaaDoor
end Go.Proofs.YtofblkmibghmbaaDoor

/-
  Layer 2: the document's examples; FltAll.
  Conditions: the tables of the host's library read as the program's text lays them.
-/
set_option linter.unusedVariables false
set_option linter.unusedSimpArgs false
set_option maxRecDepth 100000
set_option exponentiation.threshold 3000
namespace Go.Proofs.YtofblkmibghmbaaDoor
open Go.RowKit Ieee
section
variable {w : World}
end
end Go.Proofs.YtofblkmibghmbaaDoor
