/-
  What the engine makes of the loaded functions 3, 4, 5, 6, 7, 8, 9, 10: conditions under which a call returns as told, and proofs of that.
  Conditions: none. Printed by a program of this project.
-/
import Derived.Test.YtofblkmibghmbaaDoorZVU
set_option linter.unusedVariables false
set_option maxRecDepth 100000
namespace Go.Proofs.YtofblkmibghmbaaDoor
end Go.Proofs.YtofblkmibghmbaaDoor
