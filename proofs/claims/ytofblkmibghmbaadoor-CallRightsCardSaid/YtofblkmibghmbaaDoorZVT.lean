/-
  What the engine makes of the loaded functions 19, 34, 84, 21, 37, 79, 167, 168, 180: conditions under which a call returns as told, and proofs of that.
  Conditions: none. Printed by a program of this project.
-/
import Derived.Test.YtofblkmibghmbaaDoorZVF
set_option linter.unusedVariables false
set_option maxRecDepth 100000
namespace Go.Proofs.YtofblkmibghmbaaDoor
end Go.Proofs.YtofblkmibghmbaaDoor
