/-
  What the engine makes of the loaded functions 20, 22, 23, 24, 25, 26, 27, 28, 29, 30, 31, 32, 33, 35, 36, 38, 39, 40, 41, 42, 43, 44, 45, 46, 47, 48, 49, 50, 51, 52, 53, 73, 74, 75, 76, 77, 82, 83, 86, 87, 85, 85: conditions under which a call returns as told, and proofs of that.
  Conditions: none. Printed by a program of this project.
-/
import Derived.Test.YtofblkmibghmbaaDoorZVE
set_option linter.unusedVariables false
set_option maxRecDepth 100000
namespace Go.Proofs.YtofblkmibghmbaaDoor
end Go.Proofs.YtofblkmibghmbaaDoor
