/-
  What the engine makes of the loaded functions 40: conditions under which a call returns as told, and proofs of that.
  Conditions: none. Printed by a program of this project.
-/
import Derived.Test.YtlccbaemcfjdoaaZEngC
import Derived.Test.YtlccbaemcfjdoaaProg
set_option linter.unusedVariables false
set_option maxRecDepth 100000
namespace Go.Proofs.Ytlccbaemcfjdoaa
theorem mixed : Try.prog.follows .mixedOrders = true := by kernel_rfl
end Go.Proofs.Ytlccbaemcfjdoaa
