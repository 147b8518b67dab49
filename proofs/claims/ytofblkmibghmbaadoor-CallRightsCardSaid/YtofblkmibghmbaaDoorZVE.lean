/-
  What the engine makes of the loaded functions e80, e81, e106, e110, e112, e114: conditions under which a call returns as told, and proofs of that.
  Conditions: none. Printed by a program of this project.
-/
import Derived.Test.YtofblkmibghmbaaDoorZEngC
import Derived.Test.YtofblkmibghmbaaDoorProg
set_option linter.unusedVariables false
set_option maxRecDepth 100000
namespace Go.Proofs.YtofblkmibghmbaaDoor
theorem mixed : Tryd.prog.follows .mixedOrders = true := by kernel_rfl
noncomputable def V80.ext : List Value → Sem Value := fun l => Extern.MathFloatBits.float64bits ⟨l⟩
theorem V80.extOk : ExtOk Tryd.prog 80 V80.ext := extOk_of Tryd.func80 (by kernel_rfl) (by kernel_rfl) (by kernel_rfl) (by kernel_rfl)
noncomputable def V81.ext : List Value → Sem Value := fun l => Extern.MathFloatBits.float64frombits ⟨l⟩
theorem V81.extOk : ExtOk Tryd.prog 81 V81.ext := extOk_of Tryd.func81 (by kernel_rfl) (by kernel_rfl) (by kernel_rfl) (by kernel_rfl)
noncomputable def V114.ext : List Value → Sem Value := fun l => Extern.MathDim.pick "math.archMax" false .gt ⟨l⟩
theorem V114.extOk : ExtOk Tryd.prog 114 V114.ext := extOk_of Tryd.func114 (by kernel_rfl) (by kernel_rfl) (by kernel_rfl) (by kernel_rfl)
end Go.Proofs.YtofblkmibghmbaaDoor
