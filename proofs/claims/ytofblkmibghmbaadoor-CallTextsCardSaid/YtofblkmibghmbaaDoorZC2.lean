/-
  Layer 2: what the functions on words return.
  Conditions: none.
-/
import Derived.Test.YtofblkmibghmbaaDoorZEngF
import Derived.Test.YtofblkmibghmbaaDoorZF7
import Derived.Test.YtofblkmibghmbaaDoorZVF
set_option linter.unusedVariables false
set_option linter.unusedSimpArgs false
namespace Go.Proofs.YtofblkmibghmbaaDoor
open Go.RowKit Ieee
section
variable {w : World}
end
end Go.Proofs.YtofblkmibghmbaaDoor
