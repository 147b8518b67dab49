/-
  Layer 2: the lesser and the greater one, ranks, comparisons: what calls return.
  Conditions: none.
-/
import Derived.Test.YtofblkmibghmbaaDoorZC2
set_option linter.unusedVariables false
set_option linter.unusedSimpArgs false
namespace Go.Proofs.YtofblkmibghmbaaDoor
open Go.RowKit Ieee
section
variable {w : World}
end
end Go.Proofs.YtofblkmibghmbaaDoor
