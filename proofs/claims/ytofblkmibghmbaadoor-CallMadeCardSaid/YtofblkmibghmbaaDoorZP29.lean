import Derived.Test.YtofblkmibghmbaaDoorZN2g
import Derived.Test.YtofblkmibghmbaaDoorZT2d
import Derived.Test.YtofblkmibghmbaaDoorZVE
/-
  Layer 2: FltWhole.
  Conditions: the tables of the host's library read as the program's text lays them.
-/
set_option linter.unusedVariables false
set_option linter.unusedSimpArgs false
set_option maxRecDepth 100000
set_option exponentiation.threshold 3000
namespace Go.Proofs.YtofblkmibghmbaaDoor
open Go.RowKit Ieee
set_option maxHeartbeats 1000000
section
variable {w : World}
end
end Go.Proofs.YtofblkmibghmbaaDoor

/-
  Layer 2: bounds of narrow numbers.
  Conditions: none.
-/
set_option linter.unusedVariables false
namespace Go.Proofs.YtofblkmibghmbaaDoor
end Go.Proofs.YtofblkmibghmbaaDoor

/-
  Layer 29, plain: texts of traces, one trace ahead of another, traces by numbers.
  Conditions: none.
-/
set_option linter.unusedVariables false
set_option linter.unusedSimpArgs false
set_option maxRecDepth 20000
namespace Go.Proofs.YtofblkmibghmbaaDoor
open Ieee
structure Mk where
  k : Int
  w : Nat
end Go.Proofs.YtofblkmibghmbaaDoor
