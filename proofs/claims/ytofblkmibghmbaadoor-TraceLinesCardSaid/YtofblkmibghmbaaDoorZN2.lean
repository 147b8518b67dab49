/-
  Layer 2: the document's examples; FltAll.
  Conditions: the tables of the host's library read as the program's text lays them.
-/
import Derived.Test.YtofblkmibghmbaaDoorZT2c
import Derived.Test.YtofblkmibghmbaaDoorZVL
set_option linter.unusedVariables false
set_option linter.unusedSimpArgs false
set_option maxRecDepth 100000
set_option exponentiation.threshold 3000
namespace Go.Proofs.YtofblkmibghmbaaDoor
open Go.RowKit Ieee
theorem str_eq {l m : List UInt8} {x : ByteArray} (h : l = m) (hx : bstr m = x) : ((bstr l).toList == x.toList) = true := by rw [h, hx]; exact beq_self_eq_true _
section
variable {w : World}
end
end Go.Proofs.YtofblkmibghmbaaDoor
