/-
  Layer 1 of the document's answer: rows of numbers held against one another.
  Conditions: the arguments' memory says what their values are.
-/
import Derived.Test.YtlccbaemcfjdoaaZEngD
import Derived.Test.YtlccbaemcfjdoaaZVQ
set_option linter.unusedVariables false
set_option linter.unusedSimpArgs false
namespace Go.Proofs.Ytlccbaemcfjdoaa
open Go.RowKit
end Go.Proofs.Ytlccbaemcfjdoaa
