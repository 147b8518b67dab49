/-
  Layer 18: the law's function FramePuts returns true.
  Conditions: the words lie in memory as told.
-/
import Derived.Test.YtlccbaemcfjdoaaZT18
import Derived.Test.YtlccbaemcfjdoaaZW9
set_option linter.unusedVariables false
set_option linter.unusedSimpArgs false
namespace Go.Proofs.Ytlccbaemcfjdoaa
open Go.RowKit
end Go.Proofs.Ytlccbaemcfjdoaa
