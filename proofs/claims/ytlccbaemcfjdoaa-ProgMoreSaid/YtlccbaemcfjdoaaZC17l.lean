/-
  Layer 17: the law's function ProgWays returns true.
  Conditions: the arguments' memory says what their values are.
-/
import Derived.Test.YtlccbaemcfjdoaaZC17j
import Derived.Test.YtlccbaemcfjdoaaZVL
set_option linter.unusedVariables false
set_option linter.unusedSimpArgs false
set_option maxRecDepth 100000
namespace Go.Proofs.Ytlccbaemcfjdoaa
open Go.RowKit
def BoolE : World → Addr → Bool → Prop := fun w a b => w.cell? a = some (.bool b)
theorem BoolE.kept : Kept1 BoolE := fun _ _ _ _ hw h => hw _ _ h
end Go.Proofs.Ytlccbaemcfjdoaa
