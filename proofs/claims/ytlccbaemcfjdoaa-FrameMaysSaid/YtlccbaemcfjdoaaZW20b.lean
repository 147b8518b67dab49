/-
  Layer 20: rules for calls of walkers; a new walker; what holds of each walker after each step.
  Conditions: none.
-/
import Derived.Test.YtlccbaemcfjdoaaZW20
set_option linter.unusedVariables false
set_option linter.unusedSimpArgs false
namespace Go.Proofs.Ytlccbaemcfjdoaa
open Go.RowKit
end Go.Proofs.Ytlccbaemcfjdoaa
