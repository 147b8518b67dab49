/-
  Layer 20: the plain law of walkers: what runs of steps read of a chain of frames.
  Conditions: none.
-/
import Derived.Test.YtlccbaemcfjdoaaZA20
set_option linter.unusedVariables false
set_option linter.unusedSimpArgs false
namespace Go.Proofs.Ytlccbaemcfjdoaa
open Go.RowKit
section
variable {p : List Fnc} {mem : List Int}
end
section
variable {p : List Fnc} {mem : List Int}
end
end Go.Proofs.Ytlccbaemcfjdoaa
