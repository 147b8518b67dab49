/-
  Layer 20: a program cloned, in memory of its own.
  Conditions: the program lies in memory as told.
-/
import Derived.Test.YtlccbaemcfjdoaaZX18
import Derived.Test.YtlccbaemcfjdoaaZWH
set_option linter.unusedVariables false
set_option linter.unusedSimpArgs false
namespace Go.Proofs.Ytlccbaemcfjdoaa
open Go.RowKit
section
variable {α σ : Type} (cs : α → σ → List Value)
def flatC : List α → List σ → List Value
  | x :: xs, s :: ss => cs x s ++ flatC xs ss
  | _, _ => []
variable {cs} {sz : Nat} (hsz : ∀ x s, (cs x s).length = sz)
include hsz
end
end Go.Proofs.Ytlccbaemcfjdoaa
