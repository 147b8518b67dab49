/-
  Layer 18: the law's function FrameStacks returns true.
  Conditions: the numbers, and the words, lie in memory as told.
-/
import Derived.Test.YtlccbaemcfjdoaaZX18
import Derived.Test.YtlccbaemcfjdoaaZC40
import Derived.Test.YtlccbaemcfjdoaaZW14
set_option linter.unusedVariables false
set_option linter.unusedSimpArgs false
namespace Go.Proofs.Ytlccbaemcfjdoaa
open Go.RowKit
section
variable {w0 : World} {p : List Fnc} {P : Option Addr} {cap g b : Nat} {lo : Int} {mem : List Int} {xs : List Frm} {FA TA : Option Addr} {fc tc : Nat}
end
end Go.Proofs.Ytlccbaemcfjdoaa
