import Derived.Test.YtofblkmibghmbaaDoorZPC17e
/-
  The reference's function that reckons depths returns what the plain rule tells.
  Conditions: the arguments' memory says what their values are; jumps do not go below nought; few numbers are handed.
-/
set_option linter.unusedVariables false
set_option linter.unusedSimpArgs false
namespace Go.Proofs.YtofblkmibghmbaaDoor.P17
open Go.RowKit
section
variable {w0 : World} {Q : Value → World → Prop} {g n dC np cP q2 q3 : Nat} {A0 : Option Addr} {f3 f3_1 f3_2 : Int} {C : Option Addr} {cC : Nat}
abbrev T1 : Type := Option Addr → Nat → Nat → Bool → Nat → Int → Int → Int → Option Addr → Nat → Nat → Nat → Option Addr → Nat → Nat → World → Prop
end
end Go.Proofs.YtofblkmibghmbaaDoor.P17

/-
  Layer 17: checks and depths, the program's and the reference's, return what one plain rule tells.
  Conditions: the arguments' memory says what their values are.
-/
set_option linter.unusedVariables false
set_option linter.unusedSimpArgs false
namespace Go.Proofs.YtofblkmibghmbaaDoor.P17
open Go.RowKit
section
variable {w0 : World} {Q : Value → World → Prop} {g cC np cP q2 q3 : Nat} {C A0 : Option Addr} {p : List Fnc} {xs : List Ins} {f3 f3_1 f3_2 : Int}
end
end Go.Proofs.YtofblkmibghmbaaDoor.P17
