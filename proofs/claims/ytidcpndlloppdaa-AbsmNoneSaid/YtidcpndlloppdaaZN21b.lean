import Derived.Test.YtidcpndlloppdaaZM21m
/-
  Layer 21: played; AbsmTrace's function returns true.
  Conditions: the arguments' memory says what their values are.
-/
set_option linter.unusedVariables false
set_option linter.unusedSimpArgs false
set_option maxRecDepth 20000
namespace Go.Proofs.Ytidcpndlloppdaa
open Go.RowKit
section
variable {w w' : World} {n0 B g : Nat} {C : Option Addr} {c : Nat} {p : List Fnc} {m m' : Mach} {F T : Value} {ss : List Sl}
end
section
variable {p : List Fnc} {fn : Fnc} (hr : Rt p) (hf : fnAt p 0 = some fn) (h0 : fn.params = 0)
include hr hf h0
end
end Go.Proofs.Ytidcpndlloppdaa

/-
  Layer 21: AbsmTrace's function returns true.
  Conditions: the arguments' memory says what their values are.
-/
set_option linter.unusedVariables false
set_option linter.unusedSimpArgs false
set_option maxRecDepth 20000
namespace Go.Proofs.Ytidcpndlloppdaa
open Go.RowKit
theorem made_rt {p : List Fnc} (h : MadeOk p) : Rt p := rt_of (by rw [h.check])
section
variable {p : List Fnc} {fn : Fnc} (hr : Rt p) (hf : fnAt p 0 = some fn) (h0 : fn.params = 0)
include hr hf h0
end
end Go.Proofs.Ytidcpndlloppdaa
