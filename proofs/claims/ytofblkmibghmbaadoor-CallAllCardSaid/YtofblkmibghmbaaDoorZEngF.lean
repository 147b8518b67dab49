/-
  Rules for operations on floats, and for functions of the host's library.
  Conditions: none.
-/
import Derived.Test.YtofblkmibghmbaaDoorZEngD
import Derived.Test.YtofblkmibghmbaaDoorZF6
set_option linter.unusedVariables false
set_option linter.unusedSimpArgs false
namespace Go.Proofs.YtofblkmibghmbaaDoor
open Ieee Go.RowKit
end Go.Proofs.YtofblkmibghmbaaDoor
