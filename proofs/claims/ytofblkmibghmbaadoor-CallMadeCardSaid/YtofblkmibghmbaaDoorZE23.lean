import Derived.Test.YtofblkmibghmbaaDoorZD23
/-
  Layer 23: the document's reading of calls; calls made by numbers; CallAll, CallBack, CallTexts.
  Conditions: the variables of the host's library hold what the program's text lays into them.
-/
set_option linter.unusedVariables false
set_option linter.unusedSimpArgs false
set_option maxRecDepth 100000
namespace Go.Proofs.YtofblkmibghmbaaDoor
open Go.RowKit
end Go.Proofs.YtofblkmibghmbaaDoor
