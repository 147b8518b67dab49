/-
  Layer 2: texts of numbers, the program's and the document's.
  Conditions: the tables of the host's library read as the program's text lays them.
-/
import Derived.Test.YtofblkmibghmbaaDoorZT2
import Derived.Lib.AppendIntMem
import Derived.Lib.ItoaLen
set_option linter.unusedVariables false
set_option linter.unusedSimpArgs false
set_option maxRecDepth 100000
set_option exponentiation.threshold 3000
namespace Go.Proofs.YtofblkmibghmbaaDoor
open Go.RowKit Ieee
section
variable {w : World}
theorem gives78 (ht : Tabs w) {n : Int} (h0 : -9223372036854775808 ≤ n) (h1 : n ≤ 9223372036854775807) : Gives Tryd.prog 78 [.int .i64 n] w (.string (bstr (Lib.itoa n))) := by
  refine (Tryd.strconv_Itoa n h0 h1 w ht.ten).mono ?_
  rintro e w' ⟨rfl, k, os, rfl⟩
  exact ⟨rfl, Lib.below_grow _ _ (Nat.le_refl _) _ _⟩
end
end Go.Proofs.YtofblkmibghmbaaDoor
