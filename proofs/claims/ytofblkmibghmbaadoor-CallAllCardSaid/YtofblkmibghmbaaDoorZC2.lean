/-
  Layer 2: what the functions on words return.
  Conditions: none.
-/
import Derived.Test.YtofblkmibghmbaaDoorZEngF
import Derived.Test.YtofblkmibghmbaaDoorZF7
import Derived.Test.YtofblkmibghmbaaDoorZVF
set_option linter.unusedVariables false
set_option linter.unusedSimpArgs false
namespace Go.Proofs.YtofblkmibghmbaaDoor
open Go.RowKit Ieee
theorem wrapu {n : Nat} (h : n < 2 * SW) : IntKind.wrap .u64 (n : Int) = n := by
  have e : ∀ m : Int, IntKind.wrap .u64 m = m % 18446744073709551616 := fun m => by simp [IntKind.wrap, IntKind.bits, IntKind.signed]
  rw [e]; unfold SW at h; omega
section
variable {w : World}
end
end Go.Proofs.YtofblkmibghmbaaDoor
