/-
  Layer 2: bounds of narrow numbers.
  Conditions: none.
-/
import Derived.Test.YtofblkmibghmbaaDoorZR2
import Derived.Test.YtofblkmibghmbaaDoorZN2h
set_option linter.unusedVariables false
namespace Go.Proofs.YtofblkmibghmbaaDoor
theorem i32_bd {x : Int} (h : (Lit.int .i32 x).wf = true) : -2147483648 ≤ x ∧ x ≤ 2147483647 := by
  simpa [Lit.wf, IntKind.min, IntKind.max, IntKind.bits, IntKind.signed] using h
theorem i16_bd {x : Int} (h : (Lit.int .i16 x).wf = true) : -32768 ≤ x ∧ x ≤ 32767 := by
  simpa [Lit.wf, IntKind.min, IntKind.max, IntKind.bits, IntKind.signed] using h
end Go.Proofs.YtofblkmibghmbaaDoor
