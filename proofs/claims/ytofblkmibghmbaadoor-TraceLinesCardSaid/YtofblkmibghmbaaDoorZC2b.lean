/-
  Layer 2: the lesser and the greater one, ranks, comparisons: what calls return.
  Conditions: none.
-/
import Derived.Test.YtofblkmibghmbaaDoorZC2
set_option linter.unusedVariables false
set_option linter.unusedSimpArgs false
namespace Go.Proofs.YtofblkmibghmbaaDoor
open Go.RowKit Ieee
section
variable {w : World}
theorem eq_zero (a : Nat) : (double.order a 0 == some Ordering.eq) = decide (rg a = 0) := by
  rw [eq_order]
  have h0 : nanw 0 = false := by decide
  have h1 : sr 0 = 0 := by decide
  rw [h0, h1]
  by_cases h : nanw a = true
  · rw [h]
    have : ¬ rg a = 0 := by unfold nanw IR at h; simp at h; omega
    simp [this]
  · have h : nanw a = false := by simpa using h
    rw [h]
    simp only [Bool.not_false, Bool.true_and]
    refine decide_eq_decide.2 ?_
    unfold sr sgn
    split <;> omega
end
end Go.Proofs.YtofblkmibghmbaaDoor
