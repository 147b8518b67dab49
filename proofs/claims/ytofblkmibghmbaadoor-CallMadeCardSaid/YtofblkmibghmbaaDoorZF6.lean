import Derived.Test.YtofblkmibghmbaaDoorZF1
/-
  Layer 2: what is written exactly; whole numbers as words; floors.
  Conditions: none.
-/
set_option linter.unusedVariables false
set_option linter.unusedSimpArgs false
namespace Go.Proofs.YtofblkmibghmbaaDoor
open Ieee
set_option exponentiation.threshold 2000
end Go.Proofs.YtofblkmibghmbaaDoor

/-
  Layer 2: floors, cuts, sums and products of whole numbers.
  Conditions: none.
-/
set_option linter.unusedVariables false
set_option linter.unusedSimpArgs false
set_option exponentiation.threshold 2000
set_option maxRecDepth 20000
namespace Go.Proofs.YtofblkmibghmbaaDoor
open Ieee
end Go.Proofs.YtofblkmibghmbaaDoor

/-
  Layer 2: products of whole numbers; order of whole numbers; floors against their numbers.
  Conditions: none.
-/
set_option linter.unusedVariables false
set_option linter.unusedSimpArgs false
set_option exponentiation.threshold 3000
set_option maxRecDepth 20000
namespace Go.Proofs.YtofblkmibghmbaaDoor
open Ieee
end Go.Proofs.YtofblkmibghmbaaDoor

/-
  Layer 2: the lesser and the greater one, ranks, noughts, one word for what is no number.
  Conditions: none.
-/
set_option linter.unusedVariables false
set_option linter.unusedSimpArgs false
set_option exponentiation.threshold 3000
set_option maxRecDepth 20000
namespace Go.Proofs.YtofblkmibghmbaaDoor
open Ieee
def NO : Nat := 9221120237041090560
def nanw (w : Nat) : Bool := decide (IR < rg w)
def cn (w : Nat) : Nat := if nanw w = true then NO else w
theorem cmp_eq (a b : Int) : (compare a b == Ordering.eq) = decide (a = b) := by
  simp only [compare, compareOfLessAndEq]
  split
  · rename_i h; simp; omega
  · rename_i h; split
    · rename_i k; simp [k]
    · rename_i k; simp [k]
theorem nan_le {w : Nat} (h : nanw w = false) : rg w ≤ IR := by unfold nanw at h; simpa using h
theorem eq_order (x y : Nat) : (double.order x y == some Ordering.eq) = (!nanw x && !nanw y && decide (sr x = sr y)) := by
  cases hx : nanw x
  · cases hy : nanw y
    · rw [order_eq (nan_le hx) (nan_le hy)]
      simpa using cmp_eq (sr x) (sr y)
    · rw [order_nan (.inr (by unfold nanw at hy; simpa using hy))]; rfl
  · rw [order_nan (.inl (by unfold nanw at hx; simpa using hx))]; rfl
end Go.Proofs.YtofblkmibghmbaaDoor

/-
  Layer 2: which words are whole numbers; floors against their numbers.
  Conditions: none.
-/
set_option linter.unusedVariables false
set_option linter.unusedSimpArgs false
set_option exponentiation.threshold 3000
set_option maxRecDepth 20000
namespace Go.Proofs.YtofblkmibghmbaaDoor
open Ieee
end Go.Proofs.YtofblkmibghmbaaDoor
