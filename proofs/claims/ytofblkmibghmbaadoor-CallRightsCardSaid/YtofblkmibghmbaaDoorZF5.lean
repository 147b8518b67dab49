/-
  Layer 2: the lesser and the greater one, ranks, noughts, one word for what is no number.
  Conditions: none.
-/
import Derived.Test.YtofblkmibghmbaaDoorZF4
set_option linter.unusedVariables false
set_option linter.unusedSimpArgs false
set_option exponentiation.threshold 3000
set_option maxRecDepth 20000
namespace Go.Proofs.YtofblkmibghmbaaDoor
open Ieee
def NO : Nat := 9221120237041090560
def nanw (w : Nat) : Bool := decide (IR < rg w)
def cn (w : Nat) : Nat := if nanw w = true then NO else w
def pickN (neg : Bool) (win : Ordering) (x y : Nat) : Nat :=
  if (double.read x == .infinity neg || double.read y == .infinity neg) = true then double.write (.infinity neg)
  else if ((double.read x).isNaN || (double.read y).isNaN) = true then 9221120237041090561
  else if ((double.read x).isZero && (double.read y).isZero) = true then (if (double.read x).neg == neg then x else y)
  else if ((double.read x).order (double.read y) == some win) = true then x else y
theorem cmp_eq (a b : Int) : (compare a b == Ordering.eq) = decide (a = b) := by
  simp only [compare, compareOfLessAndEq]
  split
  · rename_i h; simp; omega
  · rename_i h; split
    · rename_i k; simp [k]
    · rename_i k; simp [k]
theorem nan_le {w : Nat} (h : nanw w = false) : rg w ≤ IR := by unfold nanw at h; simpa using h
theorem eq_order (x y : Nat) : (double.order x y == some Ordering.eq) = (!nanw x && !nanw y && decide (sr x = sr y)) := by
  cases hx : nanw x
  · cases hy : nanw y
    · rw [order_eq (nan_le hx) (nan_le hy)]
      simpa using cmp_eq (sr x) (sr y)
    · rw [order_nan (.inr (by unfold nanw at hy; simpa using hy))]; rfl
  · rw [order_nan (.inl (by unfold nanw at hx; simpa using hx))]; rfl
end Go.Proofs.YtofblkmibghmbaaDoor
