/-
  Layer 2: the lesser and the greater one, ranks, noughts, one word for what is no number.
  Conditions: none.
-/
import Derived.Test.YtofblkmibghmbaaDoorZF4
set_option linter.unusedVariables false
set_option linter.unusedSimpArgs false
set_option exponentiation.threshold 3000
set_option maxRecDepth 20000
namespace Go.Proofs.YtofblkmibghmbaaDoor
open Ieee
def NO : Nat := 9221120237041090560
def nanw (w : Nat) : Bool := decide (IR < rg w)
def cn (w : Nat) : Nat := if nanw w = true then NO else w
def far (op : BinOp) (x y : Nat) : Nat := match floatBits op .f64 x y with
  | some r => cn r
  | none => NO
theorem isNaN_read (w : Nat) : (double.read w).isNaN = nanw w := by
  rw [read_eq]; unfold nanw
  split
  · rename_i h; simp [Datum.isNaN]; omega
  · split
    · rename_i h1 h2; simp [Datum.isNaN]; omega
    · rename_i h1 h2; simp [Datum.isNaN]; omega
def rk (w : Nat) : Nat := if ngw w = true then SW - 1 - rg w else SW + rg w
theorem rk_lt {x y : Nat} (h : nanw x = false) (k : nanw y = false) : rk x < rk y ↔ (sr x < sr y ∨ (ngw x = true ∧ ngw y = false ∧ rg x = 0 ∧ rg y = 0)) := by
  have h1 := rg_lt x
  have h2 := rg_lt y
  unfold rk sr sgn
  cases ngw x <;> cases ngw y <;> simp <;> omega
def pickN (neg : Bool) (win : Ordering) (x y : Nat) : Nat :=
  if (double.read x == .infinity neg || double.read y == .infinity neg) = true then double.write (.infinity neg)
  else if ((double.read x).isNaN || (double.read y).isNaN) = true then 9221120237041090561
  else if ((double.read x).isZero && (double.read y).isZero) = true then (if (double.read x).neg == neg then x else y)
  else if ((double.read x).order (double.read y) == some win) = true then x else y
theorem read_inf_iff (w : Nat) (s : Bool) : (double.read w == Datum.infinity s) = decide (rg w = IR ∧ ngw w = s) := by
  rw [read_eq]
  split
  · rename_i h
    have : ¬ (rg w = IR ∧ ngw w = s) := fun e => by omega
    simp only [this, decide_false]; exact beq_eq_false_iff_ne.2 (by simp)
  · split
    · rename_i h1 h2
      cases hs : ngw w <;> cases s <;> simp [h2]
    · rename_i h1 h2
      have : ¬ (rg w = IR ∧ ngw w = s) := fun e => h2 e.1
      simp only [this, decide_false]; exact beq_eq_false_iff_ne.2 (by simp)
theorem kp_zero (r : Nat) : kp r = 0 ↔ r = 0 := by
  unfold kp
  have := bn_pos
  split <;> omega
theorem isZero_read {w : Nat} : (double.read w).isZero = decide (rg w = 0) := by
  have : 0 < IR := by decide
  rw [read_eq]
  split
  · by_cases h : rg w = 0
    · have : kp (rg w) = 0 := (kp_zero _).2 h
      rw [this]; simp [Datum.isZero, h]
    · have h2 : ¬ kp (rg w) = 0 := fun e => h ((kp_zero _).1 e)
      simp only [h, decide_false]
      generalize kp (rg w) = m at h2
      cases m with
      | zero => exact absurd rfl h2
      | succ m => rfl
  · split
    · have : ¬ rg w = 0 := by omega
      simp [Datum.isZero, this]
    · have : ¬ rg w = 0 := by omega
      simp [Datum.isZero, this]
theorem neg_read' (w : Nat) : (double.read w).neg = ngw w := by
  rw [read_eq]; split
  · rfl
  · split <;> rfl
theorem cmp_lt (a b : Int) : (compare a b == Ordering.lt) = decide (a < b) := by
  simp only [compare, compareOfLessAndEq]
  split
  · rename_i h; simp [h]
  · rename_i h; split <;> simp [h]
theorem cmp_gt (a b : Int) : (compare a b == Ordering.gt) = decide (b < a) := by
  simp only [compare, compareOfLessAndEq]
  split
  · rename_i h; simp; omega
  · rename_i h; split
    · rename_i k; simp; omega
    · rename_i k; simp; omega
theorem cmp_eq (a b : Int) : (compare a b == Ordering.eq) = decide (a = b) := by
  simp only [compare, compareOfLessAndEq]
  split
  · rename_i h; simp; omega
  · rename_i h; split
    · rename_i k; simp [k]
    · rename_i k; simp [k]
theorem nan_le {w : Nat} (h : nanw w = false) : rg w ≤ IR := by unfold nanw at h; simpa using h
theorem lt_order (x y : Nat) : (double.order x y == some Ordering.lt) = (!nanw x && !nanw y && decide (sr x < sr y)) := by
  cases hx : nanw x
  · cases hy : nanw y
    · rw [order_eq (nan_le hx) (nan_le hy)]
      simpa using cmp_lt (sr x) (sr y)
    · rw [order_nan (.inr (by unfold nanw at hy; simpa using hy))]; rfl
  · rw [order_nan (.inl (by unfold nanw at hx; simpa using hx))]; rfl
theorem eq_order (x y : Nat) : (double.order x y == some Ordering.eq) = (!nanw x && !nanw y && decide (sr x = sr y)) := by
  cases hx : nanw x
  · cases hy : nanw y
    · rw [order_eq (nan_le hx) (nan_le hy)]
      simpa using cmp_eq (sr x) (sr y)
    · rw [order_nan (.inr (by unfold nanw at hy; simpa using hy))]; rfl
  · rw [order_nan (.inl (by unfold nanw at hx; simpa using hx))]; rfl
theorem min_law {x y : Nat} (hx : x < 2 * SW) (hy : y < 2 * SW) (h : nanw x = false) (k : nanw y = false) : pickN true .lt x y = if rk y < rk x then y else x := by
  have hI : 0 < IR := by decide
  have h1 := nan_le h
  have h2 := nan_le k
  have e : ∀ a b, (double.read a).order (double.read b) = double.order a b := fun _ _ => rfl
  have iff := rk_lt k h
  unfold pickN
  simp only [read_inf_iff, isNaN_read, isZero_read, neg_read', e, lt_order, h, k]
  have w1 := wd_self hx
  have w2 := wd_self hy
  have hw : double.write (.infinity true) = double.word true IR := by rw [← dbl_inf]; rfl
  rw [hw]
  unfold sr sgn at *
  generalize rg x = r at *
  generalize rg y = s at *
  cases hn : ngw x <;> cases hm : ngw y <;> rw [hn, hm] at iff <;> simp only [hn, hm] at w1 w2 <;> simp at iff ⊢ <;> (repeat' split) <;> first | rfl | omega | skip
  all_goals first | (rw [← w1]; congr 1; omega) | (rw [← w2]; congr 1; omega) | (rw [← w1, ← w2]; congr 1; omega)
theorem max_law {x y : Nat} (hx : x < 2 * SW) (hy : y < 2 * SW) (h : nanw x = false) (k : nanw y = false) : pickN false .gt x y = if rk x < rk y then y else x := by
  have hI : 0 < IR := by decide
  have h1 := nan_le h
  have h2 := nan_le k
  have e : ∀ a b, ((double.read a).order (double.read b) == some Ordering.gt) = ((!nanw a && !nanw b) && decide (sr b < sr a)) := fun a b => by
    show (double.order a b == _) = _
    cases hx : nanw a
    · cases hy : nanw b
      · rw [order_eq (nan_le hx) (nan_le hy)]
        simpa using cmp_gt (sr a) (sr b)
      · rw [order_nan (.inr (by unfold nanw at hy; simpa using hy))]; rfl
    · rw [order_nan (.inl (by unfold nanw at hx; simpa using hx))]; rfl
  have iff := rk_lt h k
  unfold pickN
  simp only [read_inf_iff, isNaN_read, isZero_read, neg_read', e, h, k]
  have w1 := wd_self hx
  have w2 := wd_self hy
  have hw : double.write (.infinity false) = double.word false IR := by rw [← dbl_inf]; rfl
  rw [hw]
  unfold sr sgn at *
  generalize rg x = r at *
  generalize rg y = s at *
  cases hn : ngw x <;> cases hm : ngw y <;> rw [hn, hm] at iff <;> simp only [hn, hm] at w1 w2 <;> simp at iff ⊢ <;> (repeat' split) <;> first | rfl | omega | skip
  all_goals first | (rw [← w1]; congr 1; omega) | (rw [← w2]; congr 1; omega) | (rw [← w1, ← w2]; congr 1; omega)
theorem arith_nan (op : BinOp) {x y : Nat} (h : nanw x = true ∨ nanw y = true) : floatBits op .f64 x y = none := by
  have key : ∀ w, nanw w = true → ∃ s t, double.read w = .nan s t := fun w hw => by
    unfold nanw at hw
    exact ⟨_, _, read_nan (by simpa using hw)⟩
  have q : ∀ d : Datum, d.sum d = d.sum d := fun _ => rfl
  unfold floatBits
  show (match op with
    | .add => double.add x y
    | .sub => double.sub x y
    | .mul => double.mul x y
    | .quo => double.div x y
    | _ => none) = none
  rcases h with h | h
  · obtain ⟨s, t, e⟩ := key _ h
    cases op <;> simp only [Format.add, Format.sub, Format.mul, Format.div, e] <;> rfl
  · obtain ⟨s, t, e⟩ := key _ h
    cases op <;> simp only [Format.add, Format.sub, Format.mul, Format.div, e] <;> cases double.read x <;> rfl
end Go.Proofs.YtofblkmibghmbaaDoor
