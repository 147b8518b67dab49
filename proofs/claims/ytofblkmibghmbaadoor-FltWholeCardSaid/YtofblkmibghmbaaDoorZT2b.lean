/-
  Layer 2: texts of numbers, the program's and the document's.
  Conditions: the tables of the host's library read as the program's text lays them.
-/
import Derived.Test.YtofblkmibghmbaaDoorZT2
import Derived.Lib.AppendIntMem
import Derived.Lib.ItoaLen
set_option linter.unusedVariables false
set_option linter.unusedSimpArgs false
set_option maxRecDepth 100000
set_option exponentiation.threshold 3000
namespace Go.Proofs.YtofblkmibghmbaaDoor
open Go.RowKit Ieee
section
variable {w : World}
theorem gives78 (ht : Tabs w) {n : Int} (h0 : -9223372036854775808 ≤ n) (h1 : n ≤ 9223372036854775807) : Gives Tryd.prog 78 [.int .i64 n] w (.string (bstr (Lib.itoa n))) := by
  refine (Tryd.strconv_Itoa n h0 h1 w ht.ten).mono ?_
  rintro e w' ⟨rfl, k, os, rfl⟩
  exact ⟨rfl, Lib.below_grow _ _ (Nat.le_refl _) _ _⟩
theorem gt_order (x y : Nat) : (double.order x y == some Ordering.gt) = (!nanw x && !nanw y && decide (sr y < sr x)) := by
  cases hx : nanw x
  · cases hy : nanw y
    · rw [order_eq (nan_le hx) (nan_le hy)]
      simpa using cmp_gt (sr x) (sr y)
    · rw [order_nan (.inr (by unfold nanw at hy; simpa using hy))]; rfl
  · rw [order_nan (.inl (by unfold nanw at hx; simpa using hx))]; rfl
theorem word_cases {a : Nat} (h : a < 2 * SW) : (ngw a = false ∧ a = rg a ∧ sr a = rg a) ∨ (ngw a = true ∧ a = SW + rg a ∧ sr a = -(rg a : Int)) := by
  have h2 := wd_self h
  rw [wd_eq] at h2
  unfold sr sgn
  cases hn : ngw a <;> rw [hn] at h2 <;> simp only [if_true, Bool.false_eq_true, if_false] at h2 ⊢
  · exact .inl ⟨trivial, h2.symm, trivial⟩
  · exact .inr ⟨trivial, h2.symm, trivial⟩
theorem max_facts : nanw 9218868437227405311 = false ∧ sr 9218868437227405311 = 9218868437227405311 := by decide
theorem gives74p {a : Nat} (ha : a < 2 * SW) (hn : nanw a = false) : Gives Tryd.prog 74 [.float .f64 a, .int .i64 1] w (.bool (decide (a = IR))) := by
  refine gives_of (V74.sound ?_)
  unfold V74.vc
  rw [if_neg (by decide), if_neg (by decide)]
  refine ret_is (Below.refl _ _) (congrArg Value.bool ?_)
  show (double.order a 9218868437227405311 == some Ordering.gt) = _
  rw [gt_order, hn, max_facts.1, max_facts.2]
  have h1 := nan_le hn
  simp only [Bool.not_false, Bool.true_and]
  refine decide_eq_decide.2 ?_
  unfold IR at *
  unfold SW at *
  rcases word_cases (by unfold SW; exact ha) with ⟨_, h2, h3⟩ | ⟨_, h2, h3⟩ <;> rw [h3] <;> (try unfold SW at h2) <;> omega
theorem gives74m {a : Nat} (ha : a < 2 * SW) (hn : nanw a = false) : Gives Tryd.prog 74 [.float .f64 a, .int .i64 (-1)] w (.bool (decide (a = SW + IR))) := by
  refine gives_of (V74.sound ?_)
  unfold V74.vc
  rw [if_neg (by decide), if_pos (by decide)]
  refine ret_is (Below.refl _ _) (congrArg Value.bool ?_)
  show (double.order (a ^^^ SW) 9218868437227405311 == some Ordering.gt) = _
  have hx := neg_ng ha
  have hn2 : nanw (a ^^^ SW) = false := by unfold nanw at *; rw [hx.2]; exact hn
  have hs : sr (a ^^^ SW) = -(sr a) := by
    unfold sr sgn; rw [hx.1, hx.2]; cases ngw a <;> simp
  rw [gt_order, hn2, max_facts.1, max_facts.2, hs]
  have h1 := nan_le hn
  simp only [Bool.not_false, Bool.true_and]
  refine decide_eq_decide.2 ?_
  have hw := word_cases ha
  unfold IR at *
  unfold SW at *
  rcases hw with ⟨_, h2, h3⟩ | ⟨_, h2, h3⟩ <;> rw [h3] <;> omega
theorem gives75 {a : Nat} (ha : a < 2 * SW) : Gives Tryd.prog 75 [.float .f64 a] w (.bool (decide (SW ≤ a))) := by
  refine gives_of (V75.sound ?_)
  unfold V75.vc
  refine run_lone (Nat.le_refl _) (lone_bits _) fun v w' he hv => ⟨_, hv, ret_is he.below (congrArg Value.bool (decide_eq_decide.2 ?_))⟩
  rw [IntKind.wrap_i64]
  unfold SW at *
  omega
theorem gives77 {a : Nat} (ha : a < 2 * SW) : Gives Tryd.prog 77 [.float .f64 a] w (.float .f64 (rg a)) := by
  refine gives_of (V77.sound ?_)
  unfold V77.vc
  refine run_lone (Nat.le_refl _) (lone_bits _) fun v w1 h1 hv => ⟨_, hv, ?_⟩
  rw [b_andnot ha]
  exact run_lone h1.size (lone_from _) fun v w2 h2 hv => ⟨_, hv, ret_is (h2.after h1.below) rfl⟩
theorem gives76 {a : Nat} (hn : nanw a = false) : Gives Tryd.prog 76 [.float .f64 a] w (.float .f64 (trc a)) := by
  refine gives_of (V76.sound ?_)
  unfold V76.vc
  exact run_lone (Nat.le_refl _) (lone_trunc _ a (by rw [hn]; decide)) fun v w1 h1 hv => ⟨_, hv, ret_is h1.below rfl⟩
end
end Go.Proofs.YtofblkmibghmbaaDoor
