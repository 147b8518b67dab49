import Derived.Test.YtofblkmibghmbaaDoorZC2
/-
  Layer 2: the lesser and the greater one, ranks, comparisons: what calls return.
  Conditions: none.
-/
set_option linter.unusedVariables false
set_option linter.unusedSimpArgs false
namespace Go.Proofs.YtofblkmibghmbaaDoor
open Go.RowKit Ieee
section
variable {w : World}
def eqF (a b : Nat) : Bool := double.order a b == some .eq
theorem cmp_vc {f : Nat} (hf : ∀ (a : Nat) (w : World), Gives Tryd.prog f [.int .u64 (a : Int)] w (.float .f64 a)) (a b : Nat) (F : Nat → Nat → Bool) :
    CallK Tryd.prog f [.int .u64 (a : Int)] w.heap.size w [] fun v w_1 => ∃ x6 : Nat, v = .float .f64 x6 ∧ CallK Tryd.prog f [.int .u64 (b : Int)] w.heap.size w_1 [] fun v_1 w_2 => ∃ x8 : Nat, v_1 = .float .f64 x8 ∧
      Ret w.heap.size w_2 (IsV w (.bool (F a b)) (.bool (F x6 x8))) := by
  refine call_gives (Below.refl _ _) (fun _ _ _ => hf a _) fun w1 _ h1 => ⟨_, rfl, ?_⟩
  refine call_gives h1 (fun _ _ _ => hf b _) fun w2 _ h2 => ⟨_, rfl, ret_is h2 rfl⟩
theorem gives29 (a b : Nat) : Gives Tryd.prog 29 [.int .u64 (a : Int), .int .u64 (b : Int)] w (.bool (eqF a b)) := gives_of (V29.sound (cmp_vc (fun a _ => gives24 a) a b eqF))
def trF (a : Nat) : Bool := decide (rg a ≠ 0)
theorem eq_zero (a : Nat) : (double.order a 0 == some Ordering.eq) = decide (rg a = 0) := by
  rw [eq_order]
  have h0 : nanw 0 = false := by decide
  have h1 : sr 0 = 0 := by decide
  rw [h0, h1]
  by_cases h : nanw a = true
  · rw [h]
    have : ¬ rg a = 0 := by unfold nanw IR at h; simp at h; omega
    simp [this]
  · have h : nanw a = false := by simpa using h
    rw [h]
    simp only [Bool.not_false, Bool.true_and]
    refine decide_eq_decide.2 ?_
    unfold sr sgn
    split <;> omega
theorem gives28 (a : Nat) : Gives Tryd.prog 28 [.int .u64 (a : Int)] w (.bool (trF a)) := by
  refine gives_of (V28.sound ?_)
  unfold V28.vc
  refine call_gives (Below.refl _ _) (fun _ _ _ => gives24 a) fun w1 _ h1 => ⟨_, rfl, ret_is h1 (congrArg Value.bool ?_)⟩
  show (!(double.order a 0 == some Ordering.eq)) = _
  rw [eq_zero]; unfold trF
  by_cases h : rg a = 0 <;> simp [h]
end
end Go.Proofs.YtofblkmibghmbaaDoor
