import Derived.Test.YtidcpndlloppdaaZM29
/-
  Layer 2: the lesser and the greater one, ranks, comparisons: what calls return.
  Conditions: none.
-/
set_option linter.unusedVariables false
set_option linter.unusedSimpArgs false
namespace Go.Proofs.Ytidcpndlloppdaa
open Go.RowKit Ieee
def mnF (a b : Nat) : Nat := if nanw a = true ∨ nanw b = true then NO else if rk b < rk a then b else a
def mxF (a b : Nat) : Nat := if nanw a = true ∨ nanw b = true then NO else if rk a < rk b then b else a
theorem cn_id {a : Nat} (h : ¬ nanw a = true) : cn a = a := by unfold cn; rw [if_neg h]
section
variable {w : World}
theorem gives101 (a b : Nat) : Gives Try.prog 101 [.float .f64 a, .float .f64 b] w (.float .f64 (pickN true .lt a b)) := by
  refine gives_of (V101.sound ?_)
  unfold V101.vc
  exact run_lone (Nat.le_refl _) (lone_min _ _) fun v w' he hv => ⟨_, hv, ret_is he.below rfl⟩
theorem gives102 (a b : Nat) : Gives Try.prog 102 [.float .f64 a, .float .f64 b] w (.float .f64 (pickN false .gt a b)) := by
  refine gives_of (V102.sound ?_)
  unfold V102.vc
  exact run_lone (Nat.le_refl _) (lone_max _ _) fun v w' he hv => ⟨_, hv, ret_is he.below rfl⟩
theorem ext_vc {g : Nat} {f : Nat → Nat → Nat} {F : Nat → Nat → Nat} (hg : ∀ (a b : Nat) (w : World), Gives Try.prog g [.float .f64 a, .float .f64 b] w (.float .f64 (f a b))) {a b : Nat}
    (hF : (nanw a = true ∨ nanw b = true → F a b = NO) ∧ (¬ nanw a = true → ¬ nanw b = true → cn (f a b) = F a b)) :
    CallK Try.prog 36 [.int .u64 (a : Int)] w.heap.size w [] fun v w_1 => ∃ x10 : Nat, v = .float .f64 x10 ∧ CallK Try.prog 36 [.int .u64 (b : Int)] w.heap.size w_1 [] fun v_1 w_2 => ∃ x12 : Nat, v_1 = .float .f64 x12 ∧
      CallK Try.prog 50 [.float .f64 x10] w.heap.size w_2 [] fun v_2 w_3 => ∃ b14 : Bool, v_2 = .bool b14 ∧
      if b14 = false
      then (CallK Try.prog 50 [.float .f64 x12] w.heap.size w_3 [] fun v_3 w_4 => ∃ b17 : Bool, v_3 = .bool b17 ∧
        if b17 = true
        then (Ret w.heap.size w_4 (IsV w (.int .u64 (F a b : Nat)) (.int .u64 9221120237041090560)))
        else (CallK Try.prog g [.float .f64 x10, .float .f64 x12] w.heap.size w_4 [] fun v_4 w_5 => ∃ x22 : Nat, v_4 = .float .f64 x22 ∧
          CallK Try.prog 32 [.float .f64 x22] w.heap.size w_5 [] fun v_5 w_6 => ∃ x23 : Int, v_5 = .int .u64 x23 ∧ Ret w.heap.size w_6 (IsV w (.int .u64 (F a b : Nat)) (.int .u64 x23))))
      else (Ret w.heap.size w_3 (IsV w (.int .u64 (F a b : Nat)) (.int .u64 9221120237041090560))) := by
  refine call_gives (Below.refl _ _) (fun _ _ _ => gives36 a) fun w1 _ h1 => ⟨_, rfl, ?_⟩
  refine call_gives h1 (fun _ _ _ => gives36 b) fun w2 _ h2 => ⟨_, rfl, ?_⟩
  refine call_gives h2 (fun _ _ _ => gives50 a) fun w3 _ h3 => ⟨_, rfl, ?_⟩
  split
  · rename_i na
    refine call_gives h3 (fun _ _ _ => gives50 b) fun w4 _ h4 => ⟨_, rfl, ?_⟩
    split
    · rename_i nb
      exact ret_is h4 (by rw [hF.1 (.inr nb)]; rfl)
    · rename_i nb
      refine call_gives h4 (fun _ _ _ => hg a b _) fun w5 _ h5 => ⟨_, rfl, ?_⟩
      refine call_gives h5 (fun _ _ _ => gives32 _) fun w6 _ h6 => ⟨_, rfl, ret_is h6 ?_⟩
      rw [hF.2 (by rw [na]; decide) nb]
  · rename_i na
    exact ret_is h3 (by rw [hF.1 (.inl (by simpa using na))]; rfl)
theorem gives92 {a b : Nat} (ha : a < 2 * SW) (hb : b < 2 * SW) : Gives Try.prog 92 [.int .u64 (a : Int), .int .u64 (b : Int)] w (.int .u64 (mnF a b : Nat)) := by
  refine gives_of (V92.sound ?_)
  unfold V92.vc
  refine call_gives (v := .int .u64 (mnF a b : Nat)) (Below.refl _ _) (fun w1 _ _ => gives_of (V100a.sound (ext_vc (g := 101) (f := pickN true .lt) (F := mnF) (fun a b _ => gives101 a b) ⟨fun h => by unfold mnF; rw [if_pos h], fun na nb => ?_⟩))) fun w1 _ h1 => ⟨_, rfl, ret_is h1 rfl⟩
  rw [min_law ha hb (by simpa using na) (by simpa using nb)]
  have e : mnF a b = if rk b < rk a then b else a := by unfold mnF; rw [if_neg (fun h => by rcases h with h | h; exact na h; exact nb h)]
  rw [e]
  split
  · exact cn_id nb
  · exact cn_id na
theorem gives93 {a b : Nat} (ha : a < 2 * SW) (hb : b < 2 * SW) : Gives Try.prog 93 [.int .u64 (a : Int), .int .u64 (b : Int)] w (.int .u64 (mxF a b : Nat)) := by
  refine gives_of (V93.sound ?_)
  unfold V93.vc
  refine call_gives (v := .int .u64 (mxF a b : Nat)) (Below.refl _ _) (fun w1 _ _ => gives_of (V100b.sound (ext_vc (g := 102) (f := pickN false .gt) (F := mxF) (fun a b _ => gives102 a b) ⟨fun h => by unfold mxF; rw [if_pos h], fun na nb => ?_⟩))) fun w1 _ h1 => ⟨_, rfl, ret_is h1 rfl⟩
  rw [max_law ha hb (by simpa using na) (by simpa using nb)]
  have e : mxF a b = if rk a < rk b then b else a := by unfold mxF; rw [if_neg (fun h => by rcases h with h | h; exact na h; exact nb h)]
  rw [e]
  split
  · exact cn_id nb
  · exact cn_id na
def ltF (a b : Nat) : Bool := double.order a b == some .lt
def eqF (a b : Nat) : Bool := double.order a b == some .eq
theorem cmp_vc {f : Nat} (hf : ∀ (a : Nat) (w : World), Gives Try.prog f [.int .u64 (a : Int)] w (.float .f64 a)) (a b : Nat) (F : Nat → Nat → Bool) :
    CallK Try.prog f [.int .u64 (a : Int)] w.heap.size w [] fun v w_1 => ∃ x6 : Nat, v = .float .f64 x6 ∧ CallK Try.prog f [.int .u64 (b : Int)] w.heap.size w_1 [] fun v_1 w_2 => ∃ x8 : Nat, v_1 = .float .f64 x8 ∧
      Ret w.heap.size w_2 (IsV w (.bool (F a b)) (.bool (F x6 x8))) := by
  refine call_gives (Below.refl _ _) (fun _ _ _ => hf a _) fun w1 _ h1 => ⟨_, rfl, ?_⟩
  refine call_gives h1 (fun _ _ _ => hf b _) fun w2 _ h2 => ⟨_, rfl, ret_is h2 rfl⟩
theorem gives95 (a b : Nat) : Gives Try.prog 95 [.int .u64 (a : Int), .int .u64 (b : Int)] w (.bool (ltF a b)) := gives_of (V95.sound (cmp_vc (fun a _ => gives36 a) a b ltF))
theorem gives96 (a b : Nat) : Gives Try.prog 96 [.int .u64 (a : Int), .int .u64 (b : Int)] w (.bool (eqF a b)) := gives_of (V96.sound (cmp_vc (fun a _ => gives36 a) a b eqF))
def trF (a : Nat) : Bool := decide (rg a ≠ 0)
theorem eq_zero (a : Nat) : (double.order a 0 == some Ordering.eq) = decide (rg a = 0) := by
  rw [eq_order]
  have h0 : nanw 0 = false := by decide
  have h1 : sr 0 = 0 := by decide
  rw [h0, h1]
  by_cases h : nanw a = true
  · rw [h]
    have : ¬ rg a = 0 := by unfold nanw IR at h; simp at h; omega
    simp [this]
  · have h : nanw a = false := by simpa using h
    rw [h]
    simp only [Bool.not_false, Bool.true_and]
    refine decide_eq_decide.2 ?_
    unfold sr sgn
    split <;> omega
theorem gives68 (a : Nat) : Gives Try.prog 68 [.int .u64 (a : Int)] w (.bool (trF a)) := by
  refine gives_of (V68.sound ?_)
  unfold V68.vc
  refine call_gives (Below.refl _ _) (fun _ _ _ => gives36 a) fun w1 _ h1 => ⟨_, rfl, ret_is h1 (congrArg Value.bool ?_)⟩
  show (!(double.order a 0 == some Ordering.eq)) = _
  rw [eq_zero]; unfold trF
  by_cases h : rg a = 0 <;> simp [h]
end
end Go.Proofs.Ytidcpndlloppdaa
