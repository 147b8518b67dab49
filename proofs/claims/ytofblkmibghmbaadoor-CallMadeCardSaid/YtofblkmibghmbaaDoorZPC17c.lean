import Derived.Test.YtofblkmibghmbaaDoorZPC17b
/-
  The function of layer 17 that reckons depths: what its calls return.
  Conditions: the arguments' memory says what their values are; jumps do not go below nought; few numbers are handed.
-/
set_option linter.unusedVariables false
set_option linter.unusedSimpArgs false
namespace Go.Proofs.YtofblkmibghmbaaDoor.P17
open Go.RowKit
theorem yields123 (at_ : Nat) (op a b : Int) (hat : at_ < maxLen) (w : World) : Yields Tryd.prog 133 [.int .i64 at_, .agg ⟨[.int .i64 op, .int .i64 a, .int .i64 b]⟩] w (FreshNums (nextM at_ op a) w) := by
  refine yields_of (V133.sound ?_)
  intro q3 _
  have hw1 : IntKind.wrap .i64 ((at_ : Int) + 1) = (at_ : Int) + 1 := by rw [wrap_succ hat (Nat.le_refl _)]; rfl
  have nil : ∀ b7 : Bool, b7 = true → (op = 18 ∨ op = 20) → V133.b0 w.heap.size (IsQ w (FreshNums (nextM at_ op a) w)) at_ op b7 q3 op a b w := by
    intro b7 h1 h2
    unfold V133.b0
    rw [if_pos h1]
    refine ret_q (Below.refl _ _) fun w1 h1 => ⟨_, _, _, rfl, ?_, fun p hp => by cases hp⟩
    have : nextM at_ op a = [] := by unfold nextM; rw [if_pos h2]
    rw [this]
    exact nums_nil _ _
  have rest : ∀ b7 : Bool, b7 = false → ¬ (op = 18 ∨ op = 20) → V133.b0 w.heap.size (IsQ w (FreshNums (nextM at_ op a) w)) at_ op b7 q3 op a b w := by
    intro b7 h1 h2
    unfold V133.b0
    rw [if_neg (by simp [h1]), hw1]
    by_cases h15 : op = 15
    · rw [if_pos (by simpa using h15)]
      have hx : nextM at_ op a = [a] := by unfold nextM; rw [if_neg h2, if_pos h15]
      rw [hx]
      exact expo_alloc (Nat.le_refl _) fun wa w' hs he _ ho => fresh_ret (xs := [a]) (Below.refl _ _) hs he ho (by simp)
    · rw [if_neg (by simpa using h15)]
      by_cases h16 : op = 16
      · rw [if_pos (by simpa using h16)]
        have hx : nextM at_ op a = [a, (at_ : Int) + 1] := by unfold nextM; rw [if_neg h2, if_neg h15, if_pos h16]
        rw [hx]
        exact expo_alloc (Nat.le_refl _) fun wa w' hs he _ ho => fresh_ret (xs := [a, (at_ : Int) + 1]) (Below.refl _ _) hs he ho (by simp)
      · rw [if_neg (by simpa using h16)]
        have hx : nextM at_ op a = [(at_ : Int) + 1] := by unfold nextM; rw [if_neg h2, if_neg h15, if_neg h16]
        rw [hx]
        exact expo_alloc (Nat.le_refl _) fun wa w' hs he _ ho => fresh_ret (xs := [(at_ : Int) + 1]) (Below.refl _ _) hs he ho (by simp)
  by_cases h18 : op = 18
  · rw [if_pos (by simpa using h18)]
    exact nil _ (by simpa using h18) (.inl h18)
  · rw [if_neg (by simpa using h18)]
    by_cases h20 : op = 20
    · exact nil _ (by simpa using h20) (.inr h20)
    · exact rest _ (by simpa using h20) (by simp [h18, h20])
end Go.Proofs.YtofblkmibghmbaaDoor.P17
