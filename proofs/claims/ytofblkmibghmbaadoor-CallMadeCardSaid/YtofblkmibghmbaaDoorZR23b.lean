import Derived.Test.YtofblkmibghmbaaDoorRows
import Derived.Test.YtofblkmibghmbaaDoorZPK17
import Derived.Test.YtofblkmibghmbaaDoorZEngD
import Derived.WalkKit
import Derived.ProofKit
import Derived.OpenShut
import Derived.ChangeOld
import Derived.Below
import Derived.SizedLaws
import Derived.Test.YtofblkmibghmbaaDoorZR23
import Derived.Test.YtofblkmibghmbaaDoorZJ23
/-
  Layer 17: what the arguments' memory says, read as programs.
  Conditions: none.
-/
set_option linter.unusedVariables false
set_option linter.unusedSimpArgs false
set_option maxRecDepth 100000
namespace Go.Proofs.YtofblkmibghmbaaDoor.P17
open Go.ChangeShapes Go.WideShapes Go.ChangeAt Go.RowKit
section
variable {H : Type} {enc : TypeId × Value → H} {w : World} {base : Nat} {spare : Nat → Bool} {held : Bool} {fuel : Nat}
theorem choose_list {α : Type} {n : Nat} {R : Nat → α → Prop} (h : ∀ i, i < n → ∃ x, R i x) : ∃ xs : List α, xs.length = n ∧ ∀ i x, xs[i]? = some x → R i x := by
  induction n with
  | zero => exact ⟨[], rfl, fun i x hx => by simp at hx⟩
  | succ n ih =>
    obtain ⟨xs, hl, hx⟩ := ih fun i hi => h i (by omega)
    obtain ⟨y, hy⟩ := h n (by omega)
    refine ⟨xs ++ [y], by simp [hl], fun i x hi => ?_⟩
    by_cases hin : i < n
    · exact hx i x (by rw [List.getElem?_append_left (by omega)] at hi; exact hi)
    · have := (List.getElem?_eq_some_iff.1 hi).1
      simp [hl] at this
      have hin : i = n := by omega
      subst hin
      rw [List.getElem?_append_right (by omega), hl] at hi
      simp at hi
      subst hi
      exact hy
end
end Go.Proofs.YtofblkmibghmbaaDoor.P17

/-
  Layer 23: arguments read as setups and rows of calls.
  Conditions: none.
-/
set_option linter.unusedVariables false
set_option linter.unusedSimpArgs false
set_option maxRecDepth 100000
namespace Go.Proofs.YtofblkmibghmbaaDoor
open Go.ChangeShapes Go.WideShapes Go.ChangeAt Go.RowKit
section
variable {H : Type} {enc : TypeId × Value → H} {w : World} {base : Nat} {spare : Nat → Bool} {held : Bool} {fuel : Nat}
end
end Go.Proofs.YtofblkmibghmbaaDoor
