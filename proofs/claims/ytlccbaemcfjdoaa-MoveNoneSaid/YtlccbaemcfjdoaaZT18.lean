/-
  Layer 18: frames held against frames; the document's example.
  Conditions: the frames lie in memory as told.
-/
import Derived.Test.YtlccbaemcfjdoaaZD18
set_option linter.unusedVariables false
set_option linter.unusedSimpArgs false
namespace Go.Proofs.Ytlccbaemcfjdoaa
open Go.RowKit
def oneF : Fnc := ⟨0, 1, 0, [⟨3, 0, 0⟩, ⟨18, 0, 0⟩]⟩
def OneQ (w1 : World) : Value → World → Prop := fun u w2 => ∃ C c, u = .agg ⟨[.slice C 1 c]⟩ ∧ ProgAt (newW w1.heap.size w2) C 1 [oneF]
theorem one_sized : Sized [oneF] := fun f hf => by
  simp at hf; subst hf; rfl
end Go.Proofs.Ytlccbaemcfjdoaa
