/-
  Layer 18: the law's function FrameReads returns true.
  Conditions: the numbers, and the words, lie in memory as told.
-/
import Derived.Test.YtlccbaemcfjdoaaZN18e
import Derived.Test.YtlccbaemcfjdoaaZW13
import Derived.Laws.CopyRow
import Derived.Laws.IdiomCopy
set_option linter.unusedVariables false
set_option linter.unusedSimpArgs false
namespace Go.Proofs.Ytlccbaemcfjdoaa
open Go.RowKit
theorem owns_of {w : World} {B g n : Nat} {k : IntKind} {e : TypeId} {xs : List Int} (h : OwnI w g k e xs) (hl : xs.length = n) (hb : B ≤ g) (hn : n ≤ maxLen) : w.ownsRow B e 1 (.slice (some ⟨g, 0, none⟩) n n) n (xs.map (.int k)) :=
  ⟨by simp [hl], .inr ⟨g, n, _, rfl, hb, h, Nat.le_refl _, hn, by simp [hl], by rw [List.take_of_length_le]; simp [hl]⟩⟩
section
variable {w0 : World} {p : List Fnc} {P : Option Addr} {cap : Nat}
end
end Go.Proofs.Ytlccbaemcfjdoaa
