/-
  Layer 18: the law's function FramePuts returns true.
  Conditions: the words lie in memory as told.
-/
import Derived.Test.YtlccbaemcfjdoaaZT18
import Derived.Test.YtlccbaemcfjdoaaZW9
set_option linter.unusedVariables false
set_option linter.unusedSimpArgs false
namespace Go.Proofs.Ytlccbaemcfjdoaa
open Go.RowKit
theorem ownws_words {w : World} {B : Nat} {v : Value} {xs : List Int} (h : OwnWs w B v xs) (hw : Wd xs) (hl : xs.length ≤ 1000000000) : ∃ A c, v = .slice A xs.length c ∧ WordsAt w A xs.length c xs ∧ ∀ p, A = some p → B ≤ p.block := by
  obtain ⟨A, c, hv, hn, hb⟩ := ownws_nums h (by omega)
  subst hv
  exact ⟨A, c, rfl, ⟨hn, hw, (owns_cap h).2, hl⟩, hb⟩
end Go.Proofs.Ytlccbaemcfjdoaa
