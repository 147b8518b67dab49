/-
  Layer 18: the law's function FramePuts returns true.
  Conditions: the words lie in memory as told.
-/
import Derived.Test.YtlccbaemcfjdoaaZT18
import Derived.Test.YtlccbaemcfjdoaaZW9
set_option linter.unusedVariables false
set_option linter.unusedSimpArgs false
namespace Go.Proofs.Ytlccbaemcfjdoaa
open Go.RowKit
theorem own_words {w : World} {m : Nat} {mem : List Int} {n : Nat} (h : OwnI w m .u64 51 mem) (hw : Wd mem) (hl : mem.length = n) (hn : n ≤ 16384) : WordsAt w (some ⟨m, 0, none⟩) n n mem := by
  subst hl
  exact ⟨h.nums (by simp only [maxLen]; omega), hw, Nat.le_refl _, by omega⟩
end Go.Proofs.Ytlccbaemcfjdoaa
