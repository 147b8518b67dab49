/-
  Layer 18: the law's function FramePuts returns true.
  Conditions: the words lie in memory as told.
-/
import Derived.Test.YtlccbaemcfjdoaaZT18
import Derived.Test.YtlccbaemcfjdoaaZW9
set_option linter.unusedVariables false
set_option linter.unusedSimpArgs false
namespace Go.Proofs.Ytlccbaemcfjdoaa
open Go.RowKit
theorem own_words {w : World} {m : Nat} {mem : List Int} {n : Nat} (h : OwnI w m .u64 51 mem) (hw : Wd mem) (hl : mem.length = n) (hn : n ≤ 16384) : WordsAt w (some ⟨m, 0, none⟩) n n mem := by
  subst hl
  exact ⟨h.nums (by simp only [maxLen]; omega), hw, Nat.le_refl _, by omega⟩
theorem ownws_words {w : World} {B : Nat} {v : Value} {xs : List Int} (h : OwnWs w B v xs) (hw : Wd xs) (hl : xs.length ≤ 1000000000) : ∃ A c, v = .slice A xs.length c ∧ WordsAt w A xs.length c xs ∧ ∀ p, A = some p → B ≤ p.block := by
  obtain ⟨A, c, hv, hn, hb⟩ := ownws_nums h (by omega)
  subst hv
  exact ⟨A, c, rfl, ⟨hn, hw, (owns_cap h).2, hl⟩, hb⟩
end Go.Proofs.Ytlccbaemcfjdoaa
