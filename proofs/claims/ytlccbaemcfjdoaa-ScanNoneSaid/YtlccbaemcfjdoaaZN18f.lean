/-
  Layer 18: the law's function FrameNone returns true.
  Conditions: the numbers, and the words, lie in memory as told.
-/
import Derived.Test.YtlccbaemcfjdoaaZX18
import Derived.Test.YtlccbaemcfjdoaaZW15
import Derived.Test.YtlccbaemcfjdoaaZWF
set_option linter.unusedVariables false
set_option linter.unusedSimpArgs false
namespace Go.Proofs.Ytlccbaemcfjdoaa
open Go.RowKit
theorem gives59n (w : World) (P : Option Addr) (pl pc : Nat) (top : Int) : Gives Try.prog 59 [.pointer none, .agg ⟨[.slice P pl pc]⟩, .int .i64 top] w (.tuple ⟨[.slice none 0 0, .int .i64 2]⟩) := by
  refine gives_of (V59n.sound ?_)
  intro q4 _
  exact ret_is (Below.refl _ _) rfl
end Go.Proofs.Ytlccbaemcfjdoaa
