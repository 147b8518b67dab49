/-
  Layer 18: the law's function FrameNone returns true.
  Conditions: the numbers, and the words, lie in memory as told.
-/
import Derived.Test.YtlccbaemcfjdoaaZX18
import Derived.Test.YtlccbaemcfjdoaaZW15
import Derived.Test.YtlccbaemcfjdoaaZWF
set_option linter.unusedVariables false
set_option linter.unusedSimpArgs false
namespace Go.Proofs.Ytlccbaemcfjdoaa
open Go.RowKit
theorem gives105n (w : World) (at_ n : Int) : Gives Try.prog 105 [.pointer none, .int .i64 at_, .int .i64 n] w (.tuple ⟨[.slice none 0 0, .int .i64 2]⟩) := gives_of (V105n.sound (ret_is (Below.refl _ _) rfl))
end Go.Proofs.Ytlccbaemcfjdoaa
