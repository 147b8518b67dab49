import Derived.Test.YtofblkmibghmbaaDoorZEngG
import Derived.Test.YtofblkmibghmbaaDoorZC2b
import Derived.Test.YtofblkmibghmbaaDoorZVU
import Derived.Test.YtofblkmibghmbaaDoorZShF
import Derived.Lib.AppendIntMem
import Derived.Lib.ItoaLen
/-
  Layer 2: hex digits: what the host's formatter returns.
  Conditions: the table of the host's library reads as the program's text lays it.
-/
set_option linter.unusedVariables false
set_option linter.unusedSimpArgs false
set_option maxRecDepth 100000
namespace Go.Proofs.YtofblkmibghmbaaDoor
open Go.RowKit
def db64 : List Int := [0, 1, 56, 2, 57, 49, 28, 3, 61, 58, 42, 50, 38, 29, 17, 4, 62, 47, 59, 36, 45, 43, 51, 22, 53, 39, 33, 30, 24, 18, 12, 5, 63, 55, 48, 27, 60, 41, 37, 16, 46, 35, 44, 21, 52, 32, 23, 11, 54, 26, 40, 15, 34, 20, 31, 10, 25, 14, 19, 9, 13, 8, 7, 6]
structure Tabs (w : World) : Prop where
  ten : Lib.TabIs Tryd.prog w "internal/strconv.uint64pow10" .u64 Lib.pow10Tab
  bits : Lib.TabIs Tryd.prog w "math/bits.deBruijn64tab" .u8 db64
theorem Tabs.on {w w' : World} (h : Tabs w) (hb : Below w.heap.size w w') : Tabs w' := ⟨tab_on h.ten (Nat.le_refl _) hb, tab_on h.bits (Nat.le_refl _) hb⟩
theorem Tabs.ext {B : Nat} {w w' : World} (h : Tabs w) (hB : w.heap.size ≤ B) (he : Below B w w') : Tabs w' := ⟨tab_on h.ten hB he, tab_on h.bits hB he⟩
section
variable {w : World}
end
end Go.Proofs.YtofblkmibghmbaaDoor

/-
  Layer 2: texts of numbers, the program's and the document's.
  Conditions: the tables of the host's library read as the program's text lays them.
-/
set_option linter.unusedVariables false
set_option linter.unusedSimpArgs false
set_option maxRecDepth 100000
set_option exponentiation.threshold 3000
namespace Go.Proofs.YtofblkmibghmbaaDoor
open Go.RowKit Ieee
section
variable {w : World}
theorem gives78 (ht : Tabs w) {n : Int} (h0 : -9223372036854775808 ≤ n) (h1 : n ≤ 9223372036854775807) : Gives Tryd.prog 78 [.int .i64 n] w (.string (bstr (Lib.itoa n))) := by
  refine (Tryd.strconv_Itoa n h0 h1 w ht.ten).mono ?_
  rintro e w' ⟨rfl, k, os, rfl⟩
  exact ⟨rfl, Lib.below_grow _ _ (Nat.le_refl _) _ _⟩
end
end Go.Proofs.YtofblkmibghmbaaDoor
