/-
  Rules for strings made of bytes, and for tables of the program.
  Conditions: none.
-/
import Derived.Test.YtofblkmibghmbaaDoorZEngD
import Derived.Test.YtofblkmibghmbaaDoorZEngF
import Derived.Laws.BytesString
import Derived.Lib.LaidTab
set_option linter.unusedVariables false
set_option linter.unusedSimpArgs false
namespace Go.Proofs.YtofblkmibghmbaaDoor
open Go.RowKit
theorem tab_on {P : Program} {B : Nat} {w w' : World} {name : String} {k : IntKind} {zs : List Int} (h : Lib.TabIs P w name k zs) (hB : w.heap.size ≤ B) (hb : Below B w w') : Lib.TabIs P w' name k zs := by
  unfold Lib.TabIs World.var? at *
  cases hg : P.globalNamed name with
  | none => rw [hg] at h; simp at h
  | some g =>
    rw [hg] at h
    simp only [Option.bind_some] at h ⊢
    have hlt : g < w.heap.size := by
      rcases Nat.lt_or_ge g w.heap.size with h' | h'
      · exact h'
      · simp [Array.getElem?_eq_none h'] at h
    rw [hb.block g (Nat.lt_of_lt_of_le hlt hB)]; exact h
def bstr (l : List UInt8) : ByteArray := ⟨l.toArray⟩
theorem ba_app (l m : List UInt8) : (bstr l ++ bstr m : ByteArray) = bstr (l ++ m) := by
  apply ByteArray.ext
  rw [ByteArray.data_append]
  simp [bstr]
theorem bstr_size (l : List UInt8) : (bstr l).size = l.length := by simp [bstr, ByteArray.size]
end Go.Proofs.YtofblkmibghmbaaDoor
