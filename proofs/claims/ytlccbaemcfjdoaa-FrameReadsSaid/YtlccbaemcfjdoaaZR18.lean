/-
  Layer 18: what the arguments' memory says, read as words, heads, frames.
  Conditions: none.
-/
import Derived.Test.YtlccbaemcfjdoaaZRD17
import Derived.Test.YtlccbaemcfjdoaaZA18
set_option maxRecDepth 100000
set_option linter.unusedVariables false
namespace Go.Proofs.Ytlccbaemcfjdoaa
open Go.ChangeShapes Go.WideShapes Go.ChangeAt Go.RowKit
section
variable {H : Type} {enc : TypeId × Value → H} {w : World} {base : Nat} {spare : Nat → Bool} {held : Bool} {fuel : Nat}
theorem under51 : Try.prog.underlying 51 = some (.int .u64) := by kernel_rfl
theorem under50 : Try.prog.underlying 50 = some (.slice 51) := by kernel_rfl
theorem cells51 : Try.prog.cellsOf 51 = 1 := by kernel_rfl
theorem word_bd {n : Int} (h : (Lit.int .u64 n).wf = true) : 0 ≤ n ∧ n < 18446744073709551616 := by
  simp [Lit.wf, IntKind.min, IntKind.max, IntKind.bits, IntKind.signed] at h
  omega
theorem read_words {cs : List Value} {x : DataW H × List MemPlace} (h : DataW.trod enc Try.prog w base spare held fuel 50 cs = some x) : ∃ A c xs, cs = [.slice A xs.length c] ∧ Nums .u64 w A xs.length xs ∧ Wd xs := by
  rcases DataW.trod_slice under50 h with ⟨rfl, _⟩ | ⟨a, len, cap, elems, rest, n, _, rfl, _, _, hlc, hm, hl, hel, _⟩
  · exact ⟨none, 0, [], rfl, nums_nil _ _, fun x h => by cases h⟩
  · obtain ⟨xs, hxl, hx⟩ := choose_list (n := len) (R := fun i (x : Int) => NumE .u64 w (a.add (i * 1)) x ∧ 0 ≤ x ∧ x < 18446744073709551616) fun i hi => by
      obtain ⟨y, hy⟩ : ∃ y, elems[i]? = some y := ⟨_, List.getElem?_eq_getElem (by rw [hl]; exact hi)⟩
      have := (hel i hi).trans hy
      rw [cells51, Option.bind_eq_some_iff] at this
      obtain ⟨c, hc, ht⟩ := this
      obtain ⟨n, rfl, _, wn⟩ := DataW.trod_int under51 ht
      exact ⟨n, cell_of_cells?_one hc, word_bd wn⟩
    subst hxl
    refine ⟨some a, cap, xs, rfl, ⟨rfl, Nat.le_trans hlc hm, fun i x hi => ⟨a, rfl, (hx i x hi).1⟩⟩, fun n hn => ?_⟩
    obtain ⟨i, hi⟩ := List.mem_iff_getElem?.1 hn
    exact (hx i n hi).2
end
end Go.Proofs.Ytlccbaemcfjdoaa
