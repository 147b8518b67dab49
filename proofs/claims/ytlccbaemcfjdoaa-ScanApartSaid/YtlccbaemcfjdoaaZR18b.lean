/-
  What the arguments' memory says, read as truths.
  Conditions: none.
-/
import Derived.Test.YtlccbaemcfjdoaaZR18
import Derived.Test.YtlccbaemcfjdoaaZN20e
set_option maxRecDepth 100000
set_option linter.unusedVariables false
namespace Go.Proofs.Ytlccbaemcfjdoaa
open Go.ChangeShapes Go.WideShapes Go.ChangeAt Go.RowKit
section
variable {H : Type} {enc : TypeId × Value → H} {w : World} {base : Nat} {spare : Nat → Bool} {held : Bool} {fuel : Nat}
theorem under45 : Try.prog.underlying 45 = some (.slice 4) := by kernel_rfl
theorem read_bools {cs : List Value} {x : DataW H × List MemPlace} (h : DataW.trod enc Try.prog w base spare held fuel 45 cs = some x) : ∃ A c xs, cs = [.slice A xs.length c] ∧ Bools w A xs.length xs := by
  rcases DataW.trod_slice under45 h with ⟨rfl, _⟩ | ⟨a, len, cap, elems, rest, n, _, rfl, _, _, hlc, hm, hl, hel, _⟩
  · exact ⟨none, 0, [], rfl, rfl, Nat.zero_le _, fun i x h => by simp at h⟩
  · obtain ⟨xs, hxl, hx⟩ := choose_list (n := len) (R := fun i (x : Bool) => BoolE w (a.add (i * 1)) x) fun i hi => by
      obtain ⟨y, hy⟩ : ∃ y, elems[i]? = some y := ⟨_, List.getElem?_eq_getElem (by rw [hl]; exact hi)⟩
      have := (hel i hi).trans hy
      rw [cells4, Option.bind_eq_some_iff] at this
      obtain ⟨c, hc, ht⟩ := this
      obtain ⟨n, rfl, _⟩ := DataW.trod_bool Try.underlying4 ht
      exact ⟨n, cell_of_cells?_one hc⟩
    subst hxl
    exact ⟨some a, cap, xs, rfl, rfl, Nat.le_trans hlc hm, fun i x hi => ⟨a, rfl, hx i x hi⟩⟩
end
end Go.Proofs.Ytlccbaemcfjdoaa
