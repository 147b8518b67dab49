import Derived.Test.YtofblkmibghmbaaDoorZT2d
import Derived.Test.YtofblkmibghmbaaDoorZM29
/-
  Layers 23, 29: what the arguments' memory says, read as marks, as bytes, as calls.
  Conditions: none.
-/
set_option linter.unusedVariables false
set_option linter.unusedSimpArgs false
set_option maxRecDepth 100000
namespace Go.Proofs.YtofblkmibghmbaaDoor
open Go.ChangeShapes Go.WideShapes Go.ChangeAt Go.RowKit
theorem laidOut2 : laidOutB Tryd.prog = true := by kernel_rfl
theorem choose_list {α : Type} {n : Nat} {R : Nat → α → Prop} (h : ∀ i, i < n → ∃ x, R i x) : ∃ xs : List α, xs.length = n ∧ ∀ i x, xs[i]? = some x → R i x := by
  induction n with
  | zero => exact ⟨[], rfl, fun i x hx => by simp at hx⟩
  | succ n ih =>
    obtain ⟨xs, hl, hx⟩ := ih fun i hi => h i (by omega)
    obtain ⟨y, hy⟩ := h n (by omega)
    refine ⟨xs ++ [y], by simp [hl], fun i x hi => ?_⟩
    by_cases hin : i < n
    · exact hx i x (by rw [List.getElem?_append_left (by omega)] at hi; exact hi)
    · have := (List.getElem?_eq_some_iff.1 hi).1
      simp [hl] at this
      have hin : i = n := by omega
      subst hin
      rw [List.getElem?_append_right (by omega), hl] at hi
      simp at hi
      subst hi
      exact hy
section
variable {H : Type} {enc : TypeId × Value → H} {w : World} {base : Nat} {spare : Nat → Bool} {held : Bool} {fuel : Nat}
theorem read_bytes {cs : List Value} {x : DataW H × List MemPlace} (h : DataW.trod enc Tryd.prog w base spare held fuel 48 cs = some x) :
    ∃ A l c ns, cs = [.slice A l c] ∧ BytesAt w A l c ns := by
  have c5 : Tryd.prog.cellsOf 5 = 1 := by kernel_rfl
  rcases DataW.trod_slice (e := 5) (by kernel_rfl) h with ⟨rfl, _⟩ | ⟨a, len, cap, elems, rest, n, _, rfl, _, _, hlc, hm, hl, hel, _⟩
  · exact ⟨none, 0, 0, [], rfl, ⟨rfl, Nat.zero_le _, fun i x h => by simp at h⟩, fun n h => by (cases h), Nat.le_refl _⟩
  · obtain ⟨xs, hxl, hx⟩ := choose_list (n := len) (R := fun i (x : Int) => NumE .u8 w (a.add (i * 1)) x ∧ 0 ≤ x ∧ x < 256) fun i hi => by
      obtain ⟨y, hy⟩ : ∃ y, elems[i]? = some y := ⟨_, List.getElem?_eq_getElem (by rw [hl]; exact hi)⟩
      have := (hel i hi).trans hy
      rw [c5, Option.bind_eq_some_iff] at this
      obtain ⟨c, hc, ht⟩ := this
      obtain ⟨n, rfl, _, wn⟩ := DataW.trod_int Tryd.underlying5 ht
      have hn : 0 ≤ n ∧ n < 256 := by
        simp [Lit.wf, IntKind.min, IntKind.max, IntKind.bits, IntKind.signed] at wn
        omega
      exact ⟨n, cell_of_cells?_one hc, hn⟩
    refine ⟨some a, len, cap, xs, rfl, ⟨hxl, Nat.le_trans hlc hm, fun i x hi => ⟨a, rfl, (hx i x hi).1⟩⟩, fun n hn => ?_, hlc⟩
    obtain ⟨i, hi⟩ := List.mem_iff_getElem?.1 hn
    exact (hx i n hi).2
end
theorem byte_bd {n : Int} (h : (Lit.int .u8 n).wf = true) : 0 ≤ n ∧ n < 256 := by
  simp [Lit.wf, IntKind.min, IntKind.max, IntKind.bits, IntKind.signed] at h
  omega
end Go.Proofs.YtofblkmibghmbaaDoor
