/-
  Layer 18: what the arguments' memory says, read as words, heads, frames.
  Conditions: none.
-/
import Derived.Test.YtlccbaemcfjdoaaZRD17
import Derived.Test.YtlccbaemcfjdoaaZA18
set_option maxRecDepth 100000
set_option linter.unusedVariables false
namespace Go.Proofs.Ytlccbaemcfjdoaa
open Go.ChangeShapes Go.WideShapes Go.ChangeAt Go.RowKit
section
variable {H : Type} {enc : TypeId × Value → H} {w : World} {base : Nat} {spare : Nat → Bool} {held : Bool} {fuel : Nat}
theorem under51 : Try.prog.underlying 51 = some (.int .u64) := by kernel_rfl
theorem under50 : Try.prog.underlying 50 = some (.slice 51) := by kernel_rfl
theorem cells51 : Try.prog.cellsOf 51 = 1 := by kernel_rfl
theorem cells4 : Try.prog.cellsOf 4 = 1 := by kernel_rfl
theorem word_bd {n : Int} (h : (Lit.int .u64 n).wf = true) : 0 ≤ n ∧ n < 18446744073709551616 := by
  simp [Lit.wf, IntKind.min, IntKind.max, IntKind.bits, IntKind.signed] at h
  omega
theorem read_words {cs : List Value} {x : DataW H × List MemPlace} (h : DataW.trod enc Try.prog w base spare held fuel 50 cs = some x) : ∃ A c xs, cs = [.slice A xs.length c] ∧ Nums .u64 w A xs.length xs ∧ Wd xs := by
  rcases DataW.trod_slice under50 h with ⟨rfl, _⟩ | ⟨a, len, cap, elems, rest, n, _, rfl, _, _, hlc, hm, hl, hel, _⟩
  · exact ⟨none, 0, [], rfl, nums_nil _ _, fun x h => by cases h⟩
  · obtain ⟨xs, hxl, hx⟩ := choose_list (n := len) (R := fun i (x : Int) => NumE .u64 w (a.add (i * 1)) x ∧ 0 ≤ x ∧ x < 18446744073709551616) fun i hi => by
      obtain ⟨y, hy⟩ : ∃ y, elems[i]? = some y := ⟨_, List.getElem?_eq_getElem (by rw [hl]; exact hi)⟩
      have := (hel i hi).trans hy
      rw [cells51, Option.bind_eq_some_iff] at this
      obtain ⟨c, hc, ht⟩ := this
      obtain ⟨n, rfl, _, wn⟩ := DataW.trod_int under51 ht
      exact ⟨n, cell_of_cells?_one hc, word_bd wn⟩
    subst hxl
    refine ⟨some a, cap, xs, rfl, ⟨rfl, Nat.le_trans hlc hm, fun i x hi => ⟨a, rfl, (hx i x hi).1⟩⟩, fun n hn => ?_⟩
    obtain ⟨i, hi⟩ := List.mem_iff_getElem?.1 hn
    exact (hx i n hi).2
def hdL (h : Hd) : List Value := [.int .i64 h.below, .int .i64 h.f, .int .i64 h.pc, .int .i64 h.mode, .bool h.dfd, .int .u64 h.value, .int .i64 h.dfs, .int .i64 h.ops]
theorem read_head {cs : List Value} {x : DataW H × List MemPlace} (h : DataW.trod enc Try.prog w base spare held fuel 53 cs = some x) : ∃ h : Hd, cs = hdL h ∧ 0 ≤ h.value ∧ h.value < 18446744073709551616 := by
  obtain ⟨xs, n, _, _, hl, hx, hf⟩ := DataW.trod_struct Try.underlying53 h
  have c53 : Try.prog.cellsOf 53 = 8 := by kernel_rfl
  rw [c53] at hl
  match cs, hl with
  | [a0, a1, a2, a3, a4, a5, a6, a7], _ =>
    have get : ∀ i (hi : i < 8), ∃ y, xs[i]? = some y := fun i hi => ⟨_, List.getElem?_eq_getElem (by rw [hx]; exact hi)⟩
    obtain ⟨y0, h0⟩ := get 0 (by omega)
    obtain ⟨y1, h1⟩ := get 1 (by omega)
    obtain ⟨y2, h2⟩ := get 2 (by omega)
    obtain ⟨y3, h3⟩ := get 3 (by omega)
    obtain ⟨y4, h4⟩ := get 4 (by omega)
    obtain ⟨y5, h5⟩ := get 5 (by omega)
    obtain ⟨y6, h6⟩ := get 6 (by omega)
    obtain ⟨y7, h7⟩ := get 7 (by omega)
    obtain ⟨n0, e0, _⟩ := DataW.trod_int Try.underlying3 ((hf 0 _ rfl).trans h0)
    obtain ⟨n1, e1, _⟩ := DataW.trod_int Try.underlying3 ((hf 1 _ rfl).trans h1)
    obtain ⟨n2, e2, _⟩ := DataW.trod_int Try.underlying3 ((hf 2 _ rfl).trans h2)
    obtain ⟨n3, e3, _⟩ := DataW.trod_int Try.underlying3 ((hf 3 _ rfl).trans h3)
    obtain ⟨n4, e4, _⟩ := DataW.trod_bool Try.underlying4 ((hf 4 _ rfl).trans h4)
    obtain ⟨n5, e5, _, w5⟩ := DataW.trod_int under51 ((hf 5 _ rfl).trans h5)
    obtain ⟨n6, e6, _⟩ := DataW.trod_int Try.underlying3 ((hf 6 _ rfl).trans h6)
    obtain ⟨n7, e7, _⟩ := DataW.trod_int Try.underlying3 ((hf 7 _ rfl).trans h7)
    replace e0 : List.take (Try.prog.cellsOf 3) (List.drop 0 [a0, a1, a2, a3, a4, a5, a6, a7]) = [.int .i64 n0] := e0
    replace e1 : List.take (Try.prog.cellsOf 3) (List.drop 1 [a0, a1, a2, a3, a4, a5, a6, a7]) = [.int .i64 n1] := e1
    replace e2 : List.take (Try.prog.cellsOf 3) (List.drop 2 [a0, a1, a2, a3, a4, a5, a6, a7]) = [.int .i64 n2] := e2
    replace e3 : List.take (Try.prog.cellsOf 3) (List.drop 3 [a0, a1, a2, a3, a4, a5, a6, a7]) = [.int .i64 n3] := e3
    replace e4 : List.take (Try.prog.cellsOf 4) (List.drop 4 [a0, a1, a2, a3, a4, a5, a6, a7]) = [.bool n4] := e4
    replace e5 : List.take (Try.prog.cellsOf 51) (List.drop 5 [a0, a1, a2, a3, a4, a5, a6, a7]) = [.int .u64 n5] := e5
    replace e6 : List.take (Try.prog.cellsOf 3) (List.drop 6 [a0, a1, a2, a3, a4, a5, a6, a7]) = [.int .i64 n6] := e6
    replace e7 : List.take (Try.prog.cellsOf 3) (List.drop 7 [a0, a1, a2, a3, a4, a5, a6, a7]) = [.int .i64 n7] := e7
    rw [cells3] at e0 e1 e2 e3 e6 e7
    rw [cells4] at e4
    rw [cells51] at e5
    cases e0; cases e1; cases e2; cases e3; cases e4; cases e5; cases e6; cases e7
    exact ⟨⟨n0, n1, n2, n3, n4, n5, n6, n7⟩, rfl, word_bd w5⟩
end
end Go.Proofs.Ytlccbaemcfjdoaa
