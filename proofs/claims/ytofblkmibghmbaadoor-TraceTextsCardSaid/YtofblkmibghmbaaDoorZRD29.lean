/-
  Layers 23, 29: what the arguments' memory says, read as marks, as bytes, as calls.
  Conditions: none.
-/
import Derived.Test.YtofblkmibghmbaaDoorZR2
import Derived.Test.YtofblkmibghmbaaDoorZM29
set_option linter.unusedVariables false
set_option linter.unusedSimpArgs false
set_option maxRecDepth 100000
namespace Go.Proofs.YtofblkmibghmbaaDoor
open Go.ChangeShapes Go.WideShapes Go.ChangeAt Go.RowKit
theorem laidOut2 : laidOutB Tryd.prog = true := by kernel_rfl
theorem cellsq {w : World} {base : Nat} {a : Addr} {n : Nat} {cs : List Value} (h : w.cells? base a n = some cs) : cs.length = n ∧ ∀ i v, cs[i]? = some v → w.cell? (a.add i) = some v := by
  obtain ⟨_, hl, hc⟩ := World.cells?_some h
  exact ⟨hl, fun i v hv => by rw [hc i (by rw [← hl]; exact (List.getElem?_eq_some_iff.1 hv).1)]; exact hv⟩
theorem choose_list {α : Type} {n : Nat} {R : Nat → α → Prop} (h : ∀ i, i < n → ∃ x, R i x) : ∃ xs : List α, xs.length = n ∧ ∀ i x, xs[i]? = some x → R i x := by
  induction n with
  | zero => exact ⟨[], rfl, fun i x hx => by simp at hx⟩
  | succ n ih =>
    obtain ⟨xs, hl, hx⟩ := ih fun i hi => h i (by omega)
    obtain ⟨y, hy⟩ := h n (by omega)
    refine ⟨xs ++ [y], by simp [hl], fun i x hi => ?_⟩
    by_cases hin : i < n
    · exact hx i x (by rw [List.getElem?_append_left (by omega)] at hi; exact hi)
    · have := (List.getElem?_eq_some_iff.1 hi).1
      simp [hl] at this
      have hin : i = n := by omega
      subst hin
      rw [List.getElem?_append_right (by omega), hl] at hi
      simp at hi
      subst hi
      exact hy
section
variable {H : Type} {enc : TypeId × Value → H} {w : World} {base : Nat} {spare : Nat → Bool} {held : Bool} {fuel : Nat}
theorem cells3 : Tryd.prog.cellsOf 3 = 1 := by kernel_rfl
theorem cells22 : Tryd.prog.cellsOf 22 = 1 := by kernel_rfl
theorem cells73 : Tryd.prog.cellsOf 73 = 2 := by kernel_rfl
theorem read_mark {cs : List Value} {x : DataW H × List MemPlace} (h : DataW.trod enc Tryd.prog w base spare held fuel 73 cs = some x) : ∃ m : Mk, cs = [.int .i64 m.k, .int .u64 (m.w : Int)] ∧ m.w < 2 * SW := by
  obtain ⟨xs, n, _, _, hl, hx, hf⟩ := DataW.trod_struct Tryd.underlying73 h
  rw [cells73] at hl
  match cs, hl with
  | [a, b], _ =>
    have get : ∀ i (hi : i < 2), ∃ y, xs[i]? = some y := fun i hi => ⟨_, List.getElem?_eq_getElem (by rw [hx]; exact hi)⟩
    obtain ⟨y0, h0⟩ := get 0 (by omega)
    obtain ⟨y1, h1⟩ := get 1 (by omega)
    have f0 := (hf 0 _ rfl).trans h0
    have f1 := (hf 1 _ rfl).trans h1
    obtain ⟨n0, e0, _⟩ := DataW.trod_int Tryd.underlying3 f0
    obtain ⟨n1, e1, _, w1⟩ := DataW.trod_int Tryd.underlying22 f1
    replace e0 : List.take (Tryd.prog.cellsOf 3) (List.drop 0 [a, b]) = [.int .i64 n0] := e0
    replace e1 : List.take (Tryd.prog.cellsOf 22) (List.drop 1 [a, b]) = [.int .u64 n1] := e1
    rw [cells3] at e0
    rw [cells22] at e1
    cases e0
    cases e1
    obtain ⟨u, rfl, hu⟩ := u64_nat w1
    exact ⟨⟨n0, u⟩, rfl, hu⟩
theorem read_marks {cs : List Value} {x : DataW H × List MemPlace} (h : DataW.trod enc Tryd.prog w base spare held fuel 70 cs = some x) : ∃ A c ms, cs = [.slice A ms.length c] ∧ Marks w A ms.length ms ∧ OkMs ms := by
  rcases DataW.trod_slice Tryd.underlying70 h with ⟨rfl, _⟩ | ⟨a, len, cap, elems, rest, n, _, rfl, _, _, hlc, hm, hl, hel, _⟩
  · exact ⟨none, 0, [], rfl, marks_nil w, fun m hm => by cases hm⟩
  · obtain ⟨xs, hxl, hx⟩ := choose_list (n := len) (R := fun i (x : Mk) => MarkE w (a.add (i * 2)) x ∧ x.w < 2 * SW) fun i hi => by
      obtain ⟨y, hy⟩ : ∃ y, elems[i]? = some y := ⟨_, List.getElem?_eq_getElem (by rw [hl]; exact hi)⟩
      have := (hel i hi).trans hy
      rw [cells73, Option.bind_eq_some_iff] at this
      obtain ⟨c, hc, ht⟩ := this
      obtain ⟨m, rfl, hm⟩ := read_mark ht
      obtain ⟨_, hg⟩ := cellsq hc
      exact ⟨m, ⟨hg 0 _ rfl, hg 1 _ rfl⟩, hm⟩
    subst hxl
    refine ⟨some a, cap, xs, rfl, ⟨rfl, Nat.le_trans hlc hm, fun i x hi => ⟨a, rfl, (hx i x hi).1⟩⟩, fun m hm => ?_⟩
    obtain ⟨i, hi⟩ := List.getElem?_of_mem hm
    exact (hx i m hi).2
theorem read_bytes {cs : List Value} {x : DataW H × List MemPlace} (h : DataW.trod enc Tryd.prog w base spare held fuel 48 cs = some x) :
    ∃ A l c ns, cs = [.slice A l c] ∧ BytesAt w A l c ns := by
  have c5 : Tryd.prog.cellsOf 5 = 1 := by kernel_rfl
  rcases DataW.trod_slice (e := 5) (by kernel_rfl) h with ⟨rfl, _⟩ | ⟨a, len, cap, elems, rest, n, _, rfl, _, _, hlc, hm, hl, hel, _⟩
  · exact ⟨none, 0, 0, [], rfl, ⟨rfl, Nat.zero_le _, fun i x h => by simp at h⟩, fun n h => by (cases h), Nat.le_refl _⟩
  · obtain ⟨xs, hxl, hx⟩ := choose_list (n := len) (R := fun i (x : Int) => NumE .u8 w (a.add (i * 1)) x ∧ 0 ≤ x ∧ x < 256) fun i hi => by
      obtain ⟨y, hy⟩ : ∃ y, elems[i]? = some y := ⟨_, List.getElem?_eq_getElem (by rw [hl]; exact hi)⟩
      have := (hel i hi).trans hy
      rw [c5, Option.bind_eq_some_iff] at this
      obtain ⟨c, hc, ht⟩ := this
      obtain ⟨n, rfl, _, wn⟩ := DataW.trod_int Tryd.underlying5 ht
      have hn : 0 ≤ n ∧ n < 256 := by
        simp [Lit.wf, IntKind.min, IntKind.max, IntKind.bits, IntKind.signed] at wn
        omega
      exact ⟨n, cell_of_cells?_one hc, hn⟩
    refine ⟨some a, len, cap, xs, rfl, ⟨hxl, Nat.le_trans hlc hm, fun i x hi => ⟨a, rfl, (hx i x hi).1⟩⟩, fun n hn => ?_, hlc⟩
    obtain ⟨i, hi⟩ := List.mem_iff_getElem?.1 hn
    exact (hx i n hi).2
end
end Go.Proofs.YtofblkmibghmbaaDoor
