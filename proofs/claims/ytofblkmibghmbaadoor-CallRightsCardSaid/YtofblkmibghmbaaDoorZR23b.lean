/-
  Layer 23: arguments read as setups and rows of calls.
  Conditions: none.
-/
import Derived.Test.YtofblkmibghmbaaDoorZR23
import Derived.Test.YtofblkmibghmbaaDoorZJ23
import Derived.Test.YtofblkmibghmbaaDoorZPRD17
set_option linter.unusedVariables false
set_option linter.unusedSimpArgs false
set_option maxRecDepth 100000
namespace Go.Proofs.YtofblkmibghmbaaDoor
open Go.ChangeShapes Go.WideShapes Go.ChangeAt Go.RowKit
section
variable {H : Type} {enc : TypeId × Value → H} {w : World} {base : Nat} {spare : Nat → Bool} {held : Bool} {fuel : Nat}
theorem cells66 : Tryd.prog.cellsOf 66 = 1 := by kernel_rfl
theorem cells52 : Tryd.prog.cellsOf 52 = 1 := by kernel_rfl
theorem cells53 : Tryd.prog.cellsOf 53 = 1 := by kernel_rfl
theorem cells55 : Tryd.prog.cellsOf 55 = 4 := by kernel_rfl
theorem read_ints {cs : List Value} {x : DataW H × List MemPlace} (h : DataW.trod enc Tryd.prog w base spare held fuel 53 cs = some x) : ∃ A c ns, cs = [.slice A ns.length c] ∧ Nums .i64 w A ns.length ns := by
  rcases DataW.trod_slice (e := 3) (by kernel_rfl) h with ⟨rfl, _⟩ | ⟨a, len, cap, elems, rest, n, _, rfl, _, _, hlc, hm, hl, hel, _⟩
  · exact ⟨none, 0, [], rfl, nums_nil _ _⟩
  · obtain ⟨xs, hxl, hx⟩ := P17.choose_list (n := len) (R := fun i (x : Int) => NumE .i64 w (a.add (i * 1)) x) fun i hi => by
      obtain ⟨y, hy⟩ : ∃ y, elems[i]? = some y := ⟨_, List.getElem?_eq_getElem (by rw [hl]; exact hi)⟩
      have := (hel i hi).trans hy
      rw [cells3, Option.bind_eq_some_iff] at this
      obtain ⟨c, hc, ht⟩ := this
      obtain ⟨n, rfl, _⟩ := DataW.trod_int Tryd.underlying3 ht
      exact ⟨n, cell_of_cells?_one hc⟩
    subst hxl
    exact ⟨some a, cap, xs, rfl, rfl, Nat.le_trans hlc hm, fun i x hi => ⟨a, rfl, hx i x hi⟩⟩
theorem read_calls {cs : List Value} {x : DataW H × List MemPlace} (h : DataW.trod enc Tryd.prog w base spare held fuel 66 cs = some x) : ∃ A c ns, cs = [.slice A ns.length c] ∧ Cls w A ns.length ns := by
  rcases DataW.trod_slice (e := 40) (by kernel_rfl) h with ⟨rfl, _⟩ | ⟨a, len, cap, elems, rest, n, _, rfl, _, _, hlc, hm, hl, hel, _⟩
  · exact ⟨none, 0, [], rfl, rfl, Nat.zero_le _, fun i x h => by simp at h⟩
  · obtain ⟨xs, hxl, hx⟩ := P17.choose_list (n := len) (R := fun i (x : Cl) => ClE w (a.add (i * 3)) x) fun i hi => by
      obtain ⟨y, hy⟩ : ∃ y, elems[i]? = some y := ⟨_, List.getElem?_eq_getElem (by rw [hl]; exact hi)⟩
      have := (hel i hi).trans hy
      rw [cells40, Option.bind_eq_some_iff] at this
      obtain ⟨c, hc, ht⟩ := this
      obtain ⟨m, rfl, _⟩ := read_call ht
      obtain ⟨_, hg⟩ := P17.cellsq hc
      exact ⟨m, hg 0 _ rfl, hg 1 _ rfl, hg 2 _ rfl⟩
    subst hxl
    exact ⟨some a, cap, xs, rfl, rfl, Nat.le_trans hlc hm, fun i x hi => ⟨a, rfl, hx i x hi⟩⟩
theorem read_rows {cs : List Value} {x : DataW H × List MemPlace} (h : DataW.trod enc Tryd.prog w base spare held fuel 56 cs = some x) : ∃ A c ns, cs = [.slice A ns.length c] ∧ ClRows w A ns.length ns := by
  rcases DataW.trod_slice (e := 66) (by kernel_rfl) h with ⟨rfl, _⟩ | ⟨a, len, cap, elems, rest, n, _, rfl, _, _, hlc, hm, hl, hel, _⟩
  · exact ⟨none, 0, [], rfl, rfl, Nat.zero_le _, fun i x h => by simp at h⟩
  · obtain ⟨xs, hxl, hx⟩ := P17.choose_list (n := len) (R := fun i (x : List Cl) => RowE w (a.add (i * 1)) x) fun i hi => by
      obtain ⟨y, hy⟩ : ∃ y, elems[i]? = some y := ⟨_, List.getElem?_eq_getElem (by rw [hl]; exact hi)⟩
      have := (hel i hi).trans hy
      rw [cells66, Option.bind_eq_some_iff] at this
      obtain ⟨c, hc, ht⟩ := this
      obtain ⟨A, cc, m, rfl, hcl⟩ := read_calls ht
      obtain ⟨_, hg⟩ := P17.cellsq hc
      exact ⟨m, A, cc, hg 0 _ rfl, hcl⟩
    subst hxl
    exact ⟨some a, cap, xs, rfl, rfl, Nat.le_trans hlc hm, fun i x hi => ⟨a, rfl, hx i x hi⟩⟩
theorem read_setup {cs : List Value} {x : DataW H × List MemPlace} (h : DataW.trod enc Tryd.prog w base spare held fuel 55 cs = some x) :
    ∃ (pages workers : Int) (P : Option Addr) (p : List P17.Fnc) (pc : Nat) (T : Option Addr) (tasks : List Int) (tc : Nat), cs = [.int .i64 pages, .int .i64 workers, .slice P p.length pc, .slice T tasks.length tc] ∧ P17.ProgAt w P p.length p ∧ Nums .i64 w T tasks.length tasks := by
  obtain ⟨xs, n, _, _, hl, hx, hf⟩ := DataW.trod_struct Tryd.underlying55 h
  rw [cells55] at hl
  match cs, hl with
  | [a, b, c, d], _ =>
    have get : ∀ i (hi : i < 4), ∃ y, xs[i]? = some y := fun i hi => ⟨_, List.getElem?_eq_getElem (by rw [hx]; exact hi)⟩
    obtain ⟨y0, h0⟩ := get 0 (by omega)
    obtain ⟨y1, h1⟩ := get 1 (by omega)
    obtain ⟨y2, h2⟩ := get 2 (by omega)
    obtain ⟨y3, h3⟩ := get 3 (by omega)
    have f0 := (hf 0 _ rfl).trans h0
    have f1 := (hf 1 _ rfl).trans h1
    have f2 := (hf 2 _ rfl).trans h2
    have f3 := (hf 3 _ rfl).trans h3
    obtain ⟨n0, e0, _⟩ := DataW.trod_int Tryd.underlying3 f0
    obtain ⟨n1, e1, _⟩ := DataW.trod_int Tryd.underlying3 f1
    obtain ⟨P, pc, p, e2, hp⟩ := P17.read_prog f2
    obtain ⟨T, tc, ts, e3, ht⟩ := read_ints f3
    replace e0 : List.take (Tryd.prog.cellsOf 3) (List.drop 0 [a, b, c, d]) = [.int .i64 n0] := e0
    replace e1 : List.take (Tryd.prog.cellsOf 3) (List.drop 1 [a, b, c, d]) = [.int .i64 n1] := e1
    replace e2 : List.take (Tryd.prog.cellsOf 52) (List.drop 2 [a, b, c, d]) = [.slice P p.length pc] := e2
    replace e3 : List.take (Tryd.prog.cellsOf 53) (List.drop 3 [a, b, c, d]) = [.slice T ts.length tc] := e3
    rw [cells3] at e0 e1
    rw [cells52] at e2
    rw [cells53] at e3
    cases e0
    cases e1
    cases e2
    cases e3
    exact ⟨n0, n1, P, p, pc, T, ts, tc, rfl, hp, ht⟩
end
end Go.Proofs.YtofblkmibghmbaaDoor
