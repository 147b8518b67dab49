/-
  Layer 17: what the arguments' memory says, read as programs.
  Conditions: none.
-/
import Derived.Test.YtofblkmibghmbaaDoorRows
import Derived.Test.YtofblkmibghmbaaDoorZPK17
import Derived.Test.YtofblkmibghmbaaDoorZEngD
import Derived.WalkKit
import Derived.ProofKit
import Derived.OpenShut
import Derived.ChangeOld
import Derived.Below
import Derived.SizedLaws
set_option linter.unusedVariables false
set_option linter.unusedSimpArgs false
set_option maxRecDepth 100000
namespace Go.Proofs.YtofblkmibghmbaaDoor.P17
open Go.ChangeShapes Go.WideShapes Go.ChangeAt Go.RowKit
section
variable {H : Type} {enc : TypeId × Value → H} {w : World} {base : Nat} {spare : Nat → Bool} {held : Bool} {fuel : Nat}
theorem cells3 : Tryd.prog.cellsOf 3 = 1 := by kernel_rfl
theorem cells26 : Tryd.prog.cellsOf 101 = 3 := by kernel_rfl
theorem cells27 : Tryd.prog.cellsOf 63 = 1 := by kernel_rfl
theorem cells29 : Tryd.prog.cellsOf 65 = 4 := by kernel_rfl
theorem read_ins {cs : List Value} {x : DataW H × List MemPlace} (h : DataW.trod enc Tryd.prog w base spare held fuel 101 cs = some x) : ∃ i : Ins, cs = insV i := by
  obtain ⟨xs, n, _, _, hl, hx, hf⟩ := DataW.trod_struct Tryd.underlying101 h
  rw [cells26] at hl
  match cs, hl with
  | [a, b, c], _ =>
    have get : ∀ i (hi : i < 3), ∃ y, xs[i]? = some y := fun i hi => ⟨_, List.getElem?_eq_getElem (by rw [hx]; exact hi)⟩
    obtain ⟨y0, h0⟩ := get 0 (by omega)
    obtain ⟨y1, h1⟩ := get 1 (by omega)
    obtain ⟨y2, h2⟩ := get 2 (by omega)
    have f0 := (hf 0 _ rfl).trans h0
    have f1 := (hf 1 _ rfl).trans h1
    have f2 := (hf 2 _ rfl).trans h2
    obtain ⟨n0, e0, _⟩ := DataW.trod_int Tryd.underlying3 f0
    obtain ⟨n1, e1, _⟩ := DataW.trod_int Tryd.underlying3 f1
    obtain ⟨n2, e2, _⟩ := DataW.trod_int Tryd.underlying3 f2
    replace e0 : List.take (Tryd.prog.cellsOf 3) (List.drop 0 [a, b, c]) = [.int .i64 n0] := e0
    replace e1 : List.take (Tryd.prog.cellsOf 3) (List.drop 1 [a, b, c]) = [.int .i64 n1] := e1
    replace e2 : List.take (Tryd.prog.cellsOf 3) (List.drop 2 [a, b, c]) = [.int .i64 n2] := e2
    rw [cells3] at e0 e1 e2
    cases e0
    cases e1
    cases e2
    exact ⟨⟨n0, n1, n2⟩, rfl⟩
theorem cellsq {a : Addr} {n : Nat} {cs : List Value} (h : w.cells? base a n = some cs) : cs.length = n ∧ ∀ i v, cs[i]? = some v → w.cell? (a.add i) = some v := by
  obtain ⟨_, hl, hc⟩ := World.cells?_some h
  exact ⟨hl, fun i v hv => by rw [hc i (by rw [← hl]; exact (List.getElem?_eq_some_iff.1 hv).1)]; exact hv⟩
theorem choose_list {α : Type} {n : Nat} {R : Nat → α → Prop} (h : ∀ i, i < n → ∃ x, R i x) : ∃ xs : List α, xs.length = n ∧ ∀ i x, xs[i]? = some x → R i x := by
  induction n with
  | zero => exact ⟨[], rfl, fun i x hx => by simp at hx⟩
  | succ n ih =>
    obtain ⟨xs, hl, hx⟩ := ih fun i hi => h i (by omega)
    obtain ⟨y, hy⟩ := h n (by omega)
    refine ⟨xs ++ [y], by simp [hl], fun i x hi => ?_⟩
    by_cases hin : i < n
    · exact hx i x (by rw [List.getElem?_append_left (by omega)] at hi; exact hi)
    · have := (List.getElem?_eq_some_iff.1 hi).1
      simp [hl] at this
      have hin : i = n := by omega
      subst hin
      rw [List.getElem?_append_right (by omega), hl] at hi
      simp at hi
      subst hi
      exact hy
theorem read_code {cs : List Value} {x : DataW H × List MemPlace} (h : DataW.trod enc Tryd.prog w base spare held fuel 63 cs = some x) : ∃ A c xs, cs = [.slice A xs.length c] ∧ CodeAt w A xs.length xs := by
  rcases DataW.trod_slice Tryd.underlying63 h with ⟨rfl, _⟩ | ⟨a, len, cap, elems, rest, n, _, rfl, _, _, hlc, hm, hl, hel, _⟩
  · exact ⟨none, 0, [], rfl, rfl, Nat.zero_le _, fun i x h => by simp at h⟩
  · obtain ⟨xs, hxl, hx⟩ := choose_list (n := len) (R := fun i (x : Ins) => InsE w (a.add (i * 3)) x) fun i hi => by
      obtain ⟨y, hy⟩ : ∃ y, elems[i]? = some y := ⟨_, List.getElem?_eq_getElem (by rw [hl]; exact hi)⟩
      have := (hel i hi).trans hy
      rw [cells26, Option.bind_eq_some_iff] at this
      obtain ⟨c, hc, ht⟩ := this
      obtain ⟨i, rfl⟩ := read_ins ht
      obtain ⟨_, hg⟩ := cellsq hc
      exact ⟨i, hg 0 _ rfl, hg 1 _ rfl, hg 2 _ rfl⟩
    subst hxl
    exact ⟨some a, cap, xs, rfl, rfl, Nat.le_trans hlc hm, fun i x hi => ⟨a, rfl, hx i x hi⟩⟩
theorem read_fnc {cs : List Value} {x : DataW H × List MemPlace} (h : DataW.trod enc Tryd.prog w base spare held fuel 65 cs = some x) :
    ∃ (f : Fnc) (A : Option Addr) (c : Nat), cs = [.int .i64 f.params, .int .i64 f.locals, .int .i64 f.refs, .slice A f.code.length c] ∧ CodeAt w A f.code.length f.code := by
  obtain ⟨xs, n, _, _, hl, hx, hf⟩ := DataW.trod_struct Tryd.underlying65 h
  rw [cells29] at hl
  match cs, hl with
  | [a, b, c, d], _ =>
    have get : ∀ i (hi : i < 4), ∃ y, xs[i]? = some y := fun i hi => ⟨_, List.getElem?_eq_getElem (by rw [hx]; exact hi)⟩
    obtain ⟨y0, h0⟩ := get 0 (by omega)
    obtain ⟨y1, h1⟩ := get 1 (by omega)
    obtain ⟨y2, h2⟩ := get 2 (by omega)
    obtain ⟨y3, h3⟩ := get 3 (by omega)
    have f0 := (hf 0 _ rfl).trans h0
    have f1 := (hf 1 _ rfl).trans h1
    have f2 := (hf 2 _ rfl).trans h2
    have f3 := (hf 3 _ rfl).trans h3
    obtain ⟨n0, e0, _⟩ := DataW.trod_int Tryd.underlying3 f0
    obtain ⟨n1, e1, _⟩ := DataW.trod_int Tryd.underlying3 f1
    obtain ⟨n2, e2, _⟩ := DataW.trod_int Tryd.underlying3 f2
    obtain ⟨A, cc, code, e3, hc⟩ := read_code f3
    replace e0 : List.take (Tryd.prog.cellsOf 3) (List.drop 0 [a, b, c, d]) = [.int .i64 n0] := e0
    replace e1 : List.take (Tryd.prog.cellsOf 3) (List.drop 1 [a, b, c, d]) = [.int .i64 n1] := e1
    replace e2 : List.take (Tryd.prog.cellsOf 3) (List.drop 2 [a, b, c, d]) = [.int .i64 n2] := e2
    replace e3 : List.take (Tryd.prog.cellsOf 63) (List.drop 3 [a, b, c, d]) = [.slice A code.length cc] := e3
    rw [cells3] at e0 e1 e2
    rw [cells27] at e3
    cases e0
    cases e1
    cases e2
    cases e3
    exact ⟨⟨n0, n1, n2, code⟩, A, cc, rfl, hc⟩
theorem read_prog {cs : List Value} {x : DataW H × List MemPlace} (h : DataW.trod enc Tryd.prog w base spare held fuel 52 cs = some x) : ∃ A c p, cs = [.slice A p.length c] ∧ ProgAt w A p.length p := by
  obtain ⟨xs, n, _, _, hl, hx, hf⟩ := DataW.trod_struct Tryd.underlying52 h
  have c24 : Tryd.prog.cellsOf 52 = 1 := by kernel_rfl
  rw [c24] at hl
  match cs, hl with
  | [a], _ =>
    obtain ⟨y0, h0⟩ : ∃ y, xs[0]? = some y := ⟨_, List.getElem?_eq_getElem (by rw [hx]; decide)⟩
    have f0 := (hf 0 _ rfl).trans h0
    rcases DataW.trod_slice (by kernel_rfl) f0 with ⟨e, _⟩ | ⟨a', len, cap, elems, rest, m, _, e, _, _, hlc, hm, hl, hel, _⟩
    · replace e : [a] = [.slice none 0 0] := e
      cases e
      exact ⟨none, 0, [], rfl, rfl, Nat.zero_le _, fun i x h => by simp at h⟩
    · replace e : [a] = [.slice (some a') len cap] := e
      cases e
      obtain ⟨p, hpl, hp⟩ := choose_list (n := len) (R := fun i (f : Fnc) => FncE w (a'.add (i * 4)) f) fun i hi => by
        obtain ⟨y, hy⟩ : ∃ y, elems[i]? = some y := ⟨_, List.getElem?_eq_getElem (by rw [hl]; exact hi)⟩
        have := (hel i hi).trans hy
        rw [cells29, Option.bind_eq_some_iff] at this
        obtain ⟨c, hc, ht⟩ := this
        obtain ⟨f, A, cc, rfl, hcode⟩ := read_fnc ht
        obtain ⟨_, hg⟩ := cellsq hc
        exact ⟨f, hg 0 _ rfl, hg 1 _ rfl, hg 2 _ rfl, A, _, cc, hg 3 _ rfl, hcode⟩
      subst hpl
      exact ⟨some a', cap, p, rfl, rfl, Nat.le_trans hlc hm, fun i x hi => ⟨a', rfl, hp i x hi⟩⟩
end
end Go.Proofs.YtofblkmibghmbaaDoor.P17
