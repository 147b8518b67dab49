/-
  What the arguments' memory says, read as frames; how long their lists are.
  Conditions: none.
-/
import Derived.Test.YtlccbaemcfjdoaaZR18
import Derived.Test.YtlccbaemcfjdoaaZX18
set_option maxRecDepth 100000
set_option linter.unusedVariables false
namespace Go.Proofs.Ytlccbaemcfjdoaa
open Go.ChangeShapes Go.WideShapes Go.ChangeAt Go.RowKit
section
variable {H : Type} {enc : TypeId × Value → H} {w : World} {base : Nat} {spare : Nat → Bool} {held : Bool} {fuel : Nat}
theorem under65 : Try.prog.underlying 65 = some (.slice 75) := by kernel_rfl
theorem cells75 : Try.prog.cellsOf 75 = 2 := by kernel_rfl
theorem cells65 : Try.prog.cellsOf 65 = 1 := by kernel_rfl
theorem cells67 : Try.prog.cellsOf 67 = 8 := by kernel_rfl
theorem bytes51 : Try.prog.bytesOf 51 = 8 := by kernel_rfl
theorem bytes75 : Try.prog.bytesOf 75 = 32 := by kernel_rfl
theorem read_wordsS {cs : List Value} {x : DataW H × List MemPlace} (h : DataW.trod enc Try.prog w base spare held fuel 50 cs = some x) : ∃ A c xs, cs = [.slice A xs.length c] ∧ Nums .u64 w A xs.length xs ∧ ((∀ n ∈ x.1.weights Try.prog 50, n ≤ reachBytes) → xs.length ≤ reachBytes) := by
  have h0 := h
  obtain ⟨A, c, xs, rfl, hN, _⟩ := read_words h
  refine ⟨A, c, xs, rfl, hN, fun hw => ?_⟩
  rcases DataW.trod_slice under50 h0 with ⟨he, _⟩ | ⟨a, len, cap, elems, rest, n, _, he, rfl, _, _, _, hl, _⟩
  · have := (Value.slice.inj (List.cons.inj he).1).2.1
    omega
  · have h1 := (Value.slice.inj (List.cons.inj he).1).2.1
    have := hw ((elems.length + rest.length) * 8) (by simp [DataW.weights, under50, bytes51])
    omega
theorem read_dfr {cs : List Value} {x : DataW H × List MemPlace} (h : DataW.trod enc Try.prog w base spare held fuel 75 cs = some x) : ∃ (d : Dfr) (A : Option Addr) (c : Nat), cs = [.int .i64 d.f, .slice A d.args.length c] ∧ Nums .u64 w A d.args.length d.args := by
  obtain ⟨xs, n, _, _, hl, hx, hf⟩ := DataW.trod_struct Try.underlying75 h
  rw [cells75] at hl
  match cs, hl with
  | [a, b], _ =>
    have get : ∀ i (hi : i < 2), ∃ y, xs[i]? = some y := fun i hi => ⟨_, List.getElem?_eq_getElem (by rw [hx]; exact hi)⟩
    obtain ⟨y0, h0⟩ := get 0 (by omega)
    obtain ⟨y1, h1⟩ := get 1 (by omega)
    have f0 := (hf 0 _ rfl).trans h0
    have f1 := (hf 1 _ rfl).trans h1
    obtain ⟨n0, e0, _⟩ := DataW.trod_int Try.underlying3 f0
    obtain ⟨A, c, ys, e1, hN, _⟩ := read_words f1
    replace e0 : List.take (Try.prog.cellsOf 3) (List.drop 0 [a, b]) = [.int .i64 n0] := e0
    replace e1 : List.take (Try.prog.cellsOf 50) (List.drop 1 [a, b]) = [.slice A ys.length c] := e1
    rw [cells3] at e0
    rw [cells50] at e1
    cases e0
    cases e1
    exact ⟨⟨n0, ys⟩, A, c, rfl, hN⟩
theorem read_dfrs {cs : List Value} {x : DataW H × List MemPlace} (h : DataW.trod enc Try.prog w base spare held fuel 65 cs = some x) : ∃ A c xs, cs = [.slice A xs.length c] ∧ Dfrs w A xs.length xs ∧ (A = none → c = 0) ∧ ((∀ n ∈ x.1.weights Try.prog 65, n ≤ reachBytes) → xs.length ≤ reachBytes) := by
  rcases DataW.trod_slice under65 h with ⟨rfl, _⟩ | ⟨a, len, cap, elems, rest, n, _, rfl, hx1, _, hlc, hm, hl, hel, _⟩
  · exact ⟨none, 0, [], rfl, ⟨rfl, Nat.zero_le _, fun i x h => by simp at h⟩, fun _ => rfl, fun _ => Nat.zero_le _⟩
  · obtain ⟨xs, hxl, hx⟩ := choose_list (n := len) (R := fun i (x : Dfr) => DfrE w (a.add (i * 2)) x) fun i hi => by
      obtain ⟨y, hy⟩ : ∃ y, elems[i]? = some y := ⟨_, List.getElem?_eq_getElem (by rw [hl]; exact hi)⟩
      have := (hel i hi).trans hy
      rw [cells75, Option.bind_eq_some_iff] at this
      obtain ⟨c, hc, ht⟩ := this
      obtain ⟨d, A, c', rfl, hN⟩ := read_dfr ht
      obtain ⟨_, hcell⟩ := cellsq hc
      exact ⟨d, hcell 0 _ rfl, A, c', hcell 1 _ rfl, hN⟩
    subst hxl
    refine ⟨some a, cap, xs, rfl, ⟨rfl, Nat.le_trans hlc hm, fun i x hi => ⟨a, rfl, hx i x hi⟩⟩, (fun h => by cases h), fun hw => ?_⟩
    subst hx1
    have := hw ((elems.length + rest.length) * 32) (by simp [DataW.weights, under65, bytes75])
    omega
theorem read_frame {cs : List Value} {x : DataW H × List MemPlace} (h : DataW.trod enc Try.prog w base spare held fuel 67 cs = some x) : ∃ (y : Frm) (s : Sls), cs = frmC y s ∧ FrmAt w y s ∧ (y.dfs.length = 0 → s.D = none → s.dc = 0) ∧ ((∀ n ∈ x.1.weights Try.prog 67, n ≤ reachBytes) → y.locals.length ≤ reachBytes ∧ y.ops.length ≤ reachBytes ∧ y.dfs.length ≤ reachBytes) := by
  obtain ⟨xs, n, _, hxe, hl, hx, hf⟩ := DataW.trod_struct Try.underlying67 h
  rw [cells67] at hl
  match cs, hl with
  | [a0, a1, a2, a3, a4, a5, a6, a7], _ =>
    have get : ∀ i (hi : i < 8), ∃ y, xs[i]? = some y := fun i hi => ⟨_, List.getElem?_eq_getElem (by rw [hx]; exact hi)⟩
    obtain ⟨y0, h0⟩ := get 0 (by omega)
    obtain ⟨y1, h1⟩ := get 1 (by omega)
    obtain ⟨y2, h2⟩ := get 2 (by omega)
    obtain ⟨y3, h3⟩ := get 3 (by omega)
    obtain ⟨y4, h4⟩ := get 4 (by omega)
    obtain ⟨y5, h5⟩ := get 5 (by omega)
    obtain ⟨y6, h6⟩ := get 6 (by omega)
    obtain ⟨y7, h7⟩ := get 7 (by omega)
    obtain ⟨n0, e0, _⟩ := DataW.trod_int Try.underlying3 ((hf 0 _ rfl).trans h0)
    obtain ⟨n1, e1, _⟩ := DataW.trod_int Try.underlying3 ((hf 1 _ rfl).trans h1)
    obtain ⟨n2, e2, _⟩ := DataW.trod_int Try.underlying3 ((hf 2 _ rfl).trans h2)
    obtain ⟨n3, e3, _⟩ := DataW.trod_bool Try.underlying4 ((hf 3 _ rfl).trans h3)
    obtain ⟨n4, e4, _⟩ := DataW.trod_int under51 ((hf 4 _ rfl).trans h4)
    obtain ⟨A5, c5, x5, e5, hN5, hd5, hw5⟩ := read_dfrs ((hf 5 _ rfl).trans h5)
    obtain ⟨A6, c6, x6, e6, hN6, hw6⟩ := read_wordsS ((hf 6 _ rfl).trans h6)
    obtain ⟨A7, c7, x7, e7, hN7, hw7⟩ := read_wordsS ((hf 7 _ rfl).trans h7)
    replace e0 : List.take (Try.prog.cellsOf 3) (List.drop 0 [a0, a1, a2, a3, a4, a5, a6, a7]) = [.int .i64 n0] := e0
    replace e1 : List.take (Try.prog.cellsOf 3) (List.drop 1 [a0, a1, a2, a3, a4, a5, a6, a7]) = [.int .i64 n1] := e1
    replace e2 : List.take (Try.prog.cellsOf 3) (List.drop 2 [a0, a1, a2, a3, a4, a5, a6, a7]) = [.int .i64 n2] := e2
    replace e3 : List.take (Try.prog.cellsOf 4) (List.drop 3 [a0, a1, a2, a3, a4, a5, a6, a7]) = [.bool n3] := e3
    replace e4 : List.take (Try.prog.cellsOf 51) (List.drop 4 [a0, a1, a2, a3, a4, a5, a6, a7]) = [.int .u64 n4] := e4
    replace e5 : List.take (Try.prog.cellsOf 65) (List.drop 5 [a0, a1, a2, a3, a4, a5, a6, a7]) = [.slice A5 x5.length c5] := e5
    replace e6 : List.take (Try.prog.cellsOf 50) (List.drop 6 [a0, a1, a2, a3, a4, a5, a6, a7]) = [.slice A6 x6.length c6] := e6
    replace e7 : List.take (Try.prog.cellsOf 50) (List.drop 7 [a0, a1, a2, a3, a4, a5, a6, a7]) = [.slice A7 x7.length c7] := e7
    rw [cells3] at e0 e1 e2
    rw [cells4] at e3
    rw [cells51] at e4
    rw [cells65] at e5
    rw [cells50] at e6 e7
    cases e0; cases e1; cases e2; cases e3; cases e4; cases e5; cases e6; cases e7
    refine ⟨⟨n0, n1, n2, n3, n4, x5, x6, x7⟩, ⟨A5, c5, A6, c6, A7, c7⟩, rfl, ⟨hN5, hN6, hN7⟩, fun _ h => hd5 h, fun hw => ?_⟩
    subst hxe
    have part : ∀ (i : Nat) (t : TypeId) (y : DataW H × List MemPlace), ([3, 3, 3, 4, 51, 65, 50, 50] : List TypeId)[i]? = some t → xs[i]? = some y → ∀ n ∈ y.1.weights Try.prog t, n ≤ reachBytes := fun i t y ht hy n hn => by
      refine hw n ?_
      simp only [DataW.weights, Try.underlying67]
      exact DataW.weights_mem_each (j := i) ht (by rw [List.getElem?_map, hy]; rfl) n hn
    exact ⟨hw6 (part 6 50 y6 rfl h6), hw7 (part 7 50 y7 rfl h7), hw5 (part 5 65 y5 rfl h5)⟩
end
end Go.Proofs.Ytlccbaemcfjdoaa
