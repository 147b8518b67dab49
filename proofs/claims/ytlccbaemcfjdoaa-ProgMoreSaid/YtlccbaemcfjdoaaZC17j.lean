/-
  Layer 17: two of its laws' functions return true.
  Conditions: the arguments' memory says what their values are.
-/
import Derived.Test.YtlccbaemcfjdoaaZC17i
set_option linter.unusedVariables false
set_option linter.unusedSimpArgs false
namespace Go.Proofs.Ytlccbaemcfjdoaa
open Go.RowKit
theorem l40 {w0 : World} {A A' : Option Addr} {l c l' c' : Nat} {xs ys : List Int} (hx : Nums .i64 w0 A l xs) (hy : Nums .i64 w0 A' l' ys) (hl : l = l') (w : World) (hw : Below w0.heap.size w0 w) :
    ∀ (k i : Nat), l < i + k → i ≤ l → (∀ j, j < i → xs[j]? = ys[j]?) → V40.l0 w0.heap.size (IsV w0 (.bool (xs == ys))) k A l c A' l' c' i w
  | 0, i, hk, hi, _ => by omega
  | k + 1, i, hk, hi, hall => by
    dsimp -zeta only [V40.l0]
    by_cases h : i < l
    · rw [if_pos (by simpa using h)]
      obtain ⟨n, p, hn, hp, hc⟩ := hx.at h
      obtain ⟨m, q, hm, hq, hd⟩ := hy.at (hl ▸ h)
      have hc' := (hw.cell (cell_lt hc)).trans hc
      have hd' := (hw.cell (cell_lt hd)).trans hd
      refine ⟨p, hp, by omega, by omega, n, by simpa using hc', q, hq, by omega, by omega, m, by simpa using hd', ?_⟩
      by_cases hnm : n = m
      · rw [if_neg (by simp [hnm]), wrap_succ h hx.small]
        refine l40 hx hy hl w hw k (i + 1) (by omega) (by omega) fun j hj => ?_
        rcases Nat.lt_succ_iff_lt_or_eq.1 hj with h1 | h1
        · exact hall j h1
        · subst h1; rw [hn, hm, hnm]
      · rw [if_pos (by simpa using hnm)]
        refine ret_is hw ?_
        have : xs ≠ ys := fun e => by subst e; rw [hn] at hm; cases hm; exact hnm rfl
        simp [this]
    · rw [if_neg (by simpa using h)]
      refine ret_is hw ?_
      have : xs = ys := by
        apply List.ext_getElem?
        intro j
        by_cases hj : j < i
        · exact hall j hj
        · rw [List.getElem?_eq_none (by have := hx.len; omega), List.getElem?_eq_none (by have := hy.len; omega)]
      simp [this]
theorem gives40 {w : World} {A A' : Option Addr} {l c l' c' : Nat} {xs ys : List Int} (hx : Nums .i64 w A l xs) (hy : Nums .i64 w A' l' ys) : Gives Try.prog 40 [.slice A l c, .slice A' l' c'] w (.bool (xs == ys)) := by
  refine gives_of (V40.sound ?_)
  unfold V40.vc
  by_cases h : l = l'
  · rw [if_neg (by simp [h])]
    exact ⟨l + 1, l40 hx hy h w (Below.refl _ _) (l + 1) 0 (by omega) (by omega) (fun j hj => by omega)⟩
  · rw [if_pos (by simp; omega)]
    refine ret_is (Below.refl _ _) ?_
    have : xs ≠ ys := fun e => h (by rw [← hx.len, ← hy.len, e])
    simp [this]
theorem gives34 (w : World) : Gives Try.prog 34 [] w (.bool true) := by
  refine gives_of (V34.sound ?_)
  unfold V34.vc
  intro w1 h1 _ w2
  obtain ⟨e2, o2⟩ := alloc0 (.cells ⟨[⟨18, 0, 0⟩].flatMap insV⟩ 26) h1 (Nat.le_refl _)
  have hw2 : Below w.heap.size w w2 := e2.below
  intro w3 h3 _ w4
  obtain ⟨e4, o4⟩ := alloc0 (.cells ⟨[.int .i64 0, .int .i64 0, .int .i64 0, .slice (some ⟨w1.heap.size, 0, none⟩) 1 1]⟩ 29) h3 hw2.size
  have hw4 : Below w.heap.size w w4 := e4.after hw2
  have hp4 : ProgAt w4 (some ⟨w3.heap.size, 0, none⟩) 1 [⟨0, 0, 0, [⟨18, 0, 0⟩]⟩] := prog_lit (f := ⟨0, 0, 0, [⟨18, 0, 0⟩]⟩) (w := w4) (t := 29) (c := 1) (C := some ⟨w1.heap.size, 0, none⟩) o4 (RowAt.keep InsE.kept (code_lit (w := w2) (t := 26) o2 (by simp)) (ext_keeps e4))
  refine call_gives hw4 (fun wc ec _ => gives37 (p := [⟨0, 0, 0, [⟨18, 0, 0⟩]⟩]) (RowAt.keep FncE.kept hp4 (ext_keeps ec))) fun w5 e5 hw5 => ?_
  have hc1 : checkM [⟨0, 0, 0, [⟨18, 0, 0⟩]⟩] = (9, 0, 0) := by kernel_rfl
  rw [hc1]
  refine ⟨_, _, _, rfl, ?_⟩
  intro w6 h6 _ w7
  obtain ⟨e7, o7⟩ := alloc0 (.cells ⟨[⟨1, 1, 0⟩, ⟨18, 0, 0⟩].flatMap insV⟩ 26) h6 hw5.size
  have hw7 : Below w.heap.size w w7 := e7.after hw5
  intro w8 h8 _ w9
  obtain ⟨e9, o9⟩ := alloc0 (.cells ⟨[.int .i64 0, .int .i64 0, .int .i64 0, .slice (some ⟨w6.heap.size, 0, none⟩) 2 2]⟩ 29) h8 hw7.size
  have hw9 : Below w.heap.size w w9 := e9.after hw7
  have hp9 : ProgAt w9 (some ⟨w8.heap.size, 0, none⟩) 1 [⟨0, 0, 0, [⟨1, 1, 0⟩, ⟨18, 0, 0⟩]⟩] := prog_lit (f := ⟨0, 0, 0, [⟨1, 1, 0⟩, ⟨18, 0, 0⟩]⟩) (w := w9) (t := 29) (c := 2) (C := some ⟨w6.heap.size, 0, none⟩) o9 (RowAt.keep InsE.kept (code_lit (w := w7) (t := 26) o7 (by simp)) (ext_keeps e9))
  refine call_gives hw9 (fun wc ec _ => gives37 (p := [⟨0, 0, 0, [⟨1, 1, 0⟩, ⟨18, 0, 0⟩]⟩]) (RowAt.keep FncE.kept hp9 (ext_keeps ec))) fun w10 e10 hw10 => ?_
  have hc2 : checkM [⟨0, 0, 0, [⟨1, 1, 0⟩, ⟨18, 0, 0⟩]⟩] = (0, 0, 0) := by kernel_rfl
  rw [hc2]
  refine ⟨_, _, _, rfl, ?_⟩
  rw [if_pos (by simp), if_pos (by simp), if_pos (by simp), if_pos (by simp)]
  have hnil : ∀ w', CodeAt w' none 0 [] := fun w' => ⟨rfl, Nat.zero_le _, fun i x h => by simp at h⟩
  refine call_gives hw10 (fun wc _ _ => gives32 (hnil wc) 0 0 0) fun w11 _ hw11 => ⟨_, rfl, ret_is hw11 ?_⟩
  kernel_rfl
end Go.Proofs.Ytlccbaemcfjdoaa
