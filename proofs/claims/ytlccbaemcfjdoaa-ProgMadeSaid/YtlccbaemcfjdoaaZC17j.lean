/-
  Layer 17: two of its laws' functions return true.
  Conditions: the arguments' memory says what their values are.
-/
import Derived.Test.YtlccbaemcfjdoaaZC17i
set_option linter.unusedVariables false
set_option linter.unusedSimpArgs false
namespace Go.Proofs.Ytlccbaemcfjdoaa
open Go.RowKit
theorem gives34 (w : World) : Gives Try.prog 34 [] w (.bool true) := by
  refine gives_of (V34.sound ?_)
  unfold V34.vc
  intro w1 h1 _ w2
  obtain ⟨e2, o2⟩ := alloc0 (.cells ⟨[⟨18, 0, 0⟩].flatMap insV⟩ 26) h1 (Nat.le_refl _)
  have hw2 : Below w.heap.size w w2 := e2.below
  intro w3 h3 _ w4
  obtain ⟨e4, o4⟩ := alloc0 (.cells ⟨[.int .i64 0, .int .i64 0, .int .i64 0, .slice (some ⟨w1.heap.size, 0, none⟩) 1 1]⟩ 29) h3 hw2.size
  have hw4 : Below w.heap.size w w4 := e4.after hw2
  have hp4 : ProgAt w4 (some ⟨w3.heap.size, 0, none⟩) 1 [⟨0, 0, 0, [⟨18, 0, 0⟩]⟩] := prog_lit (f := ⟨0, 0, 0, [⟨18, 0, 0⟩]⟩) (w := w4) (t := 29) (c := 1) (C := some ⟨w1.heap.size, 0, none⟩) o4 (RowAt.keep InsE.kept (code_lit (w := w2) (t := 26) o2 (by simp)) (ext_keeps e4))
  refine call_gives hw4 (fun wc ec _ => gives37 (p := [⟨0, 0, 0, [⟨18, 0, 0⟩]⟩]) (RowAt.keep FncE.kept hp4 (ext_keeps ec))) fun w5 e5 hw5 => ?_
  have hc1 : checkM [⟨0, 0, 0, [⟨18, 0, 0⟩]⟩] = (9, 0, 0) := by kernel_rfl
  rw [hc1]
  refine ⟨_, _, _, rfl, ?_⟩
  intro w6 h6 _ w7
  obtain ⟨e7, o7⟩ := alloc0 (.cells ⟨[⟨1, 1, 0⟩, ⟨18, 0, 0⟩].flatMap insV⟩ 26) h6 hw5.size
  have hw7 : Below w.heap.size w w7 := e7.after hw5
  intro w8 h8 _ w9
  obtain ⟨e9, o9⟩ := alloc0 (.cells ⟨[.int .i64 0, .int .i64 0, .int .i64 0, .slice (some ⟨w6.heap.size, 0, none⟩) 2 2]⟩ 29) h8 hw7.size
  have hw9 : Below w.heap.size w w9 := e9.after hw7
  have hp9 : ProgAt w9 (some ⟨w8.heap.size, 0, none⟩) 1 [⟨0, 0, 0, [⟨1, 1, 0⟩, ⟨18, 0, 0⟩]⟩] := prog_lit (f := ⟨0, 0, 0, [⟨1, 1, 0⟩, ⟨18, 0, 0⟩]⟩) (w := w9) (t := 29) (c := 2) (C := some ⟨w6.heap.size, 0, none⟩) o9 (RowAt.keep InsE.kept (code_lit (w := w7) (t := 26) o7 (by simp)) (ext_keeps e9))
  refine call_gives hw9 (fun wc ec _ => gives37 (p := [⟨0, 0, 0, [⟨1, 1, 0⟩, ⟨18, 0, 0⟩]⟩]) (RowAt.keep FncE.kept hp9 (ext_keeps ec))) fun w10 e10 hw10 => ?_
  have hc2 : checkM [⟨0, 0, 0, [⟨1, 1, 0⟩, ⟨18, 0, 0⟩]⟩] = (0, 0, 0) := by kernel_rfl
  rw [hc2]
  refine ⟨_, _, _, rfl, ?_⟩
  rw [if_pos (by simp), if_pos (by simp), if_pos (by simp), if_pos (by simp)]
  have hnil : ∀ w', CodeAt w' none 0 [] := fun w' => ⟨rfl, Nat.zero_le _, fun i x h => by simp at h⟩
  refine call_gives hw10 (fun wc _ _ => gives32 (hnil wc) 0 0 0) fun w11 _ hw11 => ⟨_, rfl, ret_is hw11 ?_⟩
  kernel_rfl
end Go.Proofs.Ytlccbaemcfjdoaa
