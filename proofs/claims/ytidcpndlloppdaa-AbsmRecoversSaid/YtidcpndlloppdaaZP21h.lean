import Derived.Test.YtidcpndlloppdaaZP21i
/-
  Layer 21, plain: the machine on the programs of AbsmRecovers.
  Conditions: none.
-/
set_option linter.unusedVariables false
set_option maxRecDepth 20000
namespace Go.Proofs.Ytidcpndlloppdaa
theorem rec_n0 (v : Int) : EndsT (playM (recP false [] v) (newM 0) 60) (recWant false [] v) := by
  refine chunk 4 56 (m' := ⟨0, true, false, false, 0, [⟨0, 3, 2, false, ((nw v : Nat) : Int), [⟨1, []⟩], [], []⟩], []⟩) (by kernel_rfl) ?_
  refine chunk 4 52 (m' := ⟨0, true, false, false, 0, [⟨1, 3, 1, true, ((nw v : Nat) : Int), [], [], []⟩, ⟨0, 3, 1, false, ((nw 0 : Nat) : Int), [], [], []⟩], [⟨2, nw v⟩]⟩) (by kernel_rfl) ?_
  refine chunk 2 50 (m' := ⟨0, true, true, false, 0, [], [⟨2, nw v⟩, ⟨3, nw 0⟩]⟩) (by kernel_rfl) ?_
  exact over_end rfl _ rfl
theorem rec_n1 (a v : Int) : EndsT (playM (recP false [a] v) (newM 0) 60) (recWant false [a] v) := by
  refine chunk 4 56 (m' := ⟨0, true, false, false, 0, [⟨0, 3, 0, false, 0, [⟨1, []⟩], [], []⟩], [⟨1, nw a⟩]⟩) (by kernel_rfl) ?_
  refine chunk 4 52 (m' := ⟨0, true, false, false, 0, [⟨1, 1, 0, true, 0, [], [], [((nw v : Nat) : Int), ((nw 1 : Nat) : Int)]⟩, ⟨0, 5, 1, false, ((nw 0 : Nat) : Int), [], [], []⟩], [⟨1, nw a⟩, ⟨2, nw v⟩]⟩) (by kernel_rfl) ?_
  refine chunk 4 48 (m' := ⟨0, true, true, false, 0, [], [⟨1, nw a⟩, ⟨2, nw v⟩, ⟨3, nw 0⟩]⟩) (by kernel_rfl) ?_
  exact over_end rfl _ rfl
theorem rec_n2 (a b v : Int) : EndsT (playM (recP false [a, b] v) (newM 0) 60) (recWant false [a, b] v) := by
  refine chunk 4 56 (m' := ⟨0, true, false, false, 0, [⟨0, 3, 0, false, 0, [⟨1, []⟩], [], []⟩], [⟨1, nw a⟩]⟩) (by kernel_rfl) ?_
  refine chunk 4 52 (m' := ⟨0, true, false, false, 0, [⟨0, 7, 2, false, ((nw v : Nat) : Int), [⟨1, []⟩], [], []⟩], [⟨1, nw a⟩, ⟨1, nw b⟩]⟩) (by kernel_rfl) ?_
  refine chunk 4 48 (m' := ⟨0, true, false, false, 0, [⟨1, 3, 1, true, ((nw v : Nat) : Int), [], [], []⟩, ⟨0, 7, 1, false, ((nw 0 : Nat) : Int), [], [], []⟩], [⟨1, nw a⟩, ⟨1, nw b⟩, ⟨2, nw v⟩]⟩) (by kernel_rfl) ?_
  refine chunk 2 46 (m' := ⟨0, true, true, false, 0, [], [⟨1, nw a⟩, ⟨1, nw b⟩, ⟨2, nw v⟩, ⟨3, nw 0⟩]⟩) (by kernel_rfl) ?_
  exact over_end rfl _ rfl
theorem rec_n3 (a b c v : Int) : EndsT (playM (recP false [a, b, c] v) (newM 0) 60) (recWant false [a, b, c] v) := by
  refine chunk 4 56 (m' := ⟨0, true, false, false, 0, [⟨0, 3, 0, false, 0, [⟨1, []⟩], [], []⟩], [⟨1, nw a⟩]⟩) (by kernel_rfl) ?_
  refine chunk 4 52 (m' := ⟨0, true, false, false, 0, [⟨0, 7, 0, false, 0, [⟨1, []⟩], [], []⟩], [⟨1, nw a⟩, ⟨1, nw b⟩, ⟨1, nw c⟩]⟩) (by kernel_rfl) ?_
  refine chunk 4 48 (m' := ⟨0, true, false, false, 0, [⟨1, 1, 0, true, 0, [], [], [((nw v : Nat) : Int), ((nw 1 : Nat) : Int)]⟩, ⟨0, 9, 1, false, ((nw 0 : Nat) : Int), [], [], []⟩], [⟨1, nw a⟩, ⟨1, nw b⟩, ⟨1, nw c⟩, ⟨2, nw v⟩]⟩) (by kernel_rfl) ?_
  refine chunk 4 44 (m' := ⟨0, true, true, false, 0, [], [⟨1, nw a⟩, ⟨1, nw b⟩, ⟨1, nw c⟩, ⟨2, nw v⟩, ⟨3, nw 0⟩]⟩) (by kernel_rfl) ?_
  exact over_end rfl _ rfl
theorem rec_n4 (a b c d v : Int) : EndsT (playM (recP false [a, b, c, d] v) (newM 0) 60) (recWant false [a, b, c, d] v) := by
  refine chunk 4 56 (m' := ⟨0, true, false, false, 0, [⟨0, 3, 0, false, 0, [⟨1, []⟩], [], []⟩], [⟨1, nw a⟩]⟩) (by kernel_rfl) ?_
  refine chunk 4 52 (m' := ⟨0, true, false, false, 0, [⟨0, 7, 0, false, 0, [⟨1, []⟩], [], []⟩], [⟨1, nw a⟩, ⟨1, nw b⟩, ⟨1, nw c⟩]⟩) (by kernel_rfl) ?_
  refine chunk 4 48 (m' := ⟨0, true, false, false, 0, [⟨0, 11, 2, false, ((nw v : Nat) : Int), [⟨1, []⟩], [], []⟩], [⟨1, nw a⟩, ⟨1, nw b⟩, ⟨1, nw c⟩, ⟨1, nw d⟩]⟩) (by kernel_rfl) ?_
  refine chunk 4 44 (m' := ⟨0, true, false, false, 0, [⟨1, 3, 1, true, ((nw v : Nat) : Int), [], [], []⟩, ⟨0, 11, 1, false, ((nw 0 : Nat) : Int), [], [], []⟩], [⟨1, nw a⟩, ⟨1, nw b⟩, ⟨1, nw c⟩, ⟨1, nw d⟩, ⟨2, nw v⟩]⟩) (by kernel_rfl) ?_
  refine chunk 2 42 (m' := ⟨0, true, true, false, 0, [], [⟨1, nw a⟩, ⟨1, nw b⟩, ⟨1, nw c⟩, ⟨1, nw d⟩, ⟨2, nw v⟩, ⟨3, nw 0⟩]⟩) (by kernel_rfl) ?_
  exact over_end rfl _ rfl
theorem rec_d0 (v : Int) : EndsT (playM (recP true [] v) (newM 0) 60) (recWant true [] v) := by
  refine chunk 4 56 (m' := ⟨0, true, false, false, 0, [⟨0, 3, 2, false, ((nw v : Nat) : Int), [⟨1, []⟩], [], []⟩], []⟩) (by kernel_rfl) ?_
  refine chunk 4 52 (m' := ⟨0, true, false, false, 0, [⟨2, 2, 0, false, 0, [], [], [((nw 0 : Nat) : Int)]⟩, ⟨1, 1, 0, true, 0, [], [], []⟩, ⟨0, 3, 2, false, ((nw v : Nat) : Int), [], [], []⟩], []⟩) (by kernel_rfl) ?_
  refine chunk 4 48 (m' := ⟨0, true, false, false, 0, [⟨0, 3, 2, false, ((nw v : Nat) : Int), [], [], []⟩], []⟩) (by kernel_rfl) ?_
  refine chunk 1 47 (m' := ⟨0, true, true, false, 0, [], [⟨4, nw v⟩]⟩) (by kernel_rfl) ?_
  exact over_end rfl _ rfl
theorem rec_d1 (a v : Int) : EndsT (playM (recP true [a] v) (newM 0) 60) (recWant true [a] v) := by
  refine chunk 4 56 (m' := ⟨0, true, false, false, 0, [⟨0, 3, 0, false, 0, [⟨1, []⟩], [], []⟩], [⟨1, nw a⟩]⟩) (by kernel_rfl) ?_
  refine chunk 4 52 (m' := ⟨0, true, false, false, 0, [⟨2, 0, 0, false, 0, [], [], []⟩, ⟨1, 1, 0, true, 0, [], [], []⟩, ⟨0, 5, 2, false, ((nw v : Nat) : Int), [], [], []⟩], [⟨1, nw a⟩]⟩) (by kernel_rfl) ?_
  refine chunk 4 48 (m' := ⟨0, true, false, false, 0, [⟨1, 1, 0, true, 0, [], [], [((nw 0 : Nat) : Int)]⟩, ⟨0, 5, 2, false, ((nw v : Nat) : Int), [], [], []⟩], [⟨1, nw a⟩]⟩) (by kernel_rfl) ?_
  refine chunk 3 45 (m' := ⟨0, true, true, false, 0, [], [⟨1, nw a⟩, ⟨4, nw v⟩]⟩) (by kernel_rfl) ?_
  exact over_end rfl _ rfl
theorem rec_d2 (a b v : Int) : EndsT (playM (recP true [a, b] v) (newM 0) 60) (recWant true [a, b] v) := by
  refine chunk 4 56 (m' := ⟨0, true, false, false, 0, [⟨0, 3, 0, false, 0, [⟨1, []⟩], [], []⟩], [⟨1, nw a⟩]⟩) (by kernel_rfl) ?_
  refine chunk 4 52 (m' := ⟨0, true, false, false, 0, [⟨0, 7, 2, false, ((nw v : Nat) : Int), [⟨1, []⟩], [], []⟩], [⟨1, nw a⟩, ⟨1, nw b⟩]⟩) (by kernel_rfl) ?_
  refine chunk 4 48 (m' := ⟨0, true, false, false, 0, [⟨2, 2, 0, false, 0, [], [], [((nw 0 : Nat) : Int)]⟩, ⟨1, 1, 0, true, 0, [], [], []⟩, ⟨0, 7, 2, false, ((nw v : Nat) : Int), [], [], []⟩], [⟨1, nw a⟩, ⟨1, nw b⟩]⟩) (by kernel_rfl) ?_
  refine chunk 4 44 (m' := ⟨0, true, false, false, 0, [⟨0, 7, 2, false, ((nw v : Nat) : Int), [], [], []⟩], [⟨1, nw a⟩, ⟨1, nw b⟩]⟩) (by kernel_rfl) ?_
  refine chunk 1 43 (m' := ⟨0, true, true, false, 0, [], [⟨1, nw a⟩, ⟨1, nw b⟩, ⟨4, nw v⟩]⟩) (by kernel_rfl) ?_
  exact over_end rfl _ rfl
theorem rec_d3 (a b c v : Int) : EndsT (playM (recP true [a, b, c] v) (newM 0) 60) (recWant true [a, b, c] v) := by
  refine chunk 4 56 (m' := ⟨0, true, false, false, 0, [⟨0, 3, 0, false, 0, [⟨1, []⟩], [], []⟩], [⟨1, nw a⟩]⟩) (by kernel_rfl) ?_
  refine chunk 4 52 (m' := ⟨0, true, false, false, 0, [⟨0, 7, 0, false, 0, [⟨1, []⟩], [], []⟩], [⟨1, nw a⟩, ⟨1, nw b⟩, ⟨1, nw c⟩]⟩) (by kernel_rfl) ?_
  refine chunk 4 48 (m' := ⟨0, true, false, false, 0, [⟨2, 0, 0, false, 0, [], [], []⟩, ⟨1, 1, 0, true, 0, [], [], []⟩, ⟨0, 9, 2, false, ((nw v : Nat) : Int), [], [], []⟩], [⟨1, nw a⟩, ⟨1, nw b⟩, ⟨1, nw c⟩]⟩) (by kernel_rfl) ?_
  refine chunk 4 44 (m' := ⟨0, true, false, false, 0, [⟨1, 1, 0, true, 0, [], [], [((nw 0 : Nat) : Int)]⟩, ⟨0, 9, 2, false, ((nw v : Nat) : Int), [], [], []⟩], [⟨1, nw a⟩, ⟨1, nw b⟩, ⟨1, nw c⟩]⟩) (by kernel_rfl) ?_
  refine chunk 3 41 (m' := ⟨0, true, true, false, 0, [], [⟨1, nw a⟩, ⟨1, nw b⟩, ⟨1, nw c⟩, ⟨4, nw v⟩]⟩) (by kernel_rfl) ?_
  exact over_end rfl _ rfl
theorem rec_d4 (a b c d v : Int) : EndsT (playM (recP true [a, b, c, d] v) (newM 0) 60) (recWant true [a, b, c, d] v) := by
  refine chunk 4 56 (m' := ⟨0, true, false, false, 0, [⟨0, 3, 0, false, 0, [⟨1, []⟩], [], []⟩], [⟨1, nw a⟩]⟩) (by kernel_rfl) ?_
  refine chunk 4 52 (m' := ⟨0, true, false, false, 0, [⟨0, 7, 0, false, 0, [⟨1, []⟩], [], []⟩], [⟨1, nw a⟩, ⟨1, nw b⟩, ⟨1, nw c⟩]⟩) (by kernel_rfl) ?_
  refine chunk 4 48 (m' := ⟨0, true, false, false, 0, [⟨0, 11, 2, false, ((nw v : Nat) : Int), [⟨1, []⟩], [], []⟩], [⟨1, nw a⟩, ⟨1, nw b⟩, ⟨1, nw c⟩, ⟨1, nw d⟩]⟩) (by kernel_rfl) ?_
  refine chunk 4 44 (m' := ⟨0, true, false, false, 0, [⟨2, 2, 0, false, 0, [], [], [((nw 0 : Nat) : Int)]⟩, ⟨1, 1, 0, true, 0, [], [], []⟩, ⟨0, 11, 2, false, ((nw v : Nat) : Int), [], [], []⟩], [⟨1, nw a⟩, ⟨1, nw b⟩, ⟨1, nw c⟩, ⟨1, nw d⟩]⟩) (by kernel_rfl) ?_
  refine chunk 4 40 (m' := ⟨0, true, false, false, 0, [⟨0, 11, 2, false, ((nw v : Nat) : Int), [], [], []⟩], [⟨1, nw a⟩, ⟨1, nw b⟩, ⟨1, nw c⟩, ⟨1, nw d⟩]⟩) (by kernel_rfl) ?_
  refine chunk 1 39 (m' := ⟨0, true, true, false, 0, [], [⟨1, nw a⟩, ⟨1, nw b⟩, ⟨1, nw c⟩, ⟨1, nw d⟩, ⟨4, nw v⟩]⟩) (by kernel_rfl) ?_
  exact over_end rfl _ rfl
theorem rec_end (deep : Bool) (l : List Int) (hl : l.length ≤ 4) (v : Int) : EndsT (playM (recP deep l v) (newM 0) 60) (recWant deep l v) := by
  match l, hl, deep with
  | [], _, false => exact rec_n0 v
  | [], _, true => exact rec_d0 v
  | [a], _, false => exact rec_n1 a v
  | [a], _, true => exact rec_d1 a v
  | [a, b], _, false => exact rec_n2 a b v
  | [a, b], _, true => exact rec_d2 a b v
  | [a, b, c], _, false => exact rec_n3 a b c v
  | [a, b, c], _, true => exact rec_d3 a b c v
  | [a, b, c, d], _, false => exact rec_n4 a b c d v
  | [a, b, c, d], _, true => exact rec_d4 a b c d v
  | _ :: _ :: _ :: _ :: _ :: _, h, _ => simp at h
end Go.Proofs.Ytidcpndlloppdaa
