import Derived.Test.YtidcpndlloppdaaZP21g
/-
  Layer 21, plain: the machine on the programs of AbsmDefers.
  Conditions: none.
-/
set_option linter.unusedVariables false
set_option maxRecDepth 20000
namespace Go.Proofs.Ytidcpndlloppdaa
theorem def_r0 (v : Int) : EndsT (playM (defP [] false v) (newM 0) 100) (defWant [] false v) := by
  refine chunk 4 96 (m' := ⟨0, true, true, false, 0, [], [⟨3, nw v⟩]⟩) (by kernel_rfl) ?_
  exact over_end rfl _ rfl
theorem def_f0 (v : Int) : EndsT (playM (defP [] true v) (newM 0) 100) (defWant [] true v) := by
  refine chunk 4 96 (m' := ⟨0, true, true, false, 0, [], [⟨4, nw v⟩]⟩) (by kernel_rfl) ?_
  exact over_end rfl _ rfl
theorem def_r1 (a v : Int) : EndsT (playM (defP [a] false v) (newM 0) 100) (defWant [a] false v) := by
  refine chunk 4 96 (m' := ⟨0, true, false, false, 0, [⟨0, 3, 0, false, 0, [⟨1, [((nw a : Nat) : Int)]⟩], [], [((nw v : Nat) : Int)]⟩], []⟩) (by kernel_rfl) ?_
  refine chunk 4 92 (m' := ⟨0, true, false, false, 0, [⟨1, 2, 0, true, 0, [], [((nw a : Nat) : Int)], []⟩, ⟨0, 4, 1, false, ((nw v : Nat) : Int), [], [], []⟩], [⟨1, nw a⟩]⟩) (by kernel_rfl) ?_
  refine chunk 4 88 (m' := ⟨0, true, true, false, 0, [], [⟨1, nw a⟩, ⟨3, nw v⟩]⟩) (by kernel_rfl) ?_
  exact over_end rfl _ rfl
theorem def_f1 (a v : Int) : EndsT (playM (defP [a] true v) (newM 0) 100) (defWant [a] true v) := by
  refine chunk 4 96 (m' := ⟨0, true, false, false, 0, [⟨0, 3, 0, false, 0, [⟨1, [((nw a : Nat) : Int)]⟩], [], [((nw v : Nat) : Int)]⟩], []⟩) (by kernel_rfl) ?_
  refine chunk 4 92 (m' := ⟨0, true, false, false, 0, [⟨1, 2, 0, true, 0, [], [((nw a : Nat) : Int)], []⟩, ⟨0, 4, 2, false, ((nw v : Nat) : Int), [], [], []⟩], [⟨1, nw a⟩]⟩) (by kernel_rfl) ?_
  refine chunk 4 88 (m' := ⟨0, true, true, false, 0, [], [⟨1, nw a⟩, ⟨4, nw v⟩]⟩) (by kernel_rfl) ?_
  exact over_end rfl _ rfl
theorem def_r2 (a b v : Int) : EndsT (playM (defP [a, b] false v) (newM 0) 100) (defWant [a, b] false v) := by
  refine chunk 4 96 (m' := ⟨0, true, false, false, 0, [⟨0, 3, 0, false, 0, [⟨1, [((nw a : Nat) : Int)]⟩], [], [((nw b : Nat) : Int)]⟩], []⟩) (by kernel_rfl) ?_
  refine chunk 4 92 (m' := ⟨0, true, false, false, 0, [⟨1, 0, 0, true, 0, [], [((nw b : Nat) : Int)], []⟩, ⟨0, 6, 1, false, ((nw v : Nat) : Int), [⟨1, [((nw a : Nat) : Int)]⟩], [], []⟩], []⟩) (by kernel_rfl) ?_
  refine chunk 4 88 (m' := ⟨0, true, false, false, 0, [⟨1, 4, 1, true, ((nw b : Nat) : Int), [], [((nw b : Nat) : Int)], []⟩, ⟨0, 6, 1, false, ((nw v : Nat) : Int), [⟨1, [((nw a : Nat) : Int)]⟩], [], []⟩], [⟨1, nw b⟩]⟩) (by kernel_rfl) ?_
  refine chunk 4 84 (m' := ⟨0, true, false, false, 0, [⟨1, 2, 0, true, 0, [], [((nw a : Nat) : Int)], []⟩, ⟨0, 6, 1, false, ((nw v : Nat) : Int), [], [], []⟩], [⟨1, nw b⟩, ⟨1, nw a⟩]⟩) (by kernel_rfl) ?_
  refine chunk 4 80 (m' := ⟨0, true, true, false, 0, [], [⟨1, nw b⟩, ⟨1, nw a⟩, ⟨3, nw v⟩]⟩) (by kernel_rfl) ?_
  exact over_end rfl _ rfl
theorem def_f2 (a b v : Int) : EndsT (playM (defP [a, b] true v) (newM 0) 100) (defWant [a, b] true v) := by
  refine chunk 4 96 (m' := ⟨0, true, false, false, 0, [⟨0, 3, 0, false, 0, [⟨1, [((nw a : Nat) : Int)]⟩], [], [((nw b : Nat) : Int)]⟩], []⟩) (by kernel_rfl) ?_
  refine chunk 4 92 (m' := ⟨0, true, false, false, 0, [⟨1, 0, 0, true, 0, [], [((nw b : Nat) : Int)], []⟩, ⟨0, 6, 2, false, ((nw v : Nat) : Int), [⟨1, [((nw a : Nat) : Int)]⟩], [], []⟩], []⟩) (by kernel_rfl) ?_
  refine chunk 4 88 (m' := ⟨0, true, false, false, 0, [⟨1, 4, 1, true, ((nw b : Nat) : Int), [], [((nw b : Nat) : Int)], []⟩, ⟨0, 6, 2, false, ((nw v : Nat) : Int), [⟨1, [((nw a : Nat) : Int)]⟩], [], []⟩], [⟨1, nw b⟩]⟩) (by kernel_rfl) ?_
  refine chunk 4 84 (m' := ⟨0, true, false, false, 0, [⟨1, 2, 0, true, 0, [], [((nw a : Nat) : Int)], []⟩, ⟨0, 6, 2, false, ((nw v : Nat) : Int), [], [], []⟩], [⟨1, nw b⟩, ⟨1, nw a⟩]⟩) (by kernel_rfl) ?_
  refine chunk 4 80 (m' := ⟨0, true, true, false, 0, [], [⟨1, nw b⟩, ⟨1, nw a⟩, ⟨4, nw v⟩]⟩) (by kernel_rfl) ?_
  exact over_end rfl _ rfl
theorem def_r3 (a b c v : Int) : EndsT (playM (defP [a, b, c] false v) (newM 0) 100) (defWant [a, b, c] false v) := by
  refine chunk 4 96 (m' := ⟨0, true, false, false, 0, [⟨0, 3, 0, false, 0, [⟨1, [((nw a : Nat) : Int)]⟩], [], [((nw b : Nat) : Int)]⟩], []⟩) (by kernel_rfl) ?_
  refine chunk 4 92 (m' := ⟨0, true, false, false, 0, [⟨0, 7, 0, false, 0, [⟨1, [((nw a : Nat) : Int)]⟩, ⟨1, [((nw b : Nat) : Int)]⟩, ⟨1, [((nw c : Nat) : Int)]⟩], [], [((nw v : Nat) : Int)]⟩], []⟩) (by kernel_rfl) ?_
  refine chunk 4 88 (m' := ⟨0, true, false, false, 0, [⟨1, 2, 0, true, 0, [], [((nw c : Nat) : Int)], []⟩, ⟨0, 8, 1, false, ((nw v : Nat) : Int), [⟨1, [((nw a : Nat) : Int)]⟩, ⟨1, [((nw b : Nat) : Int)]⟩], [], []⟩], [⟨1, nw c⟩]⟩) (by kernel_rfl) ?_
  refine chunk 4 84 (m' := ⟨0, true, false, false, 0, [⟨1, 0, 0, true, 0, [], [((nw b : Nat) : Int)], []⟩, ⟨0, 8, 1, false, ((nw v : Nat) : Int), [⟨1, [((nw a : Nat) : Int)]⟩], [], []⟩], [⟨1, nw c⟩]⟩) (by kernel_rfl) ?_
  refine chunk 4 80 (m' := ⟨0, true, false, false, 0, [⟨1, 4, 1, true, ((nw b : Nat) : Int), [], [((nw b : Nat) : Int)], []⟩, ⟨0, 8, 1, false, ((nw v : Nat) : Int), [⟨1, [((nw a : Nat) : Int)]⟩], [], []⟩], [⟨1, nw c⟩, ⟨1, nw b⟩]⟩) (by kernel_rfl) ?_
  refine chunk 4 76 (m' := ⟨0, true, false, false, 0, [⟨1, 2, 0, true, 0, [], [((nw a : Nat) : Int)], []⟩, ⟨0, 8, 1, false, ((nw v : Nat) : Int), [], [], []⟩], [⟨1, nw c⟩, ⟨1, nw b⟩, ⟨1, nw a⟩]⟩) (by kernel_rfl) ?_
  refine chunk 4 72 (m' := ⟨0, true, true, false, 0, [], [⟨1, nw c⟩, ⟨1, nw b⟩, ⟨1, nw a⟩, ⟨3, nw v⟩]⟩) (by kernel_rfl) ?_
  exact over_end rfl _ rfl
theorem def_f3 (a b c v : Int) : EndsT (playM (defP [a, b, c] true v) (newM 0) 100) (defWant [a, b, c] true v) := by
  refine chunk 4 96 (m' := ⟨0, true, false, false, 0, [⟨0, 3, 0, false, 0, [⟨1, [((nw a : Nat) : Int)]⟩], [], [((nw b : Nat) : Int)]⟩], []⟩) (by kernel_rfl) ?_
  refine chunk 4 92 (m' := ⟨0, true, false, false, 0, [⟨0, 7, 0, false, 0, [⟨1, [((nw a : Nat) : Int)]⟩, ⟨1, [((nw b : Nat) : Int)]⟩, ⟨1, [((nw c : Nat) : Int)]⟩], [], [((nw v : Nat) : Int)]⟩], []⟩) (by kernel_rfl) ?_
  refine chunk 4 88 (m' := ⟨0, true, false, false, 0, [⟨1, 2, 0, true, 0, [], [((nw c : Nat) : Int)], []⟩, ⟨0, 8, 2, false, ((nw v : Nat) : Int), [⟨1, [((nw a : Nat) : Int)]⟩, ⟨1, [((nw b : Nat) : Int)]⟩], [], []⟩], [⟨1, nw c⟩]⟩) (by kernel_rfl) ?_
  refine chunk 4 84 (m' := ⟨0, true, false, false, 0, [⟨1, 0, 0, true, 0, [], [((nw b : Nat) : Int)], []⟩, ⟨0, 8, 2, false, ((nw v : Nat) : Int), [⟨1, [((nw a : Nat) : Int)]⟩], [], []⟩], [⟨1, nw c⟩]⟩) (by kernel_rfl) ?_
  refine chunk 4 80 (m' := ⟨0, true, false, false, 0, [⟨1, 4, 1, true, ((nw b : Nat) : Int), [], [((nw b : Nat) : Int)], []⟩, ⟨0, 8, 2, false, ((nw v : Nat) : Int), [⟨1, [((nw a : Nat) : Int)]⟩], [], []⟩], [⟨1, nw c⟩, ⟨1, nw b⟩]⟩) (by kernel_rfl) ?_
  refine chunk 4 76 (m' := ⟨0, true, false, false, 0, [⟨1, 2, 0, true, 0, [], [((nw a : Nat) : Int)], []⟩, ⟨0, 8, 2, false, ((nw v : Nat) : Int), [], [], []⟩], [⟨1, nw c⟩, ⟨1, nw b⟩, ⟨1, nw a⟩]⟩) (by kernel_rfl) ?_
  refine chunk 4 72 (m' := ⟨0, true, true, false, 0, [], [⟨1, nw c⟩, ⟨1, nw b⟩, ⟨1, nw a⟩, ⟨4, nw v⟩]⟩) (by kernel_rfl) ?_
  exact over_end rfl _ rfl
theorem def_r4 (a b c d v : Int) : EndsT (playM (defP [a, b, c, d] false v) (newM 0) 100) (defWant [a, b, c, d] false v) := by
  refine chunk 4 96 (m' := ⟨0, true, false, false, 0, [⟨0, 3, 0, false, 0, [⟨1, [((nw a : Nat) : Int)]⟩], [], [((nw b : Nat) : Int)]⟩], []⟩) (by kernel_rfl) ?_
  refine chunk 4 92 (m' := ⟨0, true, false, false, 0, [⟨0, 7, 0, false, 0, [⟨1, [((nw a : Nat) : Int)]⟩, ⟨1, [((nw b : Nat) : Int)]⟩, ⟨1, [((nw c : Nat) : Int)]⟩], [], [((nw d : Nat) : Int)]⟩], []⟩) (by kernel_rfl) ?_
  refine chunk 4 88 (m' := ⟨0, true, false, false, 0, [⟨1, 0, 0, true, 0, [], [((nw d : Nat) : Int)], []⟩, ⟨0, 10, 1, false, ((nw v : Nat) : Int), [⟨1, [((nw a : Nat) : Int)]⟩, ⟨1, [((nw b : Nat) : Int)]⟩, ⟨1, [((nw c : Nat) : Int)]⟩], [], []⟩], []⟩) (by kernel_rfl) ?_
  refine chunk 4 84 (m' := ⟨0, true, false, false, 0, [⟨1, 4, 1, true, ((nw d : Nat) : Int), [], [((nw d : Nat) : Int)], []⟩, ⟨0, 10, 1, false, ((nw v : Nat) : Int), [⟨1, [((nw a : Nat) : Int)]⟩, ⟨1, [((nw b : Nat) : Int)]⟩, ⟨1, [((nw c : Nat) : Int)]⟩], [], []⟩], [⟨1, nw d⟩]⟩) (by kernel_rfl) ?_
  refine chunk 4 80 (m' := ⟨0, true, false, false, 0, [⟨1, 2, 0, true, 0, [], [((nw c : Nat) : Int)], []⟩, ⟨0, 10, 1, false, ((nw v : Nat) : Int), [⟨1, [((nw a : Nat) : Int)]⟩, ⟨1, [((nw b : Nat) : Int)]⟩], [], []⟩], [⟨1, nw d⟩, ⟨1, nw c⟩]⟩) (by kernel_rfl) ?_
  refine chunk 4 76 (m' := ⟨0, true, false, false, 0, [⟨1, 0, 0, true, 0, [], [((nw b : Nat) : Int)], []⟩, ⟨0, 10, 1, false, ((nw v : Nat) : Int), [⟨1, [((nw a : Nat) : Int)]⟩], [], []⟩], [⟨1, nw d⟩, ⟨1, nw c⟩]⟩) (by kernel_rfl) ?_
  refine chunk 4 72 (m' := ⟨0, true, false, false, 0, [⟨1, 4, 1, true, ((nw b : Nat) : Int), [], [((nw b : Nat) : Int)], []⟩, ⟨0, 10, 1, false, ((nw v : Nat) : Int), [⟨1, [((nw a : Nat) : Int)]⟩], [], []⟩], [⟨1, nw d⟩, ⟨1, nw c⟩, ⟨1, nw b⟩]⟩) (by kernel_rfl) ?_
  refine chunk 4 68 (m' := ⟨0, true, false, false, 0, [⟨1, 2, 0, true, 0, [], [((nw a : Nat) : Int)], []⟩, ⟨0, 10, 1, false, ((nw v : Nat) : Int), [], [], []⟩], [⟨1, nw d⟩, ⟨1, nw c⟩, ⟨1, nw b⟩, ⟨1, nw a⟩]⟩) (by kernel_rfl) ?_
  refine chunk 4 64 (m' := ⟨0, true, true, false, 0, [], [⟨1, nw d⟩, ⟨1, nw c⟩, ⟨1, nw b⟩, ⟨1, nw a⟩, ⟨3, nw v⟩]⟩) (by kernel_rfl) ?_
  exact over_end rfl _ rfl
theorem def_f4 (a b c d v : Int) : EndsT (playM (defP [a, b, c, d] true v) (newM 0) 100) (defWant [a, b, c, d] true v) := by
  refine chunk 4 96 (m' := ⟨0, true, false, false, 0, [⟨0, 3, 0, false, 0, [⟨1, [((nw a : Nat) : Int)]⟩], [], [((nw b : Nat) : Int)]⟩], []⟩) (by kernel_rfl) ?_
  refine chunk 4 92 (m' := ⟨0, true, false, false, 0, [⟨0, 7, 0, false, 0, [⟨1, [((nw a : Nat) : Int)]⟩, ⟨1, [((nw b : Nat) : Int)]⟩, ⟨1, [((nw c : Nat) : Int)]⟩], [], [((nw d : Nat) : Int)]⟩], []⟩) (by kernel_rfl) ?_
  refine chunk 4 88 (m' := ⟨0, true, false, false, 0, [⟨1, 0, 0, true, 0, [], [((nw d : Nat) : Int)], []⟩, ⟨0, 10, 2, false, ((nw v : Nat) : Int), [⟨1, [((nw a : Nat) : Int)]⟩, ⟨1, [((nw b : Nat) : Int)]⟩, ⟨1, [((nw c : Nat) : Int)]⟩], [], []⟩], []⟩) (by kernel_rfl) ?_
  refine chunk 4 84 (m' := ⟨0, true, false, false, 0, [⟨1, 4, 1, true, ((nw d : Nat) : Int), [], [((nw d : Nat) : Int)], []⟩, ⟨0, 10, 2, false, ((nw v : Nat) : Int), [⟨1, [((nw a : Nat) : Int)]⟩, ⟨1, [((nw b : Nat) : Int)]⟩, ⟨1, [((nw c : Nat) : Int)]⟩], [], []⟩], [⟨1, nw d⟩]⟩) (by kernel_rfl) ?_
  refine chunk 4 80 (m' := ⟨0, true, false, false, 0, [⟨1, 2, 0, true, 0, [], [((nw c : Nat) : Int)], []⟩, ⟨0, 10, 2, false, ((nw v : Nat) : Int), [⟨1, [((nw a : Nat) : Int)]⟩, ⟨1, [((nw b : Nat) : Int)]⟩], [], []⟩], [⟨1, nw d⟩, ⟨1, nw c⟩]⟩) (by kernel_rfl) ?_
  refine chunk 4 76 (m' := ⟨0, true, false, false, 0, [⟨1, 0, 0, true, 0, [], [((nw b : Nat) : Int)], []⟩, ⟨0, 10, 2, false, ((nw v : Nat) : Int), [⟨1, [((nw a : Nat) : Int)]⟩], [], []⟩], [⟨1, nw d⟩, ⟨1, nw c⟩]⟩) (by kernel_rfl) ?_
  refine chunk 4 72 (m' := ⟨0, true, false, false, 0, [⟨1, 4, 1, true, ((nw b : Nat) : Int), [], [((nw b : Nat) : Int)], []⟩, ⟨0, 10, 2, false, ((nw v : Nat) : Int), [⟨1, [((nw a : Nat) : Int)]⟩], [], []⟩], [⟨1, nw d⟩, ⟨1, nw c⟩, ⟨1, nw b⟩]⟩) (by kernel_rfl) ?_
  refine chunk 4 68 (m' := ⟨0, true, false, false, 0, [⟨1, 2, 0, true, 0, [], [((nw a : Nat) : Int)], []⟩, ⟨0, 10, 2, false, ((nw v : Nat) : Int), [], [], []⟩], [⟨1, nw d⟩, ⟨1, nw c⟩, ⟨1, nw b⟩, ⟨1, nw a⟩]⟩) (by kernel_rfl) ?_
  refine chunk 4 64 (m' := ⟨0, true, true, false, 0, [], [⟨1, nw d⟩, ⟨1, nw c⟩, ⟨1, nw b⟩, ⟨1, nw a⟩, ⟨4, nw v⟩]⟩) (by kernel_rfl) ?_
  exact over_end rfl _ rfl
theorem def_r5 (a b c d e v : Int) : EndsT (playM (defP [a, b, c, d, e] false v) (newM 0) 100) (defWant [a, b, c, d, e] false v) := by
  refine chunk 4 96 (m' := ⟨0, true, false, false, 0, [⟨0, 3, 0, false, 0, [⟨1, [((nw a : Nat) : Int)]⟩], [], [((nw b : Nat) : Int)]⟩], []⟩) (by kernel_rfl) ?_
  refine chunk 4 92 (m' := ⟨0, true, false, false, 0, [⟨0, 7, 0, false, 0, [⟨1, [((nw a : Nat) : Int)]⟩, ⟨1, [((nw b : Nat) : Int)]⟩, ⟨1, [((nw c : Nat) : Int)]⟩], [], [((nw d : Nat) : Int)]⟩], []⟩) (by kernel_rfl) ?_
  refine chunk 4 88 (m' := ⟨0, true, false, false, 0, [⟨1, 0, 0, true, 0, [], [((nw d : Nat) : Int)], []⟩, ⟨0, 10, 2, false, ((oddN 1 : Nat) : Int), [⟨1, [((nw a : Nat) : Int)]⟩, ⟨1, [((nw b : Nat) : Int)]⟩, ⟨1, [((nw c : Nat) : Int)]⟩], [], []⟩], []⟩) (by kernel_rfl) ?_
  refine chunk 4 84 (m' := ⟨0, true, false, false, 0, [⟨1, 4, 1, true, ((nw d : Nat) : Int), [], [((nw d : Nat) : Int)], []⟩, ⟨0, 10, 2, false, ((oddN 1 : Nat) : Int), [⟨1, [((nw a : Nat) : Int)]⟩, ⟨1, [((nw b : Nat) : Int)]⟩, ⟨1, [((nw c : Nat) : Int)]⟩], [], []⟩], [⟨1, nw d⟩]⟩) (by kernel_rfl) ?_
  refine chunk 4 80 (m' := ⟨0, true, false, false, 0, [⟨1, 2, 0, true, 0, [], [((nw c : Nat) : Int)], []⟩, ⟨0, 10, 2, false, ((oddN 1 : Nat) : Int), [⟨1, [((nw a : Nat) : Int)]⟩, ⟨1, [((nw b : Nat) : Int)]⟩], [], []⟩], [⟨1, nw d⟩, ⟨1, nw c⟩]⟩) (by kernel_rfl) ?_
  refine chunk 4 76 (m' := ⟨0, true, false, false, 0, [⟨1, 0, 0, true, 0, [], [((nw b : Nat) : Int)], []⟩, ⟨0, 10, 2, false, ((oddN 1 : Nat) : Int), [⟨1, [((nw a : Nat) : Int)]⟩], [], []⟩], [⟨1, nw d⟩, ⟨1, nw c⟩]⟩) (by kernel_rfl) ?_
  refine chunk 4 72 (m' := ⟨0, true, false, false, 0, [⟨1, 4, 1, true, ((nw b : Nat) : Int), [], [((nw b : Nat) : Int)], []⟩, ⟨0, 10, 2, false, ((oddN 1 : Nat) : Int), [⟨1, [((nw a : Nat) : Int)]⟩], [], []⟩], [⟨1, nw d⟩, ⟨1, nw c⟩, ⟨1, nw b⟩]⟩) (by kernel_rfl) ?_
  refine chunk 4 68 (m' := ⟨0, true, false, false, 0, [⟨1, 2, 0, true, 0, [], [((nw a : Nat) : Int)], []⟩, ⟨0, 10, 2, false, ((oddN 1 : Nat) : Int), [], [], []⟩], [⟨1, nw d⟩, ⟨1, nw c⟩, ⟨1, nw b⟩, ⟨1, nw a⟩]⟩) (by kernel_rfl) ?_
  refine chunk 4 64 (m' := ⟨0, true, true, false, 0, [], [⟨1, nw d⟩, ⟨1, nw c⟩, ⟨1, nw b⟩, ⟨1, nw a⟩, ⟨4, oddN 1⟩]⟩) (by kernel_rfl) ?_
  exact over_end rfl _ (by rw [defWant, ← odd_quo]; rfl)
theorem def_f5 (a b c d e v : Int) : EndsT (playM (defP [a, b, c, d, e] true v) (newM 0) 100) (defWant [a, b, c, d, e] true v) := by
  refine chunk 4 96 (m' := ⟨0, true, false, false, 0, [⟨0, 3, 0, false, 0, [⟨1, [((nw a : Nat) : Int)]⟩], [], [((nw b : Nat) : Int)]⟩], []⟩) (by kernel_rfl) ?_
  refine chunk 4 92 (m' := ⟨0, true, false, false, 0, [⟨0, 7, 0, false, 0, [⟨1, [((nw a : Nat) : Int)]⟩, ⟨1, [((nw b : Nat) : Int)]⟩, ⟨1, [((nw c : Nat) : Int)]⟩], [], [((nw d : Nat) : Int)]⟩], []⟩) (by kernel_rfl) ?_
  refine chunk 4 88 (m' := ⟨0, true, false, false, 0, [⟨1, 0, 0, true, 0, [], [((nw d : Nat) : Int)], []⟩, ⟨0, 10, 2, false, ((oddN 1 : Nat) : Int), [⟨1, [((nw a : Nat) : Int)]⟩, ⟨1, [((nw b : Nat) : Int)]⟩, ⟨1, [((nw c : Nat) : Int)]⟩], [], []⟩], []⟩) (by kernel_rfl) ?_
  refine chunk 4 84 (m' := ⟨0, true, false, false, 0, [⟨1, 4, 1, true, ((nw d : Nat) : Int), [], [((nw d : Nat) : Int)], []⟩, ⟨0, 10, 2, false, ((oddN 1 : Nat) : Int), [⟨1, [((nw a : Nat) : Int)]⟩, ⟨1, [((nw b : Nat) : Int)]⟩, ⟨1, [((nw c : Nat) : Int)]⟩], [], []⟩], [⟨1, nw d⟩]⟩) (by kernel_rfl) ?_
  refine chunk 4 80 (m' := ⟨0, true, false, false, 0, [⟨1, 2, 0, true, 0, [], [((nw c : Nat) : Int)], []⟩, ⟨0, 10, 2, false, ((oddN 1 : Nat) : Int), [⟨1, [((nw a : Nat) : Int)]⟩, ⟨1, [((nw b : Nat) : Int)]⟩], [], []⟩], [⟨1, nw d⟩, ⟨1, nw c⟩]⟩) (by kernel_rfl) ?_
  refine chunk 4 76 (m' := ⟨0, true, false, false, 0, [⟨1, 0, 0, true, 0, [], [((nw b : Nat) : Int)], []⟩, ⟨0, 10, 2, false, ((oddN 1 : Nat) : Int), [⟨1, [((nw a : Nat) : Int)]⟩], [], []⟩], [⟨1, nw d⟩, ⟨1, nw c⟩]⟩) (by kernel_rfl) ?_
  refine chunk 4 72 (m' := ⟨0, true, false, false, 0, [⟨1, 4, 1, true, ((nw b : Nat) : Int), [], [((nw b : Nat) : Int)], []⟩, ⟨0, 10, 2, false, ((oddN 1 : Nat) : Int), [⟨1, [((nw a : Nat) : Int)]⟩], [], []⟩], [⟨1, nw d⟩, ⟨1, nw c⟩, ⟨1, nw b⟩]⟩) (by kernel_rfl) ?_
  refine chunk 4 68 (m' := ⟨0, true, false, false, 0, [⟨1, 2, 0, true, 0, [], [((nw a : Nat) : Int)], []⟩, ⟨0, 10, 2, false, ((oddN 1 : Nat) : Int), [], [], []⟩], [⟨1, nw d⟩, ⟨1, nw c⟩, ⟨1, nw b⟩, ⟨1, nw a⟩]⟩) (by kernel_rfl) ?_
  refine chunk 4 64 (m' := ⟨0, true, true, false, 0, [], [⟨1, nw d⟩, ⟨1, nw c⟩, ⟨1, nw b⟩, ⟨1, nw a⟩, ⟨4, oddN 1⟩]⟩) (by kernel_rfl) ?_
  exact over_end rfl _ (by rw [defWant, ← odd_quo]; rfl)
theorem def_end (l : List Int) (hl : l.length ≤ 5) (falls : Bool) (v : Int) : EndsT (playM (defP l falls v) (newM 0) 100) (defWant l falls v) := by
  match l, hl, falls with
  | [], _, false => exact def_r0 v
  | [], _, true => exact def_f0 v
  | [a], _, false => exact def_r1 a v
  | [a], _, true => exact def_f1 a v
  | [a, b], _, false => exact def_r2 a b v
  | [a, b], _, true => exact def_f2 a b v
  | [a, b, c], _, false => exact def_r3 a b c v
  | [a, b, c], _, true => exact def_f3 a b c v
  | [a, b, c, d], _, false => exact def_r4 a b c d v
  | [a, b, c, d], _, true => exact def_f4 a b c d v
  | [a, b, c, d, e], _, false => exact def_r5 a b c d e v
  | [a, b, c, d, e], _, true => exact def_f5 a b c d e v
  | _ :: _ :: _ :: _ :: _ :: _ :: _, h, _ => simp at h
theorem def_check (l : List Int) (hl : l.length ≤ 5) (ha : ∀ a ∈ l, -128 ≤ a ∧ a ≤ 127) (falls : Bool) (v : Int) (hv : -32768 ≤ v ∧ v ≤ 32767) : checkM (defP l falls v) = (0, 0, 0) := by
  refine check_zero (by simp [defP]) (by simp [defP]) ?_ ?_ ?_
  · match l, hl with
    | [], _ => cases falls <;> intro f hf <;> simp [defP] at hf <;> rcases hf with rfl | rfl <;> rfl
    | [a], _ => cases falls <;> intro f hf <;> simp [defP] at hf <;> rcases hf with rfl | rfl <;> rfl
    | [a, b], _ => cases falls <;> intro f hf <;> simp [defP] at hf <;> rcases hf with rfl | rfl <;> rfl
    | [a, b, c], _ => cases falls <;> intro f hf <;> simp [defP] at hf <;> rcases hf with rfl | rfl <;> rfl
    | [a, b, c, d], _ => cases falls <;> intro f hf <;> simp [defP] at hf <;> rcases hf with rfl | rfl <;> rfl
    | [a, b, c, d, e], _ => cases falls <;> intro f hf <;> simp [defP] at hf <;> rcases hf with rfl | rfl <;> rfl
    | _ :: _ :: _ :: _ :: _ :: _ :: _, h => simp at h
  · match l, hl with
    | [], _ => cases falls <;> simp [defP, defC, oF, shapedI, shapedM, kindM, withinM, rowT, show IntKind.i64.wrap 1 = 1 from by decide] at ha ⊢ <;> omega
    | [a], _ => cases falls <;> simp [defP, defC, oF, shapedI, shapedM, kindM, withinM, rowT, show IntKind.i64.wrap 1 = 1 from by decide] at ha ⊢ <;> omega
    | [a, b], _ => cases falls <;> simp [defP, defC, oF, shapedI, shapedM, kindM, withinM, rowT, show IntKind.i64.wrap 1 = 1 from by decide] at ha ⊢ <;> omega
    | [a, b, c], _ => cases falls <;> simp [defP, defC, oF, shapedI, shapedM, kindM, withinM, rowT, show IntKind.i64.wrap 1 = 1 from by decide] at ha ⊢ <;> omega
    | [a, b, c, d], _ => cases falls <;> simp [defP, defC, oF, shapedI, shapedM, kindM, withinM, rowT, show IntKind.i64.wrap 1 = 1 from by decide] at ha ⊢ <;> omega
    | [a, b, c, d, e], _ => cases falls <;> simp [defP, defC, oF, shapedI, shapedM, kindM, withinM, rowT, show IntKind.i64.wrap 1 = 1 from by decide] at ha ⊢ <;> omega
    | _ :: _ :: _ :: _ :: _ :: _ :: _, h => simp at h
  · intro f hf
    simp [defP] at hf
    rcases hf with rfl | rfl
    · match l, hl with
      | [], _ => exact ⟨[0, 1], by cases falls <;> kernel_rfl⟩
      | [a], _ => exact ⟨[0, 1, 0, 1], by cases falls <;> kernel_rfl⟩
      | [a, b], _ => exact ⟨[0, 1, 0, 1, 0, 1], by cases falls <;> kernel_rfl⟩
      | [a, b, c], _ => exact ⟨[0, 1, 0, 1, 0, 1, 0, 1], by cases falls <;> kernel_rfl⟩
      | [a, b, c, d], _ => exact ⟨[0, 1, 0, 1, 0, 1, 0, 1, 0, 1], by cases falls <;> kernel_rfl⟩
      | [a, b, c, d, e], _ => exact ⟨[0, 1, 0, 1, 0, 1, 0, 1, 0, 1, 0, 1], by cases falls <;> kernel_rfl⟩
      | _ :: _ :: _ :: _ :: _ :: _ :: _, h => simp at h
    · exact ⟨[0, 1, 0, 1], by cases falls <;> kernel_rfl⟩
end Go.Proofs.Ytidcpndlloppdaa
