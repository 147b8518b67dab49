/-
  Layer 20: walkers: what a new one is, what each step reads, returns and leaves.
  Conditions: the walker, the arena and the program lie in memory as told; the program's functions are sized.
-/
import Derived.Test.YtlccbaemcfjdoaaZG20
set_option linter.unusedVariables false
set_option linter.unusedSimpArgs false
namespace Go.Proofs.Ytlccbaemcfjdoaa
open Go.RowKit
structure Wk where
  at_ : Int
  next : Int
  under : Int
  f : Fnc
  roots : List Int
abbrev LookW := Int × Bool × Int
def wkC (C : Option Addr) (pl c : Nat) (K : Option Addr) (kc : Nat) (RA : Option Addr) (rc : Nat) (s : Wk) : List Value :=
  [.slice C pl c, .int .i64 s.at_, .int .i64 s.next, .int .i64 s.under, .int .i64 s.f.params, .int .i64 s.f.locals, .int .i64 s.f.refs, .slice K s.f.code.length kc, .slice RA s.roots.length rc]
structure WBase (wp w : World) (g : Nat) (RA : Option Addr) (rc : Nat) (roots : List Int) : Prop where
  row : w.ownsRow wp.heap.size 51 1 (.slice RA roots.length rc) roots.length (roots.map (.int .u64))
  sub : ∀ q v, wp.cell? q = some v → w.cell? q = some v
  lt : wp.heap.size ≤ g
structure WalkerAt (wp w : World) (g : Nat) (p : List Fnc) (s : Wk) (RA : Option Addr) (rc : Nat) : Prop where
  cells : ∃ C c K kc, w.heap[g]? = some (.cells ⟨wkC C p.length c K kc RA rc s⟩ 162 (0, 0)) ∧ ProgAt wp C p.length p ∧ CodeAt wp K s.f.code.length s.f.code
  base : WBase wp w g RA rc s.roots
theorem WBase.set {wp w : World} {g : Nat} {RA : Option Addr} {rc : Nat} {roots : List Int} (h : WBase wp w g RA rc roots) {L : List Value} (hg : w.heap[g]? = some (.cells ⟨L⟩ 162 (0, 0))) (i : Nat) (v : Value) : WBase wp (w.setCell ⟨g, i, none⟩ v) g RA rc roots :=
  ⟨owns_other h.row fun j hj => at_other fun e => by
      subst e
      exact other_own h.row (ts := [162]) (by simp) _ _ _ _ hj hg (by simp),
    fun q u hq => (cell_same (at_other (by have := cell_lt hq; have := h.lt; omega))).trans (h.sub q u hq), h.lt⟩
theorem WBase.ext {B : Nat} {wp w w' : World} {g : Nat} {RA : Option Addr} {rc : Nat} {roots : List Int} (h : WBase wp w g RA rc roots) (he : Ext B w w') : WBase wp w' g RA rc roots := ⟨he.owns h.row, fun q v hq => he.cell (h.sub q v hq), h.lt⟩
theorem WalkerAt.ext {B : Nat} {wp w w' : World} {g : Nat} {p : List Fnc} {s : Wk} {RA : Option Addr} {rc : Nat} (h : WalkerAt wp w g p s RA rc) (he : Ext B w w') : WalkerAt wp w' g p s RA rc := by
  obtain ⟨C, c, K, kc, h1, h2, h3⟩ := h.cells
  exact ⟨⟨C, c, K, kc, he.row _ _ _ _ h1, h2, h3⟩, h.base.ext he⟩
section
variable {wp w0 w : World} {g : Nat} {p : List Fnc} {RA0 : Option Addr} {n0 rc0 : Nat}
end
theorem below_chg {S : Nat → Prop} {w0 w : World} (h : Below w0.heap.size w0 w) : Chg S w0 w := ⟨h.os, h.tape, h.output, h.size, fun k hk _ => h.block k hk⟩
section
variable {wp w0 w : World} {g : Nat} {p : List Fnc} {s : Wk} {RA : Option Addr} {rc : Nat} {mem : List Int}
end
end Go.Proofs.Ytlccbaemcfjdoaa
