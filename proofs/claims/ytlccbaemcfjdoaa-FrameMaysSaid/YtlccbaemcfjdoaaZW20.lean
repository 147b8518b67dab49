/-
  Layer 20: walkers: what a new one is, what each step reads, returns and leaves.
  Conditions: the walker, the arena and the program lie in memory as told; the program's functions are sized.
-/
import Derived.Test.YtlccbaemcfjdoaaZG20
set_option linter.unusedVariables false
set_option linter.unusedSimpArgs false
namespace Go.Proofs.Ytlccbaemcfjdoaa
open Go.RowKit
structure Wk where
  at_ : Int
  next : Int
  under : Int
  f : Fnc
  roots : List Int
abbrev LookW := Int × Bool × Int
def wkC (C : Option Addr) (pl c : Nat) (K : Option Addr) (kc : Nat) (RA : Option Addr) (rc : Nat) (s : Wk) : List Value :=
  [.slice C pl c, .int .i64 s.at_, .int .i64 s.next, .int .i64 s.under, .int .i64 s.f.params, .int .i64 s.f.locals, .int .i64 s.f.refs, .slice K s.f.code.length kc, .slice RA s.roots.length rc]
structure WBase (wp w : World) (g : Nat) (RA : Option Addr) (rc : Nat) (roots : List Int) : Prop where
  row : w.ownsRow wp.heap.size 51 1 (.slice RA roots.length rc) roots.length (roots.map (.int .u64))
  sub : ∀ q v, wp.cell? q = some v → w.cell? q = some v
  lt : wp.heap.size ≤ g
structure WalkerAt (wp w : World) (g : Nat) (p : List Fnc) (s : Wk) (RA : Option Addr) (rc : Nat) : Prop where
  cells : ∃ C c K kc, w.heap[g]? = some (.cells ⟨wkC C p.length c K kc RA rc s⟩ 162 (0, 0)) ∧ ProgAt wp C p.length p ∧ CodeAt wp K s.f.code.length s.f.code
  base : WBase wp w g RA rc s.roots
theorem WBase.ext {B : Nat} {wp w w' : World} {g : Nat} {RA : Option Addr} {rc : Nat} {roots : List Int} (h : WBase wp w g RA rc roots) (he : Ext B w w') : WBase wp w' g RA rc roots := ⟨he.owns h.row, fun q v hq => he.cell (h.sub q v hq), h.lt⟩
theorem WalkerAt.ext {B : Nat} {wp w w' : World} {g : Nat} {p : List Fnc} {s : Wk} {RA : Option Addr} {rc : Nat} (h : WalkerAt wp w g p s RA rc) (he : Ext B w w') : WalkerAt wp w' g p s RA rc := by
  obtain ⟨C, c, K, kc, h1, h2, h3⟩ := h.cells
  exact ⟨⟨C, c, K, kc, he.row _ _ _ _ h1, h2, h3⟩, h.base.ext he⟩
section
variable {wp w0 w : World} {g : Nat} {p : List Fnc} {RA0 : Option Addr} {n0 rc0 : Nat}
end
theorem push_wordO {B b0 : Nat} {w : World} {bs : List Nat} {v : Value} {n : Nat} {xs : List Int} {x : Int} {K : Value → World → Prop} (hB : B ≤ w.heap.size) (hb0 : b0 ≤ w.heap.size) (ho : w.ownsRow b0 51 1 v n (xs.map (.int .u64))) (hn : n ≤ 1000000000)
    (hk : ∀ v' w', ExtS B (fun k => v.ownBlock = some k) w w' → w'.ownsRow b0 51 1 v' (n + 1) ((xs ++ [x]).map (.int .u64)) → (∀ g, v'.ownBlock = some g → v.ownBlock = some g ∨ w.heap.size ≤ g) → K v' w') :
    Expo B w bs fun w1 => Hide bs (w1.alloc (.cells ⟨[.int .u64 x]⟩ 51)) fun w2 => RunK Try.prog (Builtin.append_ #[50, 50] 50 ⟨[v, .slice (some ⟨w1.heap.size, 0, none⟩) 1 1]⟩) B w2 bs K := by
  refine expo_alloc hB fun w1 w2 hs e2 _ ho2 => ?_
  have hb8 : Try.t51.bytes = 8 := by kernel_rfl
  have hx : Nums .u64 w2 (some ⟨w1.heap.size, 0, none⟩) 1 [x] := OwnI.nums (xs := [x]) (e := 51) ho2 (by simp only [List.length_cons, List.length_nil, maxLen]; omega)
  refine append_nums (t := 50) (e := 51) (i := Try.t51) (k := .u64) (bytes := 8) (b0 := b0) (by kernel_rfl) (by kernel_rfl) (by kernel_rfl) (by kernel_rfl) hb8 (Nat.le_refl _) (e2.owns ho) hx (by omega) (Nat.le_trans hB e2.size) (Nat.le_trans hb0 e2.size) fun v' w' he ho' hf => hk v' w' (he.ofExt e2) ho' fun g hg => (hf g hg).imp id fun h => Nat.le_trans e2.size h
section
variable {wp w0 w : World} {g : Nat} {p : List Fnc} {s : Wk} {RA : Option Addr} {rc : Nat} {mem : List Int}
end
end Go.Proofs.Ytlccbaemcfjdoaa
