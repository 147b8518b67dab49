/-
  Layer 20: rules for the law's functions: yards, walkers that run, their roots; walked and awake return true.
  Conditions: the arena, the words, and the program, lie in memory as told.
-/
import Derived.Test.YtlccbaemcfjdoaaZY20
set_option linter.unusedVariables false
set_option linter.unusedSimpArgs false
namespace Go.Proofs.Ytlccbaemcfjdoaa
open Go.RowKit
def Has (a b : World) : Prop := ∀ (k : Nat) (c : Array Value) (t : TypeId) (f : Nat × Nat), a.heap[k]? = some (Obj.cells c t f) → b.heap[k]? = some (Obj.cells c t f)
theorem Has.refl (a : World) : Has a a := fun _ _ _ _ h => h
theorem Has.trans {a b c : World} (h : Has a b) (k : Has b c) : Has a c := fun _ _ _ _ hk => k _ _ _ _ (h _ _ _ _ hk)
theorem Has.cell {a b : World} (h : Has a b) (q : Addr) (v : Value) (hc : a.cell? q = some v) : b.cell? q = some v := by
  obtain ⟨c, t, f, hb⟩ := cell_block hc
  exact (cell_same (by rw [hb, h _ _ _ _ hb])).trans hc
theorem Ext.has {B : Nat} {w w' : World} (h : Ext B w w') : Has w w' := fun k c t f hk => h.row k c t f hk
theorem off_row {g k : Nat} {w : World} {c : Array Value} {t : TypeId} {f : Nat × Nat} : (off g w).heap[k]? = some (Obj.cells c t f) ↔ w.heap[k]? = some (Obj.cells c t f) ∧ k ≠ g := by
  unfold off
  by_cases h : k = g
  · subst h
    exact ⟨fun hc => absurd hc (mask1_nc w k c t f), fun hc => absurd rfl hc.2⟩
  · rw [mask1_ne w h]
    exact ⟨fun hc => ⟨hc, h⟩, fun hc => hc.1⟩
theorem Has.off {a b : World} (h : Has a b) (g : Nat) : Has (off g a) (off g b) := fun k c t f hk => by
  obtain ⟨h1, h2⟩ := off_row.1 hk
  exact off_row.2 ⟨h _ _ _ _ h1, h2⟩
theorem ArenaAt.has {a b : World} {g k : Nat} {mem : List Int} (h : ArenaAt a g k mem) (hs : Has a b) : ArenaAt b g k mem := ⟨hs _ _ _ _ h.head, hs _ _ _ _ h.words, h.wd, h.len⟩
theorem ArenaAt.off {w : World} {ga b g : Nat} {mem : List Int} (h : ArenaAt w ga b mem) (h1 : ga ≠ g) (h2 : b ≠ g) : ArenaAt (off g w) ga b mem := ⟨off_row.2 ⟨h.head, h1⟩, off_row.2 ⟨h.words, h2⟩, h.wd, h.len⟩
theorem YardAt.has {a b' : World} {p : List Fnc} {mem0 : List Int} {lo : Int} {xs : List Frm} {P FA TA : Option Addr} {g b m : Nat} (h : YardAt a p mem0 lo xs P FA TA g b m) (hs : Has a b') : YardAt b' p mem0 lo xs P FA TA g b m :=
  { h with prog := RowAt.keep FncE.kept h.prog (hs.off b).cell, arena := h.arena.has hs, words := hs _ _ _ _ h.words, frms := RowAt.keep FrmE.kept h.frms (hs.off b).cell, ats := RowAt.keep (NumE.kept _) h.ats (hs.off b).cell }
structure Walks (wl wp w : World) (g : Nat) (p : List Fnc) (s : Wk) (RA : Option Addr) (rc : Nat) : Prop where
  at_ : WalkerAt wp w g p s RA rc
  has : Has (off g wl) w
  own : ∀ k, (Value.slice RA s.roots.length rc).ownBlock = some k → wl.heap.size ≤ k
  le : wl.heap.size ≤ w.heap.size
section
variable {w0 wl wp w w' : World} {g ga b : Nat} {p : List Fnc} {s : Wk} {RA : Option Addr} {rc : Nat} {mem : List Int}
theorem Walks.ext {B : Nat} (h : Walks wl wp w g p s RA rc) (he : Ext B w w') : Walks wl wp w' g p s RA rc := ⟨h.at_.ext he, h.has.trans he.has, h.own, Nat.le_trans h.le he.size⟩
theorem WalkerAt.apart {B : Nat} {S : Nat → Prop} (h : WalkerAt wp w g p s RA rc) (he : ExtS B S w w') (hg : ¬ S g) (ho : ∀ k, (Value.slice RA s.roots.length rc).ownBlock = some k → ¬ S k) (hq : ∀ q v, wp.cell? q = some v → ¬ S q.block) : WalkerAt wp w' g p s RA rc := by
  obtain ⟨C, c, K, kc, h1, h2, h3⟩ := h.cells
  exact ⟨⟨C, c, K, kc, he.row _ _ _ _ hg h1, h2, h3⟩, he.owns h.base.row ho, fun q v hv => he.cell (h.base.sub q v hv) (hq q v hv), h.base.lt⟩
end
section
variable {w0 wl wp : World} {g ga b : Nat} {p : List Fnc} {mem : List Int}
end
theorem WalkerAt.other {B b g : Nat} {wp w w' : World} {p : List Fnc} {s : Wk} {RA : Option Addr} {rc : Nat} (h : WalkerAt wp w g p s RA rc) (he : ExtS B (fun k => k = b) w w') (hb : b < wp.heap.size) (hq : ∀ q v, wp.cell? q = some v → b < q.block) : WalkerAt wp w' g p s RA rc := by
  obtain ⟨C, c, K, kc, h1, h2, h3⟩ := h.cells
  have hlt := h.base.lt
  refine ⟨⟨C, c, K, kc, he.row _ _ _ _ (by omega) h1, h2, h3⟩, he.owns h.base.row fun k hk e => ?_, fun q v hv => he.cell (h.base.sub q v hv) (by have := hq q v hv; omega), hlt⟩
  have := (h.base.row.lt k hk).1
  omega
end Go.Proofs.Ytlccbaemcfjdoaa
