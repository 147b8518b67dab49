/-
  Layer 20: rules for calls of walkers; a new walker; what holds of each walker after each step.
  Conditions: none.
-/
import Derived.Test.YtlccbaemcfjdoaaZW20
set_option linter.unusedVariables false
set_option linter.unusedSimpArgs false
namespace Go.Proofs.Ytlccbaemcfjdoaa
open Go.RowKit
theorem newW_size (B : Nat) (w : World) : (newW B w).heap.size = w.heap.size := (mask_msk (List.range B) w).size
def wk0 (top : Int) : Wk := ⟨top, 0, 0, ⟨0, 0, 0, []⟩, []⟩
theorem call_neww {w0 w : World} {bs : List Nat} {P : Option Addr} {cap : Nat} {p : List Fnc} {top : Int} {K : Value → World → Prop} (hB : w0.heap.size ≤ w.heap.size) (h : ProgAt w P p.length p) (hs : Sized p) (hl : 1 ≤ p.length ∧ p.length ≤ 1000)
    (hk : ∀ wp g w', Ext w0.heap.size w w' → w.heap.size ≤ wp.heap.size → (∀ q v, wp.cell? q = some v → w.heap.size ≤ q.block) → WalkerAt wp w' g p (wk0 top) none 0 → K (.pointer (some ⟨g, 0, none⟩)) w') : CallK Try.prog 63 [.agg ⟨[.slice P p.length cap]⟩, .int .i64 top] w0.heap.size w bs K := by
  have y : ∀ w1, Ext w0.heap.size w w1 → Yields Try.prog 63 [.agg ⟨[.slice P p.length cap]⟩, .int .i64 top] w1 (fun v w2 => ∃ wc g, v = .pointer (some ⟨g, 0, none⟩) ∧ w1.heap.size ≤ wc.heap.size ∧ WalkerAt (newW w1.heap.size wc) w2 g p (wk0 top) none 0) := fun w1 e1 => by
    refine yields_of (V63.sound ?_)
    intro q2 _
    refine call_clone (Nat.le_refl _) (RowAt.keep FncE.kept h (ext_keeps e1)) hs hl fun C c w2 e2 hC => ⟨C, _, c, rfl, ?_⟩
    refine expo_alloc e2.size fun w3 w4 hs3 e4 _ ho4 => ?_
    refine ret_q (e4.after (e2.after (Below.refl _ _))) fun w5 e5 => ⟨w2, w3.heap.size, rfl, e2.size, ⟨C, c, none, 0, e5.row _ _ _ _ ho4, hC, rfl, Nat.zero_le _, fun i x h => by simp [wk0] at h⟩, ⟨World.ownsRow_nil _ _ _ _, fun q v hq => e5.cell (e4.cell (newW_in _ _ hq)), by rw [newW_size]; exact hs3⟩⟩
  refine call_yieldsX (Q := fun w1 v w2 => ∃ wc g, v = .pointer (some ⟨g, 0, none⟩) ∧ w1.heap.size ≤ wc.heap.size ∧ WalkerAt (newW w1.heap.size wc) w2 g p (wk0 top) none 0) hB y fun w1 u w2 w' hsz hQ hnew he => ?_
  obtain ⟨wc, g, rfl, hwc, hW⟩ := hQ
  obtain ⟨C, c, K', kc, hg, hP, hK⟩ := hW.cells
  have hlt := hW.base.lt
  rw [newW_size] at hlt
  refine hk (newW w1.heap.size wc) g w' he (by rw [newW_size]; omega) (fun q v hq => Nat.le_trans hsz (newW_cell.1 hq).2) ⟨⟨C, c, K', kc, by rw [hnew g (by omega)]; exact hg, hP, hK⟩, ⟨World.ownsRow_nil _ _ _ _, fun q v hq => ?_, hW.base.lt⟩⟩
  have h2 := hW.base.sub q v hq
  have hb := (newW_cell.1 hq).2
  exact (cell_same (hnew _ hb)).trans h2
theorem call_step {w0 w wp : World} {bs : List Nat} {g ga b : Nat} {p : List Fnc} {s : Wk} {RA : Option Addr} {rc : Nat} {mem : List Int} {K : Value → World → Prop} (hB : w0.heap.size ≤ w.heap.size) (hW : WalkerAt wp w g p s RA rc) (ha : ArenaAt w ga b mem) (hok : WkOk mem.length s) (hs : Sized p) (hpl : 1 ≤ p.length ∧ p.length ≤ 1000)
    (hk : ∀ RA' rc' w', ExtS w0.heap.size (WkS g RA s.roots.length rc) w w' → WalkerAt wp w' g p (stepW p mem s).1 RA' rc' → (∀ k, (Value.slice RA' (stepW p mem s).1.roots.length rc').ownBlock = some k → (Value.slice RA s.roots.length rc).ownBlock = some k ∨ w.heap.size ≤ k) → K (lookV (stepW p mem s).2) w') :
    CallK Try.prog 64 [.pointer (some ⟨g, 0, none⟩), .pointer (some ⟨ga, 0, none⟩)] w0.heap.size w bs K :=
  call_wk hB hW (fun w1 e1 => turns64 (hW.ext e1) (ha.ext e1) hok hs hpl) hk
theorem WalkerAt.blocks {wp w : World} {g : Nat} {p : List Fnc} {s : Wk} {RA : Option Addr} {rc : Nat} (hW : WalkerAt wp w g p s RA rc) {k : Nat} (hk : WkS g RA s.roots.length rc k) : wp.heap.size ≤ k := by
  rcases hk with rfl | hk
  · exact hW.base.lt
  · exact (hW.base.row.lt k hk).1
end Go.Proofs.Ytlccbaemcfjdoaa
