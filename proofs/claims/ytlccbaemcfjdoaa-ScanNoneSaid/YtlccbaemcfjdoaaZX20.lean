/-
  Layer 20: rules for the law's functions: yards, walkers that run, their roots; walked and awake return true.
  Conditions: the arena, the words, and the program, lie in memory as told.
-/
import Derived.Test.YtlccbaemcfjdoaaZY20
set_option linter.unusedVariables false
set_option linter.unusedSimpArgs false
namespace Go.Proofs.Ytlccbaemcfjdoaa
open Go.RowKit
def Has (a b : World) : Prop := ∀ (k : Nat) (c : Array Value) (t : TypeId) (f : Nat × Nat), a.heap[k]? = some (Obj.cells c t f) → b.heap[k]? = some (Obj.cells c t f)
theorem Has.refl (a : World) : Has a a := fun _ _ _ _ h => h
theorem Has.trans {a b c : World} (h : Has a b) (k : Has b c) : Has a c := fun _ _ _ _ hk => k _ _ _ _ (h _ _ _ _ hk)
theorem Has.cell {a b : World} (h : Has a b) (q : Addr) (v : Value) (hc : a.cell? q = some v) : b.cell? q = some v := by
  obtain ⟨c, t, f, hb⟩ := cell_block hc
  exact (cell_same (by rw [hb, h _ _ _ _ hb])).trans hc
theorem Ext.has {B : Nat} {w w' : World} (h : Ext B w w') : Has w w' := fun k c t f hk => h.row k c t f hk
theorem off_row {g k : Nat} {w : World} {c : Array Value} {t : TypeId} {f : Nat × Nat} : (off g w).heap[k]? = some (Obj.cells c t f) ↔ w.heap[k]? = some (Obj.cells c t f) ∧ k ≠ g := by
  unfold off
  by_cases h : k = g
  · subst h
    exact ⟨fun hc => absurd hc (mask1_nc w k c t f), fun hc => absurd rfl hc.2⟩
  · rw [mask1_ne w h]
    exact ⟨fun hc => ⟨hc, h⟩, fun hc => hc.1⟩
theorem has_off (g : Nat) (w : World) : Has (off g w) w := fun _ _ _ _ h => (off_row.1 h).1
theorem has_newW (B : Nat) (w : World) : Has (newW B w) w := fun _ _ _ _ h => (newW_row h).2
theorem Has.off {a b : World} (h : Has a b) (g : Nat) : Has (off g a) (off g b) := fun k c t f hk => by
  obtain ⟨h1, h2⟩ := off_row.1 hk
  exact off_row.2 ⟨h _ _ _ _ h1, h2⟩
theorem Has.newW {a b : World} (h : Has a b) {B B' : Nat} (hB : B' ≤ B) : Has (newW B a) (newW B' b) := fun k c t f hk => by
  obtain ⟨h1, h2⟩ := newW_row hk
  exact row_newW (Nat.le_trans hB h1) (h _ _ _ _ h2)
theorem ArenaAt.has {a b : World} {g k : Nat} {mem : List Int} (h : ArenaAt a g k mem) (hs : Has a b) : ArenaAt b g k mem := ⟨hs _ _ _ _ h.head, hs _ _ _ _ h.words, h.wd, h.len⟩
theorem ArenaAt.off {w : World} {ga b g : Nat} {mem : List Int} (h : ArenaAt w ga b mem) (h1 : ga ≠ g) (h2 : b ≠ g) : ArenaAt (off g w) ga b mem := ⟨off_row.2 ⟨h.head, h1⟩, off_row.2 ⟨h.words, h2⟩, h.wd, h.len⟩
theorem YardAt.has {a b' : World} {p : List Fnc} {mem0 : List Int} {lo : Int} {xs : List Frm} {P FA TA : Option Addr} {g b m : Nat} (h : YardAt a p mem0 lo xs P FA TA g b m) (hs : Has a b') : YardAt b' p mem0 lo xs P FA TA g b m :=
  { h with prog := RowAt.keep FncE.kept h.prog (hs.off b).cell, arena := h.arena.has hs, words := hs _ _ _ _ h.words, frms := RowAt.keep FrmE.kept h.frms (hs.off b).cell, ats := RowAt.keep (NumE.kept _) h.ats (hs.off b).cell }
theorem YardAt.prog' {w : World} {p : List Fnc} {mem0 : List Int} {lo : Int} {xs : List Frm} {P FA TA : Option Addr} {g b m : Nat} (h : YardAt w p mem0 lo xs P FA TA g b m) : ProgAt w P p.length p := RowAt.keep FncE.kept h.prog off_in
theorem YardAt.chain {w : World} {p : List Fnc} {mem0 : List Int} {lo : Int} {xs : List Frm} {P FA TA : Option Addr} {g b m : Nat} (h : YardAt w p mem0 lo xs P FA TA g b m) : FrmChain p (stk p mem0 lo xs).mem xs (stk p mem0 lo xs).ats := h.all.chain
theorem call_yard {w0 w : World} {bs : List Nat} {A A1 A2 : Option Addr} {l c l1 c1 l2 c2 : Nat} {ns fs ws : List Int} {lo room : Int} {K : Value → World → Prop} (hB : w0.heap.size ≤ w.heap.size) (hns : BytesAt w A l c ns) (hfs : BytesAt w A1 l1 c1 fs) (hws : Nums .u64 w A2 l2 ws) (hwd : Wd ws) (hlo : 0 ≤ lo ∧ lo < 256) (hroom : 0 ≤ room ∧ room < 256)
    (hk : ∀ p P pc xs FA fc TA tc g b m w', Ext w0.heap.size w w' → YardAt (newW w.heap.size w') p (padM 1024 ws) (2 * lo) xs P FA TA g b m → K (.tuple ⟨[yardV p (padM 1024 ws) (2 * lo) room xs P pc FA fc TA tc g m, .bool true]⟩) w') :
    CallK Try.prog 62 [.slice A l c, .slice A1 l1 c1, .slice A2 l2 c2, .int .u8 lo, .int .u8 room] w0.heap.size w bs K := by
  refine call_yieldsX (Q := fun w1 => YardQ (padM 1024 ws) (2 * lo) room w1) hB (fun w1 e1 => yields62 (hns.keep (ext_keeps e1)) (hfs.keep (ext_keeps e1)) (RowAt.keep (NumE.kept _) hws (ext_keeps e1)) hwd hlo hroom) fun w1 u w2 w' hsz hQ hnew he => ?_
  obtain ⟨p, P, pc, xs, FA, fc, TA, tc, g, b, m, rfl, hY⟩ := hQ
  refine hk p P pc xs FA fc TA tc g b m w' he (hY.has fun k cc t f hkk => ?_)
  obtain ⟨h1, h2⟩ := newW_row hkk
  exact row_newW (Nat.le_trans hsz h1) (by rw [hnew k h1]; exact h2)
structure Walks (wl wp w : World) (g : Nat) (p : List Fnc) (s : Wk) (RA : Option Addr) (rc : Nat) : Prop where
  at_ : WalkerAt wp w g p s RA rc
  has : Has (off g wl) w
  own : ∀ k, (Value.slice RA s.roots.length rc).ownBlock = some k → wl.heap.size ≤ k
  le : wl.heap.size ≤ w.heap.size
section
variable {w0 wl wp w w' : World} {g ga b : Nat} {p : List Fnc} {s : Wk} {RA : Option Addr} {rc : Nat} {mem : List Int}
theorem Walks.ext {B : Nat} (h : Walks wl wp w g p s RA rc) (he : Ext B w w') : Walks wl wp w' g p s RA rc := ⟨h.at_.ext he, h.has.trans he.has, h.own, Nat.le_trans h.le he.size⟩
theorem Walks.new (h : WalkerAt wp w g p s none 0) : Walks w wp w g p s none 0 := ⟨h, has_off g w, (fun k hk => by cases hk), Nat.le_refl _⟩
theorem call_stepX {bs : List Nat} {K : Value → World → Prop} (hw : Below w0.heap.size w0 w) (hW : Walks wl wp w g p s RA rc) (hp : w0.heap.size ≤ wp.heap.size) (ha : ArenaAt (off g wl) ga b mem) (hok : WkOk mem.length s) (hs : Sized p) (hpl : 1 ≤ p.length ∧ p.length ≤ 1000)
    (hk : ∀ RA' rc' w', Walks wl wp w' g p (stepW p mem s).1 RA' rc' → Below w0.heap.size w0 w' → (∀ k c t f, w.heap[k]? = some (Obj.cells c t f) → k ≠ g → t ≠ 51 → w'.heap[k]? = some (Obj.cells c t f)) → K (lookV (stepW p mem s).2) w') :
    CallK Try.prog 64 [.pointer (some ⟨g, 0, none⟩), .pointer (some ⟨ga, 0, none⟩)] w0.heap.size w bs K := by
  refine call_step hw.size hW.at_ (ha.has hW.has) hok hs hpl fun RA' rc' w1 e1 hW1 hown => ?_
  refine hk RA' rc' w1 ⟨hW1, fun k c t f hkk => ?_, fun k hkk => ?_, Nat.le_trans hW.le e1.size⟩ (e1.after (fun k hkk => Nat.le_trans hp (hW.at_.blocks hkk)) hw) fun k c t f hkk hg ht => ?_
  · refine e1.row _ _ _ _ (fun hS => ?_) (hW.has _ _ _ _ hkk)
    obtain ⟨h1, h2⟩ := off_row.1 hkk
    rcases hS with rfl | hS
    · exact h2 rfl
    · have := hW.own k hS; have := lt_of_some h1; omega
  · rcases hown k hkk with h | h
    · exact hW.own k h
    · exact Nat.le_trans hW.le h
  · refine e1.row _ _ _ _ (fun hS => ?_) hkk
    rcases hS with rfl | hS
    · exact hg rfl
    · exact other_own hW.at_.base.row (ts := [t]) (by simpa using Ne.symm ht) _ _ _ _ hS hkk (by simp)
theorem call_stepW {bs : List Nat} {K : Value → World → Prop} (hw : Below w0.heap.size w0 w) (hW : Walks wl wp w g p s RA rc) (hp : w0.heap.size ≤ wp.heap.size) (ha : ArenaAt (off g wl) ga b mem) (hok : WkOk mem.length s) (hs : Sized p) (hpl : 1 ≤ p.length ∧ p.length ≤ 1000)
    (hk : ∀ RA' rc' w', Walks wl wp w' g p (stepW p mem s).1 RA' rc' → Below w0.heap.size w0 w' → K (lookV (stepW p mem s).2) w') :
    CallK Try.prog 64 [.pointer (some ⟨g, 0, none⟩), .pointer (some ⟨ga, 0, none⟩)] w0.heap.size w bs K :=
  call_stepX hw hW hp ha hok hs hpl fun RA' rc' w1 h1 h2 _ => hk RA' rc' w1 h1 h2
theorem wk0_in {top : Int} (n : Nat) (h : -9223372036854775808 ≤ top ∧ top ≤ 9223372036854775807) : WkIn n (wk0 top) := .inr (.inl ⟨rfl, h.1, h.2⟩)
end
section
variable {w0 wl wp : World} {g ga b : Nat} {p : List Fnc} {mem : List Int}
end
theorem WalkerAt.other {B b g : Nat} {wp w w' : World} {p : List Fnc} {s : Wk} {RA : Option Addr} {rc : Nat} (h : WalkerAt wp w g p s RA rc) (he : ExtS B (fun k => k = b) w w') (hb : b < wp.heap.size) (hq : ∀ q v, wp.cell? q = some v → b < q.block) : WalkerAt wp w' g p s RA rc := by
  obtain ⟨C, c, K, kc, h1, h2, h3⟩ := h.cells
  have hlt := h.base.lt
  refine ⟨⟨C, c, K, kc, he.row _ _ _ _ (by omega) h1, h2, h3⟩, he.owns h.base.row fun k hk e => ?_, fun q v hv => he.cell (h.base.sub q v hv) (by have := hq q v hv; omega), hlt⟩
  have := (h.base.row.lt k hk).1
  omega
def twoF : Fnc := ⟨0, 2, 2, [⟨1, 0, 0⟩, ⟨18, 0, 0⟩]⟩
theorem two_sized : Sized [twoF] := fun f hf => by
  simp at hf; subst hf; rfl
theorem two_roots : rootsM [twoF] (storeV (List.replicate (1 * 64) 0) 8 5) 0 = ([5], 0) := by kernel_rfl
theorem gives65 (w : World) : Gives Try.prog 65 [] w (.bool true) := by
  refine gives_of (V65.sound ?_)
  unfold V65.vc
  intro w1 e1 _ w2
  obtain ⟨e2, o2⟩ : Ext w.heap.size w w2 ∧ w2.heap[w1.heap.size]? = some (.cells ⟨[.int .i64 1, .int .i64 0, .int .i64 0, .int .i64 18, .int .i64 0, .int .i64 0]⟩ 26) := alloc1 _ e1 (Nat.le_refl _)
  have hs2 : w1.heap.size < w2.heap.size := lt_of_some o2
  clear_value w2
  have hw2 := e2.after (Below.refl _ _)
  intro w3 e3 _ w4
  obtain ⟨e4, o4⟩ : Ext w.heap.size w2 w4 ∧ w4.heap[w3.heap.size]? = some (.cells ⟨[.int .i64 0, .int .i64 2, .int .i64 2, .slice (some ⟨w1.heap.size, 0, none⟩) 2 2]⟩ 29) := alloc1 _ e3 hw2.size
  clear_value w4
  have hw4 := e4.after hw2
  have hP : ProgAt w4 (some ⟨w3.heap.size, 0, none⟩) 1 [twoF] := prog_lit (f := twoF) o4 (code_lit (xs := twoF.code) (e4.row _ _ _ _ o2) (by simp [twoF]))
  intro q1 _
  refine call_new (pages := 1) (by decide) hw4 fun ga b w5 e5 hw5 ha hg hb => ⟨_, rfl, ?_⟩
  show V65.b0 _ _ ⟨ga, 0, none⟩ q1 (some ⟨w3.heap.size, 0, none⟩) 1 1 w5
  unfold V65.b0
  have hP5 := RowAt.keep FncE.kept hP (ext_keeps e5)
  refine call_neww (p := [twoF]) (cap := 1) hw5.size hP5 two_sized (by simp) fun wp g w6 e6 hwp hwq hW => ⟨_, rfl, ?_⟩
  show V65.b1 _ _ ⟨ga, 0, none⟩ ⟨g, 0, none⟩ q1 (some ⟨w3.heap.size, 0, none⟩) 1 1 w6
  unfold V65.b1
  have hw6 := e6.after hw5
  have ha6 := ha.ext e6
  have hb5 := ha.words.lt
  have hb4 := hb
  refine call_puts hw6.size ha6.words (fun w7 e7 => puts70 (ha6.ext e7) 8 5) fun w7 e7 ho7 => ⟨_, rfl, ?_⟩
  have hw4s := hw4.size
  have hw7 := e7.after (fun k hk => by subst hk; omega) hw6
  have hz : Wd (storeV (List.replicate (1 * 64) 0) 8 5) := storeV_wd (zeros_wd _) _ (by omega)
  have ha7 : ArenaAt w7 ga b (storeV (List.replicate (1 * 64) 0) 8 5) := ha6.turned e7 ho7 (by rw [storeV_len]) hz
  rw [if_neg (by rw [List.length_replicate]; decide)]
  have hW7 := hW.other e7 (by omega) (fun q v hq => by have := hwq q v hq; omega)
  have hst : ∀ mem, stepW [twoF] mem (wk0 (-1)) = (wk0 (-1), (-1, true, 0)) := fun mem => by unfold stepW; exact if_pos rfl
  have hga5 := lt_of_some ha.head
  refine call_stepW hw7 (Walks.new hW7) (by omega) (ha7.off (by have := hW.base.lt; omega) (by have := hW.base.lt; omega)) ⟨by simp [wk0], .inl rfl⟩ two_sized (by simp) fun RA' rc' w8 hW8 hw8 => ⟨_, _, _, rfl, ?_⟩
  rw [hst] at hW8 ⊢
  have hH : Has w4 w8 := fun k c t f hk => hW8.has _ _ _ _ (off_row.2 ⟨e7.row _ _ _ _ (by have := lt_of_some hk; omega) (e6.row _ _ _ _ (e5.row _ _ _ _ hk)), by have := lt_of_some hk; have := hW.base.lt; have := e5.size; omega⟩)
  have ha8 := (ha7.off (g := g) (by have := hW.base.lt; omega) (by have := hW.base.lt; omega)).has hW8.has
  refine call_roots (p := [twoF]) hw8.size ha8 (RowAt.keep FncE.kept hP hH.cell) two_sized (by simp) fun A c w9 e9 hN => ?_
  rw [two_roots] at hN ⊢
  simp only at hN ⊢
  refine ⟨A, _, c, _, rfl, ?_⟩
  have hw9 := e9.after hw8
  simp only [if_true, beq_self_eq_true]
  refine expo_alloc hw9.size fun w10 w11 hs10 e11 _ ho11 => ?_
  have hw11 := e11.after hw9
  have h5 : Nums .u64 w11 (some ⟨w10.heap.size, 0, none⟩) 1 [5] := OwnI.nums (xs := [5]) (e := 51) ho11 (by simp [maxLen])
  exact call_gives hw11 (fun w12 e12 _ => gives68 (RowAt.keep (NumE.kept _) (RowAt.keep (NumE.kept _) (RowAt.keep (NumE.kept _) hN newW_in) (ext_keeps e11)) (ext_keeps e12)) (RowAt.keep (NumE.kept _) h5 (ext_keeps e12))) fun w12 _ hw12 => ⟨_, rfl, ret_is hw12 rfl⟩
end Go.Proofs.Ytlccbaemcfjdoaa
