/-
  Layer 20: walkers: what a new one is, what each step reads, returns and leaves.
  Conditions: the walker, the arena and the program lie in memory as told; the program's functions are sized.
-/
import Derived.Test.YtlccbaemcfjdoaaZG20
set_option linter.unusedVariables false
set_option linter.unusedSimpArgs false
namespace Go.Proofs.Ytlccbaemcfjdoaa
open Go.RowKit
structure Wk where
  at_ : Int
  next : Int
  under : Int
  f : Fnc
  roots : List Int
abbrev LookW := Int × Bool × Int
def atW (s : Wk) : Int := if 1 < s.next then s.at_ + (aheadM s.f + s.f.locals - s.f.refs) + s.next - 2 else s.at_ + s.next
def failW (s : Wk) (at_ e : Int) : Wk × LookW := ({ s with at_ := -1, roots := [] }, (at_, true, e))
def movedW (s : Wk) : Wk := if 2 ≤ s.next + 1 ∧ s.next + 1 - 2 = s.f.refs then { s with at_ := s.under, next := 0 } else { s with next := s.next + 1 }
def advW (s : Wk) (at_ : Int) : Wk × LookW := (movedW s, (at_, decide ((movedW s).at_ = -1), 0))
def stepW (p : List Fnc) (mem : List Int) (s : Wk) : Wk × LookW :=
  if s.at_ = -1 then (s, (-1, true, 0)) else
  if inM mem.length (atW s) 1 = true then
    if s.next = 0 then
      (if (mem.length : Int) < mem.getD (atW s).toNat 0 ∨ s.at_ ≤ mem.getD (atW s).toNat 0 - 1 then failW s (atW s) 6 else advW { s with under := mem.getD (atW s).toNat 0 - 1 } (atW s))
    else if s.next = 1 then
      (match p[(mem.getD (atW s).toNat 0).toNat]? with
        | none => failW s (atW s) 6
        | some g => advW { s with f := g } (atW s))
    else if mem.getD (atW s).toNat 0 ≠ 0 then advW { s with roots := s.roots ++ [mem.getD (atW s).toNat 0] } (atW s) else advW s (atW s)
  else failW s (atW s) 1
abbrev WkIn (n : Nat) (s : Wk) : Prop := s.at_ = -1 ∨ (s.next = 0 ∧ -9223372036854775808 ≤ s.at_ ∧ s.at_ ≤ 9223372036854775807) ∨
  (0 ≤ s.at_ ∧ s.at_ < n ∧ -1 ≤ s.under ∧ s.under < s.at_ ∧ (s.next = 1 ∨ (2 ≤ s.next ∧ sizedF s.f = true ∧ s.next - 2 < s.f.refs)))
def WkOk (n : Nat) (s : Wk) : Prop := s.roots.length ≤ 1000000 ∧ WkIn n s
def lookV (l : LookW) : Value := .tuple ⟨[.int .i64 l.1, .bool l.2.1, .int .i64 l.2.2]⟩
def wkC (C : Option Addr) (pl c : Nat) (K : Option Addr) (kc : Nat) (RA : Option Addr) (rc : Nat) (s : Wk) : List Value :=
  [.slice C pl c, .int .i64 s.at_, .int .i64 s.next, .int .i64 s.under, .int .i64 s.f.params, .int .i64 s.f.locals, .int .i64 s.f.refs, .slice K s.f.code.length kc, .slice RA s.roots.length rc]
structure WBase (wp w : World) (g : Nat) (RA : Option Addr) (rc : Nat) (roots : List Int) : Prop where
  row : w.ownsRow wp.heap.size 51 1 (.slice RA roots.length rc) roots.length (roots.map (.int .u64))
  sub : ∀ q v, wp.cell? q = some v → w.cell? q = some v
  lt : wp.heap.size ≤ g
structure WalkerAt (wp w : World) (g : Nat) (p : List Fnc) (s : Wk) (RA : Option Addr) (rc : Nat) : Prop where
  cells : ∃ C c K kc, w.heap[g]? = some (.cells ⟨wkC C p.length c K kc RA rc s⟩ 162 (0, 0)) ∧ ProgAt wp C p.length p ∧ CodeAt wp K s.f.code.length s.f.code
  base : WBase wp w g RA rc s.roots
theorem WBase.set {wp w : World} {g : Nat} {RA : Option Addr} {rc : Nat} {roots : List Int} (h : WBase wp w g RA rc roots) {L : List Value} (hg : w.heap[g]? = some (.cells ⟨L⟩ 162 (0, 0))) (i : Nat) (v : Value) : WBase wp (w.setCell ⟨g, i, none⟩ v) g RA rc roots :=
  ⟨owns_other h.row fun j hj => at_other fun e => by
      subst e
      exact other_own h.row (ts := [162]) (by simp) _ _ _ _ hj hg (by simp),
    fun q u hq => (cell_same (at_other (by have := cell_lt hq; have := h.lt; omega))).trans (h.sub q u hq), h.lt⟩
theorem WBase.ext {B : Nat} {wp w w' : World} {g : Nat} {RA : Option Addr} {rc : Nat} {roots : List Int} (h : WBase wp w g RA rc roots) (he : Ext B w w') : WBase wp w' g RA rc roots := ⟨he.owns h.row, fun q v hq => he.cell (h.sub q v hq), h.lt⟩
theorem WalkerAt.ext {B : Nat} {wp w w' : World} {g : Nat} {p : List Fnc} {s : Wk} {RA : Option Addr} {rc : Nat} (h : WalkerAt wp w g p s RA rc) (he : Ext B w w') : WalkerAt wp w' g p s RA rc := by
  obtain ⟨C, c, K, kc, h1, h2, h3⟩ := h.cells
  exact ⟨⟨C, c, K, kc, he.row _ _ _ _ h1, h2, h3⟩, h.base.ext he⟩
def StepQ (wp : World) (g : Nat) (p : List Fnc) (r : Wk × LookW) (RA : Option Addr) (n rc : Nat) (w1 : World) : Value → World → Prop := fun v w2 => v = lookV r.2 ∧ ∃ RA' rc', WalkerAt wp w2 g p r.1 RA' rc' ∧ ∀ k, (Value.slice RA' r.1.roots.length rc').ownBlock = some k → (Value.slice RA n rc).ownBlock = some k ∨ w1.heap.size ≤ k
def WkS (g : Nat) (RA : Option Addr) (n rc : Nat) : Nat → Prop := fun k => k = g ∨ (Value.slice RA n rc).ownBlock = some k
section
variable {wp w0 w : World} {g : Nat} {p : List Fnc} {RA0 : Option Addr} {n0 rc0 : Nat}
theorem b4_64 {C : Option Addr} {c : Nat} {K : Option Addr} {kc : Nat} {RA : Option Addr} {rc : Nat} {s : Wk} {at4 : Int} (hc : Chg (WkS g RA0 n0 rc0) w0 w) (hg : w.heap[g]? = some (.cells ⟨wkC C p.length c K kc RA rc s⟩ 162 (0, 0))) (hP : ProgAt wp C p.length p) (hK : CodeAt wp K s.f.code.length s.f.code) (hb : WBase wp w g RA rc s.roots)
    (hown : ∀ k, (Value.slice RA s.roots.length rc).ownBlock = some k → (Value.slice RA0 n0 rc0).ownBlock = some k ∨ w0.heap.size ≤ k) {r : Wk × LookW} (hr : r = (s, (at4, decide (s.at_ = -1), 0))) :
    V64.b4 w0.heap.size (IsT w0 (WkS g RA0 n0 rc0) (StepQ wp g p r RA0 n0 rc0 w0)) ⟨g, 0, none⟩ at4 w := by
  subst hr
  unfold V64.b4
  simp only [own_add]
  refine ⟨s.at_, at_cell hg rfl, ?_⟩
  refine ret_t hc fun w1 e1 => ⟨?_, RA, rc, ⟨⟨C, c, K, kc, e1.row _ _ _ _ hg, hP, hK⟩, hb.ext e1⟩, hown⟩
  show Value.tuple _ = Value.tuple _
  congr 4
theorem b2_64 {C : Option Addr} {c : Nat} {K : Option Addr} {kc : Nat} {RA : Option Addr} {rc : Nat} {s : Wk} {at4 : Int} (hc : Chg (WkS g RA0 n0 rc0) w0 w) (hg : w.heap[g]? = some (.cells ⟨wkC C p.length c K kc RA rc s⟩ 162 (0, 0))) (hP : ProgAt wp C p.length p) (hK : CodeAt wp K s.f.code.length s.f.code) (hb : WBase wp w g RA rc s.roots)
    (hown : ∀ k, (Value.slice RA s.roots.length rc).ownBlock = some k → (Value.slice RA0 n0 rc0).ownBlock = some k ∨ w0.heap.size ≤ k) (hn : 0 ≤ s.next ∧ s.next ≤ 1000) :
    V64.b2 w0.heap.size (IsT w0 (WkS g RA0 n0 rc0) (StepQ wp g p (advW s at4) RA0 n0 rc0 w0)) ⟨g, 0, none⟩ at4 w := by
  unfold V64.b2
  simp only [own_add, bx_add, Nat.add_zero, Nat.zero_add]
  refine ⟨s.next, at_cell hg rfl, ⟨_, at_cell hg rfl⟩, at_frozen hg _, ?_⟩
  rw [wrap_id (n := s.next + 1) (by omega) (by omega)]
  have hg1 := at_set hg 2 (.int .i64 (s.next + 1))
  have hb1 := hb.set hg 2 (.int .i64 (s.next + 1))
  have hc1 : Chg (WkS g RA0 n0 rc0) w0 (w.setCell ⟨g, 2, none⟩ (.int .i64 (s.next + 1))) := hc.setCell _ fun _ => .inl rfl
  generalize w.setCell ⟨g, 2, none⟩ (.int .i64 (s.next + 1)) = w1 at *
  change w1.heap[g]? = some (.cells ⟨wkC C p.length c K kc RA rc { s with next := s.next + 1 }⟩ 162 (0, 0)) at hg1
  refine ⟨s.next + 1, at_cell hg1 rfl, ?_⟩
  have stay : ¬ (2 ≤ s.next + 1 ∧ s.next + 1 - 2 = s.f.refs) → V64.b4 w0.heap.size (IsT w0 (WkS g RA0 n0 rc0) (StepQ wp g p (advW s at4) RA0 n0 rc0 w0)) ⟨g, 0, none⟩ at4 w1 := fun h => by
    refine b4_64 (s := { s with next := s.next + 1 }) hc1 hg1 hP hK hb1 hown ?_
    unfold advW movedW
    rw [if_neg h]
  by_cases h2 : s.next + 1 ≥ 2
  · rw [if_pos (by simpa using h2)]
    refine ⟨s.next + 1, at_cell hg1 rfl, s.f.refs, at_cell hg1 rfl, ?_⟩
    rw [wrap_id (n := s.next + 1 - 2) (by omega) (by omega)]
    unfold V64.b3
    by_cases h3 : s.next + 1 - 2 = s.f.refs
    · rw [if_pos (by simpa using h3)]
      simp only [own_add, bx_add, Nat.add_zero, Nat.zero_add]
      refine ⟨s.under, at_cell hg1 rfl, ⟨_, at_cell hg1 rfl⟩, at_frozen hg1 _, ?_⟩
      have hg2 := at_set hg1 1 (.int .i64 s.under)
      have hb2 := hb1.set hg1 1 (.int .i64 s.under)
      have hc2 : Chg (WkS g RA0 n0 rc0) w0 (w1.setCell ⟨g, 1, none⟩ (.int .i64 s.under)) := hc1.setCell _ fun _ => .inl rfl
      generalize w1.setCell ⟨g, 1, none⟩ (.int .i64 s.under) = w2 at *
      refine ⟨⟨_, at_cell hg2 rfl⟩, at_frozen hg2 _, ?_⟩
      have hg3 := at_set hg2 2 (.int .i64 0)
      have hb3 := hb2.set hg2 2 (.int .i64 0)
      have hc3 : Chg (WkS g RA0 n0 rc0) w0 (w2.setCell ⟨g, 2, none⟩ (.int .i64 0)) := hc2.setCell _ fun _ => .inl rfl
      generalize w2.setCell ⟨g, 2, none⟩ (.int .i64 0) = w3 at *
      refine b4_64 (s := { s with at_ := s.under, next := 0 }) hc3 hg3 hP hK hb3 hown ?_
      unfold advW movedW
      rw [if_pos ⟨by omega, h3⟩]
    · rw [if_neg (by simpa using h3)]
      exact stay (fun h => h3 h.2)
  · rw [if_neg (by simpa using h2)]
    unfold V64.b3
    rw [if_neg (by simp)]
    exact stay (fun h => h2 h.1)
theorem turns108 {s : Wk} (hW : WalkerAt wp w g p s RA0 rc0) (at1 e : Int) : Turns Try.prog 108 [.pointer (some ⟨g, 0, none⟩), .int .i64 at1, .int .i64 e] w (WkS g RA0 s.roots.length rc0) (StepQ wp g p (failW s at1 e) RA0 s.roots.length rc0 w) := by
  refine turns_of (V108.sound ?_)
  unfold V108.vc
  obtain ⟨C, c, K, kc, hg, hP, hK⟩ := hW.cells
  have hb := hW.base
  simp only [own_add, bx_add, Nat.add_zero, Nat.zero_add]
  refine ⟨⟨_, at_cell hg rfl⟩, at_frozen hg _, ?_⟩
  have hg1 := at_set hg 1 (.int .i64 (-1))
  have hb1 := hb.set hg 1 (.int .i64 (-1))
  have hc1 : Chg (WkS g RA0 s.roots.length rc0) w (w.setCell ⟨g, 1, none⟩ (.int .i64 (-1))) := (Chg.refl _ _).setCell _ fun _ => .inl rfl
  generalize w.setCell ⟨g, 1, none⟩ (.int .i64 (-1)) = w1 at *
  refine ⟨⟨_, at_cell hg1 rfl⟩, at_frozen hg1 _, ?_⟩
  have hg2 := at_set hg1 8 (.slice none 0 0)
  have hb2 := hb1.set hg1 8 (.slice none 0 0)
  have hc2 : Chg (WkS g RA0 s.roots.length rc0) w (w1.setCell ⟨g, 8, none⟩ (.slice none 0 0)) := hc1.setCell _ fun _ => .inl rfl
  generalize w1.setCell ⟨g, 8, none⟩ (.slice none 0 0) = w2 at *
  have hb3 : WBase wp w2 g none 0 [] := ⟨World.ownsRow_nil _ _ _ _, hb2.sub, hb2.lt⟩
  exact ret_t hc2 fun w3 e3 => ⟨rfl, none, 0, ⟨⟨C, c, K, kc, e3.row _ _ _ _ hg2, hP, hK⟩, hb3.ext e3⟩, fun k hk => by cases hk⟩
theorem call_wk {f : Nat} {args : List Value} {bs : List Nat} {w0 : World} {s : Wk} {r : Wk × LookW} {K : Value → World → Prop} (hB : w0.heap.size ≤ w.heap.size) (hW : WalkerAt wp w g p s RA0 rc0)
    (hc : ∀ w1, Ext w0.heap.size w w1 → Turns Try.prog f args w1 (WkS g RA0 s.roots.length rc0) (StepQ wp g p r RA0 s.roots.length rc0 w1))
    (hk : ∀ RA rc w', ExtS w0.heap.size (WkS g RA0 s.roots.length rc0) w w' → WalkerAt wp w' g p r.1 RA rc → (∀ k, (Value.slice RA r.1.roots.length rc).ownBlock = some k → (Value.slice RA0 s.roots.length rc0).ownBlock = some k ∨ w.heap.size ≤ k) → K (lookV r.2) w') : CallK Try.prog f args w0.heap.size w bs K := by
  have hS : ∀ k, WkS g RA0 s.roots.length rc0 k → wp.heap.size ≤ k ∧ ∃ c t f, w.heap[k]? = some (Obj.cells c t f) := fun k hk => by
    rcases hk with rfl | hk
    · obtain ⟨C, c, K, kc, hg, _⟩ := hW.cells
      exact ⟨hW.base.lt, _, _, _, hg⟩
    · refine ⟨(hW.base.row.lt k hk).1, ?_⟩
      rcases hW.base.row.2 with ⟨hv, _⟩ | ⟨g', cap, cur, hv, _, hg, _⟩
      · rw [hv] at hk; cases hk
      · rw [hv] at hk; cases hk; exact ⟨_, _, _, hg⟩
  refine call_turnsS (S := WkS g RA0 s.roots.length rc0) (Q := StepQ wp g p r RA0 s.roots.length rc0) hB (fun k hk => (hS k hk).2) hc fun w1 v w2 w' hsz hQ hsame he => ?_
  obtain ⟨rfl, RA, rc, hW2, hown⟩ := hQ
  obtain ⟨C, c, K', kc, hg, hP, hK⟩ := hW2.cells
  refine hk RA rc w' he ⟨⟨C, c, K', kc, ?_, hP, hK⟩, ⟨owns_other hW2.base.row fun j hj => hsame j ?_, fun q v hq => ?_, hW2.base.lt⟩⟩ fun k hk => ?_
  · rw [hsame g (.inl (.inl rfl))]; exact hg
  · rcases hown j hj with h | h
    · exact .inl (.inr h)
    · exact .inr h
  · exact he.cell (hW.base.sub q v hq) fun h => by have := (hS _ h).1; have := cell_lt hq; omega
  · rcases hown k hk with h | h
    · exact .inl h
    · exact .inr (Nat.le_trans hsz h)
end
theorem push_wordO {B b0 : Nat} {w : World} {bs : List Nat} {v : Value} {n : Nat} {xs : List Int} {x : Int} {K : Value → World → Prop} (hB : B ≤ w.heap.size) (hb0 : b0 ≤ w.heap.size) (ho : w.ownsRow b0 51 1 v n (xs.map (.int .u64))) (hn : n ≤ 1000000000)
    (hk : ∀ v' w', ExtS B (fun k => v.ownBlock = some k) w w' → w'.ownsRow b0 51 1 v' (n + 1) ((xs ++ [x]).map (.int .u64)) → (∀ g, v'.ownBlock = some g → v.ownBlock = some g ∨ w.heap.size ≤ g) → K v' w') :
    Expo B w bs fun w1 => Hide bs (w1.alloc (.cells ⟨[.int .u64 x]⟩ 51)) fun w2 => RunK Try.prog (Builtin.append_ #[50, 50] 50 ⟨[v, .slice (some ⟨w1.heap.size, 0, none⟩) 1 1]⟩) B w2 bs K := by
  refine expo_alloc hB fun w1 w2 hs e2 _ ho2 => ?_
  have hb8 : Try.t51.bytes = 8 := by kernel_rfl
  have hx : Nums .u64 w2 (some ⟨w1.heap.size, 0, none⟩) 1 [x] := OwnI.nums (xs := [x]) (e := 51) ho2 (by simp only [List.length_cons, List.length_nil, maxLen]; omega)
  refine append_nums (t := 50) (e := 51) (i := Try.t51) (k := .u64) (bytes := 8) (b0 := b0) (by kernel_rfl) (by kernel_rfl) (by kernel_rfl) (by kernel_rfl) hb8 (Nat.le_refl _) (e2.owns ho) hx (by omega) (Nat.le_trans hB e2.size) (Nat.le_trans hb0 e2.size) fun v' w' he ho' hf => hk v' w' (he.ofExt e2) ho' fun g hg => (hf g hg).imp id fun h => Nat.le_trans e2.size h
theorem gives107 {w : World} {x : Fnc} {C : Option Addr} {c : Nat} (hs : sizedF x = true) (hc : CodeAt w C x.code.length x.code) : Gives Try.prog 107 [fnV x C c] w (.int .i64 (aheadM x + x.locals - x.refs)) := by
  refine gives_of (V107.sound ?_)
  intro q1 _
  have hb := sized_bd hs
  refine call_gives (Below.refl _ _) (fun w1 e1 _ => gives32 (RowAt.keep InsE.kept hc (ext_keeps e1)) _ _ _) fun w1 e1 hw1 => ⟨_, rfl, ret_is hw1 ?_⟩
  have hsF := sizeF_eq hs
  unfold sizeF at hsF
  have hah : 7 ≤ aheadM x ∧ aheadM x ≤ 23 := by unfold aheadM; split <;> omega
  rw [hsF, wrap_id (n := 8 + x.locals + aheadM x - 8) (by omega) (by omega), wrap_id (by omega) (by omega)]
  congr 1
  omega
theorem below_chg {S : Nat → Prop} {w0 w : World} (h : Below w0.heap.size w0 w) : Chg S w0 w := ⟨h.os, h.tape, h.output, h.size, fun k hk _ => h.block k hk⟩
section
variable {wp w0 w : World} {g : Nat} {p : List Fnc} {s : Wk} {RA : Option Addr} {rc : Nat} {mem : List Int}
theorem fail_64 {r : Wk × LookW} (h0 : Below w0.heap.size w0 w) (hW : WalkerAt wp w g p s RA rc) {at4 e : Int} (hr : r = failW s at4 e) :
    CallK Try.prog 108 [.pointer (some ⟨g, 0, none⟩), .int .i64 at4, .int .i64 e] w0.heap.size w [] fun v w_1 => ∃ (x : Int) (b : Bool) (y : Int), v = .tuple ⟨[.int .i64 x, .bool b, .int .i64 y]⟩ ∧ Ret w0.heap.size w_1 (IsT w0 (WkS g RA s.roots.length rc) (StepQ wp g p r RA s.roots.length rc w0) (.tuple ⟨[.int .i64 x, .bool b, .int .i64 y]⟩)) := by
  subst hr
  refine call_wk (r := failW s at4 e) h0.size hW (fun w1 e1 => turns108 (hW.ext e1) at4 e) fun RA' rc' w' he hW' hown => ⟨_, _, _, rfl, ?_⟩
  exact ret_t (he.chg (below_chg h0) fun k _ h => h) fun w1 e1 => ⟨rfl, RA', rc', hW'.ext e1, fun k hk => (hown k hk).imp id fun h => Nat.le_trans h0.size h⟩
theorem b0_64 {ga b : Nat} (h0 : Below w0.heap.size w0 w) (hW : WalkerAt wp w g p s RA rc) (ha : ArenaAt w ga b mem) (hok : WkOk mem.length s) (hs : Sized p) (hpl : 1 ≤ p.length ∧ p.length ≤ 1000) (hne : s.at_ ≠ -1) :
    V64.b0 w0.heap.size (IsT w0 (WkS g RA s.roots.length rc) (StepQ wp g p (stepW p mem s) RA s.roots.length rc w0)) ⟨g, 0, none⟩ ⟨ga, 0, none⟩ (atW s) w := by
  have hml := ha.len
  obtain ⟨hrl, hst⟩ := hok
  have hst' := hst.resolve_left hne
  have hn0 : 0 ≤ s.next ∧ s.next ≤ 1000 := by
    rcases hst' with h | h
    · omega
    · rcases h.2.2.2.2 with h' | h'
      · omega
      · have := sized_bd h'.2.1; omega
  unfold V64.b0
  refine call_gives h0 (fun w1 e1 _ => gives57 (ha.ext e1) (atW s)) fun w1 e1 hw1 => ?_
  have hW1 := hW.ext e1
  obtain ⟨C, c, K, kc, hg, hP, hK⟩ := hW1.cells
  have hb := hW1.base
  have hc1 : Chg (WkS g RA s.roots.length rc) w0 w1 := below_chg hw1
  unfold loadV
  by_cases hin : inM mem.length (atW s) 1 = true
  · rw [if_pos hin]
    refine ⟨_, _, rfl, ?_⟩
    rw [if_neg (by simp)]
    have hx := getD_wd ha.wd (atW s).toNat
    have hstep : stepW p mem s = (if s.next = 0 then
      (if (mem.length : Int) < mem.getD (atW s).toNat 0 ∨ s.at_ ≤ mem.getD (atW s).toNat 0 - 1 then failW s (atW s) 6 else advW { s with under := mem.getD (atW s).toNat 0 - 1 } (atW s))
    else if s.next = 1 then
      (match p[(mem.getD (atW s).toNat 0).toNat]? with
        | none => failW s (atW s) 6
        | some g => advW { s with f := g } (atW s))
    else if mem.getD (atW s).toNat 0 ≠ 0 then advW { s with roots := s.roots ++ [mem.getD (atW s).toNat 0] } (atW s) else advW s (atW s)) := by
      unfold stepW; rw [if_neg hne, if_pos hin]
    generalize hxd : mem.getD (atW s).toNat 0 = x at hx hstep ⊢
    generalize atW s = at4 at hstep ⊢
    simp -zeta only [own_add, bx_add, Nat.add_zero, Nat.zero_add]
    refine ⟨s.next, at_cell hg rfl, ?_⟩
    by_cases hz : s.next = 0
    · rw [if_pos (by simpa using hz)]
      rw [if_pos hz] at hstep
      refine call_gives hw1 (fun w2 e2 _ => gives93 ((ha.ext e1).ext e2)) fun w2 e2 hw2 => ⟨_, rfl, ?_⟩
      rw [wrap_u64 (n := (mem.length : Int)) (by omega) (by omega)]
      have hW2 := hW1.ext e2
      have hg2 := e2.row _ _ _ _ hg
      by_cases hbig : x > mem.length
      · rw [if_neg (by simpa using hbig)]
        rw [if_pos (.inl hbig)] at hstep
        unfold V64.b1
        rw [if_pos rfl]
        exact fail_64 hw2 hW2 hstep
      · rw [if_pos (by simpa using hbig)]
        refine ⟨s.at_, at_cell hg2 rfl, ?_⟩
        unfold V64.b1
        rw [wrap_id (n := x) (by omega) (by omega), wrap_id (n := x - 1) (by omega) (by omega)]
        by_cases hge : s.at_ ≤ x - 1
        · rw [if_pos (by simpa using hge)]
          rw [if_pos (.inr hge)] at hstep
          exact fail_64 hw2 hW2 hstep
        · rw [if_neg (by simpa using hge)]
          rw [if_neg (fun h => h.elim (fun h => hbig h) hge)] at hstep
          simp -zeta only [own_add, bx_add, Nat.add_zero, Nat.zero_add]
          refine ⟨⟨_, at_cell hg2 rfl⟩, at_frozen hg2 _, ?_⟩
          have hg3 := at_set hg2 3 (.int .i64 (x - 1))
          have hb3 := hW2.base.set hg2 3 (.int .i64 (x - 1))
          have hc3 : Chg (WkS g RA s.roots.length rc) w0 (w2.setCell ⟨g, 3, none⟩ (.int .i64 (x - 1))) := (below_chg hw2).setCell _ fun _ => .inl rfl
          rw [hstep]
          exact b2_64 (s := { s with under := x - 1 }) hc3 hg3 hP hK hb3 (fun k hk => .inl hk) hn0
    · rw [if_neg (by simpa using hz)]
      rw [if_neg hz] at hstep
      by_cases h1 : s.next = 1
      · rw [if_pos (by simpa using h1)]
        rw [if_pos h1] at hstep
        refine ⟨C, p.length, c, at_cell hg rfl, ?_⟩
        rw [wrap_u64 (n := (p.length : Int)) (by omega) (by omega)]
        by_cases hge : x ≥ p.length
        · rw [if_pos (by simpa using hge)]
          have hnone : p[x.toNat]? = none := List.getElem?_eq_none (by omega)
          rw [hnone] at hstep
          exact fail_64 hw1 hW1 hstep
        · rw [if_neg (by simpa using hge)]
          obtain ⟨G, q, KG, kg, hG, hq, c0, cl1, cl2, c3, hcode⟩ := prog_at hP (i := x.toNat) (by omega)
          rw [hG] at hstep
          simp only at hstep
          refine ⟨C, p.length, c, at_cell hg rfl, q, hq, by omega, by omega, G.params, hb.sub _ _ c0, G.locals, hb.sub _ _ cl1, G.refs, hb.sub _ _ cl2, KG, G.code.length, kg, hb.sub _ _ c3, ?_⟩
          refine ⟨⟨_, at_cell hg rfl⟩, at_frozen hg _, ?_⟩
          have hg2 := at_set hg 4 (.int .i64 G.params)
          have hb2 := hb.set hg 4 (.int .i64 G.params)
          have hc2 : Chg (WkS g RA s.roots.length rc) w0 (w1.setCell ⟨g, 4, none⟩ (.int .i64 G.params)) := hc1.setCell _ fun _ => .inl rfl
          generalize w1.setCell ⟨g, 4, none⟩ (.int .i64 G.params) = w2 at *
          refine ⟨⟨_, at_cell hg2 rfl⟩, at_frozen hg2 _, ?_⟩
          have hg3 := at_set hg2 5 (.int .i64 G.locals)
          have hb3 := hb2.set hg2 5 (.int .i64 G.locals)
          have hc3 : Chg (WkS g RA s.roots.length rc) w0 (w2.setCell ⟨g, 5, none⟩ (.int .i64 G.locals)) := hc2.setCell _ fun _ => .inl rfl
          generalize w2.setCell ⟨g, 5, none⟩ (.int .i64 G.locals) = w3 at *
          refine ⟨⟨_, at_cell hg3 rfl⟩, at_frozen hg3 _, ?_⟩
          have hg4 := at_set hg3 6 (.int .i64 G.refs)
          have hb4 := hb3.set hg3 6 (.int .i64 G.refs)
          have hc4 : Chg (WkS g RA s.roots.length rc) w0 (w3.setCell ⟨g, 6, none⟩ (.int .i64 G.refs)) := hc3.setCell _ fun _ => .inl rfl
          generalize w3.setCell ⟨g, 6, none⟩ (.int .i64 G.refs) = w4 at *
          refine ⟨⟨_, at_cell hg4 rfl⟩, at_frozen hg4 _, ?_⟩
          have hg5 := at_set hg4 7 (.slice KG G.code.length kg)
          have hb5 := hb4.set hg4 7 (.slice KG G.code.length kg)
          have hc5 : Chg (WkS g RA s.roots.length rc) w0 (w4.setCell ⟨g, 7, none⟩ (.slice KG G.code.length kg)) := hc4.setCell _ fun _ => .inl rfl
          generalize w4.setCell ⟨g, 7, none⟩ (.slice KG G.code.length kg) = w5 at *
          rw [hstep]
          exact b2_64 (s := { s with f := G }) (K := KG) (kc := kg) hc5 hg5 hP hcode hb5 (fun k hk => .inl hk) hn0
      · rw [if_neg (by simpa using h1)]
        rw [if_neg h1] at hstep
        by_cases hx0 : x = 0
        · rw [if_neg (by simpa using hx0)]
          rw [if_neg (by simpa using hx0)] at hstep
          rw [hstep]
          exact b2_64 hc1 hg hP hK hb (fun k hk => .inl hk) hn0
        · rw [if_pos (by simpa using hx0)]
          rw [if_pos hx0] at hstep
          refine ⟨RA, s.roots.length, rc, at_cell hg rfl, ?_⟩
          have hlt : wp.heap.size ≤ w1.heap.size := Nat.le_trans hb.lt (Nat.le_of_lt (lt_of_some hg))
          refine push_wordO (bs := []) hw1.size hlt hb.row (by omega) fun v w2 e2 ho2 hf2 => ?_
          obtain ⟨RA2, rc2, rfl⟩ := owns_slice0 ho2
          refine ⟨RA2, _, rc2, rfl, ?_⟩
          have hrb : ∀ k, (Value.slice RA s.roots.length rc).ownBlock = some k → wp.heap.size ≤ k := fun k hk => (hb.row.lt k hk).1
          have hg2 := e2.row _ _ _ _ (fun hk => other_own hb.row (ts := [162]) (by simp) _ _ _ _ hk hg (by simp)) hg
          have hc2 : Chg (WkS g RA s.roots.length rc) w0 w2 := e2.chg hc1 fun k _ hk => .inr hk
          have hl2 : (s.roots ++ [x]).length = s.roots.length + 1 := by simp
          have hb2 : WBase wp w2 g RA2 rc2 (s.roots ++ [x]) := ⟨by rw [hl2]; exact ho2, fun q u hq => e2.cell (hb.sub q u hq) fun hk => by have := hrb _ hk; have := cell_lt hq; omega, hb.lt⟩
          have hown2 : ∀ k, (Value.slice RA2 (s.roots ++ [x]).length rc2).ownBlock = some k → (Value.slice RA s.roots.length rc).ownBlock = some k ∨ w0.heap.size ≤ k := fun k hk => by
            rw [hl2] at hk
            exact (hf2 k hk).imp id fun h => Nat.le_trans hw1.size h
          refine ⟨⟨_, at_cell hg2 rfl⟩, at_frozen hg2 _, ?_⟩
          have hg3 := at_set hg2 8 (.slice RA2 (s.roots.length + 1) rc2)
          have hb3 := hb2.set hg2 8 (.slice RA2 (s.roots.length + 1) rc2)
          have hc3 : Chg (WkS g RA s.roots.length rc) w0 (w2.setCell ⟨g, 8, none⟩ (.slice RA2 (s.roots.length + 1) rc2)) := hc2.setCell _ fun _ => .inl rfl
          generalize w2.setCell ⟨g, 8, none⟩ (.slice RA2 (s.roots.length + 1) rc2) = w3 at *
          rw [hstep]
          rw [← hl2] at hg3
          exact b2_64 (s := { s with roots := s.roots ++ [x] }) hc3 hg3 hP hK hb3 hown2 hn0
  · rw [if_neg hin]
    refine ⟨_, _, rfl, ?_⟩
    rw [if_pos (by simp)]
    exact fail_64 hw1 hW1 (by unfold stepW; rw [if_neg hne, if_neg hin])
theorem turns64 {ga b : Nat} (hW : WalkerAt wp w g p s RA rc) (ha : ArenaAt w ga b mem) (hok : WkOk mem.length s) (hs : Sized p) (hpl : 1 ≤ p.length ∧ p.length ≤ 1000) :
    Turns Try.prog 64 [.pointer (some ⟨g, 0, none⟩), .pointer (some ⟨ga, 0, none⟩)] w (WkS g RA s.roots.length rc) (StepQ wp g p (stepW p mem s) RA s.roots.length rc w) := by
  refine turns_of (V64.sound ?_)
  have hml := ha.len
  obtain ⟨C, c, K, kc, hg, hP, hK⟩ := hW.cells
  have hb := hW.base
  unfold V64.vc
  simp -zeta only [own_add, bx_add, Nat.add_zero, Nat.zero_add]
  refine ⟨s.at_, at_cell hg rfl, ?_⟩
  by_cases hne : s.at_ = -1
  · rw [if_pos (by simpa using hne)]
    have hst : stepW p mem s = (s, (-1, true, 0)) := by unfold stepW; rw [if_pos hne]
    rw [hst]
    exact ret_t (Chg.refl _ _) fun w1 e1 => ⟨rfl, RA, rc, hW.ext e1, fun k hk => .inl hk⟩
  · rw [if_neg (by simpa using hne)]
    have hst' := hok.2.resolve_left hne
    refine ⟨s.at_, at_cell hg rfl, s.next, at_cell hg rfl, s.next, at_cell hg rfl, ?_⟩
    by_cases h1 : s.next > 1
    · rw [if_pos (by simpa using h1)]
      have h2 : 0 ≤ s.at_ ∧ s.at_ < mem.length ∧ 2 ≤ s.next ∧ sizedF s.f = true ∧ s.next - 2 < s.f.refs := by
        rcases hst' with h | h
        · omega
        · rcases h.2.2.2.2 with h' | h'
          · omega
          · exact ⟨h.1, h.2.1, h'⟩
      have hbd := sized_bd h2.2.2.2.1
      have hah : 7 ≤ aheadM s.f ∧ aheadM s.f ≤ 23 := by unfold aheadM; split <;> omega
      refine ⟨s.at_, at_cell hg rfl, s.f.params, at_cell hg rfl, s.f.locals, at_cell hg rfl, s.f.refs, at_cell hg rfl, K, s.f.code.length, kc, at_cell hg rfl, s.next, at_cell hg rfl, ?_⟩
      have hK0 : ∀ w1, Ext w.heap.size w w1 → CodeAt w1 K s.f.code.length s.f.code := fun w1 e1 => RowAt.keep InsE.kept hK fun q v hq => e1.cell (hb.sub q v hq)
      refine call_gives (Below.refl _ _) (fun w1 e1 _ => gives107 h2.2.2.2.1 (hK0 w1 e1)) fun w1 e1 hw1 => ⟨_, rfl, ?_⟩
      have hg1 := e1.row _ _ _ _ hg
      refine ⟨at_cell hg1 rfl, at_cell hg1 rfl, ?_⟩
      rw [wrap_id (n := s.at_ + (aheadM s.f + s.f.locals - s.f.refs)) (by omega) (by omega), wrap_id (n := s.at_ + (aheadM s.f + s.f.locals - s.f.refs) + s.next) (by omega) (by omega), wrap_id (by omega) (by omega)]
      have hat : atW s = s.at_ + (aheadM s.f + s.f.locals - s.f.refs) + s.next - 2 := by unfold atW; rw [if_pos (by omega)]
      rw [← hat]
      exact b0_64 hw1 (hW.ext e1) (ha.ext e1) hok hs hpl hne
    · rw [if_neg (by simpa using h1)]
      have h3 : IntKind.wrap .i64 (s.at_ + s.next) = s.at_ + s.next := by
        rcases hst' with h | h
        · exact wrap_id (by omega) (by omega)
        · refine wrap_id (by omega) ?_
          rcases h.2.2.2.2 with h' | h'
          · omega
          · omega
      have hat : atW s = s.at_ + s.next := by unfold atW; rw [if_neg (by omega)]
      rw [h3, ← hat]
      exact b0_64 (Below.refl _ _) hW ha hok hs hpl hne
end
end Go.Proofs.Ytlccbaemcfjdoaa
