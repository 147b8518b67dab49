/-
  The arena's functions that make one, and lay words in it: what their calls return and leave.
  Conditions: the words lie in memory as told.
-/
import Derived.Test.YtlccbaemcfjdoaaA18b
import Derived.Test.YtlccbaemcfjdoaaWB
set_option linter.unusedVariables false
set_option linter.unusedSimpArgs false
namespace Go.Proofs.Ytlccbaemcfjdoaa
open Go.RowKit

theorem zeros_cells (n : Nat) : madeCells (Value.int .u64 0).cells (n * 1) = ((List.replicate n (0 : Int)).map (Value.int .u64)).toArray := by
  apply Array.toList_inj.1
  rw [Nat.mul_one]
  simp only [madeCells, Array.toList_map, Array.toList_range, List.map_replicate]
  rw [List.eq_replicate_iff]
  refine ⟨by simp, fun x hx => ?_⟩
  obtain ⟨j, _, rfl⟩ := List.mem_map.1 hx
  simp [Value.cells, Nat.mod_one]
theorem zeros_wd (n : Nat) : Wd (List.replicate n 0) := fun x hx => by rw [(List.mem_replicate.1 hx).2]; omega
/-- A new arena. -/
def NewQ (n : Nat) (w1 : World) : Value → World → Prop := fun u w2 => ∃ g b, u = .pointer (some ⟨g, 0, none⟩) ∧ ArenaAt w2 g b (List.replicate n 0) ∧ w1.heap.size ≤ g ∧ w1.heap.size ≤ b
theorem yields92 {w : World} {pages : Nat} (h : 1 ≤ pages ∧ pages ≤ 256) : Yields Try.prog 92 [.int .i64 pages] w (NewQ (pages * 64) w) := by
  refine yields_of (V92.sound ?_)
  unfold V92.vc
  rw [if_pos (by simp; omega), if_neg (by simp; omega)]
  have hwr : IntKind.wrap .i64 ((pages : Int) * 64) = ((pages * 64 : Nat) : Int) := by rw [wrap_id (by omega) (by omega)]; simp
  rw [hwr]
  have hb8 : Try.t51.bytes = 8 := by kernel_rfl
  refine make_own (e := 51) (i := Try.t51) (z := .int .u64 0) (size := 1) (n := pages * 64) (by kernel_rfl) (by kernel_rfl) (by kernel_rfl) (by kernel_rfl) (by rw [hb8]; omega) (by simp only [maxLen]; omega) (Nat.le_refl _) fun b w1 hb e1 ho => ?_
  refine ⟨_, _, _, rfl, ?_⟩
  intro w2 e2 _
  obtain ⟨he, ho2⟩ := alloc1 (.cells ⟨[.slice (some ⟨b, 0, none⟩) (pages * 64) (pages * 64)]⟩ 178) e2 e1.size
  rw [zeros_cells] at ho
  refine ret_q (he.after e1.below) fun w3 e3 => ⟨w2.heap.size, b, rfl, ⟨?_, ?_, zeros_wd _, by simp; omega⟩, Nat.le_trans e1.size e2.size, hb⟩
  · rw [List.length_replicate]
    exact e3.row _ _ _ _ ho2
  · exact e3.row _ _ _ _ (he.row _ _ _ _ ho)
/-- An arena, and a row of the same words. -/
def LaidQ (n : Nat) (w1 : World) : Value → World → Prop := fun u w2 => ∃ g b m mem, u = .tuple ⟨[.pointer (some ⟨g, 0, none⟩), .slice (some ⟨m, 0, none⟩) n n]⟩ ∧ ArenaAt w2 g b mem ∧ OwnI w2 m .u64 51 mem ∧ mem.length = n ∧ w1.heap.size ≤ g ∧ w1.heap.size ≤ b ∧ w1.heap.size ≤ m ∧ m ≠ b
theorem call_new {w0 w : World} {bs : List Nat} {pages : Nat} (h : 1 ≤ pages ∧ pages ≤ 256) {K : Value → World → Prop} (h0 : Below w0.heap.size w0 w)
    (hk : ∀ g b w', Ext w0.heap.size w w' → Below w0.heap.size w0 w' → ArenaAt w' g b (List.replicate (pages * 64) 0) → w.heap.size ≤ g → w.heap.size ≤ b → K (.pointer (some ⟨g, 0, none⟩)) w') : CallK Try.prog 92 [.int .i64 pages] w0.heap.size w bs K := by
  refine call_yields (Q := NewQ (pages * 64)) h0 (fun w1 e1 _ => yields92 h) fun w1 u w2 w' hs hb hQ _ hnew he hw => ?_
  obtain ⟨g, b, rfl, ha, hg, hb'⟩ := hQ
  refine hk g b w' he hw ⟨?_, ?_, ha.wd, ha.len⟩ (Nat.le_trans hs hg) (Nat.le_trans hs hb')
  · rw [hnew g hg]; exact ha.head
  · unfold OwnI; rw [hnew b hb']; exact ha.words
theorem yields41 {w : World} {pages : Nat} (h : 1 ≤ pages ∧ pages ≤ 256) {A : Option Addr} {l c : Nat} {ws : List Int} (hws : Nums .u64 w A l ws) (hwd : Wd ws) : Yields Try.prog 41 [.int .i64 pages, .slice A l c] w (LaidQ (pages * 64) w) := by
  refine yields_of (V41.sound ?_)
  unfold V41.vc
  refine call_new h (Below.refl _ _) fun g b w1 e1 hw1 ha hg hb => ⟨_, rfl, ?_⟩
  show V41.b0 _ _ _ _ _ _ ⟨g, 0, none⟩ w1
  unfold V41.b0
  refine call_gives hw1 (fun w2 e2 _ => gives93 (ha.ext e2)) fun w2 e2 hw2 => ⟨_, rfl, ?_⟩
  have hwr : IntKind.wrap .i64 ((pages : Int) * 64) = ((pages * 64 : Nat) : Int) := by rw [wrap_id (by omega) (by omega)]; simp
  rw [hwr, List.length_replicate, if_neg (by simp)]
  have hb8 : Try.t51.bytes = 8 := by kernel_rfl
  refine make_own (e := 51) (i := Try.t51) (z := .int .u64 0) (size := 1) (n := pages * 64) (by kernel_rfl) (by kernel_rfl) (by kernel_rfl) (by kernel_rfl) (by rw [hb8]; omega) (by simp only [maxLen]; omega) hw2.size fun m w3 hm e3 ho => ?_
  rw [zeros_cells] at ho
  have ha3 := (ha.ext e2).ext e3
  have hmb : m ≠ b := by have := (ha.ext e2).words.lt; omega
  have hmg : m ≠ g := by have := lt_of_some (ha.ext e2).head; omega
  have hw3 := e3.after hw2
  have hm0 : w.heap.size ≤ m := Nat.le_trans hw2.size hm
  refine ⟨_, _, _, rfl, l + 1, ?_⟩
  have loop : ∀ (k i : Nat) (w' : World) (mem : List Int), l < i + k → i ≤ l → Below w.heap.size w w' → ArenaAt w' g b mem → OwnI w' m .u64 51 mem → mem.length = pages * 64 →
      V41.l1 w.heap.size (IsQ w (LaidQ (pages * 64) w)) k A l c ⟨g, 0, none⟩ (some ⟨m, 0, none⟩) (pages * 64) (pages * 64) i w' := by
    intro k
    induction k with
    | zero => intros; omega
    | succ k ih =>
      intro i w' mem hk hi hw' ha' hm' hl
      dsimp -zeta only [V41.l1]
      have done : Ret w.heap.size w' (IsQ w (LaidQ (pages * 64) w) (.tuple ⟨[.pointer (some ⟨g, 0, none⟩), .slice (some ⟨m, 0, none⟩) (pages * 64) (pages * 64)]⟩)) :=
        ret_q hw' fun w4 e4 => ⟨g, b, m, mem, rfl, ha'.ext e4, hm'.ext e4, hl, hg, hb, hm0, hmb⟩
      by_cases h1 : i < l
      · rw [if_pos (by simpa using h1)]
        by_cases h2 : i < pages * 64
        · rw [if_pos (by simp; omega)]
          obtain ⟨x, p, hx, hp, hc⟩ := hws.at h1
          have hxb := hwd.at hx
          have hc' := below_keeps hw' _ _ hc
          have hget : mem[i]? = some (mem[i]'(by omega)) := List.getElem?_eq_getElem _
          have hcell := hm'.cell hget
          refine ⟨p, hp, by omega, by omega, x, hc', _, rfl, by omega, by omega, ⟨_, by simpa only [own_add, bx_add, Nat.add_zero, Nat.zero_add, Int.toNat_natCast] using hcell⟩, by simpa only [own_add, bx_add, Nat.add_zero, Nat.zero_add, Int.toNat_natCast] using hm'.frozen i, ?_⟩
          simp only [own_add, bx_add, Nat.add_zero, Nat.zero_add, Int.toNat_natCast]
          have hset := hm'.set i x
          simp only [own_add, bx_add, Nat.add_zero, Nat.zero_add] at hset
          have hpm : p.block < w.heap.size := by have := cell_lt hc; rwa [add_block] at this
          have hwset : Below w.heap.size w (w'.setCell ⟨m, i, none⟩ (.int .u64 x)) := hw'.setCell hm0 _
          refine ⟨p, hp, by omega, by omega, x, below_keeps hwset _ _ hc, ?_⟩
          have haset : ArenaAt (w'.setCell ⟨m, i, none⟩ (.int .u64 x)) g b mem :=
            ⟨by rw [at_other (Ne.symm hmg)]; exact ha'.head, by unfold OwnI; rw [at_other (Ne.symm hmb)]; exact ha'.words, ha'.wd, ha'.len⟩
          have hin : inM mem.length i 1 = true := by unfold inM; exact decide_eq_true (by omega)
          generalize (w'.setCell ⟨m, i, none⟩ (.int .u64 x)) = w5 at *
          refine call_puts hwset.size haset.words (fun w6 e6 => puts70 (haset.ext e6) i x) fun w6 e6 ho6 => ?_
          refine ⟨0, ?_, ?_⟩
          · unfold errV; rw [if_pos hin]
          rw [if_neg (by simp), wrap_succ h1 hws.small]
          have hst : storeV mem i x = mem.set i x := by unfold storeV; rw [if_pos hin, Int.toNat_natCast]
          rw [hst] at ho6
          have ha6 : ArenaAt w6 g b (mem.set i x) := haset.turned e6 ho6 (by simp) (ha'.wd.set _ hxb)
          refine ih (i + 1) w6 _ (by omega) (by omega) (e6.after (fun k e => by subst e; omega) hwset) ha6 ?_ (by simpa using hl)
          exact e6.row _ _ _ _ hmb hset
        · rw [if_neg (by simp; omega)]
          exact done
      · rw [if_neg (by simpa using h1)]
        exact done
  exact loop (l + 1) 0 w3 _ (by omega) (by omega) hw3 ha3 ho (by simp)
theorem call_laid {w0 w : World} {bs : List Nat} {pages : Nat} (h : 1 ≤ pages ∧ pages ≤ 256) {A : Option Addr} {l c : Nat} {ws : List Int} {K : Value → World → Prop} (h0 : Below w0.heap.size w0 w) (hws : Nums .u64 w A l ws) (hwd : Wd ws)
    (hk : ∀ g b m mem w', Ext w0.heap.size w w' → Below w0.heap.size w0 w' → ArenaAt w' g b mem → OwnI w' m .u64 51 mem → mem.length = pages * 64 → w.heap.size ≤ g → w.heap.size ≤ b → w.heap.size ≤ m → m ≠ b → K (.tuple ⟨[.pointer (some ⟨g, 0, none⟩), .slice (some ⟨m, 0, none⟩) (pages * 64) (pages * 64)]⟩) w') :
    CallK Try.prog 41 [.int .i64 pages, .slice A l c] w0.heap.size w bs K := by
  refine call_yields (Q := LaidQ (pages * 64)) h0 (fun w1 e1 _ => yields41 h (RowAt.keep (NumE.kept _) hws (ext_keeps e1)) hwd) fun w1 u w2 w' hs hb hQ _ hnew he hw => ?_
  obtain ⟨g, b, m, mem, rfl, ha, hm, hl, h1, h2, h3, h4⟩ := hQ
  refine hk g b m mem w' he hw ⟨?_, ?_, ha.wd, ha.len⟩ ?_ hl (Nat.le_trans hs h1) (Nat.le_trans hs h2) (Nat.le_trans hs h3) h4
  · rw [hnew g h1]; exact ha.head
  · unfold OwnI; rw [hnew b h2]; exact ha.words
  · unfold OwnI; rw [hnew m h3]; exact hm
section
variable {w : World} {g b : Nat} {mem : List Int}
def belowM (n : Nat) (at_ : Int) : Bool := decide (-1 ≤ at_ ∧ at_ < n)
theorem gives96 (h : ArenaAt w g b mem) (at_ : Int) : Gives Try.prog 96 [.pointer (some ⟨g, 0, none⟩), .int .i64 at_] w (.bool (belowM mem.length at_)) := by
  refine gives_of (V96.sound ?_)
  unfold V96.vc
  by_cases h0 : at_ ≥ -1
  · rw [if_pos (by simpa using h0)]
    refine call_gives (Below.refl _ _) (fun w1 e1 _ => gives93 (h.ext e1)) fun w1 e1 hw1 => ⟨_, rfl, ret_is hw1 (congrArg Value.bool ?_)⟩
    unfold belowM
    exact decide_eq_decide.2 (by omega)
  · rw [if_neg (by simpa using h0)]
    exact ret_is (Below.refl _ _) (congrArg Value.bool (by unfold belowM; exact (decide_eq_false (by omega)).symm))
/-- Words stored one behind the other. -/
def storesM (mem : List Int) (at_ : Int) (xs : List Int) : Nat → List Int
  | 0 => mem
  | i + 1 => storeV (storesM mem at_ xs i) (at_ + i) (xs.getD i 0)
theorem storesM_len (mem : List Int) (at_ : Int) (xs : List Int) : ∀ i, (storesM mem at_ xs i).length = mem.length
  | 0 => rfl
  | i + 1 => by rw [storesM, storeV_len, storesM_len mem at_ xs i]
theorem getD_wd {xs : List Int} (h : Wd xs) (i : Nat) : 0 ≤ xs.getD i 0 ∧ xs.getD i 0 < 18446744073709551616 := by
  by_cases hi : i < xs.length
  · have : xs[i]? = some (xs[i]) := List.getElem?_eq_getElem hi
    have h1 := h.at this
    simpa [List.getD, this] using h1
  · have : xs[i]? = none := List.getElem?_eq_none (by omega)
    simp [List.getD, this]
theorem storesM_wd {mem : List Int} (h : Wd mem) (at_ : Int) {xs : List Int} (hx : Wd xs) : ∀ i, Wd (storesM mem at_ xs i)
  | 0 => h
  | i + 1 => storeV_wd (storesM_wd h at_ hx i) _ (getD_wd hx i)
theorem puts103 (h : ArenaAt w g b mem) {at_ : Int} {A : Option Addr} {l c : Nat} {xs : List Int} (hx : Nums .u64 (off b w) A l xs) (hwd : Wd xs) (hat : -1000000000000 ≤ at_ ∧ at_ ≤ 1000000000000) (hl : l ≤ 1000000000000) :
    Puts Try.prog 103 [.pointer (some ⟨g, 0, none⟩), .int .i64 at_, .slice A l c] w b (.tuple ⟨[]⟩) .u64 51 (storesM mem at_ xs l) := by
  refine puts_of (V103.sound ?_)
  unfold V103.vc
  have loop : ∀ (k i : Nat) (w' : World), l < i + k → i ≤ l → Chg (fun j => j = b) w w' → ArenaAt w' g b (storesM mem at_ xs i) →
      V103.l0 w.heap.size (IsP w b (.tuple ⟨[]⟩) .u64 51 (storesM mem at_ xs l)) k ⟨g, 0, none⟩ at_ A l c l i w' := by
    intro k
    induction k with
    | zero => intros; omega
    | succ k ih =>
      intro i w' hk hi hc ha
      dsimp -zeta only [V103.l0]
      by_cases h1 : i < l
      · rw [if_pos (by simpa using h1)]
        obtain ⟨x, p, hxx, hp, hcell⟩ := hx.at h1
        have hcell' := (off_cell.1 (chg_off hc _ _ hcell)).1
        refine ⟨p, hp, by omega, by omega, x, hcell', ?_⟩
        rw [wrap_id (n := at_ + (i : Int)) (by omega) (by omega)]
        refine call_puts hc.size ha.words (fun w6 e6 => puts70 (ha.ext e6) _ x) fun w6 e6 ho6 => ?_
        unfold errV
        refine ⟨_, rfl, ?_⟩
        rw [wrap_succ h1 hx.small]
        have hg : xs.getD i 0 = x := by simp [List.getD, hxx]
        have hst : storeV (storesM mem at_ xs i) (at_ + i) x = storesM mem at_ xs (i + 1) := by show _ = storeV _ _ (xs.getD i 0); rw [hg]
        rw [hst] at ho6
        exact ih (i + 1) w6 (by omega) (by omega) (e6.chgS hc) (ha.turned e6 ho6 (by rw [storesM_len, storesM_len]) (storesM_wd h.wd at_ hwd _))
      · rw [if_neg (by simpa using h1)]
        have : i = l := by omega
        subst this
        exact ret_p hc rfl ha.words
  exact ⟨l + 1, loop (l + 1) 0 w (by omega) (by omega) (Chg.refl _ _) h⟩
end
end Go.Proofs.Ytlccbaemcfjdoaa
