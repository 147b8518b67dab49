/-
  The arena's functions that make memory, and those that hold words against words: what their calls return and leave.
  Conditions: the arena, and the words, lie in memory as told.
-/
import Derived.Test.YtlccbaemcfjdoaaA18
set_option linter.unusedVariables false
set_option linter.unusedSimpArgs false
namespace Go.Proofs.Ytlccbaemcfjdoaa
open Go.RowKit

theorem owns_base {w : World} {B B' : Nat} {e : TypeId} {size : Nat} {v : Value} {n : Nat} {xs : List Value} (h : w.ownsRow B e size v n xs) (hB : B' ≤ B) : w.ownsRow B' e size v n xs := by
  refine ⟨h.1, ?_⟩
  rcases h.2 with hn | ⟨g, cap, cur, rfl, hb, rest⟩
  · exact .inl hn
  · exact .inr ⟨g, cap, cur, rfl, Nat.le_trans hB hb, rest⟩
/-- A row of one's own of these words. -/
abbrev OwnWs (w : World) (B : Nat) (v : Value) (xs : List Int) : Prop := w.ownsRow B 51 1 v xs.length (xs.map (.int .u64))
def OwnQ (xs : List Int) (w1 : World) : Value → World → Prop := fun v w2 => OwnWs w2 w1.heap.size v xs
theorem call_own {P : Program} {f : Nat} {args : List Value} {w0 w : World} {bs : List Nat} {xs : List Int} {K : Value → World → Prop} (h0 : Below w0.heap.size w0 w) (hc : ∀ w1, Ext w0.heap.size w w1 → Below w0.heap.size w0 w1 → Yields P f args w1 (OwnQ xs w1))
    (hk : ∀ v w', Ext w0.heap.size w w' → Below w0.heap.size w0 w' → OwnWs w' w.heap.size v xs → K v w') : CallK P f args w0.heap.size w bs K := by
  refine call_yields (Q := OwnQ xs) h0 hc fun w1 v w2 w' hs hb hQ _ hnew he hw => hk v w' he hw ?_
  exact owns_base (owns_other hQ fun g hg => hnew g (hQ.lt g hg).1) hs
theorem ownws_nums {w : World} {B : Nat} {v : Value} {xs : List Int} (h : OwnWs w B v xs) (hl : xs.length ≤ 17592186044416) : ∃ A c, v = .slice A xs.length c ∧ Nums .u64 w A xs.length xs ∧ ∀ p, A = some p → B ≤ p.block := by
  obtain ⟨A, c, hv, hn, hb⟩ := owns_nums h (by simp only [maxLen]; omega)
  exact ⟨A, c, hv, hn, fun p hp => (h.lt _ (hb p hp)).1⟩
/-- Words appended to nothing, in memory that is new. -/
theorem append_fresh {w0 w : World} {bs : List Nat} {g : Nat} {a : Addr} {l c : Nat} {xs : List Int} {K : Value → World → Prop} (hw : Below w0.heap.size w0 w) (hg : w.heap[g]? = some (.cells ⟨[]⟩ 51 (0, 0))) {b0 : Nat} (hb : b0 ≤ g) (hb0 : b0 ≤ w.heap.size) (hB : w0.heap.size ≤ g)
    (hx : Nums .u64 w (some a) l xs) (hl : l ≤ 17592186044416) (hk : ∀ v w', (∀ q u, w.cell? q = some u → w'.cell? q = some u) → ExtS w0.heap.size (fun k => k = g) w w' → Below w0.heap.size w0 w' → OwnWs w' b0 v xs → (∀ j, v.ownBlock = some j → j = g ∨ w.heap.size ≤ j) → K v w') :
    RunK Try.prog (Builtin.append_ #[50, 50] 50 ⟨[.slice (some ⟨g, 0, none⟩) 0 0, .slice (some a) l c]⟩) w0.heap.size w bs K := by
  have hb8 : Try.t51.bytes = 8 := by kernel_rfl
  refine append_nums (t := 50) (e := 51) (i := Try.t51) (k := .u64) (bytes := 8) (n := 0) (xs := []) (b0 := b0) (by kernel_rfl) (by kernel_rfl) (by kernel_rfl) (by kernel_rfl) hb8 (Nat.le_refl _) (owns_empty hg hb) hx (by omega) hw.size hb0 fun v' w' he ho hn => ?_
  have he' : ExtS w0.heap.size (fun k => k = g) w w' := ⟨he.os, he.tape, he.output, he.size, fun k c t f hk => he.row k c t f (fun e => hk (by cases e; rfl)), fun k hk hn => he.low k hk (fun e => hn (by cases e; rfl))⟩
  refine hk v' w' (exts_keeps he rfl hg) he' (he'.after (fun k e => by subst e; exact hB) hw) ?_ fun j hj => ?_
  · rw [Nat.zero_add, List.nil_append] at ho
    have hl' := hx.len
    subst hl'
    exact ho
  · rcases hn j hj with h | h
    · cases h; exact .inl rfl
    · exact .inr h
section
variable {w : World} {g b : Nat} {mem : List Int}
theorem yields124 {A : Option Addr} {l c : Nat} {xs : List Int} (hx : Nums .u64 w A l xs) (hl : l ≤ 17592186044416) : Yields Try.prog 124 [.slice A l c] w (OwnQ xs w) := by
  refine yields_of (V124.sound ?_)
  unfold V124.vc
  cases A with
  | none =>
    simp only [Option.isNone_none, if_true]
    have hn : xs = [] := by
      cases xs with
      | nil => rfl
      | cons x r => obtain ⟨p, hp, _⟩ := hx.get 0 x rfl; cases hp
    subst hn
    exact ret_q (Below.refl _ _) fun w1 he => World.ownsRow_nil _ _ _ _
  | some a =>
    simp only [Option.isNone_some, Bool.false_eq_true, if_false]
    intro w1 e1 _
    obtain ⟨he, ho⟩ := alloc1 (.cells ⟨[]⟩ 51) e1 (Nat.le_refl _)
    have hs := e1.size
    refine append_fresh (b0 := w.heap.size) he.below ho hs he.size hs (RowAt.keep (NumE.kept _) hx (ext_keeps he)) hl fun v w' hk _ hw ho' _ => ?_
    obtain ⟨A', c', rfl⟩ := owns_slice0 ho'
    exact ⟨A', _, c', rfl, ret_q hw fun w3 h3 => h3.owns ho'⟩
theorem yields104 {a : Addr} {l c : Nat} {xs : List Int} (hx : Nums .u64 w (some a) l xs) (hl : l ≤ 17592186044416) : Yields Try.prog 104 [.slice (some a) l c] w (OwnQ xs w) := by
  refine yields_of (V104.sound ?_)
  unfold V104.vc
  intro w1 e1 _
  obtain ⟨he, ho⟩ := alloc1 (.cells ⟨[]⟩ 51) e1 (Nat.le_refl _)
  have hs := e1.size
  refine append_fresh (b0 := w.heap.size) he.below ho hs he.size hs (RowAt.keep (NumE.kept _) hx (ext_keeps he)) hl fun v w' hk _ hw ho' _ => ?_
  obtain ⟨A', c', rfl⟩ := owns_slice0 ho'
  exact ⟨A', _, c', rfl, ret_q hw fun w3 h3 => h3.owns ho'⟩
def SliceQ (mem : List Int) (at_ k : Int) (w1 : World) : Value → World → Prop := fun u w2 => ∃ v, u = .tuple ⟨[v, errV mem at_ k]⟩ ∧ OwnWs w2 w1.heap.size v (if inM mem.length at_ k = true then sub mem at_ k else [])
theorem yields94 (h : ArenaAt w g b mem) (at_ k : Int) : Yields Try.prog 94 [.pointer (some ⟨g, 0, none⟩), .int .i64 at_, .int .i64 k] w (SliceQ mem at_ k w) := by
  refine yields_of (V94.sound ?_)
  unfold V94.vc
  refine call_gives (Below.refl _ _) (fun w1 e1 _ => gives105 (h.ext e1) at_ k) fun w1 e1 hw1 => ?_
  have h1 := h.ext e1
  have hl := h.len
  unfold partE
  by_cases hin : inM mem.length at_ k = true
  · rw [if_pos hin]
    have hi := of_decide_eq_true hin
    refine ⟨_, _, _, _, rfl, ?_⟩
    refine call_own hw1 (fun w2 e2 _ => yields124 (RowAt.keep (NumE.kept _) (part_nums h1 hin) (ext_keeps e2)) (by omega)) fun v w2 e2 hw2 ho => ?_
    obtain ⟨A', c', rfl⟩ := owns_slice0 ho
    refine ⟨A', _, c', rfl, ret_q hw2 fun w3 e3 => ⟨.slice A' (sub mem at_ k).length c', ?_, ?_⟩⟩
    · unfold errV; rw [if_pos hin]
    · rw [if_pos hin]; exact owns_base (e3.owns ho) e1.size
  · rw [if_neg hin]
    refine ⟨_, _, _, _, rfl, ?_⟩
    refine call_own hw1 (fun w2 e2 _ => yields124 (nums_nil .u64 w2) (by omega)) fun v w2 e2 hw2 ho => ?_
    obtain ⟨A', c', rfl⟩ := owns_slice0 ho
    refine ⟨A', _, c', rfl, ret_q hw2 fun w3 e3 => ⟨.slice A' ([] : List Int).length c', ?_, ?_⟩⟩
    · unfold errV; rw [if_neg hin]
    · rw [if_neg hin]; exact owns_base (e3.owns ho) e1.size
theorem call_slice {w0 : World} {bs : List Nat} {K : Value → World → Prop} {at_ k : Int} (h0 : Below w0.heap.size w0 w) (h : ArenaAt w g b mem)
    (hk : ∀ A l c w', Ext w0.heap.size w w' → Below w0.heap.size w0 w' → OwnWs w' w.heap.size (.slice A l c) (if inM mem.length at_ k = true then sub mem at_ k else []) → Nums .u64 w' A l (if inM mem.length at_ k = true then sub mem at_ k else []) → (∀ p, A = some p → w.heap.size ≤ p.block) → K (.tuple ⟨[.slice A l c, errV mem at_ k]⟩) w') :
    CallK Try.prog 94 [.pointer (some ⟨g, 0, none⟩), .int .i64 at_, .int .i64 k] w0.heap.size w bs K := by
  refine call_yields (Q := SliceQ mem at_ k) h0 (fun w1 e1 _ => yields94 (h.ext e1) at_ k) fun w1 u w2 w' hs hb hQ _ hnew he hw => ?_
  obtain ⟨v, rfl, ho⟩ := hQ
  have ho' : OwnWs w' w.heap.size v (if inM mem.length at_ k = true then sub mem at_ k else []) := owns_base (owns_other ho fun j hj => hnew j (ho.lt j hj).1) hs
  have hlen : (if inM mem.length at_ k = true then sub mem at_ k else []).length ≤ 16384 := by
    split
    · rename_i hin
      have := of_decide_eq_true hin
      have := h.len
      rw [sub_len hin]; omega
    · simp
  obtain ⟨A, c, hv, hn, hp⟩ := ownws_nums ho' (by omega)
  subst hv
  exact hk A _ c w' he hw ho' hn hp

/-! ### Words held against words -/
theorem l68 {w0 : World} {A A' : Option Addr} {l c l' c' : Nat} {xs ys : List Int} (hx : Nums .u64 w0 A l xs) (hy : Nums .u64 w0 A' l' ys) (hl : l = l') (w : World) (hw : Below w0.heap.size w0 w) :
    ∀ (k i : Nat), l < i + k → i ≤ l → (∀ j, j < i → xs[j]? = ys[j]?) → V68.l0 w0.heap.size (IsV w0 (.bool (xs == ys))) k A l c A' l' c' i w
  | 0, i, hk, hi, _ => by omega
  | k + 1, i, hk, hi, hall => by
    dsimp -zeta only [V68.l0]
    by_cases h : i < l
    · rw [if_pos (by simpa using h)]
      obtain ⟨n, p, hn, hp, hc⟩ := hx.at h
      obtain ⟨m, q, hm, hq, hd⟩ := hy.at (hl ▸ h)
      have hc' := (hw.cell (cell_lt hc)).trans hc
      have hd' := (hw.cell (cell_lt hd)).trans hd
      refine ⟨p, hp, by omega, by omega, n, by simpa using hc', q, hq, by omega, by omega, m, by simpa using hd', ?_⟩
      by_cases hnm : n = m
      · rw [if_neg (by simp [hnm]), wrap_succ h hx.small]
        refine l68 hx hy hl w hw k (i + 1) (by omega) (by omega) fun j hj => ?_
        rcases Nat.lt_succ_iff_lt_or_eq.1 hj with h1 | h1
        · exact hall j h1
        · subst h1; rw [hn, hm, hnm]
      · rw [if_pos (by simpa using hnm)]
        refine ret_is hw ?_
        have : xs ≠ ys := fun e => by subst e; rw [hn] at hm; cases hm; exact hnm rfl
        simp [this]
    · rw [if_neg (by simpa using h)]
      refine ret_is hw ?_
      have : xs = ys := by
        apply List.ext_getElem?
        intro j
        by_cases hj : j < i
        · exact hall j hj
        · rw [List.getElem?_eq_none (by have := hx.len; omega), List.getElem?_eq_none (by have := hy.len; omega)]
      simp [this]
theorem gives68 {A A' : Option Addr} {l c l' c' : Nat} {xs ys : List Int} (hx : Nums .u64 w A l xs) (hy : Nums .u64 w A' l' ys) : Gives Try.prog 68 [.slice A l c, .slice A' l' c'] w (.bool (xs == ys)) := by
  refine gives_of (V68.sound ?_)
  unfold V68.vc
  by_cases h : l = l'
  · rw [if_neg (by simp [h])]
    exact ⟨l + 1, l68 hx hy h w (Below.refl _ _) (l + 1) 0 (by omega) (by omega) (fun j hj => by omega)⟩
  · rw [if_pos (by simp; omega)]
    refine ret_is (Below.refl _ _) ?_
    have : xs ≠ ys := fun e => h (by rw [← hx.len, ← hy.len, e])
    simp [this]
theorem sub_all (mem : List Int) : sub mem 0 mem.length = mem := by simp [sub]
theorem gives46 (h : ArenaAt w g b mem) {A : Option Addr} {l c : Nat} {xs : List Int} (hx : Nums .u64 w A l xs) : Gives Try.prog 46 [.pointer (some ⟨g, 0, none⟩), .slice A l c] w (.bool (mem == xs)) := by
  refine gives_of (V46.sound ?_)
  unfold V46.vc
  have hl := h.len
  refine call_slice (Below.refl _ _) h fun A' l' c' w1 e1 hw1 _ hn _ => ?_
  have hx1 : Nums .u64 w1 A l xs := RowAt.keep (NumE.kept _) hx (ext_keeps e1)
  unfold errV
  refine ⟨_, _, _, _, rfl, ?_⟩
  refine call_gives hw1 (fun w2 e2 _ => gives93 ((h.ext e1).ext e2)) fun w2 e2 hw2 => ⟨_, rfl, ?_⟩
  by_cases hml : mem.length = l
  · rw [if_pos (by simp [hml])]
    have hin : inM mem.length 0 l = true := by unfold inM; exact decide_eq_true (by omega)
    rw [if_pos hin, if_pos (by simp)]
    rw [if_pos hin] at hn
    rw [← hml, sub_all] at hn
    refine call_gives hw2 (fun w3 e3 _ => gives68 (RowAt.keep (NumE.kept _) (RowAt.keep (NumE.kept _) hn (ext_keeps e2)) (ext_keeps e3)) (RowAt.keep (NumE.kept _) (RowAt.keep (NumE.kept _) hx1 (ext_keeps e2)) (ext_keeps e3))) fun w3 _ hw3 => ⟨_, rfl, ret_is hw3 rfl⟩
  · rw [if_neg (by simp; omega)]
    refine ret_is hw2 ?_
    have : mem ≠ xs := fun e => hml (by rw [← hx.len, e])
    simp [this]
def allM (n : Nat) (at_ k : Int) : Bool := decide (0 ≤ at_ ∧ at_ ≤ n ∧ k ≤ n - at_)
theorem gives95 {A : Option Addr} {l c : Nat} (hl : l ≤ maxLen) (at_ k : Int) : Gives Try.prog 95 [.slice A l c, .int .i64 at_, .int .i64 k] w (.bool (allM l at_ k)) := by
  refine gives_of (V95.sound ?_)
  unfold V95.vc
  simp only [maxLen] at hl
  by_cases h0 : at_ ≥ 0
  · rw [if_pos (by simpa using h0)]
    by_cases h1 : at_ ≤ l
    · rw [if_pos (by simpa using h1)]
      refine ret_is (Below.refl _ _) (congrArg Value.bool ?_)
      rw [wrap_id (n := (l : Int) - at_) (by omega) (by omega)]
      unfold allM
      exact decide_eq_decide.2 (by omega)
    · rw [if_neg (by simpa using h1)]
      exact ret_is (Below.refl _ _) (congrArg Value.bool (by unfold allM; exact (decide_eq_false (by omega)).symm))
  · rw [if_neg (by simpa using h0)]
    exact ret_is (Below.refl _ _) (congrArg Value.bool (by unfold allM; exact (decide_eq_false (by omega)).symm))
end
end Go.Proofs.Ytlccbaemcfjdoaa
