/-
  The arena's functions: what their calls return and leave.
  Conditions: the arena lies in memory as told.
-/
import Derived.Test.YtlccbaemcfjdoaaZEngD
import Derived.Test.YtlccbaemcfjdoaaZWA
import Derived.Test.YtlccbaemcfjdoaaZK17
import Derived.Test.YtlccbaemcfjdoaaZWB
set_option linter.unusedVariables false
set_option linter.unusedSimpArgs false
namespace Go.Proofs.Ytlccbaemcfjdoaa
open Go.RowKit
def Wd (xs : List Int) : Prop := ∀ x ∈ xs, 0 ≤ x ∧ x < 18446744073709551616
theorem Wd.at {xs : List Int} (h : Wd xs) {i : Nat} {x : Int} (hx : xs[i]? = some x) : 0 ≤ x ∧ x < 18446744073709551616 := h x (List.mem_of_getElem? hx)
structure ArenaAt (w : World) (g b : Nat) (mem : List Int) : Prop where
  head : w.heap[g]? = some (.cells ⟨[.slice (some ⟨b, 0, none⟩) mem.length mem.length]⟩ 178 (0, 0))
  words : OwnI w b .u64 51 mem
  wd : Wd mem
  len : 64 ≤ mem.length ∧ mem.length ≤ 16384
section
variable {w w' : World} {g b : Nat} {mem : List Int}
theorem ArenaAt.ne (h : ArenaAt w g b mem) : g ≠ b := fun e => by
  have h1 := h.head
  have h2 := h.words
  subst e
  unfold OwnI at h2
  rw [h2] at h1
  simp only [Option.some.injEq, Obj.cells.injEq] at h1
  exact absurd h1.2.1 (by decide)
theorem ArenaAt.ext {B : Nat} (h : ArenaAt w g b mem) (he : Ext B w w') : ArenaAt w' g b mem := ⟨he.row _ _ _ _ h.head, h.words.ext he, h.wd, h.len⟩
theorem ArenaAt.turned {B : Nat} {mem' : List Int} (h : ArenaAt w g b mem) (he : ExtS B (fun k => k = b) w w') (ho : OwnI w' b .u64 51 mem') (hl : mem'.length = mem.length) (hw : Wd mem') : ArenaAt w' g b mem' :=
  ⟨by rw [hl]; exact he.row _ _ _ _ h.ne h.head, ho, hw, by rw [hl]; exact h.len⟩
theorem ArenaAt.cell (h : ArenaAt w g b mem) : w.cell? ⟨g, 0, none⟩ = some (.slice (some ⟨b, 0, none⟩) mem.length mem.length) := at_cell h.head rfl
theorem ArenaAt.nums (h : ArenaAt w g b mem) : Nums .u64 w (some ⟨b, 0, none⟩) mem.length mem := h.words.nums (by have := h.len; simp only [maxLen]; omega)
end
def inM (n : Nat) (at_ k : Int) : Bool := decide (0 ≤ at_ ∧ 0 ≤ k ∧ at_ ≤ n ∧ k ≤ n - at_)
def partE (b n : Nat) (at_ k : Int) : Value :=
  if inM n at_ k = true then .tuple ⟨[.slice (if n = at_.toNat then some ⟨b, 0, none⟩ else some ⟨b, at_.toNat, none⟩) k.toNat (n - at_.toNat), .int .i64 0]⟩ else .tuple ⟨[.slice none 0 0, .int .i64 1]⟩
section
variable {w : World} {g b : Nat} {mem : List Int}
theorem gives93 (h : ArenaAt w g b mem) : Gives Try.prog 93 [.pointer (some ⟨g, 0, none⟩)] w (.int .i64 mem.length) := by
  refine gives_of (V93.sound ?_)
  unfold V93.vc
  simp only [own_add]
  exact ⟨_, _, _, h.cell, ret_is (Below.refl _ _) rfl⟩
theorem gives105 (h : ArenaAt w g b mem) (at_ k : Int) : Gives Try.prog 105 [.pointer (some ⟨g, 0, none⟩), .int .i64 at_, .int .i64 k] w (partE b mem.length at_ k) := by
  refine gives_of (V105.sound ?_)
  unfold V105.vc
  simp only [own_add]
  have hl := h.len
  have no : ∀ {w'}, inM mem.length at_ k = false → Below w.heap.size w w' → Ret w.heap.size w' (IsV w (partE b mem.length at_ k) (.tuple ⟨[.slice none 0 0, .int .i64 1]⟩)) := fun hn hw => ret_is hw (by unfold partE; rw [hn]; rfl)
  by_cases h0 : at_ < 0
  · rw [if_neg (by simpa using h0)]
    exact no (by unfold inM; exact decide_eq_false (by omega)) (Below.refl _ _)
  · rw [if_pos (by simpa using h0)]
    by_cases h1 : k < 0
    · rw [if_neg (by simpa using h1)]
      exact no (by unfold inM; exact decide_eq_false (by omega)) (Below.refl _ _)
    · rw [if_pos (by simpa using h1)]
      refine ⟨_, _, _, h.cell, ?_⟩
      by_cases h2 : at_ > mem.length
      · rw [if_neg (by simpa using h2)]
        exact no (by unfold inM; exact decide_eq_false (by omega)) (Below.refl _ _)
      · rw [if_pos (by simpa using h2)]
        refine ⟨_, _, _, h.cell, ?_⟩
        rw [wrap_id (n := (mem.length : Int) - at_) (by omega) (by omega)]
        by_cases h3 : k > (mem.length : Int) - at_
        · rw [if_pos (by simpa using h3)]
          exact no (by unfold inM; exact decide_eq_false (by omega)) (Below.refl _ _)
        · rw [if_neg (by simpa using h3)]
          rw [wrap_id (n := at_ + k) (by omega) (by omega)]
          refine ⟨_, _, _, h.cell, by omega, by omega, by omega, by omega, ret_is (Below.refl _ _) ?_⟩
          unfold partE
          rw [if_pos (show inM mem.length at_ k = true by unfold inM; exact decide_eq_true (by omega))]
          rw [show (at_ + k).toNat - at_.toNat = k.toNat by omega]
          simp [bx_add]
def sub (mem : List Int) (at_ k : Int) : List Int := (mem.drop at_.toNat).take k.toNat
theorem sub_len {mem : List Int} {at_ k : Int} (h : inM mem.length at_ k = true) : (sub mem at_ k).length = k.toNat := by
  have := of_decide_eq_true h
  unfold sub
  simp
  omega
theorem sub_get {mem : List Int} {at_ k : Int} {i : Nat} {x : Int} (h : (sub mem at_ k)[i]? = some x) : mem[at_.toNat + i]? = some x ∧ i < k.toNat := by
  unfold sub at h
  rw [List.getElem?_take] at h
  split at h
  · rename_i hi
    rw [List.getElem?_drop] at h
    exact ⟨h, hi⟩
  · cases h
theorem part_nums (h : ArenaAt w g b mem) {at_ k : Int} (hin : inM mem.length at_ k = true) : Nums .u64 w (if mem.length = at_.toNat then some ⟨b, 0, none⟩ else some ⟨b, at_.toNat, none⟩) k.toNat (sub mem at_ k) := by
  have hl := h.len
  have hi := of_decide_eq_true hin
  refine ⟨sub_len hin, by simp only [maxLen]; omega, fun i x hx => ?_⟩
  obtain ⟨h1, h2⟩ := sub_get hx
  rw [if_neg (by omega)]
  refine ⟨_, rfl, ?_⟩
  have := h.words.cell h1
  rw [own_add] at this
  unfold NumE
  rw [bx_add, Nat.mul_one]
  exact this
def fillM (mem : List Int) (at_ : Nat) : Nat → Int → List Int
  | 0, _ => mem
  | k + 1, x => (fillM mem at_ k x).set (at_ + k) x
theorem fillM_len (mem : List Int) (at_ : Nat) (x : Int) : ∀ k, (fillM mem at_ k x).length = mem.length
  | 0 => rfl
  | k + 1 => by simp [fillM, fillM_len mem at_ x k]
theorem Wd.set {xs : List Int} (h : Wd xs) (i : Nat) {x : Int} (hx : 0 ≤ x ∧ x < 18446744073709551616) : Wd (xs.set i x) := fun y hy => by
  rcases List.mem_or_eq_of_mem_set hy with hy | rfl
  · exact h y hy
  · exact hx
theorem fillM_wd {mem : List Int} (h : Wd mem) (at_ : Nat) {x : Int} (hx : 0 ≤ x ∧ x < 18446744073709551616) : ∀ k, Wd (fillM mem at_ k x)
  | 0 => h
  | k + 1 => (fillM_wd h at_ hx k).set _ hx
def fillV (mem : List Int) (at_ k x : Int) : List Int := if inM mem.length at_ k = true then fillM mem at_.toNat k.toNat x else mem
def errV (mem : List Int) (at_ k : Int) : Value := .int .i64 (if inM mem.length at_ k = true then 0 else 1)
theorem puts102 (h : ArenaAt w g b mem) (at_ k x : Int) : Puts Try.prog 102 [.pointer (some ⟨g, 0, none⟩), .int .i64 at_, .int .i64 k, .int .u64 x] w b (errV mem at_ k) .u64 51 (fillV mem at_ k x) := by
  refine puts_of (V102.sound ?_)
  unfold V102.vc
  refine call_gives (Below.refl _ _) (fun w1 e1 _ => gives105 (h.ext e1) at_ k) fun w1 e1 hw1 => ?_
  have h1 := h.ext e1
  have hc1 : Chg (fun j => j = b) w w1 := ext_chg (Chg.refl _ _) e1
  unfold partE
  by_cases hin : inM mem.length at_ k = true
  · rw [if_pos hin]
    refine ⟨_, _, _, _, rfl, k.toNat + 1, ?_⟩
    have hi := of_decide_eq_true hin
    have hl := h.len
    have hv : fillV mem at_ k x = fillM mem at_.toNat k.toNat x := by unfold fillV; rw [if_pos hin]
    rw [hv]
    have he : errV mem at_ k = .int .i64 0 := by unfold errV; rw [if_pos hin]
    rw [he]
    have loop : ∀ (m i : Nat) (w' : World), k.toNat < i + m → i ≤ k.toNat → Chg (fun j => j = b) w w' → OwnI w' b .u64 51 (fillM mem at_.toNat i x) →
        V102.l0 w.heap.size (IsP w b (.int .i64 0) .u64 51 (fillM mem at_.toNat k.toNat x)) m x (if mem.length = at_.toNat then some ⟨b, 0, none⟩ else some ⟨b, at_.toNat, none⟩) k.toNat (mem.length - at_.toNat) 0 k.toNat i w' := by
      intro m
      induction m with
      | zero => intros; omega
      | succ m ih =>
        intro i w' hm hile hc ho
        dsimp -zeta only [V102.l0]
        by_cases hlt : i < k.toNat
        · rw [if_pos (by simp; omega), if_neg (by omega)]
          simp only [Int.toNat_natCast, bx_add, Nat.add_zero]
          have hget : (fillM mem at_.toNat i x)[at_.toNat + i]? = some ((fillM mem at_.toNat i x)[at_.toNat + i]'(by rw [fillM_len]; omega)) := List.getElem?_eq_getElem _
          have hcell := ho.cell hget
          rw [own_add] at hcell
          refine ⟨_, rfl, by omega, by omega, ?_, ?_, ?_⟩
          · rw [bx_add, bx_add, Nat.add_zero]; exact ⟨_, hcell⟩
          · rw [bx_add, bx_add, Nat.add_zero]; exact at_frozen ho _
          · rw [bx_add, bx_add, Nat.add_zero]
            have hset := ho.set (at_.toNat + i) x
            rw [own_add, bx_add, Nat.add_zero] at hset
            have hwr : IntKind.wrap .i64 ((i : Int) + 1) = ((i + 1 : Nat) : Int) := by rw [wrap_id (by omega) (by omega)]; rfl
            rw [hwr]
            have := ih (i + 1) _ (by omega) (by omega) (hc.setCell (a := ⟨b, at_.toNat + i, none⟩) (.int .u64 x) (fun _ => rfl)) hset
            rw [if_neg (by omega)] at this
            exact this
        · rw [if_neg (by simp; omega)]
          have : i = k.toNat := by omega
          subst this
          exact ret_p hc rfl ho
    have hz := loop (k.toNat + 1) 0 w1 (by omega) (by omega) hc1 h1.words
    have hkk : ((k.toNat : Nat) : Int) = k := Int.toNat_of_nonneg hi.2.1
    exact hz
  · rw [if_neg hin]
    refine ⟨_, _, _, _, rfl, 1, ?_⟩
    dsimp -zeta only [V102.l0]
    rw [if_neg (by simp)]
    exact ret_p hc1 (by unfold errV; rw [if_neg hin]) (by unfold fillV; rw [if_neg hin]; exact h1.words)
def storeV (mem : List Int) (at_ x : Int) : List Int := if inM mem.length at_ 1 = true then mem.set at_.toNat x else mem
theorem store_fill (mem : List Int) (at_ x : Int) : fillV mem at_ 1 x = storeV mem at_ x := by
  unfold fillV storeV
  split
  · show (fillM mem at_.toNat 0 x).set (at_.toNat + 0) x = _
    rfl
  · rfl
theorem storeV_len (mem : List Int) (at_ x : Int) : (storeV mem at_ x).length = mem.length := by unfold storeV; split <;> simp
theorem storeV_wd {mem : List Int} (h : Wd mem) (at_ : Int) {x : Int} (hx : 0 ≤ x ∧ x < 18446744073709551616) : Wd (storeV mem at_ x) := by
  unfold storeV; split
  · exact h.set _ hx
  · exact h
theorem fillV_len (mem : List Int) (at_ k x : Int) : (fillV mem at_ k x).length = mem.length := by unfold fillV; split <;> simp [fillM_len]
theorem fillV_wd {mem : List Int} (h : Wd mem) (at_ k : Int) {x : Int} (hx : 0 ≤ x ∧ x < 18446744073709551616) : Wd (fillV mem at_ k x) := by
  unfold fillV; split
  · exact fillM_wd h _ hx _
  · exact h
theorem puts70 (h : ArenaAt w g b mem) (at_ x : Int) : Puts Try.prog 70 [.pointer (some ⟨g, 0, none⟩), .int .i64 at_, .int .u64 x] w b (errV mem at_ 1) .u64 51 (storeV mem at_ x) := by
  refine puts_of (V70.sound ?_)
  unfold V70.vc
  rw [← store_fill]
  refine call_puts (Nat.le_refl _) h.words (fun w1 e1 => puts102 (h.ext e1) at_ 1 x) fun w1 e1 ho => ?_
  exact ⟨_, rfl, ret_p (e1.chgS (Chg.refl _ _)) rfl ho⟩
end
end Go.Proofs.Ytlccbaemcfjdoaa
set_option linter.unusedVariables false
set_option linter.unusedSimpArgs false
namespace Go.Proofs.Ytlccbaemcfjdoaa
open Go.RowKit
theorem owns_base {w : World} {B B' : Nat} {e : TypeId} {size : Nat} {v : Value} {n : Nat} {xs : List Value} (h : w.ownsRow B e size v n xs) (hB : B' ≤ B) : w.ownsRow B' e size v n xs := by
  refine ⟨h.1, ?_⟩
  rcases h.2 with hn | ⟨g, cap, cur, rfl, hb, rest⟩
  · exact .inl hn
  · exact .inr ⟨g, cap, cur, rfl, Nat.le_trans hB hb, rest⟩
abbrev OwnWs (w : World) (B : Nat) (v : Value) (xs : List Int) : Prop := w.ownsRow B 51 1 v xs.length (xs.map (.int .u64))
def OwnQ (xs : List Int) (w1 : World) : Value → World → Prop := fun v w2 => OwnWs w2 w1.heap.size v xs
theorem call_own {P : Program} {f : Nat} {args : List Value} {w0 w : World} {bs : List Nat} {xs : List Int} {K : Value → World → Prop} (h0 : Below w0.heap.size w0 w) (hc : ∀ w1, Ext w0.heap.size w w1 → Below w0.heap.size w0 w1 → Yields P f args w1 (OwnQ xs w1))
    (hk : ∀ v w', Ext w0.heap.size w w' → Below w0.heap.size w0 w' → OwnWs w' w.heap.size v xs → K v w') : CallK P f args w0.heap.size w bs K := by
  refine call_yields (Q := OwnQ xs) h0 hc fun w1 v w2 w' hs hb hQ _ hnew he hw => hk v w' he hw ?_
  exact owns_base (owns_other hQ fun g hg => hnew g (hQ.lt g hg).1) hs
theorem ownws_nums {w : World} {B : Nat} {v : Value} {xs : List Int} (h : OwnWs w B v xs) (hl : xs.length ≤ 17592186044416) : ∃ A c, v = .slice A xs.length c ∧ Nums .u64 w A xs.length xs ∧ ∀ p, A = some p → B ≤ p.block := by
  obtain ⟨A, c, hv, hn, hb⟩ := owns_nums h (by simp only [maxLen]; omega)
  exact ⟨A, c, hv, hn, fun p hp => (h.lt _ (hb p hp)).1⟩
theorem append_fresh {w0 w : World} {bs : List Nat} {g : Nat} {a : Addr} {l c : Nat} {xs : List Int} {K : Value → World → Prop} (hw : Below w0.heap.size w0 w) (hg : w.heap[g]? = some (.cells ⟨[]⟩ 51 (0, 0))) {b0 : Nat} (hb : b0 ≤ g) (hb0 : b0 ≤ w.heap.size) (hB : w0.heap.size ≤ g)
    (hx : Nums .u64 w (some a) l xs) (hl : l ≤ 17592186044416) (hk : ∀ v w', (∀ q u, w.cell? q = some u → w'.cell? q = some u) → ExtS w0.heap.size (fun k => k = g) w w' → Below w0.heap.size w0 w' → OwnWs w' b0 v xs → (∀ j, v.ownBlock = some j → j = g ∨ w.heap.size ≤ j) → K v w') :
    RunK Try.prog (Builtin.append_ #[50, 50] 50 ⟨[.slice (some ⟨g, 0, none⟩) 0 0, .slice (some a) l c]⟩) w0.heap.size w bs K := by
  have hb8 : Try.t51.bytes = 8 := by kernel_rfl
  refine append_nums (t := 50) (e := 51) (i := Try.t51) (k := .u64) (bytes := 8) (n := 0) (xs := []) (b0 := b0) (by kernel_rfl) (by kernel_rfl) (by kernel_rfl) (by kernel_rfl) hb8 (Nat.le_refl _) (owns_empty hg hb) hx (by omega) hw.size hb0 fun v' w' he ho hn => ?_
  have he' : ExtS w0.heap.size (fun k => k = g) w w' := ⟨he.os, he.tape, he.output, he.size, fun k c t f hk => he.row k c t f (fun e => hk (by cases e; rfl)), fun k hk hn => he.low k hk (fun e => hn (by cases e; rfl))⟩
  refine hk v' w' (exts_keeps he rfl hg) he' (he'.after (fun k e => by subst e; exact hB) hw) ?_ fun j hj => ?_
  · rw [Nat.zero_add, List.nil_append] at ho
    have hl' := hx.len
    subst hl'
    exact ho
  · rcases hn j hj with h | h
    · cases h; exact .inl rfl
    · exact .inr h
section
variable {w : World} {g b : Nat} {mem : List Int}
theorem yields124 {A : Option Addr} {l c : Nat} {xs : List Int} (hx : Nums .u64 w A l xs) (hl : l ≤ 17592186044416) : Yields Try.prog 124 [.slice A l c] w (OwnQ xs w) := by
  refine yields_of (V124.sound ?_)
  unfold V124.vc
  cases A with
  | none =>
    simp only [Option.isNone_none, if_true]
    have hn : xs = [] := by
      cases xs with
      | nil => rfl
      | cons x r => obtain ⟨p, hp, _⟩ := hx.get 0 x rfl; cases hp
    subst hn
    exact ret_q (Below.refl _ _) fun w1 he => World.ownsRow_nil _ _ _ _
  | some a =>
    simp only [Option.isNone_some, Bool.false_eq_true, if_false]
    intro w1 e1 _
    obtain ⟨he, ho⟩ := alloc1 (.cells ⟨[]⟩ 51) e1 (Nat.le_refl _)
    have hs := e1.size
    refine append_fresh (b0 := w.heap.size) he.below ho hs he.size hs (RowAt.keep (NumE.kept _) hx (ext_keeps he)) hl fun v w' hk _ hw ho' _ => ?_
    obtain ⟨A', c', rfl⟩ := owns_slice0 ho'
    exact ⟨A', _, c', rfl, ret_q hw fun w3 h3 => h3.owns ho'⟩
theorem yields104 {a : Addr} {l c : Nat} {xs : List Int} (hx : Nums .u64 w (some a) l xs) (hl : l ≤ 17592186044416) : Yields Try.prog 104 [.slice (some a) l c] w (OwnQ xs w) := by
  refine yields_of (V104.sound ?_)
  unfold V104.vc
  intro w1 e1 _
  obtain ⟨he, ho⟩ := alloc1 (.cells ⟨[]⟩ 51) e1 (Nat.le_refl _)
  have hs := e1.size
  refine append_fresh (b0 := w.heap.size) he.below ho hs he.size hs (RowAt.keep (NumE.kept _) hx (ext_keeps he)) hl fun v w' hk _ hw ho' _ => ?_
  obtain ⟨A', c', rfl⟩ := owns_slice0 ho'
  exact ⟨A', _, c', rfl, ret_q hw fun w3 h3 => h3.owns ho'⟩
def SliceQ (mem : List Int) (at_ k : Int) (w1 : World) : Value → World → Prop := fun u w2 => ∃ v, u = .tuple ⟨[v, errV mem at_ k]⟩ ∧ OwnWs w2 w1.heap.size v (if inM mem.length at_ k = true then sub mem at_ k else [])
theorem yields94 (h : ArenaAt w g b mem) (at_ k : Int) : Yields Try.prog 94 [.pointer (some ⟨g, 0, none⟩), .int .i64 at_, .int .i64 k] w (SliceQ mem at_ k w) := by
  refine yields_of (V94.sound ?_)
  unfold V94.vc
  refine call_gives (Below.refl _ _) (fun w1 e1 _ => gives105 (h.ext e1) at_ k) fun w1 e1 hw1 => ?_
  have h1 := h.ext e1
  have hl := h.len
  unfold partE
  by_cases hin : inM mem.length at_ k = true
  · rw [if_pos hin]
    have hi := of_decide_eq_true hin
    refine ⟨_, _, _, _, rfl, ?_⟩
    refine call_own hw1 (fun w2 e2 _ => yields124 (RowAt.keep (NumE.kept _) (part_nums h1 hin) (ext_keeps e2)) (by omega)) fun v w2 e2 hw2 ho => ?_
    obtain ⟨A', c', rfl⟩ := owns_slice0 ho
    refine ⟨A', _, c', rfl, ret_q hw2 fun w3 e3 => ⟨.slice A' (sub mem at_ k).length c', ?_, ?_⟩⟩
    · unfold errV; rw [if_pos hin]
    · rw [if_pos hin]; exact owns_base (e3.owns ho) e1.size
  · rw [if_neg hin]
    refine ⟨_, _, _, _, rfl, ?_⟩
    refine call_own hw1 (fun w2 e2 _ => yields124 (nums_nil .u64 w2) (by omega)) fun v w2 e2 hw2 ho => ?_
    obtain ⟨A', c', rfl⟩ := owns_slice0 ho
    refine ⟨A', _, c', rfl, ret_q hw2 fun w3 e3 => ⟨.slice A' ([] : List Int).length c', ?_, ?_⟩⟩
    · unfold errV; rw [if_neg hin]
    · rw [if_neg hin]; exact owns_base (e3.owns ho) e1.size
theorem call_slice {w0 : World} {bs : List Nat} {K : Value → World → Prop} {at_ k : Int} (h0 : Below w0.heap.size w0 w) (h : ArenaAt w g b mem)
    (hk : ∀ A l c w', Ext w0.heap.size w w' → Below w0.heap.size w0 w' → OwnWs w' w.heap.size (.slice A l c) (if inM mem.length at_ k = true then sub mem at_ k else []) → Nums .u64 w' A l (if inM mem.length at_ k = true then sub mem at_ k else []) → (∀ p, A = some p → w.heap.size ≤ p.block) → K (.tuple ⟨[.slice A l c, errV mem at_ k]⟩) w') :
    CallK Try.prog 94 [.pointer (some ⟨g, 0, none⟩), .int .i64 at_, .int .i64 k] w0.heap.size w bs K := by
  refine call_yields (Q := SliceQ mem at_ k) h0 (fun w1 e1 _ => yields94 (h.ext e1) at_ k) fun w1 u w2 w' hs hb hQ _ hnew he hw => ?_
  obtain ⟨v, rfl, ho⟩ := hQ
  have ho' : OwnWs w' w.heap.size v (if inM mem.length at_ k = true then sub mem at_ k else []) := owns_base (owns_other ho fun j hj => hnew j (ho.lt j hj).1) hs
  have hlen : (if inM mem.length at_ k = true then sub mem at_ k else []).length ≤ 16384 := by
    split
    · rename_i hin
      have := of_decide_eq_true hin
      have := h.len
      rw [sub_len hin]; omega
    · simp
  obtain ⟨A, c, hv, hn, hp⟩ := ownws_nums ho' (by omega)
  subst hv
  exact hk A _ c w' he hw ho' hn hp
theorem l68 {w0 : World} {A A' : Option Addr} {l c l' c' : Nat} {xs ys : List Int} (hx : Nums .u64 w0 A l xs) (hy : Nums .u64 w0 A' l' ys) (hl : l = l') (w : World) (hw : Below w0.heap.size w0 w) :
    ∀ (k i : Nat), l < i + k → i ≤ l → (∀ j, j < i → xs[j]? = ys[j]?) → V68.l0 w0.heap.size (IsV w0 (.bool (xs == ys))) k A l c A' l' c' i w
  | 0, i, hk, hi, _ => by omega
  | k + 1, i, hk, hi, hall => by
    dsimp -zeta only [V68.l0]
    by_cases h : i < l
    · rw [if_pos (by simpa using h)]
      obtain ⟨n, p, hn, hp, hc⟩ := hx.at h
      obtain ⟨m, q, hm, hq, hd⟩ := hy.at (hl ▸ h)
      have hc' := (hw.cell (cell_lt hc)).trans hc
      have hd' := (hw.cell (cell_lt hd)).trans hd
      refine ⟨p, hp, by omega, by omega, n, by simpa using hc', q, hq, by omega, by omega, m, by simpa using hd', ?_⟩
      by_cases hnm : n = m
      · rw [if_neg (by simp [hnm]), wrap_succ h hx.small]
        refine l68 hx hy hl w hw k (i + 1) (by omega) (by omega) fun j hj => ?_
        rcases Nat.lt_succ_iff_lt_or_eq.1 hj with h1 | h1
        · exact hall j h1
        · subst h1; rw [hn, hm, hnm]
      · rw [if_pos (by simpa using hnm)]
        refine ret_is hw ?_
        have : xs ≠ ys := fun e => by subst e; rw [hn] at hm; cases hm; exact hnm rfl
        simp [this]
    · rw [if_neg (by simpa using h)]
      refine ret_is hw ?_
      have : xs = ys := by
        apply List.ext_getElem?
        intro j
        by_cases hj : j < i
        · exact hall j hj
        · rw [List.getElem?_eq_none (by have := hx.len; omega), List.getElem?_eq_none (by have := hy.len; omega)]
      simp [this]
theorem gives68 {A A' : Option Addr} {l c l' c' : Nat} {xs ys : List Int} (hx : Nums .u64 w A l xs) (hy : Nums .u64 w A' l' ys) : Gives Try.prog 68 [.slice A l c, .slice A' l' c'] w (.bool (xs == ys)) := by
  refine gives_of (V68.sound ?_)
  unfold V68.vc
  by_cases h : l = l'
  · rw [if_neg (by simp [h])]
    exact ⟨l + 1, l68 hx hy h w (Below.refl _ _) (l + 1) 0 (by omega) (by omega) (fun j hj => by omega)⟩
  · rw [if_pos (by simp; omega)]
    refine ret_is (Below.refl _ _) ?_
    have : xs ≠ ys := fun e => h (by rw [← hx.len, ← hy.len, e])
    simp [this]
theorem sub_all (mem : List Int) : sub mem 0 mem.length = mem := by simp [sub]
theorem gives46 (h : ArenaAt w g b mem) {A : Option Addr} {l c : Nat} {xs : List Int} (hx : Nums .u64 w A l xs) : Gives Try.prog 46 [.pointer (some ⟨g, 0, none⟩), .slice A l c] w (.bool (mem == xs)) := by
  refine gives_of (V46.sound ?_)
  unfold V46.vc
  have hl := h.len
  refine call_slice (Below.refl _ _) h fun A' l' c' w1 e1 hw1 _ hn _ => ?_
  have hx1 : Nums .u64 w1 A l xs := RowAt.keep (NumE.kept _) hx (ext_keeps e1)
  unfold errV
  refine ⟨_, _, _, _, rfl, ?_⟩
  refine call_gives hw1 (fun w2 e2 _ => gives93 ((h.ext e1).ext e2)) fun w2 e2 hw2 => ⟨_, rfl, ?_⟩
  by_cases hml : mem.length = l
  · rw [if_pos (by simp [hml])]
    have hin : inM mem.length 0 l = true := by unfold inM; exact decide_eq_true (by omega)
    rw [if_pos hin, if_pos (by simp)]
    rw [if_pos hin] at hn
    rw [← hml, sub_all] at hn
    refine call_gives hw2 (fun w3 e3 _ => gives68 (RowAt.keep (NumE.kept _) (RowAt.keep (NumE.kept _) hn (ext_keeps e2)) (ext_keeps e3)) (RowAt.keep (NumE.kept _) (RowAt.keep (NumE.kept _) hx1 (ext_keeps e2)) (ext_keeps e3))) fun w3 _ hw3 => ⟨_, rfl, ret_is hw3 rfl⟩
  · rw [if_neg (by simp; omega)]
    refine ret_is hw2 ?_
    have : mem ≠ xs := fun e => hml (by rw [← hx.len, e])
    simp [this]
def allM (n : Nat) (at_ k : Int) : Bool := decide (0 ≤ at_ ∧ at_ ≤ n ∧ k ≤ n - at_)
theorem gives95 {A : Option Addr} {l c : Nat} (hl : l ≤ maxLen) (at_ k : Int) : Gives Try.prog 95 [.slice A l c, .int .i64 at_, .int .i64 k] w (.bool (allM l at_ k)) := by
  refine gives_of (V95.sound ?_)
  unfold V95.vc
  simp only [maxLen] at hl
  by_cases h0 : at_ ≥ 0
  · rw [if_pos (by simpa using h0)]
    by_cases h1 : at_ ≤ l
    · rw [if_pos (by simpa using h1)]
      refine ret_is (Below.refl _ _) (congrArg Value.bool ?_)
      rw [wrap_id (n := (l : Int) - at_) (by omega) (by omega)]
      unfold allM
      exact decide_eq_decide.2 (by omega)
    · rw [if_neg (by simpa using h1)]
      exact ret_is (Below.refl _ _) (congrArg Value.bool (by unfold allM; exact (decide_eq_false (by omega)).symm))
  · rw [if_neg (by simpa using h0)]
    exact ret_is (Below.refl _ _) (congrArg Value.bool (by unfold allM; exact (decide_eq_false (by omega)).symm))
end
end Go.Proofs.Ytlccbaemcfjdoaa
set_option linter.unusedVariables false
set_option linter.unusedSimpArgs false
namespace Go.Proofs.Ytlccbaemcfjdoaa
open Go.RowKit
theorem zeros_cells (n : Nat) : madeCells (Value.int .u64 0).cells (n * 1) = ((List.replicate n (0 : Int)).map (Value.int .u64)).toArray := by
  apply Array.toList_inj.1
  rw [Nat.mul_one]
  simp only [madeCells, Array.toList_map, Array.toList_range, List.map_replicate]
  rw [List.eq_replicate_iff]
  refine ⟨by simp, fun x hx => ?_⟩
  obtain ⟨j, _, rfl⟩ := List.mem_map.1 hx
  simp [Value.cells, Nat.mod_one]
theorem zeros_wd (n : Nat) : Wd (List.replicate n 0) := fun x hx => by rw [(List.mem_replicate.1 hx).2]; omega
def NewQ (n : Nat) (w1 : World) : Value → World → Prop := fun u w2 => ∃ g b, u = .pointer (some ⟨g, 0, none⟩) ∧ ArenaAt w2 g b (List.replicate n 0) ∧ w1.heap.size ≤ g ∧ w1.heap.size ≤ b
theorem yields92 {w : World} {pages : Nat} (h : 1 ≤ pages ∧ pages ≤ 256) : Yields Try.prog 92 [.int .i64 pages] w (NewQ (pages * 64) w) := by
  refine yields_of (V92.sound ?_)
  unfold V92.vc
  rw [if_pos (by simp; omega), if_neg (by simp; omega)]
  have hwr : IntKind.wrap .i64 ((pages : Int) * 64) = ((pages * 64 : Nat) : Int) := by rw [wrap_id (by omega) (by omega)]; simp
  rw [hwr]
  have hb8 : Try.t51.bytes = 8 := by kernel_rfl
  refine make_own (e := 51) (i := Try.t51) (z := .int .u64 0) (size := 1) (n := pages * 64) (by kernel_rfl) (by kernel_rfl) (by kernel_rfl) (by kernel_rfl) (by rw [hb8]; omega) (by simp only [maxLen]; omega) (Nat.le_refl _) fun b w1 hb e1 ho => ?_
  refine ⟨_, _, _, rfl, ?_⟩
  intro w2 e2 _
  obtain ⟨he, ho2⟩ := alloc1 (.cells ⟨[.slice (some ⟨b, 0, none⟩) (pages * 64) (pages * 64)]⟩ 178) e2 e1.size
  rw [zeros_cells] at ho
  refine ret_q (he.after e1.below) fun w3 e3 => ⟨w2.heap.size, b, rfl, ⟨?_, ?_, zeros_wd _, by simp; omega⟩, Nat.le_trans e1.size e2.size, hb⟩
  · rw [List.length_replicate]
    exact e3.row _ _ _ _ ho2
  · exact e3.row _ _ _ _ (he.row _ _ _ _ ho)
def padM (n : Nat) (ws : List Int) : List Int := ws.take n ++ List.replicate (n - ws.length) 0
theorem padM_eq {n : Nat} {ws : List Int} (h : ws.length = n) : padM n ws = ws := by unfold padM; rw [h, Nat.sub_self, List.take_of_length_le (by omega)]; simp
theorem pad_set {ws : List Int} {i n : Nat} {x : Int} (hx : ws[i]? = some x) (hn : i < n) : (ws.take i ++ List.replicate (n - i) (0 : Int)).set i x = ws.take (i + 1) ++ List.replicate (n - (i + 1)) 0 := by
  have hi := (List.getElem?_eq_some_iff.1 hx).1
  have hl : (ws.take i).length = i := by simp; omega
  rw [show n - i = (n - (i + 1)) + 1 by omega, List.replicate_succ, List.set_append_right _ _ (by omega), hl, Nat.sub_self, List.set_cons_zero, List.take_add_one, hx]
  simp
def LaidQ (n : Nat) (ws : List Int) (w1 : World) : Value → World → Prop := fun u w2 => ∃ g b m mem, u = .tuple ⟨[.pointer (some ⟨g, 0, none⟩), .slice (some ⟨m, 0, none⟩) n n]⟩ ∧ ArenaAt w2 g b mem ∧ OwnI w2 m .u64 51 mem ∧ mem.length = n ∧ w1.heap.size ≤ g ∧ w1.heap.size ≤ b ∧ w1.heap.size ≤ m ∧ m ≠ b ∧ mem = padM n ws
theorem call_new {w0 w : World} {bs : List Nat} {pages : Nat} (h : 1 ≤ pages ∧ pages ≤ 256) {K : Value → World → Prop} (h0 : Below w0.heap.size w0 w)
    (hk : ∀ g b w', Ext w0.heap.size w w' → Below w0.heap.size w0 w' → ArenaAt w' g b (List.replicate (pages * 64) 0) → w.heap.size ≤ g → w.heap.size ≤ b → K (.pointer (some ⟨g, 0, none⟩)) w') : CallK Try.prog 92 [.int .i64 pages] w0.heap.size w bs K := by
  refine call_yields (Q := NewQ (pages * 64)) h0 (fun w1 e1 _ => yields92 h) fun w1 u w2 w' hs hb hQ _ hnew he hw => ?_
  obtain ⟨g, b, rfl, ha, hg, hb'⟩ := hQ
  refine hk g b w' he hw ⟨?_, ?_, ha.wd, ha.len⟩ (Nat.le_trans hs hg) (Nat.le_trans hs hb')
  · rw [hnew g hg]; exact ha.head
  · unfold OwnI; rw [hnew b hb']; exact ha.words
theorem yields41 {w : World} {pages : Nat} (h : 1 ≤ pages ∧ pages ≤ 256) {A : Option Addr} {l c : Nat} {ws : List Int} (hws : Nums .u64 w A l ws) (hwd : Wd ws) : Yields Try.prog 41 [.int .i64 pages, .slice A l c] w (LaidQ (pages * 64) ws w) := by
  refine yields_of (V41.sound ?_)
  unfold V41.vc
  refine call_new h (Below.refl _ _) fun g b w1 e1 hw1 ha hg hb => ⟨_, rfl, ?_⟩
  show V41.b0 _ _ _ _ _ _ ⟨g, 0, none⟩ w1
  unfold V41.b0
  refine call_gives hw1 (fun w2 e2 _ => gives93 (ha.ext e2)) fun w2 e2 hw2 => ⟨_, rfl, ?_⟩
  have hwr : IntKind.wrap .i64 ((pages : Int) * 64) = ((pages * 64 : Nat) : Int) := by rw [wrap_id (by omega) (by omega)]; simp
  rw [hwr, List.length_replicate, if_neg (by simp)]
  have hb8 : Try.t51.bytes = 8 := by kernel_rfl
  refine make_own (e := 51) (i := Try.t51) (z := .int .u64 0) (size := 1) (n := pages * 64) (by kernel_rfl) (by kernel_rfl) (by kernel_rfl) (by kernel_rfl) (by rw [hb8]; omega) (by simp only [maxLen]; omega) hw2.size fun m w3 hm e3 ho => ?_
  rw [zeros_cells] at ho
  have ha3 := (ha.ext e2).ext e3
  have hmb : m ≠ b := by have := (ha.ext e2).words.lt; omega
  have hmg : m ≠ g := by have := lt_of_some (ha.ext e2).head; omega
  have hw3 := e3.after hw2
  have hm0 : w.heap.size ≤ m := Nat.le_trans hw2.size hm
  refine ⟨_, _, _, rfl, l + 1, ?_⟩
  have loop : ∀ (k i : Nat) (w' : World) (mem : List Int), l < i + k → i ≤ l → Below w.heap.size w w' → ArenaAt w' g b mem → OwnI w' m .u64 51 mem → mem.length = pages * 64 → (mem = ws.take i ++ List.replicate (pages * 64 - i) 0) → i ≤ pages * 64 →
      V41.l1 w.heap.size (IsQ w (LaidQ (pages * 64) ws w)) k A l c ⟨g, 0, none⟩ (some ⟨m, 0, none⟩) (pages * 64) (pages * 64) i w' := by
    intro k
    induction k with
    | zero => intros; omega
    | succ k ih =>
      intro i w' mem hk hi hw' ha' hm' hl hmem hiN
      dsimp -zeta only [V41.l1]
      have done : l ≤ i ∨ pages * 64 ≤ i → Ret w.heap.size w' (IsQ w (LaidQ (pages * 64) ws w) (.tuple ⟨[.pointer (some ⟨g, 0, none⟩), .slice (some ⟨m, 0, none⟩) (pages * 64) (pages * 64)]⟩)) :=
        fun hend => ret_q hw' fun w4 e4 => ⟨g, b, m, mem, rfl, ha'.ext e4, hm'.ext e4, hl, hg, hb, hm0, hmb, by
          have hwl := hws.len
          rw [hmem]
          unfold padM
          rcases hend with h | h
          · rw [show i = ws.length by omega, List.take_of_length_le (Nat.le_refl _), List.take_of_length_le (by omega)]
          · rw [show i = pages * 64 by omega, Nat.sub_self, show pages * 64 - ws.length = 0 by omega]⟩
      by_cases h1 : i < l
      · rw [if_pos (by simpa using h1)]
        by_cases h2 : i < pages * 64
        · rw [if_pos (by simp; omega)]
          obtain ⟨x, p, hx, hp, hc⟩ := hws.at h1
          have hxb := hwd.at hx
          have hc' := below_keeps hw' _ _ hc
          have hget : mem[i]? = some (mem[i]'(by omega)) := List.getElem?_eq_getElem _
          have hcell := hm'.cell hget
          refine ⟨p, hp, by omega, by omega, x, hc', _, rfl, by omega, by omega, ⟨_, by simpa only [own_add, bx_add, Nat.add_zero, Nat.zero_add, Int.toNat_natCast] using hcell⟩, by simpa only [own_add, bx_add, Nat.add_zero, Nat.zero_add, Int.toNat_natCast] using hm'.frozen i, ?_⟩
          simp only [own_add, bx_add, Nat.add_zero, Nat.zero_add, Int.toNat_natCast]
          have hset := hm'.set i x
          simp only [own_add, bx_add, Nat.add_zero, Nat.zero_add] at hset
          have hpm : p.block < w.heap.size := by have := cell_lt hc; rwa [add_block] at this
          have hwset : Below w.heap.size w (w'.setCell ⟨m, i, none⟩ (.int .u64 x)) := hw'.setCell hm0 _
          refine ⟨p, hp, by omega, by omega, x, below_keeps hwset _ _ hc, ?_⟩
          have haset : ArenaAt (w'.setCell ⟨m, i, none⟩ (.int .u64 x)) g b mem :=
            ⟨by rw [at_other (Ne.symm hmg)]; exact ha'.head, by unfold OwnI; rw [at_other (Ne.symm hmb)]; exact ha'.words, ha'.wd, ha'.len⟩
          have hin : inM mem.length i 1 = true := by unfold inM; exact decide_eq_true (by omega)
          generalize (w'.setCell ⟨m, i, none⟩ (.int .u64 x)) = w5 at *
          refine call_puts hwset.size haset.words (fun w6 e6 => puts70 (haset.ext e6) i x) fun w6 e6 ho6 => ?_
          refine ⟨0, ?_, ?_⟩
          · unfold errV; rw [if_pos hin]
          rw [if_neg (by simp), wrap_succ h1 hws.small]
          have hst : storeV mem i x = mem.set i x := by unfold storeV; rw [if_pos hin, Int.toNat_natCast]
          rw [hst] at ho6
          have ha6 : ArenaAt w6 g b (mem.set i x) := haset.turned e6 ho6 (by simp) (ha'.wd.set _ hxb)
          refine ih (i + 1) w6 _ (by omega) (by omega) (e6.after (fun k e => by subst e; omega) hwset) ha6 ?_ (by simpa using hl) (by rw [hmem, pad_set hx h2]) (by omega)
          exact e6.row _ _ _ _ hmb hset
        · rw [if_neg (by simp; omega)]
          exact done (.inr (by omega))
      · rw [if_neg (by simpa using h1)]
        exact done (.inl (by omega))
  exact loop (l + 1) 0 w3 _ (by omega) (by omega) hw3 ha3 ho (by simp) (by simp) (by omega)
theorem call_laidE {w0 w : World} {bs : List Nat} {pages : Nat} (h : 1 ≤ pages ∧ pages ≤ 256) {A : Option Addr} {l c : Nat} {ws : List Int} {K : Value → World → Prop} (h0 : Below w0.heap.size w0 w) (hws : Nums .u64 w A l ws) (hwd : Wd ws)
    (hk : ∀ g b m mem w', Ext w0.heap.size w w' → Below w0.heap.size w0 w' → ArenaAt w' g b mem → OwnI w' m .u64 51 mem → mem.length = pages * 64 → w.heap.size ≤ g → w.heap.size ≤ b → w.heap.size ≤ m → m ≠ b → mem = padM (pages * 64) ws → K (.tuple ⟨[.pointer (some ⟨g, 0, none⟩), .slice (some ⟨m, 0, none⟩) (pages * 64) (pages * 64)]⟩) w') :
    CallK Try.prog 41 [.int .i64 pages, .slice A l c] w0.heap.size w bs K := by
  refine call_yields (Q := LaidQ (pages * 64) ws) h0 (fun w1 e1 _ => yields41 h (RowAt.keep (NumE.kept _) hws (ext_keeps e1)) hwd) fun w1 u w2 w' hs hb hQ _ hnew he hw => ?_
  obtain ⟨g, b, m, mem, rfl, ha, hm, hl, h1, h2, h3, h4, h5⟩ := hQ
  refine hk g b m mem w' he hw ⟨?_, ?_, ha.wd, ha.len⟩ ?_ hl (Nat.le_trans hs h1) (Nat.le_trans hs h2) (Nat.le_trans hs h3) h4 h5
  · rw [hnew g h1]; exact ha.head
  · unfold OwnI; rw [hnew b h2]; exact ha.words
  · unfold OwnI; rw [hnew m h3]; exact hm
section
variable {w : World} {g b : Nat} {mem : List Int}
def belowM (n : Nat) (at_ : Int) : Bool := decide (-1 ≤ at_ ∧ at_ < n)
theorem gives96 (h : ArenaAt w g b mem) (at_ : Int) : Gives Try.prog 96 [.pointer (some ⟨g, 0, none⟩), .int .i64 at_] w (.bool (belowM mem.length at_)) := by
  refine gives_of (V96.sound ?_)
  unfold V96.vc
  by_cases h0 : at_ ≥ -1
  · rw [if_pos (by simpa using h0)]
    refine call_gives (Below.refl _ _) (fun w1 e1 _ => gives93 (h.ext e1)) fun w1 e1 hw1 => ⟨_, rfl, ret_is hw1 (congrArg Value.bool ?_)⟩
    unfold belowM
    exact decide_eq_decide.2 (by omega)
  · rw [if_neg (by simpa using h0)]
    exact ret_is (Below.refl _ _) (congrArg Value.bool (by unfold belowM; exact (decide_eq_false (by omega)).symm))
def storesM (mem : List Int) (at_ : Int) (xs : List Int) : Nat → List Int
  | 0 => mem
  | i + 1 => storeV (storesM mem at_ xs i) (at_ + i) (xs.getD i 0)
theorem storesM_len (mem : List Int) (at_ : Int) (xs : List Int) : ∀ i, (storesM mem at_ xs i).length = mem.length
  | 0 => rfl
  | i + 1 => by rw [storesM, storeV_len, storesM_len mem at_ xs i]
theorem getD_wd {xs : List Int} (h : Wd xs) (i : Nat) : 0 ≤ xs.getD i 0 ∧ xs.getD i 0 < 18446744073709551616 := by
  by_cases hi : i < xs.length
  · have : xs[i]? = some (xs[i]) := List.getElem?_eq_getElem hi
    have h1 := h.at this
    simpa [List.getD, this] using h1
  · have : xs[i]? = none := List.getElem?_eq_none (by omega)
    simp [List.getD, this]
theorem storesM_wd {mem : List Int} (h : Wd mem) (at_ : Int) {xs : List Int} (hx : Wd xs) : ∀ i, Wd (storesM mem at_ xs i)
  | 0 => h
  | i + 1 => storeV_wd (storesM_wd h at_ hx i) _ (getD_wd hx i)
theorem puts103 (h : ArenaAt w g b mem) {at_ : Int} {A : Option Addr} {l c : Nat} {xs : List Int} (hx : Nums .u64 (off b w) A l xs) (hwd : Wd xs) (hat : -1000000000000 ≤ at_ ∧ at_ ≤ 1000000000000) (hl : l ≤ 1000000000000) :
    Puts Try.prog 103 [.pointer (some ⟨g, 0, none⟩), .int .i64 at_, .slice A l c] w b (.tuple ⟨[]⟩) .u64 51 (storesM mem at_ xs l) := by
  refine puts_of (V103.sound ?_)
  unfold V103.vc
  have loop : ∀ (k i : Nat) (w' : World), l < i + k → i ≤ l → Chg (fun j => j = b) w w' → ArenaAt w' g b (storesM mem at_ xs i) →
      V103.l0 w.heap.size (IsP w b (.tuple ⟨[]⟩) .u64 51 (storesM mem at_ xs l)) k ⟨g, 0, none⟩ at_ A l c l i w' := by
    intro k
    induction k with
    | zero => intros; omega
    | succ k ih =>
      intro i w' hk hi hc ha
      dsimp -zeta only [V103.l0]
      by_cases h1 : i < l
      · rw [if_pos (by simpa using h1)]
        obtain ⟨x, p, hxx, hp, hcell⟩ := hx.at h1
        have hcell' := (off_cell.1 (chg_off hc _ _ hcell)).1
        refine ⟨p, hp, by omega, by omega, x, hcell', ?_⟩
        rw [wrap_id (n := at_ + (i : Int)) (by omega) (by omega)]
        refine call_puts hc.size ha.words (fun w6 e6 => puts70 (ha.ext e6) _ x) fun w6 e6 ho6 => ?_
        unfold errV
        refine ⟨_, rfl, ?_⟩
        rw [wrap_succ h1 hx.small]
        have hg : xs.getD i 0 = x := by simp [List.getD, hxx]
        have hst : storeV (storesM mem at_ xs i) (at_ + i) x = storesM mem at_ xs (i + 1) := by show _ = storeV _ _ (xs.getD i 0); rw [hg]
        rw [hst] at ho6
        exact ih (i + 1) w6 (by omega) (by omega) (e6.chgS hc) (ha.turned e6 ho6 (by rw [storesM_len, storesM_len]) (storesM_wd h.wd at_ hwd _))
      · rw [if_neg (by simpa using h1)]
        have : i = l := by omega
        subst this
        exact ret_p hc rfl ha.words
  exact ⟨l + 1, loop (l + 1) 0 w (by omega) (by omega) (Chg.refl _ _) h⟩
end
end Go.Proofs.Ytlccbaemcfjdoaa
set_option linter.unusedVariables false
set_option linter.unusedSimpArgs false
namespace Go.Proofs.Ytlccbaemcfjdoaa
open Go.RowKit
structure Dfr where
  f : Int
  args : List Int
structure Frm where
  f : Int
  pc : Int
  mode : Int
  dfd : Bool
  value : Int
  dfs : List Dfr
  locals : List Int
  ops : List Int
def DfrE (w : World) (p : Addr) (d : Dfr) : Prop := w.cell? (p.add 0) = some (.int .i64 d.f) ∧ ∃ A c, w.cell? (p.add 1) = some (.slice A d.args.length c) ∧ Nums .u64 w A d.args.length d.args
theorem DfrE.kept : Kept1 DfrE := fun _ _ _ _ hw h => by
  obtain ⟨h1, A, c, h2, h3⟩ := h
  exact ⟨hw _ _ h1, A, c, hw _ _ h2, RowAt.keep (NumE.kept _) h3 hw⟩
abbrev Dfrs (w : World) (A : Option Addr) (l : Nat) (xs : List Dfr) : Prop := RowAt DfrE 2 w A l xs
structure Sls where
  D : Option Addr
  dc : Nat
  L : Option Addr
  lc : Nat
  O : Option Addr
  oc : Nat
def frmV (x : Frm) (s : Sls) : Value := .agg ⟨[.int .i64 x.f, .int .i64 x.pc, .int .i64 x.mode, .bool x.dfd, .int .u64 x.value, .slice s.D x.dfs.length s.dc, .slice s.L x.locals.length s.lc, .slice s.O x.ops.length s.oc]⟩
structure FrmAt (w : World) (x : Frm) (s : Sls) : Prop where
  dfs : Dfrs w s.D x.dfs.length x.dfs
  locals : Nums .u64 w s.L x.locals.length x.locals
  ops : Nums .u64 w s.O x.ops.length x.ops
theorem FrmAt.keep {w w' : World} {x : Frm} {s : Sls} (h : FrmAt w x s) (hw : ∀ q v, w.cell? q = some v → w'.cell? q = some v) : FrmAt w' x s :=
  ⟨RowAt.keep DfrE.kept h.dfs hw, RowAt.keep (NumE.kept _) h.locals hw, RowAt.keep (NumE.kept _) h.ops hw⟩
def fnV (x : Fnc) (C : Option Addr) (c : Nat) : Value := .agg ⟨[.int .i64 x.params, .int .i64 x.locals, .int .i64 x.refs, .slice C x.code.length c]⟩
def roomM (x : Fnc) : Nat := if hasDefer x.code then 4 else 0
def Sized (p : List Fnc) : Prop := ∀ f ∈ p, sizedF f = true
theorem sized_bd {x : Fnc} (h : sizedF x = true) : 0 ≤ x.params ∧ x.params ≤ 3 ∧ x.params ≤ x.locals ∧ x.locals ≤ 8 ∧ 0 ≤ x.refs ∧ x.refs ≤ x.locals - x.params ∧ 1 ≤ x.code.length ∧ x.code.length ≤ 64 := of_decide_eq_true h
def aheadM (x : Fnc) : Int := 7 + (if hasDefer x.code then 16 else 0)
theorem sizeM_sized {x : Fnc} (h : sizedF x = true) : sizeM x.locals x.code = 15 + x.locals + (if hasDefer x.code then 16 else 0) := by
  have := sized_bd h
  unfold sizeM clampL
  split <;> split <;> split <;> omega
section
variable {w : World} {q : Addr} {l cap : Nat} {f : Nat} {x : Fnc} {C : Option Addr} {c : Nat}
theorem gives99 (hf : f < l) (c0 : w.cell? ((q.add (f * 4)).add 0) = some (.int .i64 x.params)) (c1 : w.cell? ((q.add (f * 4)).add 1) = some (.int .i64 x.locals)) (c2 : w.cell? ((q.add (f * 4)).add 2) = some (.int .i64 x.refs)) (c3 : w.cell? ((q.add (f * 4)).add 3) = some (.slice C x.code.length c)) :
    Gives Try.prog 99 [.agg ⟨[.slice (some q) l cap]⟩, .int .i64 f] w (.tuple ⟨[fnV x C c, .bool (sizedF x)]⟩) := by
  refine gives_of (V99.sound ?_)
  intro q2 _ q4 _
  rw [if_pos (by simp), if_neg (by simp; omega)]
  refine ⟨q, rfl, by omega, by omega, x.params, c0, x.locals, c1, x.refs, c2, C, x.code.length, c, c3, q, rfl, by omega, by omega, x.params, c0, x.locals, c1, x.refs, c2, C, x.code.length, c, c3, ?_⟩
  refine call_gives (Below.refl _ _) (fun w1 e1 _ => gives89 _ _ _ _ _ _ w1) fun w1 e1 hw1 => ⟨_, rfl, e1.cell c0, e1.cell c1, e1.cell c2, e1.cell c3, ret_is hw1 rfl⟩
theorem gives99_out {A : Option Addr} {f : Int} (hf : f < 0 ∨ (l : Int) ≤ f) : Gives Try.prog 99 [.agg ⟨[.slice A l cap]⟩, .int .i64 f] w (.tuple ⟨[.agg ⟨[.int .i64 0, .int .i64 0, .int .i64 0, .slice none 0 0]⟩, .bool false]⟩) := by
  refine gives_of (V99.sound ?_)
  intro q2 _ q4 _
  by_cases h0 : f < 0
  · rw [if_neg (by simpa using h0)]
    exact ret_is (Below.refl _ _) rfl
  · rw [if_pos (by simpa using h0), if_pos (by simp; omega)]
    exact ret_is (Below.refl _ _) rfl
theorem gives100 (hs : sizedF x = true) (hc : CodeAt w C x.code.length x.code) : Gives Try.prog 100 [fnV x C c] w (.tuple ⟨[.int .i64 (aheadM x), .bool (hasDefer x.code)]⟩) := by
  refine gives_of (V100.sound ?_)
  intro q1 _
  have hb := sized_bd hs
  refine call_gives (Below.refl _ _) (fun w1 e1 _ => gives32 (RowAt.keep InsE.kept hc (ext_keeps e1)) _ _ _) fun w1 e1 hw1 => ⟨_, rfl, ret_is hw1 ?_⟩
  rw [sizeM_sized hs]
  unfold aheadM
  cases hasDefer x.code
  · simp only [Bool.false_eq_true, if_false]
    rw [wrap_id (n := 15 + x.locals + 0 - x.locals) (by omega) (by omega), wrap_id (by omega) (by omega)]
    have : 15 + x.locals + 0 - x.locals - 8 = 7 + 0 := by omega
    rw [this]
    rfl
  · simp only [if_true]
    rw [wrap_id (n := 15 + x.locals + 16 - x.locals) (by omega) (by omega), wrap_id (by omega) (by omega)]
    have : 15 + x.locals + 16 - x.locals - 8 = 7 + 16 := by omega
    rw [this]
    rfl
theorem gives101 (hc : CodeAt w C x.code.length x.code) : Gives Try.prog 101 [fnV x C c] w (.int .i64 (roomM x)) := by
  refine gives_of (V101.sound ?_)
  intro q1 _
  refine call_gives (Below.refl _ _) (fun w1 e1 _ => gives84 (RowAt.keep InsE.kept hc (ext_keeps e1)) _ _ _) fun w1 e1 hw1 => ⟨_, rfl, ?_⟩
  unfold roomM
  cases hasDefer x.code
  · exact ret_is hw1 rfl
  · exact ret_is hw1 rfl
end
def fnAt (p : List Fnc) (f : Int) : Option Fnc := if f < 0 then none else p[f.toNat]?
theorem fnAt_none {p : List Fnc} {f : Int} (h : f < 0 ∨ (p.length : Int) ≤ f) : fnAt p f = none := by
  unfold fnAt
  split
  · rfl
  · exact List.getElem?_eq_none (by omega)
theorem fnAt_some {p : List Fnc} {f : Int} (h : ¬ f < 0) {x : Fnc} (hx : p[f.toNat]? = some x) : fnAt p f = some x := by
  unfold fnAt; rw [if_neg h]; exact hx
def dfrM (p : List Fnc) (d : Dfr) : Bool := match fnAt p d.f with
  | some h => (d.args.length : Int) == h.params
  | none => false
def mayM (p : List Fnc) (x : Frm) : Bool := match fnAt p x.f with
  | some g => decide (0 ≤ x.pc ∧ x.pc ≤ g.code.length ∧ 0 ≤ x.mode ∧ x.mode ≤ 2 ∧ (x.locals.length : Int) = g.locals ∧ x.ops.length ≤ 8 ∧ x.dfs.length ≤ roomM g) && x.dfs.all (dfrM p)
  | none => false
section
variable {w0 : World} {p : List Fnc} {A : Option Addr} {cap : Nat}
theorem l3_49 (hp : ProgAt w0 A p.length p) (hs : Sized p) {D : Option Addr} {dc q2 : Nat} {ds : List Dfr} (hd : Dfrs w0 D ds.length ds) {r : Bool} : ∀ (k i : Nat) (w : World), ds.length < i + k → i ≤ ds.length → Below w0.heap.size w0 w → (ds.drop i).all (dfrM p) = r →
    V49.l3 w0.heap.size (IsV w0 (.bool r)) k D ds.length dc ds.length i q2 A p.length cap w := by
  intro k
  induction k with
  | zero => intros; omega
  | succ k ih =>
    intro i w hk hi hw hr
    dsimp -zeta only [V49.l3]
    by_cases h1 : i < ds.length
    · rw [if_pos (by simpa using h1)]
      obtain ⟨d, a, hx, ha, d0, A', c', d1, _⟩ := (RowAt.keep DfrE.kept hd (below_keeps hw)).at h1
      rw [drop_at hx, List.all_cons] at hr
      refine ⟨a, ha, by omega, by omega, d.f, d0, A', d.args.length, c', d1, ?_⟩
      intro q10 _
      by_cases hin : ¬ d.f < 0 ∧ d.f < p.length
      · obtain ⟨g, q, C, c, hg, hq, c0, c1, c2, c3, hcode⟩ := prog_at (RowAt.keep FncE.kept hp (below_keeps hw)) (i := d.f.toNat) (by omega)
        subst hq
        have hsz := hs g (List.mem_of_getElem? hg)
        have hf : ((d.f.toNat : Nat) : Int) = d.f := Int.toNat_of_nonneg (by omega)
        have h99 := fun (w1 : World) (e1 : Ext w0.heap.size w w1) => gives99 (w := w1) (l := p.length) (cap := cap) (f := d.f.toNat) (x := g) (by omega) (e1.cell c0) (e1.cell c1) (e1.cell c2) (e1.cell c3)
        rw [hf] at h99
        refine call_gives hw (fun w1 e1 _ => h99 w1 e1) fun w1 e1 hw1 => ⟨_, _, _, _, _, _, _, rfl, ?_⟩
        intro q11 _
        rw [hsz, if_pos (by simp)]
        have hdm : dfrM p d = ((d.args.length : Int) == g.params) := by unfold dfrM; rw [fnAt_some hin.1 hg]
        by_cases he : (d.args.length : Int) = g.params
        · rw [if_neg (by simp [he]), wrap_succ h1 hd.small]
          refine ih (i + 1) w1 (by omega) (by omega) hw1 ?_
          rw [← hr, hdm, he]
          simp
        · rw [if_pos (by simpa using he)]
          refine ret_is hw1 (congrArg Value.bool ?_)
          rw [← hr, hdm]
          simp [he]
      · refine call_gives hw (fun w1 e1 _ => gives99_out (by omega)) fun w1 e1 hw1 => ⟨_, _, _, _, _, _, _, rfl, ?_⟩
        intro q11 _
        rw [if_neg (by simp)]
        refine ret_is hw1 (congrArg Value.bool ?_)
        have hdm : dfrM p d = false := by unfold dfrM; rw [fnAt_none (by omega)]
        rw [← hr, hdm]; rfl
    · rw [if_neg (by simpa using h1)]
      refine ret_is hw (congrArg Value.bool ?_)
      rw [← hr, List.drop_eq_nil_of_le (by omega)]; rfl
theorem l0_50 (hp : ProgAt w0 A p.length p) {D : Option Addr} {dc q2 q3 : Nat} {ds : List Dfr} (hd : Dfrs w0 D ds.length ds) {r : Bool} {x0 x1 x2 x4 : Int} {x3 : Bool} {L O : Option Addr} {ll lc ol oc : Nat} : ∀ (k i : Nat) (w : World), ds.length < i + k → i ≤ ds.length → Below w0.heap.size w0 w → (ds.drop i).all (dfrM p) = r →
    V50.l0 w0.heap.size (IsV w0 (.bool r)) k i q3 x0 x1 x2 x3 x4 D ds.length dc L ll lc O ol oc q2 A p.length cap w := by
  intro k
  induction k with
  | zero => intros; omega
  | succ k ih =>
    intro i w hk hi hw hr
    dsimp -zeta only [V50.l0]
    by_cases h1 : i < ds.length
    · rw [if_pos (by simpa using h1)]
      obtain ⟨d, a, hx, ha, d0, A', c', d1, _⟩ := (RowAt.keep DfrE.kept hd (below_keeps hw)).at h1
      rw [drop_at hx, List.all_cons] at hr
      refine ⟨a, ha, by omega, by omega, d.f, d0, A', d.args.length, c', d1, ?_⟩
      intro q10 _
      by_cases h0 : d.f < 0
      · rw [if_neg (by simpa using h0)]
        refine ret_is hw (congrArg Value.bool ?_)
        have hdm : dfrM p d = false := by unfold dfrM; rw [fnAt_none (by omega)]
        rw [← hr, hdm]; rfl
      · rw [if_pos (by simpa using h0)]
        by_cases h2 : d.f ≥ p.length
        · rw [if_neg (by simpa using h2)]
          refine ret_is hw (congrArg Value.bool ?_)
          have hdm : dfrM p d = false := by unfold dfrM; rw [fnAt_none (by omega)]
          rw [← hr, hdm]; rfl
        · rw [if_pos (by simpa using h2)]
          obtain ⟨g, q, C, c, hg, hq, c0, c1, c2, c3, hcode⟩ := prog_at (RowAt.keep FncE.kept hp (below_keeps hw)) (i := d.f.toNat) (by omega)
          have hdm : dfrM p d = ((d.args.length : Int) == g.params) := by unfold dfrM; rw [fnAt_some h0 hg]
          refine ⟨q, hq, by omega, by omega, g.params, c0, ?_⟩
          by_cases he : (d.args.length : Int) = g.params
          · rw [if_neg (by simp [he]), wrap_succ h1 hd.small]
            refine ih (i + 1) w (by omega) (by omega) hw ?_
            rw [← hr, hdm, he]
            simp
          · rw [if_pos (by simpa using he)]
            refine ret_is hw (congrArg Value.bool ?_)
            rw [← hr, hdm]
            simp [he]
    · rw [if_neg (by simpa using h1)]
      refine ret_is hw (congrArg Value.bool ?_)
      rw [← hr, List.drop_eq_nil_of_le (by omega)]; rfl
end
theorem gives49 {w : World} {A : Option Addr} {p : List Fnc} {cap : Nat} (hp : ProgAt w A p.length p) (hs : Sized p) {x : Frm} {s : Sls} (hx : FrmAt w x s) : Gives Try.prog 49 [.agg ⟨[.slice A p.length cap]⟩, frmV x s] w (.bool (mayM p x)) := by
  refine gives_of (V49.sound ?_)
  intro q2 _ q3 _
  by_cases hin : ¬ x.f < 0 ∧ x.f < p.length
  · obtain ⟨g, q, C, c, hg, hq, c0, c1, c2, c3, hcode⟩ := prog_at hp (i := x.f.toNat) (by omega)
    subst hq
    have hsz := hs g (List.mem_of_getElem? hg)
    have hbd := sized_bd hsz
    have hf : ((x.f.toNat : Nat) : Int) = x.f := Int.toNat_of_nonneg (by omega)
    have h99 := fun (w1 : World) (e1 : Ext w.heap.size w w1) => gives99 (w := w1) (l := p.length) (cap := cap) (f := x.f.toNat) (x := g) (by omega) (e1.cell c0) (e1.cell c1) (e1.cell c2) (e1.cell c3)
    rw [hf] at h99
    refine call_gives (Below.refl _ _) (fun w1 e1 _ => h99 w1 e1) fun w1 e1 hw1 => ⟨_, _, _, _, _, _, _, rfl, ?_⟩
    intro q5 _
    rw [hsz, if_neg (by simp)]
    refine call_gives hw1 (fun w2 e2 _ => gives100 hsz (RowAt.keep InsE.kept (RowAt.keep InsE.kept hcode (ext_keeps e1)) (ext_keeps e2))) fun w2 e2 hw2 => ⟨_, _, rfl, ?_⟩
    have hm : mayM p x = (decide (0 ≤ x.pc ∧ x.pc ≤ g.code.length ∧ 0 ≤ x.mode ∧ x.mode ≤ 2 ∧ (x.locals.length : Int) = g.locals ∧ x.ops.length ≤ 8 ∧ x.dfs.length ≤ roomM g) && x.dfs.all (dfrM p)) := by
      unfold mayM; rw [fnAt_some hin.1 hg]
    have no : ¬ (0 ≤ x.pc ∧ x.pc ≤ g.code.length ∧ 0 ≤ x.mode ∧ x.mode ≤ 2 ∧ (x.locals.length : Int) = g.locals ∧ x.ops.length ≤ 8 ∧ x.dfs.length ≤ roomM g) → Ret w.heap.size w2 (IsV w (.bool (mayM p x)) (.bool false)) := fun hn =>
      ret_is hw2 (congrArg Value.bool (by rw [hm, decide_eq_false hn]; rfl))
    have yes : (0 ≤ x.pc ∧ x.pc ≤ g.code.length ∧ 0 ≤ x.mode ∧ x.mode ≤ 2 ∧ (x.locals.length : Int) = g.locals ∧ x.ops.length ≤ 8 ∧ x.dfs.length ≤ roomM g) → V49.b2 w.heap.size (IsV w (.bool (mayM p x))) q3 x.f x.pc x.mode x.dfd x.value s.D x.dfs.length s.dc s.L x.locals.length s.lc s.O x.ops.length s.oc q2 (some q) p.length cap w2 := fun hy =>
      ⟨x.dfs.length + 1, l3_49 hp hs hx.dfs (x.dfs.length + 1) 0 w2 (by omega) (by omega) hw2 (by rw [hm, decide_eq_true hy]; rfl)⟩
    unfold roomM at no yes hm
    by_cases t0 : x.pc < 0
    · rw [if_neg (by simpa using t0)]
      simp only [V49.b0, if_true]
      exact no (by omega)
    · rw [if_pos (by simpa using t0)]
      by_cases t1 : x.pc > g.code.length
      · rw [if_neg (by simpa using t1)]
        simp only [V49.b0, if_true]
        exact no (by omega)
      · rw [if_pos (by simpa using t1)]
        by_cases t2 : x.mode < 0
        · rw [if_neg (by simpa using t2)]
          simp only [V49.b0, if_true]
          exact no (by omega)
        · rw [if_pos (by simpa using t2)]
          unfold V49.b0
          by_cases t3 : x.mode > 2
          · rw [if_pos (by simpa using t3)]
            exact no (by omega)
          · rw [if_neg (by simpa using t3)]
            by_cases t4 : (x.locals.length : Int) = g.locals
            · rw [if_pos (by simpa using t4)]
              by_cases t5 : (x.ops.length : Int) > 8
              · rw [if_neg (by simpa using t5)]
                simp only [V49.b1, if_true]
                exact no (by omega)
              · rw [if_pos (by simpa using t5)]
                unfold V49.b1
                by_cases t6 : (x.dfs.length : Int) > 4
                · rw [if_pos (by simpa using t6)]
                  exact no (by split <;> omega)
                · rw [if_neg (by simpa using t6)]
                  by_cases t7 : (x.dfs.length : Int) > 0
                  · rw [if_pos (by simpa using t7)]
                    cases hdf : hasDefer g.code with
                    | true =>
                      rw [if_neg (by simp)]
                      exact yes (by rw [hdf, if_pos rfl]; omega)
                    | false =>
                      rw [if_pos (by simp)]
                      exact no (by rw [hdf, if_neg (by simp)]; omega)
                  · rw [if_neg (by simpa using t7)]
                    exact yes (by split <;> omega)
            · rw [if_neg (by simpa using t4)]
              simp only [V49.b1, if_true]
              exact no (fun h => t4 h.2.2.2.2.1)
  · refine call_gives (Below.refl _ _) (fun w1 e1 _ => gives99_out (by omega)) fun w1 e1 hw1 => ⟨_, _, _, _, _, _, _, rfl, ?_⟩
    intro q5 _
    rw [if_pos (by simp)]
    exact ret_is hw1 (congrArg Value.bool (by unfold mayM; rw [fnAt_none (by omega)]))
theorem gives50 {w : World} {A : Option Addr} {p : List Fnc} {cap : Nat} (hp : ProgAt w A p.length p) {x : Frm} {s : Sls} (hx : FrmAt w x s) : Gives Try.prog 50 [.agg ⟨[.slice A p.length cap]⟩, frmV x s] w (.bool (mayM p x)) := by
  refine gives_of (V50.sound ?_)
  intro q2 _ q3 _
  by_cases h0 : x.f < 0
  · rw [if_neg (by simpa using h0)]
    exact ret_is (Below.refl _ _) (congrArg Value.bool (by unfold mayM; rw [fnAt_none (by omega)]))
  · rw [if_pos (by simpa using h0)]
    by_cases h1 : x.f ≥ p.length
    · rw [if_pos (by simpa using h1)]
      exact ret_is (Below.refl _ _) (congrArg Value.bool (by unfold mayM; rw [fnAt_none (by omega)]))
    · rw [if_neg (by simpa using h1)]
      obtain ⟨g, q, C, c, hg, hq, c0, c1, c2, c3, hcode⟩ := prog_at hp (i := x.f.toNat) (by omega)
      have hm : mayM p x = (decide (0 ≤ x.pc ∧ x.pc ≤ g.code.length ∧ 0 ≤ x.mode ∧ x.mode ≤ 2 ∧ (x.locals.length : Int) = g.locals ∧ x.ops.length ≤ 8 ∧ x.dfs.length ≤ roomM g) && x.dfs.all (dfrM p)) := by
        unfold mayM; rw [fnAt_some h0 hg]
      have no : ∀ {w2}, Below w.heap.size w w2 → ¬ (0 ≤ x.pc ∧ x.pc ≤ g.code.length ∧ 0 ≤ x.mode ∧ x.mode ≤ 2 ∧ (x.locals.length : Int) = g.locals ∧ x.ops.length ≤ 8 ∧ x.dfs.length ≤ roomM g) → Ret w.heap.size w2 (IsV w (.bool (mayM p x)) (.bool false)) := fun hw2 hn =>
        ret_is hw2 (congrArg Value.bool (by rw [hm, decide_eq_false hn]; rfl))
      refine ⟨q, hq, by omega, by omega, g.params, c0, g.locals, c1, g.refs, c2, C, g.code.length, c, c3, ?_⟩
      intro q5 _
      by_cases t0 : x.pc < 0
      · rw [if_neg (by simpa using t0)]; exact no (Below.refl _ _) (by omega)
      · rw [if_pos (by simpa using t0)]
        by_cases t1 : x.pc > g.code.length
        · rw [if_neg (by simpa using t1)]; exact no (Below.refl _ _) (by omega)
        · rw [if_pos (by simpa using t1)]
          by_cases t2 : x.mode < 0
          · rw [if_neg (by simpa using t2)]; exact no (Below.refl _ _) (by omega)
          · rw [if_pos (by simpa using t2)]
            by_cases t3 : x.mode > 2
            · rw [if_neg (by simpa using t3)]; exact no (Below.refl _ _) (by omega)
            · rw [if_pos (by simpa using t3)]
              by_cases t4 : (x.locals.length : Int) = g.locals
              · rw [if_pos (by simpa using t4)]
                by_cases t5 : (x.ops.length : Int) > 8
                · rw [if_neg (by simpa using t5)]; exact no (Below.refl _ _) (by omega)
                · rw [if_pos (by simpa using t5)]
                  refine call_gives (Below.refl _ _) (fun w1 e1 _ => gives101 (RowAt.keep InsE.kept hcode (ext_keeps e1))) fun w1 e1 hw1 => ⟨_, rfl, ?_⟩
                  by_cases t6 : (x.dfs.length : Int) > roomM g
                  · rw [if_pos (by simpa using t6)]; exact no hw1 (by omega)
                  · rw [if_neg (by simpa using t6)]
                    refine ⟨x.dfs.length + 1, l0_50 hp hx.dfs (x.dfs.length + 1) 0 w1 (by omega) (by omega) hw1 ?_⟩
                    rw [hm, decide_eq_true (by omega)]; rfl
              · rw [if_neg (by simpa using t4)]; exact no (Below.refl _ _) (fun h => t4 h.2.2.2.2.1)
end Go.Proofs.Ytlccbaemcfjdoaa
set_option linter.unusedVariables false
set_option linter.unusedSimpArgs false
namespace Go.Proofs.Ytlccbaemcfjdoaa
open Go.RowKit
structure Hd where
  below : Int
  f : Int
  pc : Int
  mode : Int
  dfd : Bool
  value : Int
  dfs : Int
  ops : Int
def hdV (h : Hd) : Value := .agg ⟨[.int .i64 h.below, .int .i64 h.f, .int .i64 h.pc, .int .i64 h.mode, .bool h.dfd, .int .u64 h.value, .int .i64 h.dfs, .int .i64 h.ops]⟩
def hd0 : Hd := ⟨0, 0, 0, 0, false, 0, 0, 0⟩
def headOf (l : Nat → Int) : Hd := ⟨l 0 - 1, l 1, l 2, l 3 % 4, decide (4 ≤ l 3), l 4, l 5, l 6⟩
def headOk (n : Nat) (l : Nat → Int) : Bool := decide (l 0 ≤ n ∧ l 1 ≤ 2147483648 ∧ l 2 ≤ 2147483648 ∧ l 5 ≤ 2147483648 ∧ l 6 ≤ 2147483648 ∧ l 3 ≤ 6 ∧ l 3 ≠ 3)
def wordAt (mem : List Int) (at_ : Int) (i : Nat) : Int := mem.getD (at_.toNat + i) 0
def getM (mem : List Int) (at_ : Int) : Hd × Int :=
  if inM mem.length at_ 7 = true then (if headOk mem.length (wordAt mem at_) = true then (headOf (wordAt mem at_), 0) else (hd0, 6)) else (hd0, 1)
def getV (mem : List Int) (at_ : Int) : Value := .tuple ⟨[hdV (getM mem at_).1, .int .i64 (getM mem at_).2]⟩
structure WordsAt (w : World) (A : Option Addr) (l c : Nat) (xs : List Int) : Prop where
  nums : Nums .u64 w A l xs
  wd : Wd xs
  cap : l ≤ c
  small : l ≤ 1000000000
theorem WordsAt.keep {w w' : World} {A : Option Addr} {l c : Nat} {xs : List Int} (h : WordsAt w A l c xs) (hw : ∀ q v, w.cell? q = some v → w'.cell? q = some v) : WordsAt w' A l c xs := ⟨RowAt.keep (NumE.kept _) h.nums hw, h.wd, h.cap, h.small⟩
theorem wordAt_wd {mem : List Int} (h : Wd mem) (at_ : Int) (i : Nat) : 0 ≤ wordAt mem at_ i ∧ wordAt mem at_ i < 18446744073709551616 := getD_wd h _
theorem wrap_u64 {n : Int} (h0 : 0 ≤ n) (h1 : n < 18446744073709551616) : IntKind.wrap .u64 n = n := by
  simp only [IntKind.wrap, IntKind.bits, IntKind.signed]
  simp
  omega
theorem mask4 {x : Int} (h0 : 0 ≤ x) (h1 : x < 18446744073709551616) : (((BitVec.ofInt 64 x &&& ~~~ BitVec.ofInt 64 4).toNat : Nat) : Int) = ((x.toNat &&& 18446744073709551611 : Nat) : Int) := by
  congr 1
  rw [BitVec.toNat_and, BitVec.toNat_not]
  have e1 : (BitVec.ofInt 64 x).toNat = x.toNat := by
    rw [BitVec.toNat_ofInt]
    omega
  have e2 : (BitVec.ofInt 64 4).toNat = 4 := by decide
  rw [e1, e2]
theorem and_big {n : Nat} (h : 8 ≤ n) (h1 : n < 18446744073709551616) : 8 ≤ n &&& 18446744073709551611 := by
  have h2 : (n &&& 18446744073709551611) / 2 ^ 3 = n / 2 ^ 3 &&& 18446744073709551611 / 2 ^ 3 := Nat.and_div_two_pow
  have h3 : (18446744073709551611 : Nat) / 2 ^ 3 = 2 ^ 61 - 1 := by decide
  rw [h3, Nat.and_two_pow_sub_one_eq_mod, Nat.mod_eq_of_lt (by omega)] at h2
  omega
theorem mode_cases {x : Int} (h0 : 0 ≤ x) (h1 : x < 18446744073709551616) : ∃ m : Int, IntKind.wrap .u64 (((BitVec.ofInt 64 x &&& ~~~ BitVec.ofInt 64 4).toNat : Nat) : Int) = m ∧ ((m > 2 ∧ ¬ (x ≤ 6 ∧ x ≠ 3)) ∨ (m ≤ 2 ∧ (x ≤ 6 ∧ x ≠ 3) ∧ m = x % 4 ∧ (x ≠ m ↔ 4 ≤ x) ∧ 0 ≤ m)) := by
  refine ⟨_, rfl, ?_⟩
  rw [mask4 h0 h1]
  by_cases h8 : x < 8
  · have hc : x = 0 ∨ x = 1 ∨ x = 2 ∨ x = 3 ∨ x = 4 ∨ x = 5 ∨ x = 6 ∨ x = 7 := by omega
    rcases hc with rfl | rfl | rfl | rfl | rfl | rfl | rfl | rfl
    all_goals first
      | (right; decide)
      | (left; decide)
  · left
    have := and_big (n := x.toNat) (by omega) (by omega)
    have hle : x.toNat &&& 18446744073709551611 ≤ x.toNat := Nat.and_le_left
    rw [wrap_u64 (by omega) (by omega)]
    omega
section
variable {w : World} {g b : Nat} {mem : List Int}
theorem word_in {at_ : Int} (hin : inM mem.length at_ 7 = true) {i : Nat} (hi : i < 7) : mem[at_.toNat + i]? = some (wordAt mem at_ i) := by
  have := of_decide_eq_true hin
  exact getD_get (by omega)
theorem get_ok {at_ : Int} (hin : inM mem.length at_ 7 = true) (hok : headOk mem.length (wordAt mem at_) = true) : getV mem at_ = .tuple ⟨[hdV (headOf (wordAt mem at_)), .int .i64 0]⟩ := by
  unfold getV getM; rw [if_pos hin, if_pos hok]
theorem get_form {at_ : Int} (hin : inM mem.length at_ 7 = true) (hok : headOk mem.length (wordAt mem at_) = false) : getV mem at_ = .tuple ⟨[hdV hd0, .int .i64 6]⟩ := by
  unfold getV getM; rw [if_pos hin, hok]; rfl
theorem get_arg {at_ : Int} (hin : inM mem.length at_ 7 = false) : getV mem at_ = .tuple ⟨[hdV hd0, .int .i64 1]⟩ := by
  unfold getV getM; rw [hin]; rfl
theorem gives43 {A : Option Addr} {l c : Nat} (hx : WordsAt w A l c mem) (at_ : Int) : Gives Try.prog 43 [.slice A l c, .int .i64 at_] w (getV mem at_) := by
  refine gives_of (V43.sound ?_)
  intro q4 _
  obtain rfl := hx.nums.len
  have hsm := hx.small
  refine call_gives (Below.refl _ _) (fun w1 _ _ => gives95 hx.nums.small at_ 7) fun w1 e1 hw1 => ⟨_, rfl, ?_⟩
  have heq : allM mem.length at_ 7 = inM mem.length at_ 7 := by unfold allM inM; exact decide_eq_decide.2 (by omega)
  rw [heq]
  cases hin : inM mem.length at_ 7 with
  | false =>
    rw [if_pos (by simp)]
    exact ret_is hw1 (get_arg hin).symm
  | true =>
    rw [if_neg (by simp)]
    have hi := of_decide_eq_true hin
    have hcap := hx.cap
    rw [wrap_id (n := at_ + 7) (by omega) (by omega)]
    refine ⟨by omega, by omega, by omega, by omega, ?_⟩
    have hlt : (at_ + 7).toNat - at_.toNat = 7 := by omega
    have hne : ¬ c = at_.toNat := by omega
    have hx1 := hx.keep (ext_keeps e1)
    obtain ⟨a, rfl⟩ : ∃ a, A = some a := by
      obtain ⟨_, p, _, hp, _⟩ := hx.nums.at (i := 0) (by omega)
      exact ⟨p, hp⟩
    rw [if_neg hne, hlt]
    have rd : ∀ i, i < 7 → w1.cell? ((a.add at_.toNat).add i) = some (.int .u64 (wordAt mem at_ i)) := fun i hi => by
      obtain ⟨p, hp, he⟩ := hx1.nums.get _ _ (word_in hin hi)
      cases hp
      rw [adr_add]
      simpa [NumE] using he
    have hw0 := wordAt_wd hx.wd at_ 0
    have hw3 := wordAt_wd hx.wd at_ 3
    have bad : headOk mem.length (wordAt mem at_) = false → Ret w.heap.size w1 (IsV w (getV mem at_) (.tuple ⟨[hdV hd0, .int .i64 6]⟩)) := fun h => ret_is hw1 (get_form hin h).symm
    refine ⟨_, rfl, by decide, by decide, _, rd 0 (by decide), ?_⟩
    rw [wrap_u64 (n := (mem.length : Int)) (by omega) (by omega)]
    by_cases t0 : wordAt mem at_ 0 > mem.length
    · rw [if_neg (by simpa using t0)]; exact bad (by unfold headOk; exact decide_eq_false (by omega))
    rw [if_pos (by simpa using t0)]
    refine ⟨_, rfl, by decide, by decide, _, rd 1 (by decide), ?_⟩
    by_cases t1 : wordAt mem at_ 1 > 2147483648
    · rw [if_neg (by simpa using t1)]; exact bad (by unfold headOk; exact decide_eq_false (by omega))
    rw [if_pos (by simpa using t1)]
    refine ⟨_, rfl, by decide, by decide, _, rd 2 (by decide), ?_⟩
    by_cases t2 : wordAt mem at_ 2 > 2147483648
    · rw [if_neg (by simpa using t2)]; exact bad (by unfold headOk; exact decide_eq_false (by omega))
    rw [if_pos (by simpa using t2)]
    refine ⟨_, rfl, by decide, by decide, _, rd 5 (by decide), ?_⟩
    by_cases t5 : wordAt mem at_ 5 > 2147483648
    · rw [if_neg (by simpa using t5)]; exact bad (by unfold headOk; exact decide_eq_false (by omega))
    rw [if_pos (by simpa using t5)]
    refine ⟨_, rfl, by decide, by decide, _, rd 6 (by decide), ?_⟩
    by_cases t6 : wordAt mem at_ 6 > 2147483648
    · rw [if_neg (by simpa using t6)]; exact bad (by unfold headOk; exact decide_eq_false (by omega))
    rw [if_pos (by simpa using t6)]
    refine ⟨_, rfl, by decide, by decide, _, rd 3 (by decide), ?_⟩
    by_cases t3 : wordAt mem at_ 3 > 6
    · rw [if_neg (by simpa using t3)]; exact bad (by unfold headOk; exact decide_eq_false (by omega))
    rw [if_pos (by simpa using t3)]
    refine ⟨_, rfl, by decide, by decide, _, rd 3 (by decide), ?_⟩
    by_cases t3' : wordAt mem at_ 3 = 3
    · rw [if_pos (by simpa using t3')]; exact bad (by unfold headOk; exact decide_eq_false (by omega))
    rw [if_neg (by simpa using t3')]
    refine ⟨_, rfl, by decide, by decide, _, rd 0 (by decide), _, rfl, by decide, by decide, _, rd 1 (by decide), _, rfl, by decide, by decide, _, rd 2 (by decide), _, rfl, by decide, by decide, _, rd 3 (by decide), by decide, _, rfl, by decide, by decide, _, rd 3 (by decide),
      _, rfl, by decide, by decide, _, rd 4 (by decide), _, rfl, by decide, by decide, _, rd 5 (by decide), _, rfl, by decide, by decide, _, rd 6 (by decide), ret_is hw1 ?_⟩
    have h1' := wordAt_wd hx.wd at_ 1
    have h2' := wordAt_wd hx.wd at_ 2
    have h5' := wordAt_wd hx.wd at_ 5
    have h6' := wordAt_wd hx.wd at_ 6
    have hok : headOk mem.length (wordAt mem at_) = true := by unfold headOk; exact decide_eq_true (by omega)
    rw [get_ok hin hok]
    unfold hdV headOf
    have htm : Int.tmod (wordAt mem at_ 3) 4 = wordAt mem at_ 3 % 4 := Int.tmod_eq_emod_of_nonneg hw3.1
    rw [htm, wrap_id (n := wordAt mem at_ 0) (by omega) (by omega), wrap_id (n := wordAt mem at_ 0 - 1) (by omega) (by omega), wrap_id (n := wordAt mem at_ 1) (by omega) (by omega), wrap_id (n := wordAt mem at_ 2) (by omega) (by omega),
      wrap_id (n := wordAt mem at_ 3 % 4) (by omega) (by omega), wrap_id (n := wordAt mem at_ 5) (by omega) (by omega), wrap_id (n := wordAt mem at_ 6) (by omega) (by omega)]
theorem gives42 (h : ArenaAt w g b mem) (at_ : Int) : Gives Try.prog 42 [.pointer (some ⟨g, 0, none⟩), .int .i64 at_] w (getV mem at_) := by
  refine gives_of (V42.sound ?_)
  intro q4 _
  have hl := h.len
  refine call_slice (Below.refl _ _) h fun A l c w1 e1 hw1 _ hn _ => ?_
  unfold errV
  refine ⟨_, _, _, _, rfl, ?_⟩
  cases hin : inM mem.length at_ 7 with
  | false =>
    simp only [Bool.false_eq_true, if_false]
    rw [if_pos (by simp)]
    exact ret_is hw1 (get_arg hin).symm
  | true =>
    simp only [if_true]
    rw [if_neg (by simp)]
    rw [hin, if_pos rfl] at hn
    have hls : l = 7 := by rw [← hn.len, sub_len hin]; rfl
    subst hls
    obtain ⟨a, rfl⟩ : ∃ a, A = some a := by
      obtain ⟨_, p, _, hp, _⟩ := hn.at (i := 0) (by omega)
      exact ⟨p, hp⟩
    have rd1 : ∀ i, i < 7 → w1.cell? (a.add i) = some (.int .u64 (wordAt mem at_ i)) := fun i hi => by
      obtain ⟨x, p, hx, hp, he⟩ := hn.at hi
      cases hp
      have h1 := (sub_get hx).1
      rw [word_in hin hi] at h1
      cases h1
      exact he
    have hw0 := wordAt_wd h.wd at_ 0
    have hw3 := wordAt_wd h.wd at_ 3
    refine ⟨a, rfl, by decide, by decide, _, rd1 3 (by decide), a, rfl, by decide, by decide, _, rd1 0 (by decide), ?_⟩
    refine call_gives hw1 (fun w2 e2 _ => gives93 ((h.ext e1).ext e2)) fun w2 e2 hw2 => ⟨_, rfl, e2.cell (rd1 0 (by decide)), ?_⟩
    have rd : ∀ i, i < 7 → w2.cell? (a.add i) = some (.int .u64 (wordAt mem at_ i)) := fun i hi => e2.cell (rd1 i hi)
    rw [wrap_u64 (n := (mem.length : Int)) (by omega) (by omega)]
    have bad : headOk mem.length (wordAt mem at_) = false → Ret w.heap.size w2 (IsV w (getV mem at_) (.tuple ⟨[hdV hd0, .int .i64 6]⟩)) := fun h => ret_is hw2 (get_form hin h).symm
    by_cases t0 : wordAt mem at_ 0 > mem.length
    · rw [if_neg (by simpa using t0)]; exact bad (by unfold headOk; exact decide_eq_false (by omega))
    rw [if_pos (by simpa using t0)]
    obtain ⟨m, hm, hcase⟩ := mode_cases hw3.1 hw3.2
    rw [hm]
    rcases hcase with ⟨m1, m2⟩ | ⟨m1, m2, m3, m4, m5⟩
    · rw [if_pos (by simpa using m1)]; exact bad (by unfold headOk; exact decide_eq_false (fun h => m2 ⟨h.2.2.2.2.2.1, h.2.2.2.2.2.2⟩))
    rw [if_neg (by simpa using m1)]
    refine ⟨5, ?_⟩
    have h1' := wordAt_wd h.wd at_ 1
    have h2' := wordAt_wd h.wd at_ 2
    have h5' := wordAt_wd h.wd at_ 5
    have h6' := wordAt_wd h.wd at_ 6
    have w01 : IntKind.wrap .i64 ((0 : Int) + 1) = 1 := by decide
    have w12 : IntKind.wrap .i64 ((1 : Int) + 1) = 2 := by decide
    have w23 : IntKind.wrap .i64 ((2 : Int) + 1) = 3 := by decide
    have w34 : IntKind.wrap .i64 ((3 : Int) + 1) = 4 := by decide
    dsimp -zeta only [V42.l0]
    rw [if_pos (by decide)]
    refine ⟨by decide, by decide, a, rfl, by decide, by decide, _, rd 1 (by decide), ?_⟩
    by_cases t1 : wordAt mem at_ 1 > 2147483648
    · rw [if_pos (by simpa using t1)]; exact bad (by unfold headOk; exact decide_eq_false (by omega))
    rw [if_neg (by simpa using t1), w01, if_pos (by decide)]
    refine ⟨by decide, by decide, a, rfl, by decide, by decide, _, rd 2 (by decide), ?_⟩
    by_cases t2 : wordAt mem at_ 2 > 2147483648
    · rw [if_pos (by simpa using t2)]; exact bad (by unfold headOk; exact decide_eq_false (by omega))
    rw [if_neg (by simpa using t2), w12, if_pos (by decide)]
    refine ⟨by decide, by decide, a, rfl, by decide, by decide, _, rd 5 (by decide), ?_⟩
    by_cases t5 : wordAt mem at_ 5 > 2147483648
    · rw [if_pos (by simpa using t5)]; exact bad (by unfold headOk; exact decide_eq_false (by omega))
    rw [if_neg (by simpa using t5), w23, if_pos (by decide)]
    refine ⟨by decide, by decide, a, rfl, by decide, by decide, _, rd 6 (by decide), ?_⟩
    by_cases t6 : wordAt mem at_ 6 > 2147483648
    · rw [if_pos (by simpa using t6)]; exact bad (by unfold headOk; exact decide_eq_false (by omega))
    rw [if_neg (by simpa using t6), w34, if_neg (by decide)]
    refine ⟨a, rfl, by decide, by decide, _, rd 0 (by decide), a, rfl, by decide, by decide, _, rd 1 (by decide), a, rfl, by decide, by decide, _, rd 2 (by decide), a, rfl, by decide, by decide, _, rd 3 (by decide), a, rfl, by decide, by decide, _, rd 4 (by decide), a, rfl, by decide, by decide, _, rd 5 (by decide), a, rfl, by decide, by decide, _, rd 6 (by decide), ret_is hw2 ?_⟩
    have hok : headOk mem.length (wordAt mem at_) = true := by unfold headOk; exact decide_eq_true (by omega)
    rw [get_ok hin hok]
    unfold hdV headOf
    have hbool : (wordAt mem at_ 3 != m) = decide (4 ≤ wordAt mem at_ 3) := by
      by_cases h4 : 4 ≤ wordAt mem at_ 3
      · rw [decide_eq_true h4]; simpa using m4.2 h4
      · rw [decide_eq_false h4]; simpa using fun e => h4 (m4.1 e)
    rw [hbool, wrap_id (n := wordAt mem at_ 0) (by omega) (by omega), wrap_id (n := wordAt mem at_ 0 - 1) (by omega) (by omega), wrap_id (n := wordAt mem at_ 1) (by omega) (by omega), wrap_id (n := wordAt mem at_ 2) (by omega) (by omega),
      wrap_id (n := m) (by omega) (by omega), wrap_id (n := wordAt mem at_ 5) (by omega) (by omega), wrap_id (n := wordAt mem at_ 6) (by omega) (by omega), m3]
end
end Go.Proofs.Ytlccbaemcfjdoaa
set_option linter.unusedVariables false
set_option linter.unusedSimpArgs false
namespace Go.Proofs.Ytlccbaemcfjdoaa
open Go.RowKit
def hdW (h : Hd) : List Int := [h.below + 1, h.f, h.pc, h.mode + (if h.dfd = true then 4 else 0), h.value, h.dfs, h.ops]
def putOk (n : Nat) (at_ : Int) (h : Hd) : Bool := inM n at_ 7 && decide (-1 ≤ h.below ∧ h.below < n ∧ 0 ≤ h.f ∧ h.f ≤ 2147483648 ∧ 0 ≤ h.pc ∧ h.pc ≤ 2147483648 ∧ 0 ≤ h.dfs ∧ h.dfs ≤ 2147483648 ∧ 0 ≤ h.ops ∧ h.ops ≤ 2147483648 ∧ 0 ≤ h.mode ∧ h.mode ≤ 2)
def putM (mem : List Int) (at_ : Int) (h : Hd) : List Int := if putOk mem.length at_ h = true then storesM mem at_ (hdW h) 7 else mem
def putE (n : Nat) (at_ : Int) (h : Hd) : Int := if putOk n at_ h = true then 0 else 1
theorem hdW_wd {n : Nat} {at_ : Int} {h : Hd} (hp : putOk n at_ h = true) (hv : 0 ≤ h.value ∧ h.value < 18446744073709551616) (hn : n ≤ 1000000000) : Wd (hdW h) := fun x hx => by
  unfold putOk at hp
  rw [Bool.and_eq_true] at hp
  have := of_decide_eq_true hp.2
  simp only [hdW, List.mem_cons, List.not_mem_nil, or_false] at hx
  rcases hx with rfl | rfl | rfl | rfl | rfl | rfl | rfl
  · omega
  · omega
  · omega
  · split <;> omega
  · exact hv
  · omega
  · omega
theorem putM_len (mem : List Int) (at_ : Int) (h : Hd) : (putM mem at_ h).length = mem.length := by unfold putM; split <;> simp [storesM_len]
theorem putM_wd {mem : List Int} (hm : Wd mem) (at_ : Int) {h : Hd} (hv : 0 ≤ h.value ∧ h.value < 18446744073709551616) (hl : mem.length ≤ 1000000000) : Wd (putM mem at_ h) := by
  unfold putM
  split
  · rename_i hp
    exact storesM_wd hm at_ (hdW_wd hp hv hl) 7
  · exact hm
theorem storesM_set {mem : List Int} {at_ : Int} {ws : List Int} {n i : Nat} (hin : 0 ≤ at_ ∧ at_ + n ≤ mem.length) (hi : i < n) : storesM mem at_ ws (i + 1) = (storesM mem at_ ws i).set (at_.toNat + i) (ws.getD i 0) := by
  show storeV _ _ _ = _
  unfold storeV
  rw [if_pos (by unfold inM; rw [storesM_len]; exact decide_eq_true (by omega))]
  congr 1
  omega
section
variable {w : World} {g b : Nat} {mem : List Int}
theorem puts44 (h : ArenaAt w g b mem) (at_ : Int) {hd : Hd} (hv : 0 ≤ hd.value ∧ hd.value < 18446744073709551616) : Puts Try.prog 44 [.pointer (some ⟨g, 0, none⟩), .int .i64 at_, hdV hd] w b (.int .i64 (putE mem.length at_ hd)) .u64 51 (putM mem at_ hd) := by
  refine puts_of (V44.sound ?_)
  intro q5 _
  have hl := h.len
  refine call_slice (Below.refl _ _) h fun A l c w1 e1 hw1 _ hn _ => ?_
  unfold errV
  refine ⟨_, _, _, _, rfl, ?_⟩
  have no : ∀ {w2}, Ext w.heap.size w w2 → putOk mem.length at_ hd = false → Ret w.heap.size w2 (IsP w b (.int .i64 (putE mem.length at_ hd)) .u64 51 (putM mem at_ hd) (.int .i64 1)) := fun he hp =>
    ret_p (ext_chg (Chg.refl _ _) he) (by unfold putE; rw [hp]; rfl) (by unfold putM; rw [hp]; exact h.words.ext he)
  cases hin : inM mem.length at_ 7 with
  | false =>
    simp only [Bool.false_eq_true, if_false]
    rw [if_pos (by simp)]
    exact no e1 (by unfold putOk; rw [hin]; rfl)
  | true =>
    simp only [if_true]
    rw [if_neg (by simp)]
    have hi := of_decide_eq_true hin
    refine call_gives hw1 (fun w2 e2 _ => gives96 ((h.ext e1).ext e2) hd.below) fun w2 e2 hw2 => ⟨_, rfl, ?_⟩
    have e12 := e1.trans e2
    have hpo : putOk mem.length at_ hd = decide (-1 ≤ hd.below ∧ hd.below < mem.length ∧ 0 ≤ hd.f ∧ hd.f ≤ 2147483648 ∧ 0 ≤ hd.pc ∧ hd.pc ≤ 2147483648 ∧ 0 ≤ hd.dfs ∧ hd.dfs ≤ 2147483648 ∧ 0 ≤ hd.ops ∧ hd.ops ≤ 2147483648 ∧ 0 ≤ hd.mode ∧ hd.mode ≤ 2) := by
      unfold putOk; rw [hin]; rfl
    have no' := fun (hp : ¬ (-1 ≤ hd.below ∧ hd.below < mem.length ∧ 0 ≤ hd.f ∧ hd.f ≤ 2147483648 ∧ 0 ≤ hd.pc ∧ hd.pc ≤ 2147483648 ∧ 0 ≤ hd.dfs ∧ hd.dfs ≤ 2147483648 ∧ 0 ≤ hd.ops ∧ hd.ops ≤ 2147483648 ∧ 0 ≤ hd.mode ∧ hd.mode ≤ 2)) => no e12 (by rw [hpo]; exact decide_eq_false hp)
    cases hbel : belowM mem.length hd.below with
    | false =>
      have := of_decide_eq_false hbel
      rw [if_neg (by simp)]
      exact no' (by omega)
    | true =>
      have hbb := of_decide_eq_true hbel
      rw [if_pos (by simp)]
      by_cases m0 : hd.mode < 0
      · rw [if_neg (by simpa using m0)]; exact no' (by omega)
      rw [if_pos (by simpa using m0)]
      by_cases m2 : hd.mode > 2
      · rw [if_pos (by simpa using m2)]; exact no' (by omega)
      rw [if_neg (by simpa using m2)]
      refine ⟨5, ?_⟩
      have w01 : IntKind.wrap .i64 ((0 : Int) + 1) = 1 := by decide
      have w12 : IntKind.wrap .i64 ((1 : Int) + 1) = 2 := by decide
      have w23 : IntKind.wrap .i64 ((2 : Int) + 1) = 3 := by decide
      have w34 : IntKind.wrap .i64 ((3 : Int) + 1) = 4 := by decide
      dsimp -zeta only [V44.l0]
      have g0 : ([hd.f, hd.pc, hd.dfs, hd.ops] : List Int).getD (0 : Int).toNat 0 = hd.f := rfl
      have g1 : ([hd.f, hd.pc, hd.dfs, hd.ops] : List Int).getD (1 : Int).toNat 0 = hd.pc := rfl
      have g2 : ([hd.f, hd.pc, hd.dfs, hd.ops] : List Int).getD (2 : Int).toNat 0 = hd.dfs := rfl
      have g3 : ([hd.f, hd.pc, hd.dfs, hd.ops] : List Int).getD (3 : Int).toNat 0 = hd.ops := rfl
      rw [if_pos (by decide), g0]
      refine ⟨by decide, by decide, ?_⟩
      by_cases t0 : hd.f < 0
      · rw [if_neg (by simpa using t0)]; exact no' (by omega)
      rw [if_pos (by simpa using t0)]
      by_cases t1 : hd.f > 2147483648
      · rw [if_pos (by simpa using t1)]; exact no' (by omega)
      rw [if_neg (by simpa using t1), w01, if_pos (by decide), g1]
      refine ⟨by decide, by decide, ?_⟩
      by_cases t2 : hd.pc < 0
      · rw [if_neg (by simpa using t2)]; exact no' (by omega)
      rw [if_pos (by simpa using t2)]
      by_cases t3 : hd.pc > 2147483648
      · rw [if_pos (by simpa using t3)]; exact no' (by omega)
      rw [if_neg (by simpa using t3), w12, if_pos (by decide), g2]
      refine ⟨by decide, by decide, ?_⟩
      by_cases t4 : hd.dfs < 0
      · rw [if_neg (by simpa using t4)]; exact no' (by omega)
      rw [if_pos (by simpa using t4)]
      by_cases t5 : hd.dfs > 2147483648
      · rw [if_pos (by simpa using t5)]; exact no' (by omega)
      rw [if_neg (by simpa using t5), w23, if_pos (by decide), g3]
      refine ⟨by decide, by decide, ?_⟩
      by_cases t6 : hd.ops < 0
      · rw [if_neg (by simpa using t6)]; exact no' (by omega)
      rw [if_pos (by simpa using t6)]
      by_cases t7 : hd.ops > 2147483648
      · rw [if_pos (by simpa using t7)]; exact no' (by omega)
      rw [if_neg (by simpa using t7), w34, if_neg (by decide)]
      have hok : putOk mem.length at_ hd = true := by rw [hpo]; exact decide_eq_true (by omega)
      have hwd := hdW_wd hok hv (by omega)
      have body : ∀ m, m = hd.mode + (if hd.dfd = true then 4 else 0) → V44.b1 w.heap.size (IsP w b (.int .i64 (putE mem.length at_ hd)) .u64 51 (putM mem at_ hd)) ⟨g, 0, none⟩ at_ m q5 hd.below hd.f hd.pc hd.mode hd.dfd hd.value hd.dfs hd.ops w2 := by
        intro m hm
        have hmb : 0 ≤ m ∧ m ≤ 6 := by rw [hm]; split <;> omega
        unfold V44.b1
        rw [wrap_id (n := hd.below + 1) (by omega) (by omega), wrap_u64 (n := hd.below + 1) (by omega) (by omega), wrap_u64 (n := hd.f) (by omega) (by omega), wrap_u64 (n := hd.pc) (by omega) (by omega), wrap_u64 (n := m) (by omega) (by omega), wrap_u64 (n := hd.dfs) (by omega) (by omega), wrap_u64 (n := hd.ops) (by omega) (by omega)]
        have hws : ([hd.below + 1, hd.f, hd.pc, m, hd.value, hd.dfs, hd.ops] : List Int) = hdW hd := by rw [hm]; rfl
        have hE : putE mem.length at_ hd = 0 := by unfold putE; rw [if_pos hok]
        have hM : putM mem at_ hd = storesM mem at_ (hdW hd) 7 := by unfold putM; rw [if_pos hok]
        rw [hE, hM]
        have loop : ∀ (k i : Nat) (w' : World), 7 < i + k → i ≤ 7 → Chg (fun j => j = b) w w' → ArenaAt w' g b (storesM mem at_ (hdW hd) i) →
            V44.l2 w.heap.size (IsP w b (.int .i64 0) .u64 51 (storesM mem at_ (hdW hd) 7)) k ⟨g, 0, none⟩ at_ (hd.below + 1) hd.f hd.pc m hd.value hd.dfs hd.ops i w' := by
          intro k
          induction k with
          | zero => intros; omega
          | succ k ih =>
            intro i w' hk hi' hc ha
            dsimp -zeta only [V44.l2]
            by_cases h1 : i < 7
            · rw [if_pos (by simp; omega), hws]
              refine ⟨by omega, by omega, ?_⟩
              rw [wrap_id (n := at_ + (i : Int)) (by omega) (by omega), Int.toNat_natCast]
              refine call_puts hc.size ha.words (fun w6 e6 => puts70 (ha.ext e6) _ _) fun w6 e6 ho6 => ?_
              unfold errV
              refine ⟨_, rfl, ?_⟩
              have hwi : IntKind.wrap .i64 ((i : Int) + 1) = ((i + 1 : Nat) : Int) := by rw [wrap_id (by omega) (by omega)]; rfl
              rw [hwi]
              exact ih (i + 1) w6 (by omega) (by omega) (e6.chgS hc) (ha.turned e6 ho6 (by rw [storesM_len, storesM_len]) (storesM_wd h.wd at_ hwd (i + 1)))
            · rw [if_neg (by simp; omega)]
              have : i = 7 := by omega
              subst this
              exact ret_p hc rfl ha.words
        exact ⟨8, loop 8 0 w2 (by omega) (by omega) (ext_chg (Chg.refl _ _) e12) (h.ext e12)⟩
      split
      · rename_i hdf
        exact body _ (by rw [if_pos hdf, wrap_id (by omega) (by omega)])
      · rename_i hdf
        exact body _ (by rw [if_neg hdf]; omega)
def RPutQ (A : Option Addr) (l c : Nat) (mem : List Int) (at_ : Int) (hd : Hd) (w1 : World) : Value → World → Prop := fun u w2 =>
  if putOk mem.length at_ hd = true then ∃ v, u = .tuple ⟨[v, .int .i64 0]⟩ ∧ OwnWs w2 w1.heap.size v (putM mem at_ hd) else u = .tuple ⟨[.slice A l c, .int .i64 1]⟩
theorem yields45 {A : Option Addr} {l c : Nat} (hx : WordsAt w A l c mem) (at_ : Int) {hd : Hd} (hv : 0 ≤ hd.value ∧ hd.value < 18446744073709551616) : Yields Try.prog 45 [.slice A l c, .int .i64 at_, hdV hd] w (RPutQ A l c mem at_ hd w) := by
  refine yields_of (V45.sound ?_)
  intro q5 _
  obtain rfl := hx.nums.len
  have hsm := hx.small
  refine call_gives (Below.refl _ _) (fun w1 _ _ => gives95 hx.nums.small at_ 7) fun w1 e1 hw1 => ⟨_, rfl, ?_⟩
  have heq : allM mem.length at_ 7 = inM mem.length at_ 7 := by unfold allM inM; exact decide_eq_decide.2 (by omega)
  rw [heq]
  have no : putOk mem.length at_ hd = false → Ret w.heap.size w1 (IsQ w (RPutQ A mem.length c mem at_ hd w) (.tuple ⟨[.slice A mem.length c, .int .i64 1]⟩)) := fun hp =>
    ret_q hw1 fun w2 _ => by unfold RPutQ; rw [hp]; rfl
  cases hin : inM mem.length at_ 7 with
  | false =>
    rw [if_neg (by simp)]
    exact no (by unfold putOk; rw [hin]; rfl)
  | true =>
    rw [if_pos (by simp)]
    have hi := of_decide_eq_true hin
    have hpo : putOk mem.length at_ hd = decide (-1 ≤ hd.below ∧ hd.below < mem.length ∧ 0 ≤ hd.f ∧ hd.f ≤ 2147483648 ∧ 0 ≤ hd.pc ∧ hd.pc ≤ 2147483648 ∧ 0 ≤ hd.dfs ∧ hd.dfs ≤ 2147483648 ∧ 0 ≤ hd.ops ∧ hd.ops ≤ 2147483648 ∧ 0 ≤ hd.mode ∧ hd.mode ≤ 2) := by
      unfold putOk; rw [hin]; rfl
    have no' := fun (hp : ¬ (-1 ≤ hd.below ∧ hd.below < mem.length ∧ 0 ≤ hd.f ∧ hd.f ≤ 2147483648 ∧ 0 ≤ hd.pc ∧ hd.pc ≤ 2147483648 ∧ 0 ≤ hd.dfs ∧ hd.dfs ≤ 2147483648 ∧ 0 ≤ hd.ops ∧ hd.ops ≤ 2147483648 ∧ 0 ≤ hd.mode ∧ hd.mode ≤ 2)) => no (by rw [hpo]; exact decide_eq_false hp)
    by_cases b0 : hd.below < -1
    · rw [if_neg (by simpa using b0)]; exact no' (by omega)
    rw [if_pos (by simpa using b0)]
    by_cases b1 : hd.below ≥ mem.length
    · rw [if_neg (by simpa using b1)]; exact no' (by omega)
    rw [if_pos (by simpa using b1)]
    by_cases t0 : hd.f < 0
    · rw [if_neg (by simpa using t0)]; exact no' (by omega)
    rw [if_pos (by simpa using t0)]
    by_cases t1 : hd.f > 2147483648
    · rw [if_neg (by simpa using t1)]; exact no' (by omega)
    rw [if_pos (by simpa using t1)]
    by_cases t2 : hd.pc < 0
    · rw [if_neg (by simpa using t2)]; exact no' (by omega)
    rw [if_pos (by simpa using t2)]
    by_cases t3 : hd.pc > 2147483648
    · rw [if_neg (by simpa using t3)]; exact no' (by omega)
    rw [if_pos (by simpa using t3)]
    by_cases t4 : hd.dfs < 0
    · rw [if_neg (by simpa using t4)]; exact no' (by omega)
    rw [if_pos (by simpa using t4)]
    by_cases t5 : hd.dfs > 2147483648
    · rw [if_neg (by simpa using t5)]; exact no' (by omega)
    rw [if_pos (by simpa using t5)]
    by_cases t6 : hd.ops < 0
    · rw [if_neg (by simpa using t6)]; exact no' (by omega)
    rw [if_pos (by simpa using t6)]
    by_cases t7 : hd.ops > 2147483648
    · rw [if_neg (by simpa using t7)]; exact no' (by omega)
    rw [if_pos (by simpa using t7)]
    by_cases m0 : hd.mode < 0
    · rw [if_neg (by simpa using m0)]; exact no' (by omega)
    rw [if_pos (by simpa using m0)]
    by_cases m2 : hd.mode > 2
    · rw [if_pos (by simpa using m2)]; exact no' (by omega)
    rw [if_neg (by simpa using m2)]
    have hok : putOk mem.length at_ hd = true := by rw [hpo]; exact decide_eq_true (by omega)
    obtain ⟨a, rfl⟩ : ∃ a, A = some a := by
      obtain ⟨_, p, _, hp, _⟩ := hx.nums.at (i := 0) (by omega)
      exact ⟨p, hp⟩
    refine expo_alloc hw1.size fun w2 w3 hs2 e3 _ ho3 => ?_
    have hB2 : w.heap.size ≤ w2.heap.size := Nat.le_trans hw1.size hs2
    have hw3 := e3.after hw1
    refine append_fresh (b0 := w.heap.size) hw3 ho3 hB2 hw3.size hB2 (RowAt.keep (NumE.kept _) (RowAt.keep (NumE.kept _) hx.nums (ext_keeps e1)) (ext_keeps e3)) (by omega) fun v w4 hk4 _ hw4 ho4 _ => ?_
    obtain ⟨g5, cap, hv5, hb5, hbb⟩ := owns_some ho4 (by omega)
    subst hv5
    refine ⟨_, mem.length, cap, rfl, ?_⟩
    have body : ∀ m, m = hd.mode + (if hd.dfd = true then 4 else 0) → V45.b0 w.heap.size (IsQ w (RPutQ (some a) mem.length c mem at_ hd w)) at_ (some ⟨g5, 0, none⟩) mem.length cap m q5 hd.below hd.f hd.pc hd.mode hd.dfd hd.value hd.dfs hd.ops w4 := by
      intro m hm
      have hmb : 0 ≤ m ∧ m ≤ 6 := by rw [hm]; split <;> omega
      unfold V45.b0
      rw [wrap_id (n := hd.below + 1) (by omega) (by omega), wrap_u64 (n := hd.below + 1) (by omega) (by omega), wrap_u64 (n := hd.f) (by omega) (by omega), wrap_u64 (n := hd.pc) (by omega) (by omega), wrap_u64 (n := hd.dfs) (by omega) (by omega), wrap_u64 (n := hd.ops) (by omega) (by omega)]
      refine expo_alloc hw4.size fun w5 w6 hs5 e6 _ ho6 => ?_
      have hlit : ([.int .u64 (hd.below + 1), .int .u64 hd.f, .int .u64 hd.pc, .int .u64 m, .int .u64 hd.value, .int .u64 hd.dfs, .int .u64 hd.ops] : List Value) = (hdW hd).map (.int .u64) := by rw [hm]; rfl
      rw [hlit] at ho6
      have hne : w5.heap.size ≠ g5 := by have := (ho4.lt g5 rfl).2; omega
      have loop : ∀ (k i : Nat) (w' : World), 7 < i + k → i ≤ 7 → Below w.heap.size w w' → OwnI w' w5.heap.size .u64 51 (hdW hd) → w'.ownsRow w.heap.size 51 1 (.slice (some ⟨g5, 0, none⟩) mem.length cap) mem.length ((storesM mem at_ (hdW hd) i).map (.int .u64)) →
          V45.l1 w.heap.size (IsQ w (RPutQ (some a) mem.length c mem at_ hd w)) k at_ (some ⟨g5, 0, none⟩) mem.length cap (some ⟨w5.heap.size, 0, none⟩) 7 7 i w' := by
        intro k
        induction k with
        | zero => intros; omega
        | succ k ih =>
          intro i w' hk hi' hw' hol hor
          dsimp -zeta only [V45.l1]
          by_cases h1 : i < 7
          · rw [if_pos (by simp; omega)]
            have hget : (hdW hd)[i]? = some ((hdW hd).getD i 0) := getD_get (by simp [hdW]; omega)
            have hcell := hol.cell hget
            have hlen : (storesM mem at_ (hdW hd) i).length = mem.length := storesM_len _ _ _ _
            have hidx : at_.toNat + i < ((storesM mem at_ (hdW hd) i).map (Value.int .u64)).length := by rw [List.length_map, hlen]; omega
            have hcell2 := owns_cell hor (List.getElem?_eq_getElem hidx)
            rw [wrap_id (n := at_ + (i : Int)) (by omega) (by omega)]
            have hto : (at_ + (i : Int)).toNat = at_.toNat + i := by omega
            refine ⟨_, rfl, by omega, by omega, _, hcell, _, rfl, by omega, by omega, ⟨_, by simpa only [own_add, bx_add, Nat.add_zero, Nat.zero_add, hto] using hcell2⟩, by simpa only [own_add, bx_add, Nat.add_zero, Nat.zero_add, hto] using owns_frozen hor _, ?_⟩
            simp only [own_add, bx_add, Nat.add_zero, Nat.zero_add, hto]
            have hset := owns_set hor (at_.toNat + i) (.int .u64 ((hdW hd).getD i 0)) (by omega)
            rw [← List.map_set, ← storesM_set (n := 7) ⟨hi.1, by omega⟩ h1] at hset
            have hwi : IntKind.wrap .i64 ((i : Int) + 1) = ((i + 1 : Nat) : Int) := by rw [wrap_id (by omega) (by omega)]; rfl
            rw [hwi]
            refine ih (i + 1) _ (by omega) (by omega) (hw'.setCell hbb _) ?_ hset
            unfold OwnI
            rw [at_other hne]
            exact hol
          · rw [if_neg (by simp; omega)]
            have : i = 7 := by omega
            subst this
            refine ret_q hw' fun w8 e8 => ?_
            unfold RPutQ
            rw [if_pos hok]
            refine ⟨_, rfl, ?_⟩
            unfold OwnWs putM
            rw [if_pos hok, storesM_len]
            exact e8.owns hor
      refine ⟨8, loop 8 0 w6 (by omega) (by omega) (e6.after hw4) ho6 ?_⟩
      exact e6.owns ho4
    split
    · rename_i hdf
      refine body _ ?_
      rw [if_pos hdf, wrap_u64 (n := hd.mode) (by omega) (by omega), wrap_u64 (by omega) (by omega)]
    · rename_i hdf
      refine body _ ?_
      rw [if_neg hdf, wrap_u64 (n := hd.mode) (by omega) (by omega)]; omega
end
end Go.Proofs.Ytlccbaemcfjdoaa
