/-
  The arena's functions: what their calls return and leave.
  Conditions: the arena lies in memory as told.
-/
import Derived.Test.YtlccbaemcfjdoaaEngG
import Derived.Test.YtlccbaemcfjdoaaWA
import Derived.Test.YtlccbaemcfjdoaaK17
set_option linter.unusedVariables false
set_option linter.unusedSimpArgs false
namespace Go.Proofs.Ytlccbaemcfjdoaa
open Go.RowKit

/-- These are words. -/
def Wd (xs : List Int) : Prop := ∀ x ∈ xs, 0 ≤ x ∧ x < 18446744073709551616
theorem Wd.at {xs : List Int} (h : Wd xs) {i : Nat} {x : Int} (hx : xs[i]? = some x) : 0 ≤ x ∧ x < 18446744073709551616 := h x (List.mem_of_getElem? hx)
/-- An arena lies in block g, its words in block b. -/
structure ArenaAt (w : World) (g b : Nat) (mem : List Int) : Prop where
  head : w.heap[g]? = some (.cells ⟨[.slice (some ⟨b, 0, none⟩) mem.length mem.length]⟩ 178 (0, 0))
  words : OwnI w b .u64 51 mem
  wd : Wd mem
  len : 64 ≤ mem.length ∧ mem.length ≤ 16384
section
variable {w w' : World} {g b : Nat} {mem : List Int}
theorem ArenaAt.ne (h : ArenaAt w g b mem) : g ≠ b := fun e => by
  have h1 := h.head
  have h2 := h.words
  subst e
  unfold OwnI at h2
  rw [h2] at h1
  simp only [Option.some.injEq, Obj.cells.injEq] at h1
  exact absurd h1.2.1 (by decide)
theorem ArenaAt.ext {B : Nat} (h : ArenaAt w g b mem) (he : Ext B w w') : ArenaAt w' g b mem := ⟨he.row _ _ _ _ h.head, h.words.ext he, h.wd, h.len⟩
theorem ArenaAt.turned {B : Nat} {mem' : List Int} (h : ArenaAt w g b mem) (he : ExtS B (fun k => k = b) w w') (ho : OwnI w' b .u64 51 mem') (hl : mem'.length = mem.length) (hw : Wd mem') : ArenaAt w' g b mem' :=
  ⟨by rw [hl]; exact he.row _ _ _ _ h.ne h.head, ho, hw, by rw [hl]; exact h.len⟩
theorem ArenaAt.cell (h : ArenaAt w g b mem) : w.cell? ⟨g, 0, none⟩ = some (.slice (some ⟨b, 0, none⟩) mem.length mem.length) := at_cell h.head rfl
theorem ArenaAt.nums (h : ArenaAt w g b mem) : Nums .u64 w (some ⟨b, 0, none⟩) mem.length mem := h.words.nums (by have := h.len; simp only [maxLen]; omega)
end
def inM (n : Nat) (at_ k : Int) : Bool := decide (0 ≤ at_ ∧ 0 ≤ k ∧ at_ ≤ n ∧ k ≤ n - at_)
def partE (b n : Nat) (at_ k : Int) : Value :=
  if inM n at_ k = true then .tuple ⟨[.slice (if n = at_.toNat then some ⟨b, 0, none⟩ else some ⟨b, at_.toNat, none⟩) k.toNat (n - at_.toNat), .int .i64 0]⟩ else .tuple ⟨[.slice none 0 0, .int .i64 1]⟩
section
variable {w : World} {g b : Nat} {mem : List Int}
theorem gives93 (h : ArenaAt w g b mem) : Gives Try.prog 93 [.pointer (some ⟨g, 0, none⟩)] w (.int .i64 mem.length) := by
  refine gives_of (V93.sound ?_)
  unfold V93.vc
  simp only [own_add]
  exact ⟨_, _, _, h.cell, ret_is (Below.refl _ _) rfl⟩
theorem gives105 (h : ArenaAt w g b mem) (at_ k : Int) : Gives Try.prog 105 [.pointer (some ⟨g, 0, none⟩), .int .i64 at_, .int .i64 k] w (partE b mem.length at_ k) := by
  refine gives_of (V105.sound ?_)
  unfold V105.vc
  simp only [own_add]
  have hl := h.len
  have no : ∀ {w'}, inM mem.length at_ k = false → Below w.heap.size w w' → Ret w.heap.size w' (IsV w (partE b mem.length at_ k) (.tuple ⟨[.slice none 0 0, .int .i64 1]⟩)) := fun hn hw => ret_is hw (by unfold partE; rw [hn]; rfl)
  by_cases h0 : at_ < 0
  · rw [if_neg (by simpa using h0)]
    exact no (by unfold inM; exact decide_eq_false (by omega)) (Below.refl _ _)
  · rw [if_pos (by simpa using h0)]
    by_cases h1 : k < 0
    · rw [if_neg (by simpa using h1)]
      exact no (by unfold inM; exact decide_eq_false (by omega)) (Below.refl _ _)
    · rw [if_pos (by simpa using h1)]
      refine ⟨_, _, _, h.cell, ?_⟩
      by_cases h2 : at_ > mem.length
      · rw [if_neg (by simpa using h2)]
        exact no (by unfold inM; exact decide_eq_false (by omega)) (Below.refl _ _)
      · rw [if_pos (by simpa using h2)]
        refine ⟨_, _, _, h.cell, ?_⟩
        rw [wrap_id (n := (mem.length : Int) - at_) (by omega) (by omega)]
        by_cases h3 : k > (mem.length : Int) - at_
        · rw [if_pos (by simpa using h3)]
          exact no (by unfold inM; exact decide_eq_false (by omega)) (Below.refl _ _)
        · rw [if_neg (by simpa using h3)]
          rw [wrap_id (n := at_ + k) (by omega) (by omega)]
          refine ⟨_, _, _, h.cell, by omega, by omega, by omega, by omega, ret_is (Below.refl _ _) ?_⟩
          unfold partE
          rw [if_pos (show inM mem.length at_ k = true by unfold inM; exact decide_eq_true (by omega))]
          rw [show (at_ + k).toNat - at_.toNat = k.toNat by omega]
          simp [bx_add]
/-- The words from a place on. -/
def sub (mem : List Int) (at_ k : Int) : List Int := (mem.drop at_.toNat).take k.toNat
theorem sub_len {mem : List Int} {at_ k : Int} (h : inM mem.length at_ k = true) : (sub mem at_ k).length = k.toNat := by
  have := of_decide_eq_true h
  unfold sub
  simp
  omega
theorem sub_get {mem : List Int} {at_ k : Int} {i : Nat} {x : Int} (h : (sub mem at_ k)[i]? = some x) : mem[at_.toNat + i]? = some x ∧ i < k.toNat := by
  unfold sub at h
  rw [List.getElem?_take] at h
  split at h
  · rename_i hi
    rw [List.getElem?_drop] at h
    exact ⟨h, hi⟩
  · cases h
theorem sub_wd {mem : List Int} (h : Wd mem) (at_ k : Int) : Wd (sub mem at_ k) := fun x hx => h x (List.mem_of_mem_drop (List.mem_of_mem_take hx))
/-- The part of an arena's words, as a row. -/
theorem part_nums (h : ArenaAt w g b mem) {at_ k : Int} (hin : inM mem.length at_ k = true) : Nums .u64 w (if mem.length = at_.toNat then some ⟨b, 0, none⟩ else some ⟨b, at_.toNat, none⟩) k.toNat (sub mem at_ k) := by
  have hl := h.len
  have hi := of_decide_eq_true hin
  refine ⟨sub_len hin, by simp only [maxLen]; omega, fun i x hx => ?_⟩
  obtain ⟨h1, h2⟩ := sub_get hx
  rw [if_neg (by omega)]
  refine ⟨_, rfl, ?_⟩
  have := h.words.cell h1
  rw [own_add] at this
  unfold NumE
  rw [bx_add, Nat.mul_one]
  exact this
def loadV (mem : List Int) (at_ : Int) : Value := if inM mem.length at_ 1 = true then .tuple ⟨[.int .u64 (mem.getD at_.toNat 0), .int .i64 0]⟩ else .tuple ⟨[.int .u64 0, .int .i64 1]⟩
theorem gives57 (h : ArenaAt w g b mem) (at_ : Int) : Gives Try.prog 57 [.pointer (some ⟨g, 0, none⟩), .int .i64 at_] w (loadV mem at_) := by
  refine gives_of (V57.sound ?_)
  unfold V57.vc
  refine call_gives (Below.refl _ _) (fun w1 e1 _ => gives105 (h.ext e1) at_ 1) fun w1 e1 hw1 => ?_
  have h1 := h.ext e1
  unfold partE
  by_cases hin : inM mem.length at_ 1 = true
  · rw [if_pos hin]
    refine ⟨_, _, _, _, rfl, ?_⟩
    rw [if_neg (by simp)]
    have hp := part_nums h1 hin
    obtain ⟨x, p, hx, hpp, hc⟩ := hp.at (i := 0) (by decide)
    refine ⟨p, hpp, by decide, by decide, x, hc, ret_is hw1 ?_⟩
    unfold loadV
    rw [if_pos hin]
    have := (sub_get hx).1
    rw [Nat.add_zero] at this
    simp [List.getD, this]
  · rw [if_neg hin]
    refine ⟨_, _, _, _, rfl, ?_⟩
    rw [if_pos (by simp)]
    exact ret_is hw1 (by unfold loadV; rw [if_neg hin])
/-- What is filled. -/
def fillM (mem : List Int) (at_ : Nat) : Nat → Int → List Int
  | 0, _ => mem
  | k + 1, x => (fillM mem at_ k x).set (at_ + k) x
theorem fillM_len (mem : List Int) (at_ : Nat) (x : Int) : ∀ k, (fillM mem at_ k x).length = mem.length
  | 0 => rfl
  | k + 1 => by simp [fillM, fillM_len mem at_ x k]
theorem Wd.set {xs : List Int} (h : Wd xs) (i : Nat) {x : Int} (hx : 0 ≤ x ∧ x < 18446744073709551616) : Wd (xs.set i x) := fun y hy => by
  rcases List.mem_or_eq_of_mem_set hy with hy | rfl
  · exact h y hy
  · exact hx
theorem fillM_wd {mem : List Int} (h : Wd mem) (at_ : Nat) {x : Int} (hx : 0 ≤ x ∧ x < 18446744073709551616) : ∀ k, Wd (fillM mem at_ k x)
  | 0 => h
  | k + 1 => (fillM_wd h at_ hx k).set _ hx
def fillV (mem : List Int) (at_ k x : Int) : List Int := if inM mem.length at_ k = true then fillM mem at_.toNat k.toNat x else mem
def errV (mem : List Int) (at_ k : Int) : Value := .int .i64 (if inM mem.length at_ k = true then 0 else 1)
theorem puts102 (h : ArenaAt w g b mem) (at_ k x : Int) : Puts Try.prog 102 [.pointer (some ⟨g, 0, none⟩), .int .i64 at_, .int .i64 k, .int .u64 x] w b (errV mem at_ k) .u64 51 (fillV mem at_ k x) := by
  refine puts_of (V102.sound ?_)
  unfold V102.vc
  refine call_gives (Below.refl _ _) (fun w1 e1 _ => gives105 (h.ext e1) at_ k) fun w1 e1 hw1 => ?_
  have h1 := h.ext e1
  have hc1 : Chg (fun j => j = b) w w1 := ext_chg (Chg.refl _ _) e1
  unfold partE
  by_cases hin : inM mem.length at_ k = true
  · rw [if_pos hin]
    refine ⟨_, _, _, _, rfl, k.toNat + 1, ?_⟩
    have hi := of_decide_eq_true hin
    have hl := h.len
    have hv : fillV mem at_ k x = fillM mem at_.toNat k.toNat x := by unfold fillV; rw [if_pos hin]
    rw [hv]
    have he : errV mem at_ k = .int .i64 0 := by unfold errV; rw [if_pos hin]
    rw [he]
    have loop : ∀ (m i : Nat) (w' : World), k.toNat < i + m → i ≤ k.toNat → Chg (fun j => j = b) w w' → OwnI w' b .u64 51 (fillM mem at_.toNat i x) →
        V102.l0 w.heap.size (IsP w b (.int .i64 0) .u64 51 (fillM mem at_.toNat k.toNat x)) m x (if mem.length = at_.toNat then some ⟨b, 0, none⟩ else some ⟨b, at_.toNat, none⟩) k.toNat (mem.length - at_.toNat) 0 k.toNat i w' := by
      intro m
      induction m with
      | zero => intros; omega
      | succ m ih =>
        intro i w' hm hile hc ho
        dsimp -zeta only [V102.l0]
        by_cases hlt : i < k.toNat
        · rw [if_pos (by simp; omega), if_neg (by omega)]
          simp only [Int.toNat_natCast, bx_add, Nat.add_zero]
          have hget : (fillM mem at_.toNat i x)[at_.toNat + i]? = some ((fillM mem at_.toNat i x)[at_.toNat + i]'(by rw [fillM_len]; omega)) := List.getElem?_eq_getElem _
          have hcell := ho.cell hget
          rw [own_add] at hcell
          refine ⟨_, rfl, by omega, by omega, ?_, ?_, ?_⟩
          · rw [bx_add, bx_add, Nat.add_zero]; exact ⟨_, hcell⟩
          · rw [bx_add, bx_add, Nat.add_zero]; exact at_frozen ho _
          · rw [bx_add, bx_add, Nat.add_zero]
            have hset := ho.set (at_.toNat + i) x
            rw [own_add, bx_add, Nat.add_zero] at hset
            have hwr : IntKind.wrap .i64 ((i : Int) + 1) = ((i + 1 : Nat) : Int) := by rw [wrap_id (by omega) (by omega)]; rfl
            rw [hwr]
            have := ih (i + 1) _ (by omega) (by omega) (hc.setCell (a := ⟨b, at_.toNat + i, none⟩) (.int .u64 x) (fun _ => rfl)) hset
            rw [if_neg (by omega)] at this
            exact this
        · rw [if_neg (by simp; omega)]
          have : i = k.toNat := by omega
          subst this
          exact ret_p hc rfl ho
    have hz := loop (k.toNat + 1) 0 w1 (by omega) (by omega) hc1 h1.words
    have hkk : ((k.toNat : Nat) : Int) = k := Int.toNat_of_nonneg hi.2.1
    exact hz
  · rw [if_neg hin]
    refine ⟨_, _, _, _, rfl, 1, ?_⟩
    dsimp -zeta only [V102.l0]
    rw [if_neg (by simp)]
    exact ret_p hc1 (by unfold errV; rw [if_neg hin]) (by unfold fillV; rw [if_neg hin]; exact h1.words)
/-- What is stored. -/
def storeV (mem : List Int) (at_ x : Int) : List Int := if inM mem.length at_ 1 = true then mem.set at_.toNat x else mem
theorem store_fill (mem : List Int) (at_ x : Int) : fillV mem at_ 1 x = storeV mem at_ x := by
  unfold fillV storeV
  split
  · show (fillM mem at_.toNat 0 x).set (at_.toNat + 0) x = _
    rfl
  · rfl
theorem storeV_len (mem : List Int) (at_ x : Int) : (storeV mem at_ x).length = mem.length := by unfold storeV; split <;> simp
theorem storeV_wd {mem : List Int} (h : Wd mem) (at_ : Int) {x : Int} (hx : 0 ≤ x ∧ x < 18446744073709551616) : Wd (storeV mem at_ x) := by
  unfold storeV; split
  · exact h.set _ hx
  · exact h
theorem fillV_len (mem : List Int) (at_ k x : Int) : (fillV mem at_ k x).length = mem.length := by unfold fillV; split <;> simp [fillM_len]
theorem fillV_wd {mem : List Int} (h : Wd mem) (at_ k : Int) {x : Int} (hx : 0 ≤ x ∧ x < 18446744073709551616) : Wd (fillV mem at_ k x) := by
  unfold fillV; split
  · exact fillM_wd h _ hx _
  · exact h
theorem puts70 (h : ArenaAt w g b mem) (at_ x : Int) : Puts Try.prog 70 [.pointer (some ⟨g, 0, none⟩), .int .i64 at_, .int .u64 x] w b (errV mem at_ 1) .u64 51 (storeV mem at_ x) := by
  refine puts_of (V70.sound ?_)
  unfold V70.vc
  rw [← store_fill]
  refine call_puts (Nat.le_refl _) h.words (fun w1 e1 => puts102 (h.ext e1) at_ 1 x) fun w1 e1 ho => ?_
  exact ⟨_, rfl, ret_p (e1.chgS (Chg.refl _ _)) rfl ho⟩
end
end Go.Proofs.Ytlccbaemcfjdoaa
