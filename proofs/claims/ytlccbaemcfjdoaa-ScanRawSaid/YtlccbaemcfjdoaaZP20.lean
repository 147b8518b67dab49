/-
  Layer 20: the plain law of walkers: what runs of steps read of a chain of frames.
  Conditions: none.
-/
import Derived.Test.YtlccbaemcfjdoaaZA20
set_option linter.unusedVariables false
set_option linter.unusedSimpArgs false
namespace Go.Proofs.Ytlccbaemcfjdoaa
open Go.RowKit
def runW (p : List Fnc) (mem : List Int) : Nat → Wk → Wk × List LookW
  | 0, s => (s, [])
  | n + 1, s => ((runW p mem n (stepW p mem s).1).1, (stepW p mem s).2 :: (runW p mem n (stepW p mem s).1).2)
section
variable {p : List Fnc} {mem : List Int}
theorem runW_len : ∀ (n : Nat) (s : Wk), (runW p mem n s).2.length = n
  | 0, _ => rfl
  | n + 1, s => by simp [runW, runW_len n]
theorem runW_add : ∀ (n m : Nat) (s : Wk), runW p mem (n + m) s = ((runW p mem m (runW p mem n s).1).1, (runW p mem n s).2 ++ (runW p mem m (runW p mem n s).1).2)
  | 0, m, s => by simp [runW]
  | n + 1, m, s => by
    rw [show n + 1 + m = (n + m) + 1 by omega]
    simp only [runW, runW_add n m, List.cons_append]
theorem runW_succ (n : Nat) (s : Wk) : runW p mem (n + 1) s = ((stepW p mem (runW p mem n s).1).1, (runW p mem n s).2 ++ [(stepW p mem (runW p mem n s).1).2]) := by
  rw [runW_add n 1 s]; rfl
theorem runW_get (n : Nat) (s : Wk) {i : Nat} (hi : i < n) : (runW p mem n s).2[i]? = some (stepW p mem (runW p mem i s).1).2 := by
  obtain ⟨m, rfl⟩ : ∃ m, n = i + 1 + m := ⟨n - (i + 1), by omega⟩
  rw [runW_add, runW_succ]
  have := runW_len (p := p) (mem := mem) i s
  rw [List.getElem?_append_left (by simp; omega), List.getElem?_append_right (by omega), this, Nat.sub_self]
  rfl
end
def firstM (G : Fnc) : Int := aheadM G + G.locals - G.refs
def endW (a b : Int) (G : Fnc) (i : Nat) (R : List Int) : Wk := if i = G.refs.toNat then ⟨b, 0, b, G, R⟩ else ⟨a, 2 + i, b, G, R⟩
section
variable {p : List Fnc} {mem : List Int}
theorem step_ref {a b : Int} {G : Fnc} {i : Nat} {R : List Int} {v : Int} (hi : i < G.refs.toNat) (ha : 0 ≤ a) (hf : 0 ≤ firstM G) (hm : a + firstM G + i < mem.length) (hv : mem.getD (a + firstM G + i).toNat 0 = v) :
    stepW p mem (endW a b G i R) = (endW a b G (i + 1) (R ++ nz [v]), (a + firstM G + i, decide (i + 1 = G.refs.toNat ∧ b = -1), 0)) := by
  have he : endW a b G i R = ⟨a, 2 + i, b, G, R⟩ := by unfold endW; rw [if_neg (by omega)]
  have hat : atW ⟨a, 2 + i, b, G, R⟩ = a + firstM G + i := by
    unfold atW firstM
    simp only
    rw [if_pos (by omega)]
    omega
  have adv : ∀ R', advW ⟨a, 2 + i, b, G, R'⟩ (a + firstM G + i) = (endW a b G (i + 1) R', (a + firstM G + i, decide (i + 1 = G.refs.toNat ∧ b = -1), 0)) := fun R' => by
    unfold advW movedW endW
    simp only
    by_cases hl : i + 1 = G.refs.toNat
    · rw [if_pos (by omega), if_pos hl]
      simp only [hl, true_and]
    · rw [if_neg (by omega), if_neg hl]
      simp only [hl, false_and, decide_false]
      rw [decide_eq_false (by omega)]
      congr 2
  rw [he]
  unfold stepW
  rw [if_neg (by simp only; omega), hat, if_pos (by unfold inM; exact decide_eq_true (by omega)), if_neg (by simp only; omega), if_neg (by simp only; omega), hv]
  by_cases h0 : v = 0
  · rw [if_neg (by simpa using h0), adv]
    simp [nz, h0]
  · rw [if_pos h0]
    simp only
    rw [adv]
    simp [nz, h0]
end
end Go.Proofs.Ytlccbaemcfjdoaa
