/-
  Layer 1 of the document's answer: rows of numbers held against one another.
  Conditions: the arguments' memory says what their values are.
-/
import Derived.Test.YtlccbaemcfjdoaaZEngD
import Derived.Test.YtlccbaemcfjdoaaZVQ
set_option linter.unusedVariables false
set_option linter.unusedSimpArgs false
namespace Go.Proofs.Ytlccbaemcfjdoaa
open Go.RowKit
theorem l40 {w0 : World} {A A' : Option Addr} {l c l' c' : Nat} {xs ys : List Int} (hx : Nums .i64 w0 A l xs) (hy : Nums .i64 w0 A' l' ys) (hl : l = l') (w : World) (hw : Below w0.heap.size w0 w) :
    ∀ (k i : Nat), l < i + k → i ≤ l → (∀ j, j < i → xs[j]? = ys[j]?) → V40.l0 w0.heap.size (IsV w0 (.bool (xs == ys))) k A l c A' l' c' i w
  | 0, i, hk, hi, _ => by omega
  | k + 1, i, hk, hi, hall => by
    dsimp -zeta only [V40.l0]
    by_cases h : i < l
    · rw [if_pos (by simpa using h)]
      obtain ⟨n, p, hn, hp, hc⟩ := hx.at h
      obtain ⟨m, q, hm, hq, hd⟩ := hy.at (hl ▸ h)
      have hc' := (hw.cell (cell_lt hc)).trans hc
      have hd' := (hw.cell (cell_lt hd)).trans hd
      refine ⟨p, hp, by omega, by omega, n, by simpa using hc', q, hq, by omega, by omega, m, by simpa using hd', ?_⟩
      by_cases hnm : n = m
      · rw [if_neg (by simp [hnm]), wrap_succ h hx.small]
        refine l40 hx hy hl w hw k (i + 1) (by omega) (by omega) fun j hj => ?_
        rcases Nat.lt_succ_iff_lt_or_eq.1 hj with h1 | h1
        · exact hall j h1
        · subst h1; rw [hn, hm, hnm]
      · rw [if_pos (by simpa using hnm)]
        refine ret_is hw ?_
        have : xs ≠ ys := fun e => by subst e; rw [hn] at hm; cases hm; exact hnm rfl
        simp [this]
    · rw [if_neg (by simpa using h)]
      refine ret_is hw ?_
      have : xs = ys := by
        apply List.ext_getElem?
        intro j
        by_cases hj : j < i
        · exact hall j hj
        · rw [List.getElem?_eq_none (by have := hx.len; omega), List.getElem?_eq_none (by have := hy.len; omega)]
      simp [this]
theorem gives40 {w : World} {A A' : Option Addr} {l c l' c' : Nat} {xs ys : List Int} (hx : Nums .i64 w A l xs) (hy : Nums .i64 w A' l' ys) : Gives Try.prog 40 [.slice A l c, .slice A' l' c'] w (.bool (xs == ys)) := by
  refine gives_of (V40.sound ?_)
  unfold V40.vc
  by_cases h : l = l'
  · rw [if_neg (by simp [h])]
    exact ⟨l + 1, l40 hx hy h w (Below.refl _ _) (l + 1) 0 (by omega) (by omega) (fun j hj => by omega)⟩
  · rw [if_pos (by simp; omega)]
    refine ret_is (Below.refl _ _) ?_
    have : xs ≠ ys := fun e => h (by rw [← hx.len, ← hy.len, e])
    simp [this]
end Go.Proofs.Ytlccbaemcfjdoaa
