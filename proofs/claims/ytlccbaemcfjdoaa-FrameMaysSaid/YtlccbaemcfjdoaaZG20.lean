/-
  Layer 20: a program cloned, in memory of its own.
  Conditions: the program lies in memory as told.
-/
import Derived.Test.YtlccbaemcfjdoaaZX18
import Derived.Test.YtlccbaemcfjdoaaZWH
set_option linter.unusedVariables false
set_option linter.unusedSimpArgs false
namespace Go.Proofs.Ytlccbaemcfjdoaa
open Go.RowKit
section
variable {α σ : Type} (cs : α → σ → List Value)
def flatC : List α → List σ → List Value
  | x :: xs, s :: ss => cs x s ++ flatC xs ss
  | _, _ => []
variable {cs} {sz : Nat} (hsz : ∀ x s, (cs x s).length = sz)
include hsz
theorem flatC_len : ∀ {xs : List α} {ss : List σ}, ss.length = xs.length → (flatC cs xs ss).length = xs.length * sz
  | [], [], _ => by simp [flatC]
  | [], _ :: _, h => by simp at h
  | _ :: _, [], h => by simp at h
  | x :: xs, s :: ss, h => by
    have := flatC_len (xs := xs) (ss := ss) (by simpa using h)
    simp only [flatC, List.length_append, hsz, this, List.length_cons, Nat.add_mul]
    omega
theorem flatC_get : ∀ {xs : List α} {ss : List σ} {i j : Nat} {x : α} {s : σ} {u : Value}, xs[i]? = some x → ss[i]? = some s → (cs x s)[j]? = some u → (flatC cs xs ss)[i * sz + j]? = some u
  | [], ss, i, j, x, s, u, h, _, _ => by simp at h
  | y :: xs, [], i, j, x, s, u, _, h, _ => by simp at h
  | y :: xs, t :: ss, 0, j, x, s, u, h, hs, hu => by
    simp at h hs; subst h; subst hs
    have hj := (List.getElem?_eq_some_iff.1 hu).1
    rw [show 0 * sz + j = j by omega]
    show (cs y t ++ flatC cs xs ss)[j]? = _
    rw [List.getElem?_append_left hj]; exact hu
  | y :: xs, t :: ss, i + 1, j, x, s, u, h, hs, hu => by
    have := flatC_get (xs := xs) (ss := ss) (i := i) (j := j) (by simpa using h) (by simpa using hs) hu
    show (cs y t ++ flatC cs xs ss)[(i + 1) * sz + j]? = _
    have he : (i + 1) * sz = i * sz + sz := by rw [Nat.add_mul]; omega
    rw [List.getElem?_append_right (by rw [hsz]; omega), hsz, show (i + 1) * sz + j - sz = i * sz + j by omega]
    exact this
theorem flatC_inv : ∀ {xs : List α} {ss : List σ} {j : Nat} {u : Value}, (flatC cs xs ss)[j]? = some u → ∃ i r x s, j = i * sz + r ∧ xs[i]? = some x ∧ ss[i]? = some s ∧ (cs x s)[r]? = some u
  | [], ss, j, u, h => by simp [flatC] at h
  | y :: xs, [], j, u, h => by simp [flatC] at h
  | y :: xs, t :: ss, j, u, h => by
    change (cs y t ++ flatC cs xs ss)[j]? = some u at h
    by_cases hj : j < sz
    · rw [List.getElem?_append_left (by rw [hsz]; exact hj)] at h
      exact ⟨0, j, y, t, by omega, rfl, rfl, h⟩
    · rw [List.getElem?_append_right (by rw [hsz]; omega), hsz] at h
      obtain ⟨i, r, x, s, h1, h2, h3, h4⟩ := flatC_inv h
      refine ⟨i + 1, r, x, s, ?_, by simpa using h2, by simpa using h3, h4⟩
      have he : (i + 1) * sz = i * sz + sz := by rw [Nat.add_mul]; omega
      omega
end
theorem each_some {α σ : Type} {Q : Nat → α → σ → Prop} {xs : List α} (h : ∀ i x, xs[i]? = some x → ∃ s, Q i x s) : ∀ n, n ≤ xs.length → ∃ ss : List σ, ss.length = n ∧ ∀ i x s, xs[i]? = some x → ss[i]? = some s → Q i x s
  | 0, _ => ⟨[], rfl, fun i x s _ hs => by simp at hs⟩
  | n + 1, hn => by
    obtain ⟨ss, hl, hq⟩ := each_some h n (by omega)
    have hx : xs[n]? = some (xs[n]'(by omega)) := List.getElem?_eq_getElem _
    obtain ⟨s, hs⟩ := h n _ hx
    refine ⟨ss ++ [s], by simp [hl], fun i x t hx' ht => ?_⟩
    by_cases hi : i < n
    · rw [List.getElem?_append_left (by omega)] at ht
      exact hq i x t hx' ht
    · have hin : i = n := by have := (List.getElem?_eq_some_iff.1 ht).1; simp at this; omega
      subst hin
      rw [List.getElem?_append_right (by omega), hl, Nat.sub_self] at ht
      have : s = t := by simpa using ht
      subst this
      rw [hx] at hx'; cases hx'
      exact hs
end Go.Proofs.Ytlccbaemcfjdoaa
