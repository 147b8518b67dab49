/-
  Layer 17: whichever way a function that is let through is gone, the depths are as told: the law's function ProgWays returns true.
  Conditions: the arguments' memory says what their values are.
-/
import Derived.Test.YtlccbaemcfjdoaaC17j
import Derived.Test.YtlccbaemcfjdoaaVB
set_option linter.unusedVariables false
set_option linter.unusedSimpArgs false
namespace Go.Proofs.Ytlccbaemcfjdoaa
open Go.RowKit

theorem tosM_true {n : Nat} {behind : Int} : ∀ {ts d : List Int} {d' : List Int}, tosM n behind ts d true ≠ some (d', false)
  | [], d, d', h => by simp [tosM] at h
  | t :: ts, d, d', h => by
    unfold tosM at h
    split at h
    · cases h
    · split at h
      · split at h
        · exact tosM_true h
        · cases h
      · exact tosM_true h
theorem tosM_still {n : Nat} {behind : Int} : ∀ {ts d d' : List Int}, tosM n behind ts d false = some (d', false) → d' = d ∧ ∀ t ∈ ts, t < (n : Int) ∧ d.getD t.toNat 0 = behind
  | [], d, d', h => by
    simp only [tosM, Option.some.injEq, Prod.mk.injEq] at h
    exact ⟨h.1.symm, fun t ht => by cases ht⟩
  | t :: ts, d, d', h => by
    unfold tosM at h
    split at h
    · cases h
    · rename_i hn
      split at h
      · split at h
        · rename_i he
          obtain ⟨h1, h2⟩ := tosM_still h
          refine ⟨h1, fun u hu => ?_⟩
          rcases List.mem_cons.1 hu with rfl | hu
          · exact ⟨by omega, he⟩
          · exact h2 u hu
        · cases h
      · exact absurd h tosM_true
theorem scanM_true {p : List Fnc} {n : Nat} : ∀ {xs : List Ins} {i : Nat} {d d' : List Int}, scanM p n xs i d true ≠ .inr (d', false)
  | [], i, d, d', h => by simp [scanM] at h
  | x :: r, i, d, d', h => by
    unfold scanM at h
    split at h
    · exact scanM_true h
    · split at h
      · cases h
      · split at h
        · cases h
        · rename_i d1 f1 ht
          cases f1 with
          | true => exact scanM_true h
          | false => exact tosM_true ht
/-- What the last round tells of each place. -/
def Steady (p : List Fnc) (n : Nat) (d : List Int) (j : Nat) (x : Ins) : Prop :=
  0 ≤ d.getD j 0 → popsM p x.op x.a ≤ d.getD j 0 ∧ d.getD j 0 - popsM p x.op x.a + pushesI x.op ≤ 8 ∧ ∀ t ∈ nextM j x.op x.a, t < (n : Int) ∧ d.getD t.toNat 0 = d.getD j 0 - popsM p x.op x.a + pushesI x.op
theorem scanM_still {p : List Fnc} {n : Nat} : ∀ {xs : List Ins} {i : Nat} {d d' : List Int}, scanM p n xs i d false = .inr (d', false) → d' = d ∧ ∀ j x, xs[j]? = some x → Steady p n d (i + j) x
  | [], i, d, d', h => by
    simp only [scanM, Sum.inr.injEq, Prod.mk.injEq] at h
    exact ⟨h.1.symm, fun j x hx => by simp at hx⟩
  | y :: r, i, d, d', h => by
    unfold scanM at h
    split at h
    · rename_i hneg
      obtain ⟨h1, h2⟩ := scanM_still h
      refine ⟨h1, fun j x hx => ?_⟩
      cases j with
      | zero => intro h0; rw [Nat.add_zero] at h0; omega
      | succ j => have := h2 j x (by simpa using hx); rwa [show i + 1 + j = i + (j + 1) by omega] at this
    · rename_i hneg
      split at h
      · cases h
      · rename_i hok
        split at h
        · cases h
        · rename_i d1 f1 ht
          cases f1 with
          | true => exact absurd h scanM_true
          | false =>
            obtain ⟨rfl, h3⟩ := tosM_still ht
            obtain ⟨h1, h2⟩ := scanM_still h
            refine ⟨h1, fun j x hx => ?_⟩
            cases j with
            | zero =>
              simp at hx
              subst hx
              rw [Nat.add_zero]
              exact fun _ => ⟨by omega, by omega, h3⟩
            | succ j => have := h2 j x (by simpa using hx); rwa [show i + 1 + j = i + (j + 1) by omega] at this
theorem fixM_still {p : List Fnc} {xs : List Ins} (hfew : Few p) (hjmp : ∀ x ∈ xs, x.op = 15 ∨ x.op = 16 → 0 ≤ x.a) : ∀ {k : Nat} {d d' : List Int}, negs d < k → DOk xs.length d → fixM p xs k d = .inr d' →
    (∀ j x, xs[j]? = some x → Steady p xs.length d' j x) ∧ (∀ i, 0 ≤ d.getD i 0 → d'.getD i 0 = d.getD i 0)
  | 0, d, d', hk, _, _ => by omega
  | k + 1, d, d', hk, hd, h => by
    unfold fixM at h
    split at h
    · cases h
    · rename_i d1 hs
      obtain ⟨h1, h2, h3, h4⟩ := scanM_ok hfew hd hjmp hs
      have hlt : negs d1 < negs d := by
        rcases h3 rfl with h | h
        · cases h
        · exact h
      obtain ⟨g1, g2⟩ := fixM_still hfew hjmp (by omega) h1 h
      exact ⟨g1, fun i hi => by rw [g2 i (by rw [h4 i hi]; exact hi), h4 i hi]⟩
    · rename_i d1 hs
      cases h
      obtain ⟨rfl, h2⟩ := scanM_still hs
      exact ⟨fun j x hx => by have := h2 j x hx; rwa [Nat.zero_add] at this, fun _ _ => rfl⟩
theorem depths_still {p : List Fnc} {xs : List Ins} {d : List Int} (hfew : Few p) (hjmp : ∀ x ∈ xs, x.op = 15 ∨ x.op = 16 → 0 ≤ x.a) (h : depthsM p xs = .inr d) : (∀ j x, xs[j]? = some x → Steady p xs.length d j x) ∧ DOk xs.length d ∧ (1 ≤ xs.length → d.getD 0 0 = 0) := by
  unfold depthsM at h
  have hneg : negs (start xs.length) < xs.length + 1 := by have := negs_le (start xs.length); rw [(start_ok xs.length).1] at this; omega
  obtain ⟨h1, h2⟩ := fixM_still hfew hjmp hneg (start_ok _) h
  refine ⟨h1, fixM_len hfew hjmp (start_ok _) h, fun hl => ?_⟩
  have h0 : (start xs.length).getD 0 0 = 0 := by
    have : (start xs.length)[0]? = some 0 := by
      unfold start initM
      rw [List.getElem?_map, List.getElem?_range (by omega)]
      rfl
    rw [List.getD, this]; rfl
  rw [h2 0 (by rw [h0]; omega), h0]
end Go.Proofs.Ytlccbaemcfjdoaa
