/-
  Layer 2: texts of numbers, and that they tell them apart.
  Conditions: none.
-/
import Derived.Test.YtofblkmibghmbaaDoorZF6
import Derived.Lib.ItoaNum
set_option linter.unusedVariables false
set_option linter.unusedSimpArgs false
set_option exponentiation.threshold 3000
set_option maxRecDepth 20000
namespace Go.Proofs.YtofblkmibghmbaaDoor
open Ieee
def rdD (l : List UInt8) : Nat := l.foldl (fun n c => n * 10 + (c.toNat - 48)) 0
theorem rdD_app (l : List UInt8) (c : UInt8) : rdD (l ++ [c]) = rdD l * 10 + (c.toNat - 48) := by simp [rdD]
theorem dig_nat {d : Nat} (h : d < 10) : (UInt8.ofNat (48 + d)).toNat = 48 + d := by
  simp [UInt8.toNat_ofNat']; omega
theorem rdD_dec (u : Nat) : rdD (Lib.decDigits u) = u := by
  induction u using Nat.strongRecOn with
  | _ u ih =>
    by_cases h : u < 10
    · rw [Lib.decDigits, dif_pos h]
      have := dig_nat h
      simp only [rdD, List.foldl_cons, List.foldl_nil, this]; omega
    · rw [Lib.decDigits, dif_neg h, rdD_app, ih (u / 10) (by omega), dig_nat (Nat.mod_lt _ (by omega))]; omega
theorem dec_all (u : Nat) : ∀ c ∈ Lib.decDigits u, 48 ≤ c.toNat ∧ c.toNat ≤ 57 := by
  induction u using Nat.strongRecOn with
  | _ u ih =>
    intro c hc
    by_cases h : u < 10
    · rw [Lib.decDigits, dif_pos h] at hc
      rw [List.mem_singleton] at hc
      rw [hc, dig_nat h]; omega
    · rw [Lib.decDigits, dif_neg h] at hc
      rcases List.mem_append.1 hc with hc | hc
      · exact ih (u / 10) (by omega) c hc
      · rw [List.mem_singleton] at hc
        have := Nat.mod_lt u (show 10 > 0 by omega)
        rw [hc, dig_nat this]; omega
theorem dec_ne (u : Nat) : Lib.decDigits u ≠ [] := fun h => by
  have h2 := Lib.decDigits_length u
  have h3 := Lib.nDigits_pos u
  rw [h] at h2; simp at h2; omega
theorem dec_head {u : Nat} (h0 : 0 < u) : ∀ r, Lib.decDigits u ≠ 48 :: r := by
  induction u using Nat.strongRecOn with
  | _ u ih =>
    intro r hr
    by_cases h : u < 10
    · rw [Lib.decDigits, dif_pos h] at hr
      have h1 := dig_nat h
      simp only [List.cons.injEq] at hr
      rw [hr.1] at h1
      have : (48 : UInt8).toNat = 48 := rfl
      omega
    · rw [Lib.decDigits, dif_neg h] at hr
      cases hd : Lib.decDigits (u / 10) with
      | nil => exact dec_ne _ hd
      | cons c cs =>
        rw [hd] at hr
        simp only [List.cons_append, List.cons.injEq] at hr
        exact ih (u / 10) (by omega) (by omega) cs (by rw [hd, hr.1])
def hxd (d : Nat) : UInt8 := if d < 10 then UInt8.ofNat (48 + d) else UInt8.ofNat (87 + d)
def hexL : Nat → Nat → List UInt8
  | 0, _ => []
  | k + 1, u => hexL k (u / 16) ++ [hxd (u % 16)]
def hexN (u : Nat) : List UInt8 :=
  if h : u < 16 then [hxd u] else hexN (u / 16) ++ [hxd (u % 16)]
termination_by u
decreasing_by omega
theorem hexN_len (u : Nat) : 1 ≤ (hexN u).length := by
  rw [hexN]; split <;> simp
theorem hexL_zero : ∀ k, hexL k 0 = List.replicate k 48
  | 0 => rfl
  | k + 1 => by
    simp only [hexL, Nat.zero_div, hexL_zero k, Nat.zero_mod]
    rw [List.replicate_succ']; rfl
theorem hex_pad : ∀ {k u : Nat}, u < 16 ^ (k + 1) → (hexN u).length ≤ k + 1 ∧ List.replicate (k + 1 - (hexN u).length) 48 ++ hexN u = hexL (k + 1) u
  | k, u, hu => by
    by_cases h : u < 16
    · rw [hexN, dif_pos h]
      simp only [List.length_singleton, hexL, Nat.div_eq_of_lt h, Nat.mod_eq_of_lt h, hexL_zero]
      exact ⟨by omega, by simp⟩
    · rw [hexN, dif_neg h]
      cases k with
      | zero => simp at hu; omega
      | succ k =>
        have hu2 : u / 16 < 16 ^ (k + 1) := by rw [Nat.pow_succ 16 (k + 1)] at hu; omega
        obtain ⟨h1, h2⟩ := hex_pad (k := k) hu2
        have h3 := hexN_len (u / 16)
        simp only [List.length_append, List.length_singleton]
        refine ⟨by omega, ?_⟩
        have e : hexL (k + 1 + 1) u = hexL (k + 1) (u / 16) ++ [hxd (u % 16)] := rfl
        rw [e, ← h2, show k + 1 + 1 - ((hexN (u / 16)).length + 1) = k + 1 - (hexN (u / 16)).length by omega, List.append_assoc]
def whB (w : Nat) : Bool := decide (rg w < 1076 * BN) && (decide (1074 ≤ up (rg w)) || decide (kp (rg w) % 2 ^ (1074 - up (rg w)) = 0))
theorem whB_iff (w : Nat) : whB w = true ↔ rg w < 1076 * BN ∧ wh w := by
  unfold whB wh; simp
def intF (w : Nat) : Int := ((double.read w).toInt .zero).getD 0
def textF (w : Nat) : List UInt8 :=
  if nanw w = true then [110, 97, 110] else if w = IR then [105, 110, 102] else if w = SW + IR then [45, 105, 110, 102] else if w = SW then [45, 48]
  else if whB w = true then Lib.itoa (intF w) else 48 :: 120 :: hexL 16 w
theorem whole_int {w : Nat} (hw : w < 2 * SW) (h : whB w = true) (hz : w ≠ SW) : ∃ z : Int, z.natAbs < 2 * BN ∧ w = Iw z ∧ (double.read w).toInt .zero = some z ∧ intF w = z := by
  obtain ⟨h1, h2⟩ := (whB_iff w).1 h
  obtain ⟨n, hn, e1, e2⟩ := whole_spec hw h1 h2
  refine ⟨sgn (ngw w) n, by unfold sgn; split <;> omega, ?_, e2, by unfold intF; rw [e2]; rfl⟩
  unfold Iw
  cases hs : ngw w
  · rw [hs] at e1
    have : ¬ (sgn false n < 0) := by simp [sgn]
    simp only [this, decide_false]
    rw [show (sgn false n).natAbs = n by simp [sgn]]
    exact e1
  · rw [hs] at e1
    by_cases h0 : n = 0
    · subst h0
      exact absurd e1 (fun e => hz (e.trans (by decide)))
    · have : (sgn true n < 0) := by simp [sgn]; omega
      simp only [this, decide_true]
      rw [show (sgn true n).natAbs = n by simp [sgn]]
      exact e1
end Go.Proofs.YtofblkmibghmbaaDoor
