import Derived.Test.YtofblkmibghmbaaDoorZF6
import Derived.Lib.ItoaNum
import Derived.Test.YtofblkmibghmbaaDoorZEngC
import Derived.Test.YtofblkmibghmbaaDoorProg
/-
  Layer 2: texts of numbers, and that they tell them apart.
  Conditions: none.
-/
set_option linter.unusedVariables false
set_option linter.unusedSimpArgs false
set_option exponentiation.threshold 3000
set_option maxRecDepth 20000
namespace Go.Proofs.YtofblkmibghmbaaDoor
open Ieee
def rdD (l : List UInt8) : Nat := l.foldl (fun n c => n * 10 + (c.toNat - 48)) 0
theorem rdD_app (l : List UInt8) (c : UInt8) : rdD (l ++ [c]) = rdD l * 10 + (c.toNat - 48) := by simp [rdD]
theorem dig_nat {d : Nat} (h : d < 10) : (UInt8.ofNat (48 + d)).toNat = 48 + d := by
  simp [UInt8.toNat_ofNat']; omega
theorem rdD_dec (u : Nat) : rdD (Lib.decDigits u) = u := by
  induction u using Nat.strongRecOn with
  | _ u ih =>
    by_cases h : u < 10
    · rw [Lib.decDigits, dif_pos h]
      have := dig_nat h
      simp only [rdD, List.foldl_cons, List.foldl_nil, this]; omega
    · rw [Lib.decDigits, dif_neg h, rdD_app, ih (u / 10) (by omega), dig_nat (Nat.mod_lt _ (by omega))]; omega
theorem dec_all (u : Nat) : ∀ c ∈ Lib.decDigits u, 48 ≤ c.toNat ∧ c.toNat ≤ 57 := by
  induction u using Nat.strongRecOn with
  | _ u ih =>
    intro c hc
    by_cases h : u < 10
    · rw [Lib.decDigits, dif_pos h] at hc
      rw [List.mem_singleton] at hc
      rw [hc, dig_nat h]; omega
    · rw [Lib.decDigits, dif_neg h] at hc
      rcases List.mem_append.1 hc with hc | hc
      · exact ih (u / 10) (by omega) c hc
      · rw [List.mem_singleton] at hc
        have := Nat.mod_lt u (show 10 > 0 by omega)
        rw [hc, dig_nat this]; omega
theorem dec_ne (u : Nat) : Lib.decDigits u ≠ [] := fun h => by
  have h2 := Lib.decDigits_length u
  have h3 := Lib.nDigits_pos u
  rw [h] at h2; simp at h2; omega
theorem dec_head {u : Nat} (h0 : 0 < u) : ∀ r, Lib.decDigits u ≠ 48 :: r := by
  induction u using Nat.strongRecOn with
  | _ u ih =>
    intro r hr
    by_cases h : u < 10
    · rw [Lib.decDigits, dif_pos h] at hr
      have h1 := dig_nat h
      simp only [List.cons.injEq] at hr
      rw [hr.1] at h1
      have : (48 : UInt8).toNat = 48 := rfl
      omega
    · rw [Lib.decDigits, dif_neg h] at hr
      cases hd : Lib.decDigits (u / 10) with
      | nil => exact dec_ne _ hd
      | cons c cs =>
        rw [hd] at hr
        simp only [List.cons_append, List.cons.injEq] at hr
        exact ih (u / 10) (by omega) (by omega) cs (by rw [hd, hr.1])
end Go.Proofs.YtofblkmibghmbaaDoor

/-
  What the engine makes of the loaded functions e80, e81, e106, e110, e112, e114: conditions under which a call returns as told, and proofs of that.
  Conditions: none. Printed by a program of this project.
-/
set_option linter.unusedVariables false
set_option maxRecDepth 100000
namespace Go.Proofs.YtofblkmibghmbaaDoor
theorem mixed : Tryd.prog.follows .mixedOrders = true := by kernel_rfl
noncomputable def V80.ext : List Value → Sem Value := fun l => Extern.MathFloatBits.float64bits ⟨l⟩
theorem V80.extOk : ExtOk Tryd.prog 80 V80.ext := extOk_of Tryd.func80 (by kernel_rfl) (by kernel_rfl) (by kernel_rfl) (by kernel_rfl)
noncomputable def V81.ext : List Value → Sem Value := fun l => Extern.MathFloatBits.float64frombits ⟨l⟩
theorem V81.extOk : ExtOk Tryd.prog 81 V81.ext := extOk_of Tryd.func81 (by kernel_rfl) (by kernel_rfl) (by kernel_rfl) (by kernel_rfl)
end Go.Proofs.YtofblkmibghmbaaDoor
