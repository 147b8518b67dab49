/-
  Layer 2: which words are whole numbers; floors against their numbers.
  Conditions: none.
-/
import Derived.Test.YtofblkmibghmbaaDoorZF5
set_option linter.unusedVariables false
set_option linter.unusedSimpArgs false
set_option exponentiation.threshold 3000
set_option maxRecDepth 20000
namespace Go.Proofs.YtofblkmibghmbaaDoor
open Ieee
def wh (w : Nat) : Prop := 1074 ≤ up (rg w) ∨ kp (rg w) % 2 ^ (1074 - up (rg w)) = 0
theorem sgn_inj {s : Bool} {m n : Nat} (h : sgn s m = sgn s n) : m = n := by
  cases s <;> simp only [sgn, if_true, Bool.false_eq_true, if_false] at h <;> omega
theorem tt_int : (0 : Int) < (TT : Int) := by exact_mod_cast tt_pos
theorem sr_eq_low {w : Nat} (hu : up (rg w) < 1074) {n : Nat} (hn : n < 2 * BN) : sr (iw (ngw w) n) = sr w ↔ n * 2 ^ (1074 - up (rg w)) = kp (rg w) := by
  rw [← (vl_lt (iw (ngw w) n) w).2, vl_tt _ hn, vl_low hu, vl_kp]
  have hp : (0 : Int) < ((2 ^ up (rg w) : Nat) : Int) := by exact_mod_cast Nat.two_pow_pos _
  constructor
  · intro h; exact sgn_inj (Int.eq_of_mul_eq_mul_right (Int.ne_of_gt hp) h)
  · intro h; rw [h]
theorem trc_whole {w : Nat} (hw : w < 2 * SW) (h : rg w < IR) : sr (trc w) = sr w ↔ wh w := by
  have hb := bn_pos
  rcases trc_spec hw h with ⟨hu, e⟩ | ⟨hu, e, hl⟩
  · rw [e]; exact ⟨fun _ => .inl hu, fun _ => rfl⟩
  · rw [e, sr_eq_low hu (by omega)]
    have hdm := Nat.div_add_mod (kp (rg w)) (2 ^ (1074 - up (rg w)))
    rw [Nat.mul_comm] at hdm
    unfold wh
    constructor
    · intro k; right; omega
    · intro k; rcases k with k | k <;> omega
theorem flr_low {w : Nat} (h : rg w < IR) (hu : up (rg w) < 1074) : flr w = iw (ngw w) (kp (rg w) / 2 ^ (1074 - up (rg w)) + (ngw w && kp (rg w) % 2 ^ (1074 - up (rg w)) != 0).toNat) := by
  have hlt := half_lt (kp_lt (rg w)) (show 0 < 1074 - up (rg w) by omega)
  unfold flr
  rw [integral_low _ h hu, (cut_any _ _ _).1]
  refine write_nat _ ?_
  have : (ngw w && kp (rg w) % 2 ^ (1074 - up (rg w)) != 0).toNat ≤ 1 := Bool.toNat_le _
  have := bn_pos
  omega
theorem flr_whole {w : Nat} (hw : w < 2 * SW) (h : rg w < IR) : sr (flr w) = sr w ↔ wh w := by
  rcases Nat.lt_or_ge (up (rg w)) 1074 with hu | hu
  · have hlt := half_lt (kp_lt (rg w)) (show 0 < 1074 - up (rg w) by omega)
    have hb := bn_pos
    have ht : (ngw w && kp (rg w) % 2 ^ (1074 - up (rg w)) != 0).toNat ≤ 1 := Bool.toNat_le _
    rw [flr_low h hu, sr_eq_low hu (by omega)]
    have hdm := Nat.div_add_mod (kp (rg w)) (2 ^ (1074 - up (rg w)))
    have hm := Nat.mod_lt (kp (rg w)) (Nat.two_pow_pos (1074 - up (rg w)))
    rw [Nat.mul_comm] at hdm
    unfold wh
    constructor
    · intro k; right
      cases hn : (ngw w && kp (rg w) % 2 ^ (1074 - up (rg w)) != 0)
      · rw [hn, Bool.toNat_false, Nat.add_zero] at k; omega
      · rw [hn, Bool.toNat_true, Nat.succ_mul] at k; omega
    · intro k
      rcases k with k | k
      · omega
      · rw [k]; simp; omega
  · exact ⟨fun _ => .inl hu, fun _ => by unfold flr; rw [(integral_high .down hw h hu).2]⟩
theorem whole_spec {w : Nat} (hw : w < 2 * SW) (h : rg w < 1076 * BN) (hh : wh w) : ∃ n, n < 2 * BN ∧ w = iw (ngw w) n ∧ (double.read w).toInt .zero = some (sgn (ngw w) n) := by
  have hb := bn_pos
  have hI : 1076 * BN < IR := by decide
  rcases Nat.lt_or_ge (up (rg w)) 1074 with hu | hu
  · have hk : kp (rg w) % 2 ^ (1074 - up (rg w)) = 0 := by
      rcases hh with k | k
      · omega
      · exact k
    have hlt := half_lt (kp_lt (rg w)) (show 0 < 1074 - up (rg w) by omega)
    have hdm := Nat.div_add_mod (kp (rg w)) (2 ^ (1074 - up (rg w)))
    refine ⟨kp (rg w) / 2 ^ (1074 - up (rg w)), by omega, ?_, ?_⟩
    · have e := (sr_eq_low hu (n := kp (rg w) / 2 ^ (1074 - up (rg w))) (by omega)).2 (by rw [Nat.mul_comm]; omega)
      unfold sr at e
      rw [iw_ng (by omega), iw_rg (by omega)] at e
      have e := sgn_inj e
      show w = double.word _ (irg _)
      rw [e, wd_self hw]
    · unfold Datum.toInt
      rw [integral_low _ (Nat.lt_trans h hI) hu, (cut_any _ _ _).2]
      simp only [signed_eq, Nat.pow_zero, Nat.mul_one]
  · have hu2 : up (rg w) = 1074 := by
      have := kp_up (rg w)
      have h3 : up (rg w) < 1075 := by
        refine Nat.lt_of_not_le (fun h4 => ?_)
        have h5 := Nat.mul_le_mul_right BN h4
        have h6 := kp_ge (show up (rg w) ≠ 0 by omega)
        omega
      omega
    have e := integral_high .zero hw (Nat.lt_trans h hI) hu
    refine ⟨kp (rg w), kp_lt _, ?_, ?_⟩
    · have e2 := e.2
      rw [e.1, hu2, Nat.sub_self, Nat.pow_zero, Nat.mul_one, write_nat _ (kp_lt _)] at e2
      exact e2.symm
    · unfold Datum.toInt
      rw [e.1, hu2]
      simp only [signed_eq, Nat.sub_self, Nat.pow_zero, Nat.mul_one]
theorem floor_law {w : Nat} (hw : w < 2 * SW) (h : rg w < IR) : flr w < 2 * SW ∧ rg (flr w) < IR ∧ flr (flr w) = flr w ∧ ¬ sr w < sr (flr w) ∧
    (flr w = w ∨ ∃ r, double.add (flr w) (Iw 1) = some r ∧ rg r < IR ∧ r < 2 * SW ∧ sr w < sr r) := by
  have hb := bn_pos
  have h1 : (1 : Int).natAbs < 2 * BN := by decide
  rcases flr_spec hw h with ⟨_, e⟩ | ⟨hu, n, hn, e, h2, h3⟩
  · rw [e]; exact ⟨hw, h, e, by omega, .inl rfl⟩
  · have hn2 : n < 2 * BN := by omega
    have hf : rg (flr w) < IR := by rw [e, iw_rg hn2]; exact irg_lt hn2
    refine ⟨by rw [e]; exact iw_lt _ hn2, hf, by rw [e]; exact flr_iw _ hn2, ?_, .inr ?_⟩
    · intro k
      have := (vl_lt w (flr w)).1.2 k
      rw [e, vl_tt _ hn2] at this
      omega
    · have hb1 : 1 < BN := by decide
      have hz : (sgn (ngw w) n + 1).natAbs < 2 * BN := by unfold sgn; split <;> omega
      have hs := sum_whole (z := sgn (ngw w) n + 1) hf (Iw_fin h1) hz (by rw [e, vl_tt _ hn2, vl_Iw h1, Int.add_mul])
      rw [hs]
      by_cases hz0 : sgn (ngw w) n + 1 = 0
      · rw [if_pos hz0, Iw_ng h1]
        have hd : (ngw (flr w) && decide ((1 : Int) < 0)) = false := by simp
        rw [hd]
        have e0 : double.word false 0 = Iw 0 := by decide
        rw [e0]
        have h0 : (0 : Int).natAbs < 2 * BN := by decide
        refine ⟨_, rfl, Iw_fin h0, Iw_lt h0, (vl_lt _ _).1.1 ?_⟩
        rw [vl_Iw h0, ← hz0]
        exact h3
      · rw [if_neg hz0]
        refine ⟨_, rfl, Iw_fin hz, Iw_lt hz, (vl_lt _ _).1.1 ?_⟩
        rw [vl_Iw hz]
        exact h3
end Go.Proofs.YtofblkmibghmbaaDoor
