import Derived.Test.YtidcpndlloppdaaZF1
/-
  Layer 2: what is written exactly; whole numbers as words; floors.
  Conditions: none.
-/
set_option linter.unusedVariables false
set_option linter.unusedSimpArgs false
namespace Go.Proofs.Ytidcpndlloppdaa
open Ieee
theorem wd_eq (s : Bool) (r : Nat) : double.word s r = (if s then SW + r else r) := by
  unfold Format.word; rw [dbl_sw]
theorem ngw_wd (s : Bool) {r : Nat} (h : r < SW) : ngw (double.word s r) = s := by
  have hp : 0 < SW := by decide
  rw [wd_eq]; unfold ngw
  cases s
  · simp [Nat.div_eq_of_lt h]
  · simp only [if_true]
    rw [show SW + r = r + SW by omega, Nat.add_div_right _ hp, Nat.div_eq_of_lt h]; rfl
theorem rg_wd (s : Bool) {r : Nat} (h : r < SW) : rg (double.word s r) = r := by
  rw [wd_eq]; unfold rg
  cases s
  · simp [Nat.mod_eq_of_lt h]
  · simp only [if_true]
    rw [show SW + r = r + SW by omega, Nat.add_mod_right, Nat.mod_eq_of_lt h]
theorem wd_self {w : Nat} (h : w < 2 * SW) : double.word (ngw w) (rg w) = w := by
  have h1 := Nat.div_add_mod w SW
  have hp : 0 < SW := by decide
  have h2 : w / SW < 2 := (Nat.div_lt_iff_lt_mul hp).2 h
  rw [wd_eq]; unfold ngw rg
  rcases (fun q (h : q < 2) => (by omega : q = 0 ∨ q = 1) : ∀ q : Nat, q < 2 → q = 0 ∨ q = 1) _ h2 with e | e
  · rw [e] at h1 ⊢; simp; omega
  · rw [e] at h1 ⊢; simp; omega
theorem cut_whole (neg : Bool) (way : Toward) (k d : Nat) (hk : 0 < k) : way.cut neg (k * 2 ^ d) d = k := by
  unfold Toward.cut
  have hp : 0 < 2 ^ d := Nat.two_pow_pos d
  have hl : d ≤ (k * 2 ^ d).log2 := by
    rw [Nat.le_log2 (by have := Nat.mul_pos hk hp; omega)]
    exact Nat.le_mul_of_pos_left _ hk
  rw [Nat.min_eq_left (by omega), Nat.one_shiftLeft]
  dsimp only
  rw [Nat.mul_div_cancel _ hp, Nat.mul_mod_left]
  have h1 : ¬ 2 ^ d = 0 := by omega
  cases way <;> simp [h1]
theorem up_kp_eq (u k : Nat) (h1 : k < 2 * BN) (h2 : u ≠ 0 → BN ≤ k) : up (u * BN + k) = u ∧ kp (u * BN + k) = k := by
  have hb := bn_pos
  have key : up (u * BN + k) = u := by
    by_cases hk : k < BN
    · have hu : u = 0 := by
        by_cases hu : u = 0
        · exact hu
        · have := h2 hu; omega
      subst hu
      rw [Nat.zero_mul, Nat.zero_add, up_small hk]
    · unfold up
      have : (u * BN + k) / BN = u + 1 := by
        rw [Nat.div_eq_iff hb]
        have h3 : (u + 1) * BN = u * BN + BN := Nat.succ_mul u BN
        constructor <;> omega
      rw [this]; rfl
  refine ⟨key, ?_⟩
  have := kp_up (u * BN + k)
  rw [key] at this
  omega
theorem log2_mul_pow {k : Nat} (hk : 0 < k) (d : Nat) : (k * 2 ^ d).log2 = k.log2 + d := by
  have hne : k ≠ 0 := by omega
  have hp : 0 < 2 ^ d := Nat.two_pow_pos d
  rw [Nat.log2_eq_iff (by have := Nat.mul_pos hk hp; omega)]
  have h1 := Nat.log2_self_le hne
  have h2 : k < 2 ^ (k.log2 + 1) := Nat.lt_log2_self
  constructor
  · rw [Nat.pow_add]; exact Nat.mul_le_mul_right _ h1
  · rw [show k.log2 + d + 1 = k.log2 + 1 + d by omega, Nat.pow_add]; exact (Nat.mul_lt_mul_right hp).2 h2
theorem log2_small {k : Nat} (hk : 0 < k) (h : k < 2 * BN) : k.log2 ≤ 52 := by
  have : k.log2 < 53 := (Nat.log2_lt (by omega)).2 (by rw [show (2:Nat)^53 = 2 * BN by decide]; exact h)
  omega
theorem log2_full {k : Nat} (h1 : BN ≤ k) (h2 : k < 2 * BN) : k.log2 = 52 := by
  rw [Nat.log2_eq_iff (by have := bn_pos; omega)]
  constructor
  · rw [← bn_pow]; exact h1
  · rw [show (2:Nat)^(52+1) = 2 * BN by decide]; exact h2
theorem nearest_exact (s : Bool) {r mag : Nat} {place : Int} (hr : r ≤ IR) (h0 : 0 < r)
    (h : mag * 2 ^ (place + 1074).toNat = mg r * 2 ^ (-(place + 1074)).toNat) : double.nearest s mag place = double.word s r := by
  have hkp : 0 < kp r := by
    have : ¬ mg r = 0 := fun e => by have := (mg_zero_iff r).1 e; omega
    unfold mg at this
    exact Nat.pos_of_ne_zero (fun e => this (by rw [e, Nat.zero_mul]))
  have hm : 0 < mag := by
    refine Nat.pos_of_ne_zero (fun e => ?_)
    rw [e, Nat.zero_mul] at h
    have h1 : 0 < mg r := by unfold mg; exact Nat.mul_pos hkp (Nat.two_pow_pos _)
    have h2 := Nat.mul_pos h1 (Nat.two_pow_pos (-(place + 1074)).toNat)
    omega
  have hlog : (mag.log2 : Int) + place = (kp r).log2 + (up r : Int) - 1074 := by
    have e := congrArg Nat.log2 h
    rw [log2_mul_pow hm] at e
    unfold mg at e
    rw [Nat.mul_assoc, ← Nat.pow_add, log2_mul_pow hkp] at e
    omega
  have hlast : max (place + (mag.log2 : Int) - (52 : Nat)) (-1074) = -1074 + (up r : Int) := by
    by_cases hu : up r = 0
    · have := log2_small hkp (kp_lt r)
      omega
    · have := log2_full (kp_ge hu) (kp_lt r)
      omega
  unfold Format.nearest
  rw [if_neg (by omega)]
  simp only [dbl_frac, dbl_least, dbl_binade, dbl_inf]
  rw [hlast]
  have hcut : Toward.even.cut s (mag <<< (place - (-1074 + (up r : Int))).toNat) (-1074 + (up r : Int) - place).toNat = kp r := by
    rw [Nat.shiftLeft_eq]
    have e : mag * 2 ^ (place - (-1074 + (up r : Int))).toNat = kp r * 2 ^ (-1074 + (up r : Int) - place).toNat := by
      unfold mg at h
      rw [Nat.mul_assoc, ← Nat.pow_add] at h
      refine Nat.eq_of_mul_eq_mul_right (Nat.two_pow_pos ((up r + (-(place + 1074)).toNat) - (-1074 + (up r : Int) - place).toNat)) ?_
      rw [Nat.mul_assoc, Nat.mul_assoc, ← Nat.pow_add, ← Nat.pow_add]
      have e1 : (place - (-1074 + (up r : Int))).toNat + (up r + (-(place + 1074)).toNat - (-1074 + (up r : Int) - place).toNat) = (place + 1074).toNat := by omega
      have e2 : (-1074 + (up r : Int) - place).toNat + (up r + (-(place + 1074)).toNat - (-1074 + (up r : Int) - place).toNat) = up r + (-(place + 1074)).toNat := by omega
      rw [e1, e2]; exact h
    rw [e]
    exact cut_whole _ _ _ _ hkp
  rw [hcut]
  have : (-1074 + (up r : Int) - -1074).toNat = up r := by omega
  rw [this, kp_up, Nat.min_eq_left hr]
theorem nearest_zero (s : Bool) (place : Int) : double.nearest s 0 place = double.word s 0 := by
  unfold Format.nearest; rw [if_pos rfl]
def irg (n : Nat) : Nat := if n = 0 then 0 else (n.log2 + 1022) * BN + n * 2 ^ (52 - n.log2)
theorem irg_spec {n : Nat} (h : n < 2 * BN) (h0 : 0 < n) : up (irg n) = n.log2 + 1022 ∧ kp (irg n) = n * 2 ^ (52 - n.log2) ∧ 0 < irg n ∧ irg n < IR := by
  have hl := log2_small h0 h
  have h1 := Nat.log2_self_le (show n ≠ 0 by omega)
  have h2 : n < 2 ^ (n.log2 + 1) := Nat.lt_log2_self
  have hp := Nat.two_pow_pos (52 - n.log2)
  have b1 : BN ≤ n * 2 ^ (52 - n.log2) := by
    calc BN = 2 ^ n.log2 * 2 ^ (52 - n.log2) := by rw [← Nat.pow_add, show n.log2 + (52 - n.log2) = 52 by omega]; decide
      _ ≤ _ := Nat.mul_le_mul_right _ h1
  have b2 : n * 2 ^ (52 - n.log2) < 2 * BN := by
    calc n * 2 ^ (52 - n.log2) < 2 ^ (n.log2 + 1) * 2 ^ (52 - n.log2) := (Nat.mul_lt_mul_right hp).2 h2
      _ = 2 * BN := by rw [← Nat.pow_add, show n.log2 + 1 + (52 - n.log2) = 53 by omega]; decide
  obtain ⟨k1, k2⟩ := up_kp_eq (n.log2 + 1022) _ b2 (fun _ => b1)
  have e : irg n = (n.log2 + 1022) * BN + n * 2 ^ (52 - n.log2) := by unfold irg; rw [if_neg (by omega)]
  rw [e]
  refine ⟨k1, k2, by omega, ?_⟩
  have b3 : (n.log2 + 1022) * BN ≤ 1074 * BN := Nat.mul_le_mul_right _ (by omega)
  have b4 : 1074 * BN + 2 * BN < IR := by decide
  omega
theorem irg_lt {n : Nat} (h : n < 2 * BN) : irg n < IR := by
  by_cases h0 : n = 0
  · subst h0; decide
  · exact (irg_spec h (by omega)).2.2.2
set_option exponentiation.threshold 2000
theorem irg_mg {n : Nat} (h : n < 2 * BN) : mg (irg n) = n * 2 ^ 1074 := by
  by_cases h0 : n = 0
  · subst h0; simp [irg, mg_zero]
  · obtain ⟨k1, k2, _, _⟩ := irg_spec h (by omega)
    have hl := log2_small (show 0 < n by omega) h
    unfold mg
    rw [k1, k2, Nat.mul_assoc, ← Nat.pow_add, show 52 - n.log2 + (n.log2 + 1022) = 1074 by omega]
theorem irg_pos {n : Nat} (h : n < 2 * BN) (h0 : 0 < n) : 0 < irg n := (irg_spec h h0).2.2.1
theorem nearest_whole (s : Bool) {n mag : Nat} {place : Int} (hn : n < 2 * BN) (h : mag * 2 ^ place.toNat = n * 2 ^ (-place).toNat) : double.nearest s mag place = double.word s (irg n) := by
  by_cases h0 : n = 0
  · subst h0
    rw [Nat.zero_mul] at h
    have : mag = 0 := by
      rcases Nat.mul_eq_zero.1 h with h | h
      · exact h
      · have := Nat.two_pow_pos place.toNat; omega
    subst this
    rw [nearest_zero]; rfl
  · refine nearest_exact s (Nat.le_of_lt (irg_lt hn)) (irg_pos hn (by omega)) ?_
    rw [irg_mg hn]
    refine Nat.eq_of_mul_eq_mul_right (Nat.two_pow_pos (place.toNat + (-place).toNat)) ?_
    have a1 : mag * 2 ^ (place + 1074).toNat * 2 ^ (place.toNat + (-place).toNat) = (mag * 2 ^ place.toNat) * 2 ^ ((place + 1074).toNat + (-place).toNat) := by
      rw [Nat.mul_assoc, Nat.mul_assoc, ← Nat.pow_add, ← Nat.pow_add]; congr 2; omega
    have a2 : n * 2 ^ 1074 * 2 ^ (-(place + 1074)).toNat * 2 ^ (place.toNat + (-place).toNat) = (n * 2 ^ (-place).toNat) * 2 ^ (1074 + (-(place + 1074)).toNat + place.toNat) := by
      rw [Nat.mul_assoc, Nat.mul_assoc, Nat.mul_assoc, ← Nat.pow_add, ← Nat.pow_add, ← Nat.pow_add]; congr 2; omega
    rw [a1, a2, h]
    congr 2
    omega
def iw (s : Bool) (n : Nat) : Nat := double.word s (irg n)
theorem irg_sw {n : Nat} (h : n < 2 * BN) : irg n < SW := Nat.lt_trans (irg_lt h) (by decide)
theorem iw_ng {s : Bool} {n : Nat} (h : n < 2 * BN) : ngw (iw s n) = s := ngw_wd s (irg_sw h)
theorem iw_rg {s : Bool} {n : Nat} (h : n < 2 * BN) : rg (iw s n) = irg n := rg_wd s (irg_sw h)
theorem iw_vl {s : Bool} {n : Nat} (h : n < 2 * BN) : vl (iw s n) = sgn s n * (2 ^ 1074 : Nat) := by
  unfold vl; rw [iw_ng h, iw_rg h, irg_mg h, sgn_scale]
end Go.Proofs.Ytidcpndlloppdaa
