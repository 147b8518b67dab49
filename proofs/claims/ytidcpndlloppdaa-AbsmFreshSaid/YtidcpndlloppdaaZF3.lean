import Derived.Test.YtidcpndlloppdaaZF2
/-
  Layer 2: floors, cuts, sums and products of whole numbers.
  Conditions: none.
-/
set_option linter.unusedVariables false
set_option linter.unusedSimpArgs false
set_option exponentiation.threshold 2000
set_option maxRecDepth 20000
namespace Go.Proofs.Ytidcpndlloppdaa
open Ieee
def TT : Nat := 2 ^ 1074
theorem tt_pos : 0 < TT := Nat.two_pow_pos 1074
theorem tt_split {u : Nat} (h : u ≤ 1074) : 2 ^ u * 2 ^ (1074 - u) = TT := by rw [← Nat.pow_add, show u + (1074 - u) = 1074 by omega]; rfl
theorem cut_any (s : Bool) (n d : Nat) : Toward.down.cut s n d = n / 2 ^ d + (s && n % 2 ^ d != 0).toNat ∧ Toward.zero.cut s n d = n / 2 ^ d := by
  unfold Toward.cut
  dsimp only
  rw [Nat.one_shiftLeft]
  by_cases h : d ≤ n.log2 + 2
  · rw [Nat.min_eq_left h]; exact ⟨rfl, by simp⟩
  · have h1 : n < 2 ^ (n.log2 + 1) := Nat.lt_log2_self
    have h2 : n < 2 ^ (n.log2 + 2) := Nat.lt_trans h1 (Nat.pow_lt_pow_right (by omega) (by omega))
    have h3 : n < 2 ^ d := Nat.lt_of_lt_of_le h2 (Nat.pow_le_pow_right (by omega) (by omega))
    rw [Nat.min_eq_right (by omega), Nat.div_eq_of_lt h2, Nat.mod_eq_of_lt h2, Nat.div_eq_of_lt h3, Nat.mod_eq_of_lt h3]
    exact ⟨rfl, by simp⟩
def flr (w : Nat) : Nat := double.write ((double.read w).integral .down)
theorem integral_high (way : Toward) {w : Nat} (hw : w < 2 * SW) (h : rg w < IR) (hu : 1074 ≤ up (rg w)) :
    (double.read w).integral way = .number (ngw w) (kp (rg w) * 2 ^ (up (rg w) - 1074)) 0 ∧ double.write ((double.read w).integral way) = w := by
  have e : (double.read w).integral way = .number (ngw w) (kp (rg w) * 2 ^ (up (rg w) - 1074)) 0 := by
    rw [read_fin h]
    simp only [Datum.integral]
    rw [show (-1074 + (up (rg w) : Int)).toNat = up (rg w) - 1074 by omega, show (-(-1074 + (up (rg w) : Int))).toNat = 0 by omega, Nat.shiftLeft_eq]
    congr 1
    have hp : 0 < kp (rg w) * 2 ^ (up (rg w) - 1074) := Nat.mul_pos (by have := kp_ge (show up (rg w) ≠ 0 by omega); have := bn_pos; omega) (Nat.two_pow_pos _)
    have := cut_whole (ngw w) way _ 0 hp
    simpa using this
  refine ⟨e, ?_⟩
  rw [e]
  show double.nearest _ _ _ = w
  have hr : 0 < rg w := by
    refine Nat.pos_of_ne_zero (fun e => ?_)
    rw [e] at hu
    rw [show up 0 = 0 by decide] at hu
    omega
  rw [nearest_exact (r := rg w) (ngw w) (Nat.le_of_lt h) hr, wd_self hw]
  show kp (rg w) * 2 ^ (up (rg w) - 1074) * 2 ^ 1074 = kp (rg w) * 2 ^ up (rg w) * 2 ^ 0
  rw [Nat.mul_assoc, ← Nat.pow_add, show up (rg w) - 1074 + 1074 = up (rg w) by omega]
  simp
theorem integral_low (way : Toward) {w : Nat} (h : rg w < IR) (hu : up (rg w) < 1074) :
    (double.read w).integral way = .number (ngw w) (way.cut (ngw w) (kp (rg w)) (1074 - up (rg w))) 0 := by
  rw [read_fin h]
  simp only [Datum.integral]
  rw [show (-1074 + (up (rg w) : Int)).toNat = 0 by omega, show (-(-1074 + (up (rg w) : Int))).toNat = 1074 - up (rg w) by omega, Nat.shiftLeft_zero]
theorem write_nat (s : Bool) {n : Nat} (h : n < 2 * BN) : double.write (.number s n 0) = iw s n := nearest_whole s h rfl
theorem half_lt {k d : Nat} (hk : k < 2 * BN) (hd : 0 < d) : k / 2 ^ d < BN := by
  have : 2 ≤ 2 ^ d := by
    calc 2 = 2 ^ 1 := rfl
      _ ≤ 2 ^ d := Nat.pow_le_pow_right (by omega) hd
  rw [Nat.div_lt_iff_lt_mul (Nat.two_pow_pos d)]
  calc k < 2 * BN := hk
    _ ≤ 2 ^ d * BN := Nat.mul_le_mul_right _ this
    _ = BN * 2 ^ d := Nat.mul_comm _ _
theorem vl_low {w : Nat} (hu : up (rg w) < 1074) (x : Nat) : (sgn (ngw w) x) * (TT : Int) = sgn (ngw w) (x * 2 ^ (1074 - up (rg w))) * (2 ^ up (rg w) : Nat) := by
  rw [← tt_split (show up (rg w) ≤ 1074 by omega), sgn_scale, Nat.mul_comm (2 ^ up (rg w)), Int.natCast_mul, ← Int.mul_assoc]
theorem vl_kp (w : Nat) : vl w = sgn (ngw w) (kp (rg w)) * (2 ^ up (rg w) : Nat) := by
  unfold vl mg; rw [sgn_scale]
theorem flr_spec {w : Nat} (hw : w < 2 * SW) (h : rg w < IR) :
    (1074 ≤ up (rg w) ∧ flr w = w) ∨ (up (rg w) < 1074 ∧ ∃ n : Nat, n ≤ BN ∧ flr w = iw (ngw w) n ∧ sgn (ngw w) n * (TT : Int) ≤ vl w ∧ vl w < (sgn (ngw w) n + 1) * (TT : Int)) := by
  rcases Nat.lt_or_ge (up (rg w)) 1074 with hu | hu
  · refine .inr ⟨hu, ?_⟩
    have hlt := half_lt (kp_lt (rg w)) (show 0 < 1074 - up (rg w) by omega)
    have hdm := Nat.div_add_mod (kp (rg w)) (2 ^ (1074 - up (rg w)))
    have hm := Nat.mod_lt (kp (rg w)) (Nat.two_pow_pos (1074 - up (rg w)))
    have hP := Nat.two_pow_pos (up (rg w))
    refine ⟨kp (rg w) / 2 ^ (1074 - up (rg w)) + (ngw w && kp (rg w) % 2 ^ (1074 - up (rg w)) != 0).toNat, ?_, ?_, ?_, ?_⟩
    · have : (ngw w && kp (rg w) % 2 ^ (1074 - up (rg w)) != 0).toNat ≤ 1 := Bool.toNat_le _
      omega
    · unfold flr
      rw [integral_low _ h hu, (cut_any _ _ _).1]
      refine write_nat _ ?_
      have : (ngw w && kp (rg w) % 2 ^ (1074 - up (rg w)) != 0).toNat ≤ 1 := Bool.toNat_le _
      have := bn_pos
      omega
    · rw [vl_low hu, vl_kp]
      refine Int.mul_le_mul_of_nonneg_right ?_ (by omega)
      generalize kp (rg w) / 2 ^ (1074 - up (rg w)) = q at *
      generalize 2 ^ (1074 - up (rg w)) = D at *
      rw [Nat.mul_comm D q] at hdm
      cases hn : ngw w
      · simp only [sgn, Bool.false_and, Bool.toNat_false, Nat.add_zero, Bool.false_eq_true, if_false]
        omega
      · simp only [sgn, Bool.true_and, if_true]
        by_cases hr : kp (rg w) % D = 0
        · rw [hr]; simp; omega
        · have : (kp (rg w) % D != 0) = true := by simpa using hr
          rw [this, Bool.toNat_true, Nat.succ_mul]; omega
    · have e1 : (sgn (ngw w) (kp (rg w) / 2 ^ (1074 - up (rg w)) + (ngw w && kp (rg w) % 2 ^ (1074 - up (rg w)) != 0).toNat) + 1) * (TT : Int) = (sgn (ngw w) ((kp (rg w) / 2 ^ (1074 - up (rg w)) + (ngw w && kp (rg w) % 2 ^ (1074 - up (rg w)) != 0).toNat) * 2 ^ (1074 - up (rg w))) + (2 ^ (1074 - up (rg w)) : Nat)) * (2 ^ up (rg w) : Nat) := by
        rw [Int.add_mul, vl_low hu, Int.add_mul, Int.one_mul, ← tt_split (show up (rg w) ≤ 1074 by omega), Nat.mul_comm (2 ^ up (rg w)), Int.natCast_mul]
      rw [e1, vl_kp]
      refine Int.mul_lt_mul_of_pos_right ?_ (by omega)
      generalize kp (rg w) / 2 ^ (1074 - up (rg w)) = q at *
      generalize 2 ^ (1074 - up (rg w)) = D at *
      rw [Nat.mul_comm D q] at hdm
      cases hn : ngw w
      · simp only [sgn, Bool.false_and, Bool.toNat_false, Nat.add_zero, Bool.false_eq_true, if_false]
        omega
      · simp only [sgn, Bool.true_and, if_true]
        by_cases hr : kp (rg w) % D = 0
        · rw [hr]; simp; omega
        · have : (kp (rg w) % D != 0) = true := by simpa using hr
          rw [this, Bool.toNat_true, Nat.succ_mul]; omega
  · exact .inl ⟨hu, (integral_high .down hw h hu).2⟩
theorem vl_tt (s : Bool) {n : Nat} (h : n < 2 * BN) : vl (iw s n) = sgn s n * (TT : Int) := iw_vl h
def Iw (z : Int) : Nat := iw (z < 0) z.natAbs
theorem sgn_self (z : Int) : sgn (z < 0) z.natAbs = z := by
  unfold sgn; by_cases h : z < 0 <;> simp [h] <;> omega
theorem vl_Iw {z : Int} (h : z.natAbs < 2 * BN) : vl (Iw z) = z * (TT : Int) := by unfold Iw; rw [vl_tt _ h, sgn_self]
theorem sum_whole {x y : Nat} {z : Int} (hx : rg x < IR) (hy : rg y < IR) (hz : z.natAbs < 2 * BN) (h : vl x + vl y = z * (TT : Int)) :
    double.add x y = some (if z = 0 then double.word (ngw x && ngw y) 0 else Iw z) := by
  unfold Format.add
  rw [read_fin hx, read_fin hy]
  simp only [Datum.sum, Option.map_some]
  congr 1
  rw [signed_eq, signed_eq]
  generalize hu : up (rg x) = u
  generalize hv : up (rg y) = v
  have e1 : (-1074 + (u : Int) - min (-1074 + (u : Int)) (-1074 + (v : Int))).toNat = u - min u v := by omega
  have e2 : (-1074 + (v : Int) - min (-1074 + (u : Int)) (-1074 + (v : Int))).toNat = v - min u v := by omega
  have e3 : min (-1074 + (u : Int)) (-1074 + (v : Int)) = -1074 + ((min u v : Nat) : Int) := by omega
  rw [e1, e2, e3]
  have key : (sgn (ngw x) (kp (rg x) * 2 ^ (u - min u v)) + sgn (ngw y) (kp (rg y) * 2 ^ (v - min u v))) * ((2 ^ min u v : Nat) : Int) = z * (TT : Int) := by
    rw [Int.add_mul, ← sgn_scale, ← sgn_scale, Nat.mul_assoc, Nat.mul_assoc, ← Nat.pow_add, ← Nat.pow_add, show u - min u v + min u v = u by omega, show v - min u v + min u v = v by omega, ← h, vl_kp, vl_kp, sgn_scale, sgn_scale, hu, hv]
  generalize (sgn (ngw x) (kp (rg x) * 2 ^ (u - min u v)) + sgn (ngw y) (kp (rg y) * 2 ^ (v - min u v))) = t at *
  generalize min u v = a at *
  have hp : (0 : Int) < ((2 ^ a : Nat) : Int) := by exact_mod_cast Nat.two_pow_pos a
  have hT : (0 : Int) < (TT : Int) := by exact_mod_cast tt_pos
  have hne : ((2 ^ a : Nat) : Int) ≠ 0 := Int.ne_of_gt hp
  have hTn : (TT : Int) ≠ 0 := Int.ne_of_gt hT
  by_cases hz0 : z = 0
  · rw [if_pos hz0]
    rw [hz0, Int.zero_mul] at key
    have ht : t = 0 := by
      rcases Int.mul_eq_zero.1 key with k | k
      · exact k
      · exact absurd k hne
    rw [if_pos ht, ht]
    exact nearest_zero _ _
  · rw [if_neg hz0]
    have ht : t ≠ 0 := fun e => by
      rw [e, Int.zero_mul] at key
      rcases Int.mul_eq_zero.1 key.symm with k | k
      · exact hz0 k
      · exact hTn k
    have hs : (t < 0) = (z < 0) := by
      have c : t * ((2 ^ a : Nat) : Int) < 0 ↔ z * (TT : Int) < 0 := by rw [key]
      have c1 : t * ((2 ^ a : Nat) : Int) < 0 ↔ t < 0 := by
        constructor
        · intro hh; exact Int.lt_of_mul_lt_mul_right (a := ((2 ^ a : Nat) : Int)) (by simpa using hh) (Int.le_of_lt hp)
        · intro hh; exact Int.mul_neg_of_neg_of_pos hh hp
      have c2 : z * (TT : Int) < 0 ↔ z < 0 := by
        constructor
        · intro hh; exact Int.lt_of_mul_lt_mul_right (a := (TT : Int)) (by simpa using hh) (Int.le_of_lt hT)
        · intro hh; exact Int.mul_neg_of_neg_of_pos hh hT
      exact propext (c1.symm.trans (c.trans c2))
    rw [if_neg ht]
    show double.nearest (decide (t < 0)) t.natAbs _ = iw (decide (z < 0)) z.natAbs
    have hd : decide (t < 0) = decide (z < 0) := by simp only [hs]
    rw [hd]
    refine nearest_whole _ hz ?_
    have kn : t.natAbs * 2 ^ a = z.natAbs * TT := by
      have := congrArg Int.natAbs key
      rw [Int.natAbs_mul, Int.natAbs_mul] at this
      simpa using this
    rcases Nat.lt_or_ge a 1074 with ha | ha
    · have e4 : (-1074 + (a : Int)).toNat = 0 := by omega
      have e5 : (-(-1074 + (a : Int))).toNat = 1074 - a := by omega
      rw [e4, e5, Nat.pow_zero, Nat.mul_one]
      rw [← tt_split (show a ≤ 1074 by omega), Nat.mul_comm (2 ^ a), ← Nat.mul_assoc] at kn
      exact Nat.eq_of_mul_eq_mul_right (Nat.two_pow_pos a) kn
    · have e4 : (-1074 + (a : Int)).toNat = a - 1074 := by omega
      have e5 : (-(-1074 + (a : Int))).toNat = 0 := by omega
      rw [e4, e5, Nat.pow_zero, Nat.mul_one]
      have : 2 ^ a = 2 ^ (a - 1074) * TT := by unfold TT; rw [← Nat.pow_add, show a - 1074 + 1074 = a by omega]
      rw [this, ← Nat.mul_assoc] at kn
      exact Nat.eq_of_mul_eq_mul_right tt_pos kn
end Go.Proofs.Ytidcpndlloppdaa
