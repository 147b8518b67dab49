/-
  Layer 2: products of whole numbers; order of whole numbers; floors against their numbers.
  Conditions: none.
-/
import Derived.Test.YtofblkmibghmbaaDoorZF3
set_option linter.unusedVariables false
set_option linter.unusedSimpArgs false
set_option exponentiation.threshold 3000
set_option maxRecDepth 20000
namespace Go.Proofs.YtofblkmibghmbaaDoor
open Ieee
theorem Iw_rg {z : Int} (h : z.natAbs < 2 * BN) : rg (Iw z) = irg z.natAbs := iw_rg h
theorem Iw_fin {z : Int} (h : z.natAbs < 2 * BN) : rg (Iw z) < IR := by rw [Iw_rg h]; exact irg_lt h
theorem Iw_ng {z : Int} (h : z.natAbs < 2 * BN) : ngw (Iw z) = (z < 0 : Bool) := iw_ng h
theorem wd_lt (s : Bool) {r : Nat} (h : r < SW) : double.word s r < 2 * SW := by rw [wd_eq]; cases s <;> simp <;> omega
theorem iw_lt (s : Bool) {n : Nat} (h : n < 2 * BN) : iw s n < 2 * SW := wd_lt s (irg_sw h)
theorem Iw_lt {z : Int} (h : z.natAbs < 2 * BN) : Iw z < 2 * SW := iw_lt _ h
theorem add_Iw {a b : Int} (ha : a.natAbs < 2 * BN) (hb : b.natAbs < 2 * BN) (h : (a + b).natAbs < 2 * BN) : double.add (Iw a) (Iw b) = some (Iw (a + b)) := by
  rw [sum_whole (Iw_fin ha) (Iw_fin hb) h (by rw [vl_Iw ha, vl_Iw hb, Int.add_mul])]
  split
  · rename_i e
    rw [Iw_ng ha, Iw_ng hb, e]
    have : ((decide (a < 0)) && (decide (b < 0))) = false := by
      by_cases h1 : a < 0 <;> by_cases h2 : b < 0 <;> simp [h1, h2] <;> omega
    rw [this]; rfl
  · rfl
theorem two63_or {x : Nat} (h : x < 2 ^ 63) : 2 ^ 63 + x = 2 ^ 63 ||| x := by
  have := Nat.two_pow_add_eq_or_of_lt h 1
  simpa using this
theorem xor63 {x : Nat} (h : x < 2 ^ 63) : x ^^^ 2 ^ 63 = 2 ^ 63 + x ∧ (2 ^ 63 + x) ^^^ 2 ^ 63 = x := by
  rw [two63_or h]
  constructor <;> apply Nat.eq_of_testBit_eq <;> intro i <;> (by_cases hi : i = 63)
  · subst hi
    rw [Nat.testBit_xor, Nat.testBit_or, Nat.testBit_lt_two_pow h, Nat.testBit_two_pow_self]; rfl
  · rw [Nat.testBit_xor, Nat.testBit_or, Nat.testBit_two_pow_of_ne (Ne.symm hi)]; simp
  · subst hi
    rw [Nat.testBit_xor, Nat.testBit_or, Nat.testBit_lt_two_pow h, Nat.testBit_two_pow_self]; rfl
  · rw [Nat.testBit_xor, Nat.testBit_or, Nat.testBit_two_pow_of_ne (Ne.symm hi)]; simp
theorem sw_pow : SW = 2 ^ 63 := by decide
theorem neg_wd {w : Nat} (hw : w < 2 * SW) : w ^^^ SW = double.word (!ngw w) (rg w) := by
  have hr := rg_lt w
  have h := wd_self hw
  rw [wd_eq] at h ⊢
  rw [sw_pow] at hr h ⊢
  have hx := xor63 hr
  cases hn : ngw w
  · rw [hn] at h
    simp only [Bool.false_eq_true, if_false] at h
    rw [h] at hx
    simp only [Bool.not_false, if_true]
    rw [hx.1, h]
  · rw [hn] at h
    simp only [if_true] at h
    rw [h] at hx
    simp only [Bool.not_true, Bool.false_eq_true, if_false]
    exact hx.2
theorem neg_ng {w : Nat} (hw : w < 2 * SW) : ngw (w ^^^ SW) = (!ngw w) ∧ rg (w ^^^ SW) = rg w := by
  rw [neg_wd hw, ngw_wd _ (rg_lt w), rg_wd _ (rg_lt w)]
  exact ⟨rfl, rfl⟩
theorem neg_read {w : Nat} (hw : w < 2 * SW) : double.read (w ^^^ SW) = (double.read w).opposite := by
  rw [read_eq, read_eq, (neg_ng hw).1, (neg_ng hw).2]
  split
  · rfl
  · split <;> rfl
theorem sub_add {x y : Nat} (hy : y < 2 * SW) : double.sub x y = double.add x (y ^^^ SW) := by
  unfold Format.sub Format.add
  rw [neg_read hy]
theorem sub_Iw {a b : Int} (ha : a.natAbs < 2 * BN) (hb : b.natAbs < 2 * BN) (h : (a - b).natAbs < 2 * BN) : double.sub (Iw a) (Iw b) = some (Iw (a - b)) := by
  rw [sub_add (Iw_lt hb)]
  have hn := neg_ng (Iw_lt hb)
  have hr : rg (Iw b ^^^ SW) < IR := by rw [hn.2]; exact Iw_fin hb
  have hv : vl (Iw b ^^^ SW) = -(vl (Iw b)) := by
    unfold vl sgn
    rw [hn.1, hn.2]
    cases ngw (Iw b) <;> simp
  rw [sum_whole (Iw_fin ha) hr h (by rw [hv, vl_Iw ha, vl_Iw hb, Int.sub_mul]; omega)]
  split
  · rename_i e
    rw [hn.1, Iw_ng ha, Iw_ng hb, e]
    have : ((decide (a < 0)) && !(decide (b < 0))) = false := by
      by_cases h1 : a < 0 <;> by_cases h2 : b < 0 <;> simp [h1, h2] <;> omega
    rw [this]; rfl
  · rfl
theorem mul_Iw {a b : Int} (ha : a.natAbs < 2 * BN) (hb : b.natAbs < 2 * BN) (ha0 : a ≠ 0) (hb0 : b ≠ 0) (h : (a * b).natAbs < 2 * BN) : double.mul (Iw a) (Iw b) = some (Iw (a * b)) := by
  unfold Format.mul
  rw [read_fin (Iw_fin ha), read_fin (Iw_fin hb)]
  simp only [Datum.product, Option.map_some]
  rw [Iw_rg ha, Iw_rg hb, Iw_ng ha, Iw_ng hb]
  congr 1
  have hs : ((decide (a < 0)) ^^ (decide (b < 0))) = decide (a * b < 0) := by
    rcases Int.lt_or_gt_of_ne ha0 with h1 | h1 <;> rcases Int.lt_or_gt_of_ne hb0 with h2 | h2
    · have := Int.mul_pos_of_neg_of_neg h1 h2
      simp [h1, h2]; omega
    · have := Int.mul_neg_of_neg_of_pos h1 h2
      simp [h1, this]; omega
    · have := Int.mul_neg_of_pos_of_neg h1 h2
      simp [h2, this]; omega
    · have := Int.mul_pos h1 h2
      have q1 : ¬ a < 0 := by omega
      have q2 : ¬ b < 0 := by omega
      have q3 : ¬ a * b < 0 := by omega
      simp [q1, q2, q3]
  rw [hs]
  refine nearest_whole _ h ?_
  have m1 := irg_mg ha
  have m2 := irg_mg hb
  unfold mg at m1 m2
  generalize irg a.natAbs = p at *
  generalize irg b.natAbs = q at *
  refine Nat.eq_of_mul_eq_mul_right (Nat.two_pow_pos (up p + up q)) ?_
  rw [Int.natAbs_mul]
  have k : kp p * kp q * 2 ^ (up p + up q) = a.natAbs * b.natAbs * 2 ^ 2148 := by
    have : (2 : Nat) ^ 2148 = 2 ^ 1074 * 2 ^ 1074 := by rw [← Nat.pow_add]
    rw [Nat.pow_add, Nat.mul_mul_mul_comm, m1, m2, Nat.mul_mul_mul_comm, this]
  have k2 : kp p * kp q * 2 ^ (-1074 + (up p : Int) + (-1074 + (up q : Int))).toNat * 2 ^ (up p + up q) = kp p * kp q * 2 ^ (up p + up q) * 2 ^ (-1074 + (up p : Int) + (-1074 + (up q : Int))).toNat := Nat.mul_right_comm _ _ _
  rw [k2, k, Nat.mul_assoc, Nat.mul_assoc (a.natAbs * b.natAbs), ← Nat.pow_add, ← Nat.pow_add]
  congr 2
  omega
theorem order_Iw {a b : Int} (ha : a.natAbs < 2 * BN) (hb : b.natAbs < 2 * BN) : double.order (Iw a) (Iw b) = some (compare a b) := by
  have hT : (0 : Int) < (TT : Int) := by exact_mod_cast tt_pos
  rw [order_eq (Nat.le_of_lt (Iw_fin ha)) (Nat.le_of_lt (Iw_fin hb))]
  congr 1
  have hv := vl_lt (Iw a) (Iw b)
  rw [vl_Iw ha, vl_Iw hb] at hv
  refine (compare_int _ _ _ _ ?_ ?_).symm
  · rw [← hv.1]; exact (Int.mul_lt_mul_right hT).symm
  · rw [← hv.2]
    constructor
    · intro e; rw [e]
    · intro e; exact Int.eq_of_mul_eq_mul_right (Int.ne_of_gt hT) e
theorem flr_iw (s : Bool) {n : Nat} (h : n < 2 * BN) : flr (iw s n) = iw s n := by
  have hT : (0 : Int) < (TT : Int) := by exact_mod_cast tt_pos
  have hf : rg (iw s n) < IR := by rw [iw_rg h]; exact irg_lt h
  rcases flr_spec (iw_lt s h) hf with ⟨_, e⟩ | ⟨_, m, hm, e, h1, h2⟩
  · exact e
  · rw [e, iw_ng h]
    rw [iw_ng h] at h1 h2
    rw [vl_tt s h] at h1 h2
    have h1 := Int.le_of_mul_le_mul_right h1 hT
    have h2 := Int.lt_of_mul_lt_mul_right h2 (Int.le_of_lt hT)
    have : m = n := by
      cases s <;> simp only [sgn, if_true, Bool.false_eq_true, if_false] at h1 h2 <;> omega
    rw [this]
end Go.Proofs.YtofblkmibghmbaaDoor
