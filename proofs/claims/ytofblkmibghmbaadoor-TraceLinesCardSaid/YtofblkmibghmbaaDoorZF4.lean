/-
  Layer 2: products of whole numbers; order of whole numbers; floors against their numbers.
  Conditions: none.
-/
import Derived.Test.YtofblkmibghmbaaDoorZF3
set_option linter.unusedVariables false
set_option linter.unusedSimpArgs false
set_option exponentiation.threshold 3000
set_option maxRecDepth 20000
namespace Go.Proofs.YtofblkmibghmbaaDoor
open Ieee
theorem Iw_rg {z : Int} (h : z.natAbs < 2 * BN) : rg (Iw z) = irg z.natAbs := iw_rg h
theorem Iw_fin {z : Int} (h : z.natAbs < 2 * BN) : rg (Iw z) < IR := by rw [Iw_rg h]; exact irg_lt h
theorem Iw_ng {z : Int} (h : z.natAbs < 2 * BN) : ngw (Iw z) = (z < 0 : Bool) := iw_ng h
theorem wd_lt (s : Bool) {r : Nat} (h : r < SW) : double.word s r < 2 * SW := by rw [wd_eq]; cases s <;> simp <;> omega
theorem iw_lt (s : Bool) {n : Nat} (h : n < 2 * BN) : iw s n < 2 * SW := wd_lt s (irg_sw h)
theorem Iw_lt {z : Int} (h : z.natAbs < 2 * BN) : Iw z < 2 * SW := iw_lt _ h
theorem two63_or {x : Nat} (h : x < 2 ^ 63) : 2 ^ 63 + x = 2 ^ 63 ||| x := by
  have := Nat.two_pow_add_eq_or_of_lt h 1
  simpa using this
theorem xor63 {x : Nat} (h : x < 2 ^ 63) : x ^^^ 2 ^ 63 = 2 ^ 63 + x ∧ (2 ^ 63 + x) ^^^ 2 ^ 63 = x := by
  rw [two63_or h]
  constructor <;> apply Nat.eq_of_testBit_eq <;> intro i <;> (by_cases hi : i = 63)
  · subst hi
    rw [Nat.testBit_xor, Nat.testBit_or, Nat.testBit_lt_two_pow h, Nat.testBit_two_pow_self]; rfl
  · rw [Nat.testBit_xor, Nat.testBit_or, Nat.testBit_two_pow_of_ne (Ne.symm hi)]; simp
  · subst hi
    rw [Nat.testBit_xor, Nat.testBit_or, Nat.testBit_lt_two_pow h, Nat.testBit_two_pow_self]; rfl
  · rw [Nat.testBit_xor, Nat.testBit_or, Nat.testBit_two_pow_of_ne (Ne.symm hi)]; simp
theorem sw_pow : SW = 2 ^ 63 := by decide
theorem neg_wd {w : Nat} (hw : w < 2 * SW) : w ^^^ SW = double.word (!ngw w) (rg w) := by
  have hr := rg_lt w
  have h := wd_self hw
  rw [wd_eq] at h ⊢
  rw [sw_pow] at hr h ⊢
  have hx := xor63 hr
  cases hn : ngw w
  · rw [hn] at h
    simp only [Bool.false_eq_true, if_false] at h
    rw [h] at hx
    simp only [Bool.not_false, if_true]
    rw [hx.1, h]
  · rw [hn] at h
    simp only [if_true] at h
    rw [h] at hx
    simp only [Bool.not_true, Bool.false_eq_true, if_false]
    exact hx.2
theorem neg_ng {w : Nat} (hw : w < 2 * SW) : ngw (w ^^^ SW) = (!ngw w) ∧ rg (w ^^^ SW) = rg w := by
  rw [neg_wd hw, ngw_wd _ (rg_lt w), rg_wd _ (rg_lt w)]
  exact ⟨rfl, rfl⟩
theorem flr_iw (s : Bool) {n : Nat} (h : n < 2 * BN) : flr (iw s n) = iw s n := by
  have hT : (0 : Int) < (TT : Int) := by exact_mod_cast tt_pos
  have hf : rg (iw s n) < IR := by rw [iw_rg h]; exact irg_lt h
  rcases flr_spec (iw_lt s h) hf with ⟨_, e⟩ | ⟨_, m, hm, e, h1, h2⟩
  · exact e
  · rw [e, iw_ng h]
    rw [iw_ng h] at h1 h2
    rw [vl_tt s h] at h1 h2
    have h1 := Int.le_of_mul_le_mul_right h1 hT
    have h2 := Int.lt_of_mul_lt_mul_right h2 (Int.le_of_lt hT)
    have : m = n := by
      cases s <;> simp only [sgn, if_true, Bool.false_eq_true, if_false] at h1 h2 <;> omega
    rw [this]
end Go.Proofs.YtofblkmibghmbaaDoor
