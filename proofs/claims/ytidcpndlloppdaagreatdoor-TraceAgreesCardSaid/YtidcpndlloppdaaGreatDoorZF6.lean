import Derived.Test.YtidcpndlloppdaaGreatDoorZF2
/-
  Layer 2: floors, cuts, sums and products of whole numbers.
  Conditions: none.
-/
set_option linter.unusedVariables false
set_option linter.unusedSimpArgs false
set_option exponentiation.threshold 2000
set_option maxRecDepth 20000
namespace Go.Proofs.YtidcpndlloppdaaGreatDoor
open Ieee
def TT : Nat := 2 ^ 1074
theorem tt_pos : 0 < TT := Nat.two_pow_pos 1074
theorem tt_split {u : Nat} (h : u ≤ 1074) : 2 ^ u * 2 ^ (1074 - u) = TT := by rw [← Nat.pow_add, show u + (1074 - u) = 1074 by omega]; rfl
theorem cut_any (s : Bool) (n d : Nat) : Toward.down.cut s n d = n / 2 ^ d + (s && n % 2 ^ d != 0).toNat ∧ Toward.zero.cut s n d = n / 2 ^ d := by
  unfold Toward.cut
  dsimp only
  rw [Nat.one_shiftLeft]
  by_cases h : d ≤ n.log2 + 2
  · rw [Nat.min_eq_left h]; exact ⟨rfl, by simp⟩
  · have h1 : n < 2 ^ (n.log2 + 1) := Nat.lt_log2_self
    have h2 : n < 2 ^ (n.log2 + 2) := Nat.lt_trans h1 (Nat.pow_lt_pow_right (by omega) (by omega))
    have h3 : n < 2 ^ d := Nat.lt_of_lt_of_le h2 (Nat.pow_le_pow_right (by omega) (by omega))
    rw [Nat.min_eq_right (by omega), Nat.div_eq_of_lt h2, Nat.mod_eq_of_lt h2, Nat.div_eq_of_lt h3, Nat.mod_eq_of_lt h3]
    exact ⟨rfl, by simp⟩
def flr (w : Nat) : Nat := double.write ((double.read w).integral .down)
def trc (w : Nat) : Nat := double.write ((double.read w).integral .zero)
theorem integral_high (way : Toward) {w : Nat} (hw : w < 2 * SW) (h : rg w < IR) (hu : 1074 ≤ up (rg w)) :
    (double.read w).integral way = .number (ngw w) (kp (rg w) * 2 ^ (up (rg w) - 1074)) 0 ∧ double.write ((double.read w).integral way) = w := by
  have e : (double.read w).integral way = .number (ngw w) (kp (rg w) * 2 ^ (up (rg w) - 1074)) 0 := by
    rw [read_fin h]
    simp only [Datum.integral]
    rw [show (-1074 + (up (rg w) : Int)).toNat = up (rg w) - 1074 by omega, show (-(-1074 + (up (rg w) : Int))).toNat = 0 by omega, Nat.shiftLeft_eq]
    congr 1
    have hp : 0 < kp (rg w) * 2 ^ (up (rg w) - 1074) := Nat.mul_pos (by have := kp_ge (show up (rg w) ≠ 0 by omega); have := bn_pos; omega) (Nat.two_pow_pos _)
    have := cut_whole (ngw w) way _ 0 hp
    simpa using this
  refine ⟨e, ?_⟩
  rw [e]
  show double.nearest _ _ _ = w
  have hr : 0 < rg w := by
    refine Nat.pos_of_ne_zero (fun e => ?_)
    rw [e] at hu
    rw [show up 0 = 0 by decide] at hu
    omega
  rw [nearest_exact (r := rg w) (ngw w) (Nat.le_of_lt h) hr, wd_self hw]
  show kp (rg w) * 2 ^ (up (rg w) - 1074) * 2 ^ 1074 = kp (rg w) * 2 ^ up (rg w) * 2 ^ 0
  rw [Nat.mul_assoc, ← Nat.pow_add, show up (rg w) - 1074 + 1074 = up (rg w) by omega]
  simp
theorem integral_low (way : Toward) {w : Nat} (h : rg w < IR) (hu : up (rg w) < 1074) :
    (double.read w).integral way = .number (ngw w) (way.cut (ngw w) (kp (rg w)) (1074 - up (rg w))) 0 := by
  rw [read_fin h]
  simp only [Datum.integral]
  rw [show (-1074 + (up (rg w) : Int)).toNat = 0 by omega, show (-(-1074 + (up (rg w) : Int))).toNat = 1074 - up (rg w) by omega, Nat.shiftLeft_zero]
theorem write_nat (s : Bool) {n : Nat} (h : n < 2 * BN) : double.write (.number s n 0) = iw s n := nearest_whole s h rfl
theorem half_lt {k d : Nat} (hk : k < 2 * BN) (hd : 0 < d) : k / 2 ^ d < BN := by
  have : 2 ≤ 2 ^ d := by
    calc 2 = 2 ^ 1 := rfl
      _ ≤ 2 ^ d := Nat.pow_le_pow_right (by omega) hd
  rw [Nat.div_lt_iff_lt_mul (Nat.two_pow_pos d)]
  calc k < 2 * BN := hk
    _ ≤ 2 ^ d * BN := Nat.mul_le_mul_right _ this
    _ = BN * 2 ^ d := Nat.mul_comm _ _
theorem vl_low {w : Nat} (hu : up (rg w) < 1074) (x : Nat) : (sgn (ngw w) x) * (TT : Int) = sgn (ngw w) (x * 2 ^ (1074 - up (rg w))) * (2 ^ up (rg w) : Nat) := by
  rw [← tt_split (show up (rg w) ≤ 1074 by omega), sgn_scale, Nat.mul_comm (2 ^ up (rg w)), Int.natCast_mul, ← Int.mul_assoc]
theorem vl_kp (w : Nat) : vl w = sgn (ngw w) (kp (rg w)) * (2 ^ up (rg w) : Nat) := by
  unfold vl mg; rw [sgn_scale]
theorem flr_spec {w : Nat} (hw : w < 2 * SW) (h : rg w < IR) :
    (1074 ≤ up (rg w) ∧ flr w = w) ∨ (up (rg w) < 1074 ∧ ∃ n : Nat, n ≤ BN ∧ flr w = iw (ngw w) n ∧ sgn (ngw w) n * (TT : Int) ≤ vl w ∧ vl w < (sgn (ngw w) n + 1) * (TT : Int)) := by
  rcases Nat.lt_or_ge (up (rg w)) 1074 with hu | hu
  · refine .inr ⟨hu, ?_⟩
    have hlt := half_lt (kp_lt (rg w)) (show 0 < 1074 - up (rg w) by omega)
    have hdm := Nat.div_add_mod (kp (rg w)) (2 ^ (1074 - up (rg w)))
    have hm := Nat.mod_lt (kp (rg w)) (Nat.two_pow_pos (1074 - up (rg w)))
    have hP := Nat.two_pow_pos (up (rg w))
    refine ⟨kp (rg w) / 2 ^ (1074 - up (rg w)) + (ngw w && kp (rg w) % 2 ^ (1074 - up (rg w)) != 0).toNat, ?_, ?_, ?_, ?_⟩
    · have : (ngw w && kp (rg w) % 2 ^ (1074 - up (rg w)) != 0).toNat ≤ 1 := Bool.toNat_le _
      omega
    · unfold flr
      rw [integral_low _ h hu, (cut_any _ _ _).1]
      refine write_nat _ ?_
      have : (ngw w && kp (rg w) % 2 ^ (1074 - up (rg w)) != 0).toNat ≤ 1 := Bool.toNat_le _
      have := bn_pos
      omega
    · rw [vl_low hu, vl_kp]
      refine Int.mul_le_mul_of_nonneg_right ?_ (by omega)
      generalize kp (rg w) / 2 ^ (1074 - up (rg w)) = q at *
      generalize 2 ^ (1074 - up (rg w)) = D at *
      rw [Nat.mul_comm D q] at hdm
      cases hn : ngw w
      · simp only [sgn, Bool.false_and, Bool.toNat_false, Nat.add_zero, Bool.false_eq_true, if_false]
        omega
      · simp only [sgn, Bool.true_and, if_true]
        by_cases hr : kp (rg w) % D = 0
        · rw [hr]; simp; omega
        · have : (kp (rg w) % D != 0) = true := by simpa using hr
          rw [this, Bool.toNat_true, Nat.succ_mul]; omega
    · have e1 : (sgn (ngw w) (kp (rg w) / 2 ^ (1074 - up (rg w)) + (ngw w && kp (rg w) % 2 ^ (1074 - up (rg w)) != 0).toNat) + 1) * (TT : Int) = (sgn (ngw w) ((kp (rg w) / 2 ^ (1074 - up (rg w)) + (ngw w && kp (rg w) % 2 ^ (1074 - up (rg w)) != 0).toNat) * 2 ^ (1074 - up (rg w))) + (2 ^ (1074 - up (rg w)) : Nat)) * (2 ^ up (rg w) : Nat) := by
        rw [Int.add_mul, vl_low hu, Int.add_mul, Int.one_mul, ← tt_split (show up (rg w) ≤ 1074 by omega), Nat.mul_comm (2 ^ up (rg w)), Int.natCast_mul]
      rw [e1, vl_kp]
      refine Int.mul_lt_mul_of_pos_right ?_ (by omega)
      generalize kp (rg w) / 2 ^ (1074 - up (rg w)) = q at *
      generalize 2 ^ (1074 - up (rg w)) = D at *
      rw [Nat.mul_comm D q] at hdm
      cases hn : ngw w
      · simp only [sgn, Bool.false_and, Bool.toNat_false, Nat.add_zero, Bool.false_eq_true, if_false]
        omega
      · simp only [sgn, Bool.true_and, if_true]
        by_cases hr : kp (rg w) % D = 0
        · rw [hr]; simp; omega
        · have : (kp (rg w) % D != 0) = true := by simpa using hr
          rw [this, Bool.toNat_true, Nat.succ_mul]; omega
  · exact .inl ⟨hu, (integral_high .down hw h hu).2⟩
theorem trc_spec {w : Nat} (hw : w < 2 * SW) (h : rg w < IR) :
    (1074 ≤ up (rg w) ∧ trc w = w) ∨ (up (rg w) < 1074 ∧ trc w = iw (ngw w) (kp (rg w) / 2 ^ (1074 - up (rg w))) ∧ kp (rg w) / 2 ^ (1074 - up (rg w)) < BN) := by
  rcases Nat.lt_or_ge (up (rg w)) 1074 with hu | hu
  · refine .inr ⟨hu, ?_⟩
    have hlt := half_lt (kp_lt (rg w)) (show 0 < 1074 - up (rg w) by omega)
    refine ⟨?_, hlt⟩
    unfold trc
    rw [integral_low _ h hu, (cut_any _ _ _).2]
    exact write_nat _ (by omega)
  · exact .inl ⟨hu, (integral_high .zero hw h hu).2⟩
theorem vl_tt (s : Bool) {n : Nat} (h : n < 2 * BN) : vl (iw s n) = sgn s n * (TT : Int) := iw_vl h
def Iw (z : Int) : Nat := iw (z < 0) z.natAbs
theorem sgn_self (z : Int) : sgn (z < 0) z.natAbs = z := by
  unfold sgn; by_cases h : z < 0 <;> simp [h] <;> omega
theorem vl_Iw {z : Int} (h : z.natAbs < 2 * BN) : vl (Iw z) = z * (TT : Int) := by unfold Iw; rw [vl_tt _ h, sgn_self]
theorem sum_whole {x y : Nat} {z : Int} (hx : rg x < IR) (hy : rg y < IR) (hz : z.natAbs < 2 * BN) (h : vl x + vl y = z * (TT : Int)) :
    double.add x y = some (if z = 0 then double.word (ngw x && ngw y) 0 else Iw z) := by
  unfold Format.add
  rw [read_fin hx, read_fin hy]
  simp only [Datum.sum, Option.map_some]
  congr 1
  rw [signed_eq, signed_eq]
  generalize hu : up (rg x) = u
  generalize hv : up (rg y) = v
  have e1 : (-1074 + (u : Int) - min (-1074 + (u : Int)) (-1074 + (v : Int))).toNat = u - min u v := by omega
  have e2 : (-1074 + (v : Int) - min (-1074 + (u : Int)) (-1074 + (v : Int))).toNat = v - min u v := by omega
  have e3 : min (-1074 + (u : Int)) (-1074 + (v : Int)) = -1074 + ((min u v : Nat) : Int) := by omega
  rw [e1, e2, e3]
  have key : (sgn (ngw x) (kp (rg x) * 2 ^ (u - min u v)) + sgn (ngw y) (kp (rg y) * 2 ^ (v - min u v))) * ((2 ^ min u v : Nat) : Int) = z * (TT : Int) := by
    rw [Int.add_mul, ← sgn_scale, ← sgn_scale, Nat.mul_assoc, Nat.mul_assoc, ← Nat.pow_add, ← Nat.pow_add, show u - min u v + min u v = u by omega, show v - min u v + min u v = v by omega, ← h, vl_kp, vl_kp, sgn_scale, sgn_scale, hu, hv]
  generalize (sgn (ngw x) (kp (rg x) * 2 ^ (u - min u v)) + sgn (ngw y) (kp (rg y) * 2 ^ (v - min u v))) = t at *
  generalize min u v = a at *
  have hp : (0 : Int) < ((2 ^ a : Nat) : Int) := by exact_mod_cast Nat.two_pow_pos a
  have hT : (0 : Int) < (TT : Int) := by exact_mod_cast tt_pos
  have hne : ((2 ^ a : Nat) : Int) ≠ 0 := Int.ne_of_gt hp
  have hTn : (TT : Int) ≠ 0 := Int.ne_of_gt hT
  by_cases hz0 : z = 0
  · rw [if_pos hz0]
    rw [hz0, Int.zero_mul] at key
    have ht : t = 0 := by
      rcases Int.mul_eq_zero.1 key with k | k
      · exact k
      · exact absurd k hne
    rw [if_pos ht, ht]
    exact nearest_zero _ _
  · rw [if_neg hz0]
    have ht : t ≠ 0 := fun e => by
      rw [e, Int.zero_mul] at key
      rcases Int.mul_eq_zero.1 key.symm with k | k
      · exact hz0 k
      · exact hTn k
    have hs : (t < 0) = (z < 0) := by
      have c : t * ((2 ^ a : Nat) : Int) < 0 ↔ z * (TT : Int) < 0 := by rw [key]
      have c1 : t * ((2 ^ a : Nat) : Int) < 0 ↔ t < 0 := by
        constructor
        · intro hh; exact Int.lt_of_mul_lt_mul_right (a := ((2 ^ a : Nat) : Int)) (by simpa using hh) (Int.le_of_lt hp)
        · intro hh; exact Int.mul_neg_of_neg_of_pos hh hp
      have c2 : z * (TT : Int) < 0 ↔ z < 0 := by
        constructor
        · intro hh; exact Int.lt_of_mul_lt_mul_right (a := (TT : Int)) (by simpa using hh) (Int.le_of_lt hT)
        · intro hh; exact Int.mul_neg_of_neg_of_pos hh hT
      exact propext (c1.symm.trans (c.trans c2))
    rw [if_neg ht]
    show double.nearest (decide (t < 0)) t.natAbs _ = iw (decide (z < 0)) z.natAbs
    have hd : decide (t < 0) = decide (z < 0) := by simp only [hs]
    rw [hd]
    refine nearest_whole _ hz ?_
    have kn : t.natAbs * 2 ^ a = z.natAbs * TT := by
      have := congrArg Int.natAbs key
      rw [Int.natAbs_mul, Int.natAbs_mul] at this
      simpa using this
    rcases Nat.lt_or_ge a 1074 with ha | ha
    · have e4 : (-1074 + (a : Int)).toNat = 0 := by omega
      have e5 : (-(-1074 + (a : Int))).toNat = 1074 - a := by omega
      rw [e4, e5, Nat.pow_zero, Nat.mul_one]
      rw [← tt_split (show a ≤ 1074 by omega), Nat.mul_comm (2 ^ a), ← Nat.mul_assoc] at kn
      exact Nat.eq_of_mul_eq_mul_right (Nat.two_pow_pos a) kn
    · have e4 : (-1074 + (a : Int)).toNat = a - 1074 := by omega
      have e5 : (-(-1074 + (a : Int))).toNat = 0 := by omega
      rw [e4, e5, Nat.pow_zero, Nat.mul_one]
      have : 2 ^ a = 2 ^ (a - 1074) * TT := by unfold TT; rw [← Nat.pow_add, show a - 1074 + 1074 = a by omega]
      rw [this, ← Nat.mul_assoc] at kn
      exact Nat.eq_of_mul_eq_mul_right tt_pos kn
end Go.Proofs.YtidcpndlloppdaaGreatDoor

/-
  Layer 2: products of whole numbers; order of whole numbers; floors against their numbers.
  Conditions: none.
-/
set_option linter.unusedVariables false
set_option linter.unusedSimpArgs false
set_option exponentiation.threshold 3000
set_option maxRecDepth 20000
namespace Go.Proofs.YtidcpndlloppdaaGreatDoor
open Ieee
theorem Iw_rg {z : Int} (h : z.natAbs < 2 * BN) : rg (Iw z) = irg z.natAbs := iw_rg h
theorem Iw_fin {z : Int} (h : z.natAbs < 2 * BN) : rg (Iw z) < IR := by rw [Iw_rg h]; exact irg_lt h
theorem Iw_ng {z : Int} (h : z.natAbs < 2 * BN) : ngw (Iw z) = (z < 0 : Bool) := iw_ng h
theorem wd_lt (s : Bool) {r : Nat} (h : r < SW) : double.word s r < 2 * SW := by rw [wd_eq]; cases s <;> simp <;> omega
theorem iw_lt (s : Bool) {n : Nat} (h : n < 2 * BN) : iw s n < 2 * SW := wd_lt s (irg_sw h)
theorem Iw_lt {z : Int} (h : z.natAbs < 2 * BN) : Iw z < 2 * SW := iw_lt _ h
theorem two63_or {x : Nat} (h : x < 2 ^ 63) : 2 ^ 63 + x = 2 ^ 63 ||| x := by
  have := Nat.two_pow_add_eq_or_of_lt h 1
  simpa using this
theorem xor63 {x : Nat} (h : x < 2 ^ 63) : x ^^^ 2 ^ 63 = 2 ^ 63 + x ∧ (2 ^ 63 + x) ^^^ 2 ^ 63 = x := by
  rw [two63_or h]
  constructor <;> apply Nat.eq_of_testBit_eq <;> intro i <;> (by_cases hi : i = 63)
  · subst hi
    rw [Nat.testBit_xor, Nat.testBit_or, Nat.testBit_lt_two_pow h, Nat.testBit_two_pow_self]; rfl
  · rw [Nat.testBit_xor, Nat.testBit_or, Nat.testBit_two_pow_of_ne (Ne.symm hi)]; simp
  · subst hi
    rw [Nat.testBit_xor, Nat.testBit_or, Nat.testBit_lt_two_pow h, Nat.testBit_two_pow_self]; rfl
  · rw [Nat.testBit_xor, Nat.testBit_or, Nat.testBit_two_pow_of_ne (Ne.symm hi)]; simp
theorem sw_pow : SW = 2 ^ 63 := by decide
theorem neg_wd {w : Nat} (hw : w < 2 * SW) : w ^^^ SW = double.word (!ngw w) (rg w) := by
  have hr := rg_lt w
  have h := wd_self hw
  rw [wd_eq] at h ⊢
  rw [sw_pow] at hr h ⊢
  have hx := xor63 hr
  cases hn : ngw w
  · rw [hn] at h
    simp only [Bool.false_eq_true, if_false] at h
    rw [h] at hx
    simp only [Bool.not_false, if_true]
    rw [hx.1, h]
  · rw [hn] at h
    simp only [if_true] at h
    rw [h] at hx
    simp only [Bool.not_true, Bool.false_eq_true, if_false]
    exact hx.2
theorem neg_ng {w : Nat} (hw : w < 2 * SW) : ngw (w ^^^ SW) = (!ngw w) ∧ rg (w ^^^ SW) = rg w := by
  rw [neg_wd hw, ngw_wd _ (rg_lt w), rg_wd _ (rg_lt w)]
  exact ⟨rfl, rfl⟩
theorem flr_iw (s : Bool) {n : Nat} (h : n < 2 * BN) : flr (iw s n) = iw s n := by
  have hT : (0 : Int) < (TT : Int) := by exact_mod_cast tt_pos
  have hf : rg (iw s n) < IR := by rw [iw_rg h]; exact irg_lt h
  rcases flr_spec (iw_lt s h) hf with ⟨_, e⟩ | ⟨_, m, hm, e, h1, h2⟩
  · exact e
  · rw [e, iw_ng h]
    rw [iw_ng h] at h1 h2
    rw [vl_tt s h] at h1 h2
    have h1 := Int.le_of_mul_le_mul_right h1 hT
    have h2 := Int.lt_of_mul_lt_mul_right h2 (Int.le_of_lt hT)
    have : m = n := by
      cases s <;> simp only [sgn, if_true, Bool.false_eq_true, if_false] at h1 h2 <;> omega
    rw [this]
end Go.Proofs.YtidcpndlloppdaaGreatDoor

/-
  Layer 2: the lesser and the greater one, ranks, noughts, one word for what is no number.
  Conditions: none.
-/
set_option linter.unusedVariables false
set_option linter.unusedSimpArgs false
set_option exponentiation.threshold 3000
set_option maxRecDepth 20000
namespace Go.Proofs.YtidcpndlloppdaaGreatDoor
open Ieee
def NO : Nat := 9221120237041090560
def nanw (w : Nat) : Bool := decide (IR < rg w)
def cn (w : Nat) : Nat := if nanw w = true then NO else w
def far (op : BinOp) (x y : Nat) : Nat := match floatBits op .f64 x y with
  | some r => cn r
  | none => NO
theorem isNaN_read (w : Nat) : (double.read w).isNaN = nanw w := by
  rw [read_eq]; unfold nanw
  split
  · rename_i h; simp [Datum.isNaN]; omega
  · split
    · rename_i h1 h2; simp [Datum.isNaN]; omega
    · rename_i h1 h2; simp [Datum.isNaN]; omega
def rk (w : Nat) : Nat := if ngw w = true then SW - 1 - rg w else SW + rg w
theorem rk_lt {x y : Nat} (h : nanw x = false) (k : nanw y = false) : rk x < rk y ↔ (sr x < sr y ∨ (ngw x = true ∧ ngw y = false ∧ rg x = 0 ∧ rg y = 0)) := by
  have h1 := rg_lt x
  have h2 := rg_lt y
  unfold rk sr sgn
  cases ngw x <;> cases ngw y <;> simp <;> omega
def pickN (neg : Bool) (win : Ordering) (x y : Nat) : Nat :=
  if (double.read x == .infinity neg || double.read y == .infinity neg) = true then double.write (.infinity neg)
  else if ((double.read x).isNaN || (double.read y).isNaN) = true then 9221120237041090561
  else if ((double.read x).isZero && (double.read y).isZero) = true then (if (double.read x).neg == neg then x else y)
  else if ((double.read x).order (double.read y) == some win) = true then x else y
theorem read_inf_iff (w : Nat) (s : Bool) : (double.read w == Datum.infinity s) = decide (rg w = IR ∧ ngw w = s) := by
  rw [read_eq]
  split
  · rename_i h
    have : ¬ (rg w = IR ∧ ngw w = s) := fun e => by omega
    simp only [this, decide_false]; exact beq_eq_false_iff_ne.2 (by simp)
  · split
    · rename_i h1 h2
      cases hs : ngw w <;> cases s <;> simp [h2]
    · rename_i h1 h2
      have : ¬ (rg w = IR ∧ ngw w = s) := fun e => h2 e.1
      simp only [this, decide_false]; exact beq_eq_false_iff_ne.2 (by simp)
theorem kp_zero (r : Nat) : kp r = 0 ↔ r = 0 := by
  unfold kp
  have := bn_pos
  split <;> omega
theorem isZero_read {w : Nat} : (double.read w).isZero = decide (rg w = 0) := by
  have : 0 < IR := by decide
  rw [read_eq]
  split
  · by_cases h : rg w = 0
    · have : kp (rg w) = 0 := (kp_zero _).2 h
      rw [this]; simp [Datum.isZero, h]
    · have h2 : ¬ kp (rg w) = 0 := fun e => h ((kp_zero _).1 e)
      simp only [h, decide_false]
      generalize kp (rg w) = m at h2
      cases m with
      | zero => exact absurd rfl h2
      | succ m => rfl
  · split
    · have : ¬ rg w = 0 := by omega
      simp [Datum.isZero, this]
    · have : ¬ rg w = 0 := by omega
      simp [Datum.isZero, this]
theorem neg_read' (w : Nat) : (double.read w).neg = ngw w := by
  rw [read_eq]; split
  · rfl
  · split <;> rfl
theorem cmp_lt (a b : Int) : (compare a b == Ordering.lt) = decide (a < b) := by
  simp only [compare, compareOfLessAndEq]
  split
  · rename_i h; simp [h]
  · rename_i h; split <;> simp [h]
theorem cmp_gt (a b : Int) : (compare a b == Ordering.gt) = decide (b < a) := by
  simp only [compare, compareOfLessAndEq]
  split
  · rename_i h; simp; omega
  · rename_i h; split
    · rename_i k; simp; omega
    · rename_i k; simp; omega
theorem cmp_eq (a b : Int) : (compare a b == Ordering.eq) = decide (a = b) := by
  simp only [compare, compareOfLessAndEq]
  split
  · rename_i h; simp; omega
  · rename_i h; split
    · rename_i k; simp [k]
    · rename_i k; simp [k]
theorem nan_le {w : Nat} (h : nanw w = false) : rg w ≤ IR := by unfold nanw at h; simpa using h
theorem lt_order (x y : Nat) : (double.order x y == some Ordering.lt) = (!nanw x && !nanw y && decide (sr x < sr y)) := by
  cases hx : nanw x
  · cases hy : nanw y
    · rw [order_eq (nan_le hx) (nan_le hy)]
      simpa using cmp_lt (sr x) (sr y)
    · rw [order_nan (.inr (by unfold nanw at hy; simpa using hy))]; rfl
  · rw [order_nan (.inl (by unfold nanw at hx; simpa using hx))]; rfl
theorem eq_order (x y : Nat) : (double.order x y == some Ordering.eq) = (!nanw x && !nanw y && decide (sr x = sr y)) := by
  cases hx : nanw x
  · cases hy : nanw y
    · rw [order_eq (nan_le hx) (nan_le hy)]
      simpa using cmp_eq (sr x) (sr y)
    · rw [order_nan (.inr (by unfold nanw at hy; simpa using hy))]; rfl
  · rw [order_nan (.inl (by unfold nanw at hx; simpa using hx))]; rfl
theorem min_law {x y : Nat} (hx : x < 2 * SW) (hy : y < 2 * SW) (h : nanw x = false) (k : nanw y = false) : pickN true .lt x y = if rk y < rk x then y else x := by
  have hI : 0 < IR := by decide
  have h1 := nan_le h
  have h2 := nan_le k
  have e : ∀ a b, (double.read a).order (double.read b) = double.order a b := fun _ _ => rfl
  have iff := rk_lt k h
  unfold pickN
  simp only [read_inf_iff, isNaN_read, isZero_read, neg_read', e, lt_order, h, k]
  have w1 := wd_self hx
  have w2 := wd_self hy
  have hw : double.write (.infinity true) = double.word true IR := by rw [← dbl_inf]; rfl
  rw [hw]
  unfold sr sgn at *
  generalize rg x = r at *
  generalize rg y = s at *
  cases hn : ngw x <;> cases hm : ngw y <;> rw [hn, hm] at iff <;> simp only [hn, hm] at w1 w2 <;> simp at iff ⊢ <;> (repeat' split) <;> first | rfl | omega | skip
  all_goals first | (rw [← w1]; congr 1; omega) | (rw [← w2]; congr 1; omega) | (rw [← w1, ← w2]; congr 1; omega)
theorem max_law {x y : Nat} (hx : x < 2 * SW) (hy : y < 2 * SW) (h : nanw x = false) (k : nanw y = false) : pickN false .gt x y = if rk x < rk y then y else x := by
  have hI : 0 < IR := by decide
  have h1 := nan_le h
  have h2 := nan_le k
  have e : ∀ a b, ((double.read a).order (double.read b) == some Ordering.gt) = ((!nanw a && !nanw b) && decide (sr b < sr a)) := fun a b => by
    show (double.order a b == _) = _
    cases hx : nanw a
    · cases hy : nanw b
      · rw [order_eq (nan_le hx) (nan_le hy)]
        simpa using cmp_gt (sr a) (sr b)
      · rw [order_nan (.inr (by unfold nanw at hy; simpa using hy))]; rfl
    · rw [order_nan (.inl (by unfold nanw at hx; simpa using hx))]; rfl
  have iff := rk_lt h k
  unfold pickN
  simp only [read_inf_iff, isNaN_read, isZero_read, neg_read', e, h, k]
  have w1 := wd_self hx
  have w2 := wd_self hy
  have hw : double.write (.infinity false) = double.word false IR := by rw [← dbl_inf]; rfl
  rw [hw]
  unfold sr sgn at *
  generalize rg x = r at *
  generalize rg y = s at *
  cases hn : ngw x <;> cases hm : ngw y <;> rw [hn, hm] at iff <;> simp only [hn, hm] at w1 w2 <;> simp at iff ⊢ <;> (repeat' split) <;> first | rfl | omega | skip
  all_goals first | (rw [← w1]; congr 1; omega) | (rw [← w2]; congr 1; omega) | (rw [← w1, ← w2]; congr 1; omega)
end Go.Proofs.YtidcpndlloppdaaGreatDoor

/-
  Layer 2: which words are whole numbers; floors against their numbers.
  Conditions: none.
-/
set_option linter.unusedVariables false
set_option linter.unusedSimpArgs false
set_option exponentiation.threshold 3000
set_option maxRecDepth 20000
namespace Go.Proofs.YtidcpndlloppdaaGreatDoor
open Ieee
def wh (w : Nat) : Prop := 1074 ≤ up (rg w) ∨ kp (rg w) % 2 ^ (1074 - up (rg w)) = 0
theorem sgn_inj {s : Bool} {m n : Nat} (h : sgn s m = sgn s n) : m = n := by
  cases s <;> simp only [sgn, if_true, Bool.false_eq_true, if_false] at h <;> omega
theorem sr_eq_low {w : Nat} (hu : up (rg w) < 1074) {n : Nat} (hn : n < 2 * BN) : sr (iw (ngw w) n) = sr w ↔ n * 2 ^ (1074 - up (rg w)) = kp (rg w) := by
  rw [← (vl_lt (iw (ngw w) n) w).2, vl_tt _ hn, vl_low hu, vl_kp]
  have hp : (0 : Int) < ((2 ^ up (rg w) : Nat) : Int) := by exact_mod_cast Nat.two_pow_pos _
  constructor
  · intro h; exact sgn_inj (Int.eq_of_mul_eq_mul_right (Int.ne_of_gt hp) h)
  · intro h; rw [h]
theorem trc_whole {w : Nat} (hw : w < 2 * SW) (h : rg w < IR) : sr (trc w) = sr w ↔ wh w := by
  have hb := bn_pos
  rcases trc_spec hw h with ⟨hu, e⟩ | ⟨hu, e, hl⟩
  · rw [e]; exact ⟨fun _ => .inl hu, fun _ => rfl⟩
  · rw [e, sr_eq_low hu (by omega)]
    have hdm := Nat.div_add_mod (kp (rg w)) (2 ^ (1074 - up (rg w)))
    rw [Nat.mul_comm] at hdm
    unfold wh
    constructor
    · intro k; right; omega
    · intro k; rcases k with k | k <;> omega
theorem flr_low {w : Nat} (h : rg w < IR) (hu : up (rg w) < 1074) : flr w = iw (ngw w) (kp (rg w) / 2 ^ (1074 - up (rg w)) + (ngw w && kp (rg w) % 2 ^ (1074 - up (rg w)) != 0).toNat) := by
  have hlt := half_lt (kp_lt (rg w)) (show 0 < 1074 - up (rg w) by omega)
  unfold flr
  rw [integral_low _ h hu, (cut_any _ _ _).1]
  refine write_nat _ ?_
  have : (ngw w && kp (rg w) % 2 ^ (1074 - up (rg w)) != 0).toNat ≤ 1 := Bool.toNat_le _
  have := bn_pos
  omega
theorem whole_spec {w : Nat} (hw : w < 2 * SW) (h : rg w < 1076 * BN) (hh : wh w) : ∃ n, n < 2 * BN ∧ w = iw (ngw w) n ∧ (double.read w).toInt .zero = some (sgn (ngw w) n) := by
  have hb := bn_pos
  have hI : 1076 * BN < IR := by decide
  rcases Nat.lt_or_ge (up (rg w)) 1074 with hu | hu
  · have hk : kp (rg w) % 2 ^ (1074 - up (rg w)) = 0 := by
      rcases hh with k | k
      · omega
      · exact k
    have hlt := half_lt (kp_lt (rg w)) (show 0 < 1074 - up (rg w) by omega)
    have hdm := Nat.div_add_mod (kp (rg w)) (2 ^ (1074 - up (rg w)))
    refine ⟨kp (rg w) / 2 ^ (1074 - up (rg w)), by omega, ?_, ?_⟩
    · have e := (sr_eq_low hu (n := kp (rg w) / 2 ^ (1074 - up (rg w))) (by omega)).2 (by rw [Nat.mul_comm]; omega)
      unfold sr at e
      rw [iw_ng (by omega), iw_rg (by omega)] at e
      have e := sgn_inj e
      show w = double.word _ (irg _)
      rw [e, wd_self hw]
    · unfold Datum.toInt
      rw [integral_low _ (Nat.lt_trans h hI) hu, (cut_any _ _ _).2]
      simp only [signed_eq, Nat.pow_zero, Nat.mul_one]
  · have hu2 : up (rg w) = 1074 := by
      have := kp_up (rg w)
      have h3 : up (rg w) < 1075 := by
        refine Nat.lt_of_not_le (fun h4 => ?_)
        have h5 := Nat.mul_le_mul_right BN h4
        have h6 := kp_ge (show up (rg w) ≠ 0 by omega)
        omega
      omega
    have e := integral_high .zero hw (Nat.lt_trans h hI) hu
    refine ⟨kp (rg w), kp_lt _, ?_, ?_⟩
    · have e2 := e.2
      rw [e.1, hu2, Nat.sub_self, Nat.pow_zero, Nat.mul_one, write_nat _ (kp_lt _)] at e2
      exact e2.symm
    · unfold Datum.toInt
      rw [e.1, hu2]
      simp only [signed_eq, Nat.sub_self, Nat.pow_zero, Nat.mul_one]
theorem floor_law {w : Nat} (hw : w < 2 * SW) (h : rg w < IR) : flr w < 2 * SW ∧ rg (flr w) < IR ∧ flr (flr w) = flr w ∧ ¬ sr w < sr (flr w) ∧
    (flr w = w ∨ ∃ r, double.add (flr w) (Iw 1) = some r ∧ rg r < IR ∧ r < 2 * SW ∧ sr w < sr r) := by
  have hb := bn_pos
  have h1 : (1 : Int).natAbs < 2 * BN := by decide
  rcases flr_spec hw h with ⟨_, e⟩ | ⟨hu, n, hn, e, h2, h3⟩
  · rw [e]; exact ⟨hw, h, e, by omega, .inl rfl⟩
  · have hn2 : n < 2 * BN := by omega
    have hf : rg (flr w) < IR := by rw [e, iw_rg hn2]; exact irg_lt hn2
    refine ⟨by rw [e]; exact iw_lt _ hn2, hf, by rw [e]; exact flr_iw _ hn2, ?_, .inr ?_⟩
    · intro k
      have := (vl_lt w (flr w)).1.2 k
      rw [e, vl_tt _ hn2] at this
      omega
    · have hb1 : 1 < BN := by decide
      have hz : (sgn (ngw w) n + 1).natAbs < 2 * BN := by unfold sgn; split <;> omega
      have hs := sum_whole (z := sgn (ngw w) n + 1) hf (Iw_fin h1) hz (by rw [e, vl_tt _ hn2, vl_Iw h1, Int.add_mul])
      rw [hs]
      by_cases hz0 : sgn (ngw w) n + 1 = 0
      · rw [if_pos hz0, Iw_ng h1]
        have hd : (ngw (flr w) && decide ((1 : Int) < 0)) = false := by simp
        rw [hd]
        have e0 : double.word false 0 = Iw 0 := by decide
        rw [e0]
        have h0 : (0 : Int).natAbs < 2 * BN := by decide
        refine ⟨_, rfl, Iw_fin h0, Iw_lt h0, (vl_lt _ _).1.1 ?_⟩
        rw [vl_Iw h0, ← hz0]
        exact h3
      · rw [if_neg hz0]
        refine ⟨_, rfl, Iw_fin hz, Iw_lt hz, (vl_lt _ _).1.1 ?_⟩
        rw [vl_Iw hz]
        exact h3
end Go.Proofs.YtidcpndlloppdaaGreatDoor
