import Derived.Laws.FloatArith
/-
 Layer 2: float64 words: how their rungs stand to one another,and their order.
 Conditions: none.
-/
set_option linter.unusedVariables false
set_option linter.unusedSimpArgs false
namespace Go.Proofs.YtidcpndlloppdaaGreat
open Ieee
def BN : Nat := 4503599627370496
def SW : Nat := 9223372036854775808
def IR : Nat := 9218868437227405312
theorem dbl_binade : double.binade = BN := by decide
theorem dbl_sw : double.signWeight = SW := by decide
theorem dbl_inf : double.infRung = IR := by decide
theorem dbl_least : double.leastPlace = -1074 := by decide
theorem dbl_frac : double.fractionBits = 52 := rfl
theorem bn_pos : 0 < BN := by decide
theorem bn_pow : BN = 2 ^ 52 := by decide
def up (r : Nat) : Nat := r / BN - 1
def kp (r : Nat) : Nat := if r < BN then r else BN + r % BN
def mg (r : Nat) : Nat := kp r * 2 ^ up r
theorem up_small {r : Nat} (h : r < BN) : up r = 0 := by unfold up; rw [Nat.div_eq_of_lt h]
theorem kp_up (r : Nat) : up r * BN + kp r = r := by
 unfold kp
 split
 · rename_i h; rw [up_small h]; omega
 · rename_i h
   have h1 := Nat.div_add_mod r BN
   have h2 : 1 ≤ r / BN := (Nat.le_div_iff_mul_le bn_pos).2 (by omega)
   unfold up
   have h3 : (r / BN - 1) * BN + BN = BN * (r / BN) := by
     rw [Nat.mul_comm BN]
     obtain ⟨k,hk⟩ := Nat.exists_eq_add_of_le h2
     rw [hk,Nat.add_sub_cancel_left,Nat.add_comm 1 k,Nat.succ_mul]
   omega
theorem kp_lt (r : Nat) : kp r < 2 * BN := by
 unfold kp
 have := Nat.mod_lt r bn_pos
 split <;> omega
theorem kp_ge {r : Nat} (h : up r ≠ 0) : BN ≤ kp r := by
 unfold kp
 split
 · rename_i h2; exact absurd (up_small h2) h
 · omega
theorem mg_succ (r : Nat) : mg r < mg (r + 1) := by
 have hb := bn_pos
 have hm := Nat.mod_lt r bn_pos
 by_cases h : r + 1 < BN
 · have h0 : r < BN := by omega
   unfold mg
   rw [up_small h,up_small h0]
   simp [kp,h,h0]
 · by_cases hl : r % BN + 1 < BN
   · by_cases hr : r < BN
     · have : r % BN = r := Nat.mod_eq_of_lt hr
       omega
     · have hd : (r + 1) / BN = r / BN := by
         have h1 := Nat.div_add_mod r BN
         rw [Nat.div_eq_iff bn_pos]
         have h2 := Nat.mul_comm BN (r / BN)
         constructor <;> omega
       have hmod : (r + 1) % BN = r % BN + 1 := by
         have h1 := Nat.div_add_mod r BN
         have h2 := Nat.div_add_mod (r + 1) BN
         rw [hd] at h2
         omega
       unfold mg up kp
       rw [hd,hmod,if_neg hr,if_neg h]
       exact Nat.mul_lt_mul_of_pos_right (by omega) (Nat.two_pow_pos _)
   · have hm' : r % BN = BN - 1 := by omega
     have h1 := Nat.div_add_mod r BN
     have hd : (r + 1) / BN = r / BN + 1 := by
       rw [Nat.div_eq_iff bn_pos]
       have h2 := Nat.mul_comm BN (r / BN)
       have h3 : (r / BN + 1) * BN = r / BN * BN + BN := Nat.succ_mul (r / BN) BN
       constructor <;> omega
     have hmod : (r + 1) % BN = 0 := by
       have h2 := Nat.div_add_mod (r + 1) BN
       rw [hd,Nat.mul_add,Nat.mul_one] at h2
       omega
     by_cases hr : r < BN
     · have e : r % BN = r := Nat.mod_eq_of_lt hr
       have : r / BN = 0 := Nat.div_eq_of_lt hr
       unfold mg up kp
       rw [hd,hmod,if_pos hr,if_neg h,this]
       simp
       omega
     · have h2 : 1 ≤ r / BN := (Nat.le_div_iff_mul_le bn_pos).2 (by omega)
       obtain ⟨k,hk⟩ := Nat.exists_eq_add_of_le h2
       unfold mg up kp
       rw [hd,hmod,if_neg hr,if_neg h,hk,hm',Nat.add_sub_cancel_left]
       rw [show 1 + k + 1 - 1 = k + 1 by omega,Nat.pow_succ,Nat.add_zero,Nat.mul_comm (2 ^ k) 2, ← Nat.mul_assoc]
       exact Nat.mul_lt_mul_of_pos_right (by omega) (Nat.two_pow_pos _)
theorem mg_mono {r s : Nat} (h : r < s) : mg r < mg s := by
 induction s with
 | zero => omega
 | succ s ih =>
   by_cases hrs : r = s
   · subst hrs; exact mg_succ r
   · exact Nat.lt_trans (ih (by omega)) (mg_succ s)
theorem mg_lt {r s : Nat} : mg r < mg s ↔ r < s := by
 constructor
 · intro h
   rcases Nat.lt_trichotomy r s with h1 | h1 | h1
   · exact h1
   · subst h1; omega
   · have := mg_mono h1; omega
 · exact mg_mono
theorem mg_inj {r s : Nat} (h : mg r = mg s) : r = s := by
 rcases Nat.lt_trichotomy r s with h1 | h1 | h1
 · have := mg_mono h1; omega
 · exact h1
 · have := mg_mono h1; omega
theorem mg_zero : mg 0 = 0 := by decide
def ngw (w : Nat) : Bool := w / SW % 2 == 1
def rg (w : Nat) : Nat := w % SW
theorem read_eq (w : Nat) : double.read w = (if rg w < IR then Datum.number (ngw w) (kp (rg w)) (-1074 + (up (rg w) : Int)) else if rg w = IR then .infinity (ngw w) else .nan (ngw w) (rg w - IR)) := by
 unfold Format.read
 simp only [dbl_binade,dbl_sw,dbl_inf,dbl_least]
 have hi : BN < IR := by decide
 show (if rg w < BN then Datum.number (ngw w) (rg w) (-1074) else if rg w < IR then Datum.number (ngw w) (BN + rg w % BN) (-1074 + ((rg w / BN - 1 : Nat) : Int)) else if rg w = IR then .infinity (ngw w) else .nan (ngw w) (rg w - IR)) = _
 by_cases h : rg w < BN
 · rw [if_pos h,if_pos (Nat.lt_trans h hi),up_small h,kp,if_pos h]; rfl
 · rw [if_neg h,kp,if_neg h]; rfl
theorem read_fin {w : Nat} (h : rg w < IR) : double.read w = .number (ngw w) (kp (rg w)) (-1074 + (up (rg w) : Int)) := by rw [read_eq,if_pos h]
theorem read_inf {w : Nat} (h : rg w = IR) : double.read w = .infinity (ngw w) := by rw [read_eq,if_neg (by omega),if_pos h]
theorem read_nan {w : Nat} (h : IR < rg w) : double.read w = .nan (ngw w) (rg w - IR) := by rw [read_eq,if_neg (by omega),if_neg (by omega)]
def sgn (s : Bool) (n : Nat) : Int := if s then -(n : Int) else n
theorem signed_eq (s : Bool) (m u : Nat) : signed s m u = sgn s (m * 2 ^ u) := by
 unfold signed sgn
 rw [Nat.shiftLeft_eq]
def sr (w : Nat) : Int := sgn (ngw w) (rg w)
def vl (w : Nat) : Int := sgn (ngw w) (mg (rg w))
theorem compare_int (a b c d : Int) (h1 : a < b ↔ c < d) (h2 : a = b ↔ c = d) : compare a b = compare c d := by
 simp only [compare,compareOfLessAndEq]
 by_cases x : a < b
 · rw [if_pos x,if_pos (h1.1 x)]
 · rw [if_neg x,if_neg (fun y => x (h1.2 y))]
   by_cases z : a = b
   · rw [if_pos z,if_pos (h2.1 z)]
   · rw [if_neg z,if_neg (fun y => z (h2.2 y))]
theorem sgn_lt {s t : Bool} {m n m' n' : Nat} (h0 : m = 0 ↔ m' = 0) (h0' : n = 0 ↔ n' = 0) (h : m < n ↔ m' < n') (h' : n < m ↔ n' < m') : (sgn s m < sgn t n ↔ sgn s m' < sgn t n') ∧ (sgn s m = sgn t n ↔ sgn s m' = sgn t n') := by
 cases s <;> cases t <;> simp only [sgn,if_true,Bool.false_eq_true,if_false] <;> omega
theorem mg_zero_iff (r : Nat) : mg r = 0 ↔ r = 0 := by
 constructor
 · intro h; exact mg_inj (h.trans mg_zero.symm)
 · intro h; rw [h,mg_zero]
theorem vl_lt (x y : Nat) : (vl x < vl y ↔ sr x < sr y) ∧ (vl x = vl y ↔ sr x = sr y) :=
 sgn_lt (mg_zero_iff _) (mg_zero_iff _) mg_lt mg_lt
theorem sgn_scale (s : Bool) (m k : Nat) : sgn s (m * k) = sgn s m * (k : Int) := by
 cases s <;> simp [sgn,Int.neg_mul]
theorem order_num (s t : Bool) (m n u v : Nat) : (Datum.number s m (-1074 + (u : Int))).order (.number t n (-1074 + (v : Int))) = some (compare (sgn s (m * 2 ^ u)) (sgn t (n * 2 ^ v))) := by
 simp only [Datum.order]
 rw [signed_eq,signed_eq]
 have e1 : (-1074 + (u : Int) - min (-1074 + (u : Int)) (-1074 + (v : Int))).toNat = u - min u v := by omega
 have e2 : (-1074 + (v : Int) - min (-1074 + (u : Int)) (-1074 + (v : Int))).toNat = v - min u v := by omega
 rw [e1,e2]
 congr 1
 have hu : 2 ^ u = 2 ^ (u - min u v) * 2 ^ min u v := by rw [← Nat.pow_add]; congr 1; omega
 have hv : 2 ^ v = 2 ^ (v - min u v) * 2 ^ min u v := by rw [← Nat.pow_add]; congr 1; omega
 rw [hu,hv, ← Nat.mul_assoc, ← Nat.mul_assoc,sgn_scale s (m * 2 ^ (u - min u v)) (2 ^ min u v),sgn_scale t (n * 2 ^ (v - min u v)) (2 ^ min u v)]
 have hp : (0 : Int) < ((2 ^ min u v : Nat) : Int) := by exact_mod_cast Nat.two_pow_pos _
 have hne : ((2 ^ min u v : Nat) : Int) ≠ 0 := by intro e; rw [e] at hp; exact absurd hp (by decide)
 refine compare_int _ _ _ _ ?_ ?_
 · exact (Int.mul_lt_mul_right hp).symm
 · constructor
   · intro h; rw [h]
   · intro h; exact Int.eq_of_mul_eq_mul_right hne h
theorem rg_lt (w : Nat) : rg w < SW := Nat.mod_lt _ (by decide)
theorem order_eq {x y : Nat} (hx : rg x ≤ IR) (hy : rg y ≤ IR) : double.order x y = some (compare (sr x) (sr y)) := by
 unfold Format.order
 have hI : (0 : Nat) < IR := by decide
 rcases Nat.lt_or_eq_of_le hx with h | h <;> rcases Nat.lt_or_eq_of_le hy with k | k
 · rw [read_fin h,read_fin k,order_num]
   congr 1
   exact compare_int _ _ _ _ (vl_lt x y).1 (vl_lt x y).2
 · rw [read_fin h,read_inf k]
   simp only [Datum.order]
   congr 1
   unfold sr
   rw [k]
   cases ngw x <;> cases ngw y <;> simp only [sgn,if_true,Bool.false_eq_true,if_false,compare,compareOfLessAndEq] <;> (repeat' split) <;> first | rfl | omega
 · rw [read_inf h,read_fin k]
   simp only [Datum.order]
   congr 1
   unfold sr
   rw [h]
   cases ngw x <;> cases ngw y <;> simp only [sgn,if_true,Bool.false_eq_true,if_false,compare,compareOfLessAndEq] <;> (repeat' split) <;> first | rfl | omega
 · rw [read_inf h,read_inf k]
   simp only [Datum.order]
   congr 1
   unfold sr
   rw [h,k]
   cases ngw x <;> cases ngw y <;> simp only [sgn,if_true,Bool.false_eq_true,if_false,compare,compareOfLessAndEq,Bool.toNat,cond_true,cond_false] <;> (repeat' split) <;> first | rfl | omega
theorem order_nan {x y : Nat} (h : IR < rg x ∨ IR < rg y) : double.order x y = none := by
 unfold Format.order
 rcases h with h | h
 · rw [read_nan h]; rfl
 · rw [read_nan h]
   cases double.read x <;> rfl
end Go.Proofs.YtidcpndlloppdaaGreat

/-
 Layer 2: what is written exactly; whole numbers as words; floors.
 Conditions: none.
-/
set_option linter.unusedVariables false
set_option linter.unusedSimpArgs false
namespace Go.Proofs.YtidcpndlloppdaaGreat
open Ieee
theorem wd_eq (s : Bool) (r : Nat) : double.word s r = (if s then SW + r else r) := by
 unfold Format.word; rw [dbl_sw]
theorem ngw_wd (s : Bool) {r : Nat} (h : r < SW) : ngw (double.word s r) = s := by
 have hp : 0 < SW := by decide
 rw [wd_eq]; unfold ngw
 cases s
 · simp [Nat.div_eq_of_lt h]
 · simp only [if_true]
   rw [show SW + r = r + SW by omega,Nat.add_div_right _ hp,Nat.div_eq_of_lt h]; rfl
theorem rg_wd (s : Bool) {r : Nat} (h : r < SW) : rg (double.word s r) = r := by
 rw [wd_eq]; unfold rg
 cases s
 · simp [Nat.mod_eq_of_lt h]
 · simp only [if_true]
   rw [show SW + r = r + SW by omega,Nat.add_mod_right,Nat.mod_eq_of_lt h]
theorem wd_self {w : Nat} (h : w < 2 * SW) : double.word (ngw w) (rg w) = w := by
 have h1 := Nat.div_add_mod w SW
 have hp : 0 < SW := by decide
 have h2 : w / SW < 2 := (Nat.div_lt_iff_lt_mul hp).2 h
 rw [wd_eq]; unfold ngw rg
 rcases (fun q (h : q < 2) => (by omega : q = 0 ∨ q = 1) : ∀ q : Nat,q < 2 → q = 0 ∨ q = 1) _ h2 with e | e
 · rw [e] at h1 ⊢; simp; omega
 · rw [e] at h1 ⊢; simp; omega
theorem cut_whole (neg : Bool) (way : Toward) (k d : Nat) (hk : 0 < k) : way.cut neg (k * 2 ^ d) d = k := by
 unfold Toward.cut
 have hp : 0 < 2 ^ d := Nat.two_pow_pos d
 have hl : d ≤ (k * 2 ^ d).log2 := by
   rw [Nat.le_log2 (by have := Nat.mul_pos hk hp; omega)]
   exact Nat.le_mul_of_pos_left _ hk
 rw [Nat.min_eq_left (by omega),Nat.one_shiftLeft]
 dsimp only
 rw [Nat.mul_div_cancel _ hp,Nat.mul_mod_left]
 have h1 : ¬ 2 ^ d = 0 := by omega
 cases way <;> simp [h1]
theorem up_kp_eq (u k : Nat) (h1 : k < 2 * BN) (h2 : u ≠ 0 → BN ≤ k) : up (u * BN + k) = u ∧ kp (u * BN + k) = k := by
 have hb := bn_pos
 have key : up (u * BN + k) = u := by
   by_cases hk : k < BN
   · have hu : u = 0 := by
       by_cases hu : u = 0
       · exact hu
       · have := h2 hu; omega
     subst hu
     rw [Nat.zero_mul,Nat.zero_add,up_small hk]
   · unfold up
     have : (u * BN + k) / BN = u + 1 := by
       rw [Nat.div_eq_iff hb]
       have h3 : (u + 1) * BN = u * BN + BN := Nat.succ_mul u BN
       constructor <;> omega
     rw [this]; rfl
 refine ⟨key, ?_⟩
 have := kp_up (u * BN + k)
 rw [key] at this
 omega
theorem log2_mul_pow {k : Nat} (hk : 0 < k) (d : Nat) : (k * 2 ^ d).log2 = k.log2 + d := by
 have hne : k ≠ 0 := by omega
 have hp : 0 < 2 ^ d := Nat.two_pow_pos d
 rw [Nat.log2_eq_iff (by have := Nat.mul_pos hk hp; omega)]
 have h1 := Nat.log2_self_le hne
 have h2 : k < 2 ^ (k.log2 + 1) := Nat.lt_log2_self
 constructor
 · rw [Nat.pow_add]; exact Nat.mul_le_mul_right _ h1
 · rw [show k.log2 + d + 1 = k.log2 + 1 + d by omega,Nat.pow_add]; exact (Nat.mul_lt_mul_right hp).2 h2
theorem log2_small {k : Nat} (hk : 0 < k) (h : k < 2 * BN) : k.log2 ≤ 52 := by
 have : k.log2 < 53 := (Nat.log2_lt (by omega)).2 (by rw [show (2:Nat)^53 = 2 * BN by decide]; exact h)
 omega
theorem log2_full {k : Nat} (h1 : BN ≤ k) (h2 : k < 2 * BN) : k.log2 = 52 := by
 rw [Nat.log2_eq_iff (by have := bn_pos; omega)]
 constructor
 · rw [← bn_pow]; exact h1
 · rw [show (2:Nat)^(52+1) = 2 * BN by decide]; exact h2
theorem nearest_exact (s : Bool) {r mag : Nat} {place : Int} (hr : r ≤ IR) (h0 : 0 < r)
   (h : mag * 2 ^ (place + 1074).toNat = mg r * 2 ^ (-(place + 1074)).toNat) : double.nearest s mag place = double.word s r := by
 have hkp : 0 < kp r := by
   have : ¬ mg r = 0 := fun e => by have := (mg_zero_iff r).1 e; omega
   unfold mg at this
   exact Nat.pos_of_ne_zero (fun e => this (by rw [e,Nat.zero_mul]))
 have hm : 0 < mag := by
   refine Nat.pos_of_ne_zero (fun e => ?_)
   rw [e,Nat.zero_mul] at h
   have h1 : 0 < mg r := by unfold mg; exact Nat.mul_pos hkp (Nat.two_pow_pos _)
   have h2 := Nat.mul_pos h1 (Nat.two_pow_pos (-(place + 1074)).toNat)
   omega
 have hlog : (mag.log2 : Int) + place = (kp r).log2 + (up r : Int) - 1074 := by
   have e := congrArg Nat.log2 h
   rw [log2_mul_pow hm] at e
   unfold mg at e
   rw [Nat.mul_assoc, ← Nat.pow_add,log2_mul_pow hkp] at e
   omega
 have hlast : max (place + (mag.log2 : Int) - (52 : Nat)) (-1074) = -1074 + (up r : Int) := by
   by_cases hu : up r = 0
   · have := log2_small hkp (kp_lt r)
     omega
   · have := log2_full (kp_ge hu) (kp_lt r)
     omega
 unfold Format.nearest
 rw [if_neg (by omega)]
 simp only [dbl_frac,dbl_least,dbl_binade,dbl_inf]
 rw [hlast]
 have hcut : Toward.even.cut s (mag <<< (place - (-1074 + (up r : Int))).toNat) (-1074 + (up r : Int) - place).toNat = kp r := by
   rw [Nat.shiftLeft_eq]
   have e : mag * 2 ^ (place - (-1074 + (up r : Int))).toNat = kp r * 2 ^ (-1074 + (up r : Int) - place).toNat := by
     unfold mg at h
     rw [Nat.mul_assoc, ← Nat.pow_add] at h
     refine Nat.eq_of_mul_eq_mul_right (Nat.two_pow_pos ((up r + (-(place + 1074)).toNat) - (-1074 + (up r : Int) - place).toNat)) ?_
     rw [Nat.mul_assoc,Nat.mul_assoc, ← Nat.pow_add, ← Nat.pow_add]
     have e1 : (place - (-1074 + (up r : Int))).toNat + (up r + (-(place + 1074)).toNat - (-1074 + (up r : Int) - place).toNat) = (place + 1074).toNat := by omega
     have e2 : (-1074 + (up r : Int) - place).toNat + (up r + (-(place + 1074)).toNat - (-1074 + (up r : Int) - place).toNat) = up r + (-(place + 1074)).toNat := by omega
     rw [e1,e2]; exact h
   rw [e]
   exact cut_whole _ _ _ _ hkp
 rw [hcut]
 have : (-1074 + (up r : Int) - -1074).toNat = up r := by omega
 rw [this,kp_up,Nat.min_eq_left hr]
theorem nearest_zero (s : Bool) (place : Int) : double.nearest s 0 place = double.word s 0 := by
 unfold Format.nearest; rw [if_pos rfl]
def irg (n : Nat) : Nat := if n = 0 then 0 else (n.log2 + 1022) * BN + n * 2 ^ (52 - n.log2)
theorem irg_spec {n : Nat} (h : n < 2 * BN) (h0 : 0 < n) : up (irg n) = n.log2 + 1022 ∧ kp (irg n) = n * 2 ^ (52 - n.log2) ∧ 0 < irg n ∧ irg n < IR := by
 have hl := log2_small h0 h
 have h1 := Nat.log2_self_le (show n ≠ 0 by omega)
 have h2 : n < 2 ^ (n.log2 + 1) := Nat.lt_log2_self
 have hp := Nat.two_pow_pos (52 - n.log2)
 have b1 : BN ≤ n * 2 ^ (52 - n.log2) := by
   calc BN = 2 ^ n.log2 * 2 ^ (52 - n.log2) := by rw [← Nat.pow_add,show n.log2 + (52 - n.log2) = 52 by omega]; decide
     _ ≤ _ := Nat.mul_le_mul_right _ h1
 have b2 : n * 2 ^ (52 - n.log2) < 2 * BN := by
   calc n * 2 ^ (52 - n.log2) < 2 ^ (n.log2 + 1) * 2 ^ (52 - n.log2) := (Nat.mul_lt_mul_right hp).2 h2
     _ = 2 * BN := by rw [← Nat.pow_add,show n.log2 + 1 + (52 - n.log2) = 53 by omega]; decide
 obtain ⟨k1,k2⟩ := up_kp_eq (n.log2 + 1022) _ b2 (fun _ => b1)
 have e : irg n = (n.log2 + 1022) * BN + n * 2 ^ (52 - n.log2) := by unfold irg; rw [if_neg (by omega)]
 rw [e]
 refine ⟨k1,k2,by omega, ?_⟩
 have b3 : (n.log2 + 1022) * BN ≤ 1074 * BN := Nat.mul_le_mul_right _ (by omega)
 have b4 : 1074 * BN + 2 * BN < IR := by decide
 omega
theorem irg_lt {n : Nat} (h : n < 2 * BN) : irg n < IR := by
 by_cases h0 : n = 0
 · subst h0; decide
 · exact (irg_spec h (by omega)).2.2.2
set_option exponentiation.threshold 2000
theorem irg_mg {n : Nat} (h : n < 2 * BN) : mg (irg n) = n * 2 ^ 1074 := by
 by_cases h0 : n = 0
 · subst h0; simp [irg,mg_zero]
 · obtain ⟨k1,k2,_,_⟩ := irg_spec h (by omega)
   have hl := log2_small (show 0 < n by omega) h
   unfold mg
   rw [k1,k2,Nat.mul_assoc, ← Nat.pow_add,show 52 - n.log2 + (n.log2 + 1022) = 1074 by omega]
theorem irg_pos {n : Nat} (h : n < 2 * BN) (h0 : 0 < n) : 0 < irg n := (irg_spec h h0).2.2.1
theorem nearest_whole (s : Bool) {n mag : Nat} {place : Int} (hn : n < 2 * BN) (h : mag * 2 ^ place.toNat = n * 2 ^ (-place).toNat) : double.nearest s mag place = double.word s (irg n) := by
 by_cases h0 : n = 0
 · subst h0
   rw [Nat.zero_mul] at h
   have : mag = 0 := by
     rcases Nat.mul_eq_zero.1 h with h | h
     · exact h
     · have := Nat.two_pow_pos place.toNat; omega
   subst this
   rw [nearest_zero]; rfl
 · refine nearest_exact s (Nat.le_of_lt (irg_lt hn)) (irg_pos hn (by omega)) ?_
   rw [irg_mg hn]
   refine Nat.eq_of_mul_eq_mul_right (Nat.two_pow_pos (place.toNat + (-place).toNat)) ?_
   have a1 : mag * 2 ^ (place + 1074).toNat * 2 ^ (place.toNat + (-place).toNat) = (mag * 2 ^ place.toNat) * 2 ^ ((place + 1074).toNat + (-place).toNat) := by
     rw [Nat.mul_assoc,Nat.mul_assoc, ← Nat.pow_add, ← Nat.pow_add]; congr 2; omega
   have a2 : n * 2 ^ 1074 * 2 ^ (-(place + 1074)).toNat * 2 ^ (place.toNat + (-place).toNat) = (n * 2 ^ (-place).toNat) * 2 ^ (1074 + (-(place + 1074)).toNat + place.toNat) := by
     rw [Nat.mul_assoc,Nat.mul_assoc,Nat.mul_assoc, ← Nat.pow_add, ← Nat.pow_add, ← Nat.pow_add]; congr 2; omega
   rw [a1,a2,h]
   congr 2
   omega
def iw (s : Bool) (n : Nat) : Nat := double.word s (irg n)
theorem irg_sw {n : Nat} (h : n < 2 * BN) : irg n < SW := Nat.lt_trans (irg_lt h) (by decide)
theorem iw_ng {s : Bool} {n : Nat} (h : n < 2 * BN) : ngw (iw s n) = s := ngw_wd s (irg_sw h)
theorem iw_rg {s : Bool} {n : Nat} (h : n < 2 * BN) : rg (iw s n) = irg n := rg_wd s (irg_sw h)
theorem iw_vl {s : Bool} {n : Nat} (h : n < 2 * BN) : vl (iw s n) = sgn s n * (2 ^ 1074 : Nat) := by
 unfold vl; rw [iw_ng h,iw_rg h,irg_mg h,sgn_scale]
end Go.Proofs.YtidcpndlloppdaaGreat

/-
 Layer 2: floors,cuts,sums and products of whole numbers.
 Conditions: none.
-/
set_option linter.unusedVariables false
set_option linter.unusedSimpArgs false
set_option exponentiation.threshold 2000
set_option maxRecDepth 20000
namespace Go.Proofs.YtidcpndlloppdaaGreat
open Ieee
def TT : Nat := 2 ^ 1074
theorem tt_pos : 0 < TT := Nat.two_pow_pos 1074
theorem tt_split {u : Nat} (h : u ≤ 1074) : 2 ^ u * 2 ^ (1074 - u) = TT := by rw [← Nat.pow_add,show u + (1074 - u) = 1074 by omega]; rfl
theorem cut_any (s : Bool) (n d : Nat) : Toward.down.cut s n d = n / 2 ^ d + (s && n % 2 ^ d != 0).toNat ∧ Toward.zero.cut s n d = n / 2 ^ d := by
 unfold Toward.cut
 dsimp only
 rw [Nat.one_shiftLeft]
 by_cases h : d ≤ n.log2 + 2
 · rw [Nat.min_eq_left h]; exact ⟨rfl,by simp⟩
 · have h1 : n < 2 ^ (n.log2 + 1) := Nat.lt_log2_self
   have h2 : n < 2 ^ (n.log2 + 2) := Nat.lt_trans h1 (Nat.pow_lt_pow_right (by omega) (by omega))
   have h3 : n < 2 ^ d := Nat.lt_of_lt_of_le h2 (Nat.pow_le_pow_right (by omega) (by omega))
   rw [Nat.min_eq_right (by omega),Nat.div_eq_of_lt h2,Nat.mod_eq_of_lt h2,Nat.div_eq_of_lt h3,Nat.mod_eq_of_lt h3]
   exact ⟨rfl,by simp⟩
def flr (w : Nat) : Nat := double.write ((double.read w).integral .down)
theorem integral_high (way : Toward) {w : Nat} (hw : w < 2 * SW) (h : rg w < IR) (hu : 1074 ≤ up (rg w)) :
   (double.read w).integral way = .number (ngw w) (kp (rg w) * 2 ^ (up (rg w) - 1074)) 0 ∧ double.write ((double.read w).integral way) = w := by
 have e : (double.read w).integral way = .number (ngw w) (kp (rg w) * 2 ^ (up (rg w) - 1074)) 0 := by
   rw [read_fin h]
   simp only [Datum.integral]
   rw [show (-1074 + (up (rg w) : Int)).toNat = up (rg w) - 1074 by omega,show (-(-1074 + (up (rg w) : Int))).toNat = 0 by omega,Nat.shiftLeft_eq]
   congr 1
   have hp : 0 < kp (rg w) * 2 ^ (up (rg w) - 1074) := Nat.mul_pos (by have := kp_ge (show up (rg w) ≠ 0 by omega); have := bn_pos; omega) (Nat.two_pow_pos _)
   have := cut_whole (ngw w) way _ 0 hp
   simpa using this
 refine ⟨e, ?_⟩
 rw [e]
 show double.nearest _ _ _ = w
 have hr : 0 < rg w := by
   refine Nat.pos_of_ne_zero (fun e => ?_)
   rw [e] at hu
   rw [show up 0 = 0 by decide] at hu
   omega
 rw [nearest_exact (r := rg w) (ngw w) (Nat.le_of_lt h) hr,wd_self hw]
 show kp (rg w) * 2 ^ (up (rg w) - 1074) * 2 ^ 1074 = kp (rg w) * 2 ^ up (rg w) * 2 ^ 0
 rw [Nat.mul_assoc, ← Nat.pow_add,show up (rg w) - 1074 + 1074 = up (rg w) by omega]
 simp
theorem integral_low (way : Toward) {w : Nat} (h : rg w < IR) (hu : up (rg w) < 1074) :
   (double.read w).integral way = .number (ngw w) (way.cut (ngw w) (kp (rg w)) (1074 - up (rg w))) 0 := by
 rw [read_fin h]
 simp only [Datum.integral]
 rw [show (-1074 + (up (rg w) : Int)).toNat = 0 by omega,show (-(-1074 + (up (rg w) : Int))).toNat = 1074 - up (rg w) by omega,Nat.shiftLeft_zero]
theorem write_nat (s : Bool) {n : Nat} (h : n < 2 * BN) : double.write (.number s n 0) = iw s n := nearest_whole s h rfl
theorem half_lt {k d : Nat} (hk : k < 2 * BN) (hd : 0 < d) : k / 2 ^ d < BN := by
 have : 2 ≤ 2 ^ d := by
   calc 2 = 2 ^ 1 := rfl
     _ ≤ 2 ^ d := Nat.pow_le_pow_right (by omega) hd
 rw [Nat.div_lt_iff_lt_mul (Nat.two_pow_pos d)]
 calc k < 2 * BN := hk
   _ ≤ 2 ^ d * BN := Nat.mul_le_mul_right _ this
   _ = BN * 2 ^ d := Nat.mul_comm _ _
theorem vl_low {w : Nat} (hu : up (rg w) < 1074) (x : Nat) : (sgn (ngw w) x) * (TT : Int) = sgn (ngw w) (x * 2 ^ (1074 - up (rg w))) * (2 ^ up (rg w) : Nat) := by
 rw [← tt_split (show up (rg w) ≤ 1074 by omega),sgn_scale,Nat.mul_comm (2 ^ up (rg w)),Int.natCast_mul, ← Int.mul_assoc]
theorem vl_kp (w : Nat) : vl w = sgn (ngw w) (kp (rg w)) * (2 ^ up (rg w) : Nat) := by
 unfold vl mg; rw [sgn_scale]
theorem flr_spec {w : Nat} (hw : w < 2 * SW) (h : rg w < IR) :
   (1074 ≤ up (rg w) ∧ flr w = w) ∨ (up (rg w) < 1074 ∧ ∃ n : Nat,n ≤ BN ∧ flr w = iw (ngw w) n ∧ sgn (ngw w) n * (TT : Int) ≤ vl w ∧ vl w < (sgn (ngw w) n + 1) * (TT : Int)) := by
 rcases Nat.lt_or_ge (up (rg w)) 1074 with hu | hu
 · refine .inr ⟨hu, ?_⟩
   have hlt := half_lt (kp_lt (rg w)) (show 0 < 1074 - up (rg w) by omega)
   have hdm := Nat.div_add_mod (kp (rg w)) (2 ^ (1074 - up (rg w)))
   have hm := Nat.mod_lt (kp (rg w)) (Nat.two_pow_pos (1074 - up (rg w)))
   have hP := Nat.two_pow_pos (up (rg w))
   refine ⟨kp (rg w) / 2 ^ (1074 - up (rg w)) + (ngw w && kp (rg w) % 2 ^ (1074 - up (rg w)) != 0).toNat, ?_, ?_, ?_, ?_⟩
   · have : (ngw w && kp (rg w) % 2 ^ (1074 - up (rg w)) != 0).toNat ≤ 1 := Bool.toNat_le _
     omega
   · unfold flr
     rw [integral_low _ h hu,(cut_any _ _ _).1]
     refine write_nat _ ?_
     have : (ngw w && kp (rg w) % 2 ^ (1074 - up (rg w)) != 0).toNat ≤ 1 := Bool.toNat_le _
     have := bn_pos
     omega
   · rw [vl_low hu,vl_kp]
     refine Int.mul_le_mul_of_nonneg_right ?_ (by omega)
     generalize kp (rg w) / 2 ^ (1074 - up (rg w)) = q at *
     generalize 2 ^ (1074 - up (rg w)) = D at *
     rw [Nat.mul_comm D q] at hdm
     cases hn : ngw w
     · simp only [sgn,Bool.false_and,Bool.toNat_false,Nat.add_zero,Bool.false_eq_true,if_false]
       omega
     · simp only [sgn,Bool.true_and,if_true]
       by_cases hr : kp (rg w) % D = 0
       · rw [hr]; simp; omega
       · have : (kp (rg w) % D != 0) = true := by simpa using hr
         rw [this,Bool.toNat_true,Nat.succ_mul]; omega
   · have e1 : (sgn (ngw w) (kp (rg w) / 2 ^ (1074 - up (rg w)) + (ngw w && kp (rg w) % 2 ^ (1074 - up (rg w)) != 0).toNat) + 1) * (TT : Int) = (sgn (ngw w) ((kp (rg w) / 2 ^ (1074 - up (rg w)) + (ngw w && kp (rg w) % 2 ^ (1074 - up (rg w)) != 0).toNat) * 2 ^ (1074 - up (rg w))) + (2 ^ (1074 - up (rg w)) : Nat)) * (2 ^ up (rg w) : Nat) := by
       rw [Int.add_mul,vl_low hu,Int.add_mul,Int.one_mul, ← tt_split (show up (rg w) ≤ 1074 by omega),Nat.mul_comm (2 ^ up (rg w)),Int.natCast_mul]
     rw [e1,vl_kp]
     refine Int.mul_lt_mul_of_pos_right ?_ (by omega)
     generalize kp (rg w) / 2 ^ (1074 - up (rg w)) = q at *
     generalize 2 ^ (1074 - up (rg w)) = D at *
     rw [Nat.mul_comm D q] at hdm
     cases hn : ngw w
     · simp only [sgn,Bool.false_and,Bool.toNat_false,Nat.add_zero,Bool.false_eq_true,if_false]
       omega
     · simp only [sgn,Bool.true_and,if_true]
       by_cases hr : kp (rg w) % D = 0
       · rw [hr]; simp; omega
       · have : (kp (rg w) % D != 0) = true := by simpa using hr
         rw [this,Bool.toNat_true,Nat.succ_mul]; omega
 · exact .inl ⟨hu,(integral_high .down hw h hu).2⟩
theorem vl_tt (s : Bool) {n : Nat} (h : n < 2 * BN) : vl (iw s n) = sgn s n * (TT : Int) := iw_vl h
def Iw (z : Int) : Nat := iw (z < 0) z.natAbs
theorem sgn_self (z : Int) : sgn (z < 0) z.natAbs = z := by
 unfold sgn; by_cases h : z < 0 <;> simp [h] <;> omega
theorem vl_Iw {z : Int} (h : z.natAbs < 2 * BN) : vl (Iw z) = z * (TT : Int) := by unfold Iw; rw [vl_tt _ h,sgn_self]
theorem sum_whole {x y : Nat} {z : Int} (hx : rg x < IR) (hy : rg y < IR) (hz : z.natAbs < 2 * BN) (h : vl x + vl y = z * (TT : Int)) :
   double.add x y = some (if z = 0 then double.word (ngw x && ngw y) 0 else Iw z) := by
 unfold Format.add
 rw [read_fin hx,read_fin hy]
 simp only [Datum.sum,Option.map_some]
 congr 1
 rw [signed_eq,signed_eq]
 generalize hu : up (rg x) = u
 generalize hv : up (rg y) = v
 have e1 : (-1074 + (u : Int) - min (-1074 + (u : Int)) (-1074 + (v : Int))).toNat = u - min u v := by omega
 have e2 : (-1074 + (v : Int) - min (-1074 + (u : Int)) (-1074 + (v : Int))).toNat = v - min u v := by omega
 have e3 : min (-1074 + (u : Int)) (-1074 + (v : Int)) = -1074 + ((min u v : Nat) : Int) := by omega
 rw [e1,e2,e3]
 have key : (sgn (ngw x) (kp (rg x) * 2 ^ (u - min u v)) + sgn (ngw y) (kp (rg y) * 2 ^ (v - min u v))) * ((2 ^ min u v : Nat) : Int) = z * (TT : Int) := by
   rw [Int.add_mul, ← sgn_scale, ← sgn_scale,Nat.mul_assoc,Nat.mul_assoc, ← Nat.pow_add, ← Nat.pow_add,show u - min u v + min u v = u by omega,show v - min u v + min u v = v by omega, ← h,vl_kp,vl_kp,sgn_scale,sgn_scale,hu,hv]
 generalize (sgn (ngw x) (kp (rg x) * 2 ^ (u - min u v)) + sgn (ngw y) (kp (rg y) * 2 ^ (v - min u v))) = t at *
 generalize min u v = a at *
 have hp : (0 : Int) < ((2 ^ a : Nat) : Int) := by exact_mod_cast Nat.two_pow_pos a
 have hT : (0 : Int) < (TT : Int) := by exact_mod_cast tt_pos
 have hne : ((2 ^ a : Nat) : Int) ≠ 0 := Int.ne_of_gt hp
 have hTn : (TT : Int) ≠ 0 := Int.ne_of_gt hT
 by_cases hz0 : z = 0
 · rw [if_pos hz0]
   rw [hz0,Int.zero_mul] at key
   have ht : t = 0 := by
     rcases Int.mul_eq_zero.1 key with k | k
     · exact k
     · exact absurd k hne
   rw [if_pos ht,ht]
   exact nearest_zero _ _
 · rw [if_neg hz0]
   have ht : t ≠ 0 := fun e => by
     rw [e,Int.zero_mul] at key
     rcases Int.mul_eq_zero.1 key.symm with k | k
     · exact hz0 k
     · exact hTn k
   have hs : (t < 0) = (z < 0) := by
     have c : t * ((2 ^ a : Nat) : Int) < 0 ↔ z * (TT : Int) < 0 := by rw [key]
     have c1 : t * ((2 ^ a : Nat) : Int) < 0 ↔ t < 0 := by
       constructor
       · intro hh; exact Int.lt_of_mul_lt_mul_right (a := ((2 ^ a : Nat) : Int)) (by simpa using hh) (Int.le_of_lt hp)
       · intro hh; exact Int.mul_neg_of_neg_of_pos hh hp
     have c2 : z * (TT : Int) < 0 ↔ z < 0 := by
       constructor
       · intro hh; exact Int.lt_of_mul_lt_mul_right (a := (TT : Int)) (by simpa using hh) (Int.le_of_lt hT)
       · intro hh; exact Int.mul_neg_of_neg_of_pos hh hT
     exact propext (c1.symm.trans (c.trans c2))
   rw [if_neg ht]
   show double.nearest (decide (t < 0)) t.natAbs _ = iw (decide (z < 0)) z.natAbs
   have hd : decide (t < 0) = decide (z < 0) := by simp only [hs]
   rw [hd]
   refine nearest_whole _ hz ?_
   have kn : t.natAbs * 2 ^ a = z.natAbs * TT := by
     have := congrArg Int.natAbs key
     rw [Int.natAbs_mul,Int.natAbs_mul] at this
     simpa using this
   rcases Nat.lt_or_ge a 1074 with ha | ha
   · have e4 : (-1074 + (a : Int)).toNat = 0 := by omega
     have e5 : (-(-1074 + (a : Int))).toNat = 1074 - a := by omega
     rw [e4,e5,Nat.pow_zero,Nat.mul_one]
     rw [← tt_split (show a ≤ 1074 by omega),Nat.mul_comm (2 ^ a), ← Nat.mul_assoc] at kn
     exact Nat.eq_of_mul_eq_mul_right (Nat.two_pow_pos a) kn
   · have e4 : (-1074 + (a : Int)).toNat = a - 1074 := by omega
     have e5 : (-(-1074 + (a : Int))).toNat = 0 := by omega
     rw [e4,e5,Nat.pow_zero,Nat.mul_one]
     have : 2 ^ a = 2 ^ (a - 1074) * TT := by unfold TT; rw [← Nat.pow_add,show a - 1074 + 1074 = a by omega]
     rw [this, ← Nat.mul_assoc] at kn
     exact Nat.eq_of_mul_eq_mul_right tt_pos kn
end Go.Proofs.YtidcpndlloppdaaGreat
