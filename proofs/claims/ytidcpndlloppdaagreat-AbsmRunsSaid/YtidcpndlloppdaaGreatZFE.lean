import Derived.Test.YtidcpndlloppdaaGreatZF3
import Derived.Lib.ItoaNum
import Derived.Test.YtidcpndlloppdaaGreatZEngD
import Derived.Test.YtidcpndlloppdaaGreatZVA
import Derived.Test.YtidcpndlloppdaaGreatZEngC
import Derived.Test.YtidcpndlloppdaaGreatProg
/-
 Layer 2: products of whole numbers; order of whole numbers; floors against their numbers.
 Conditions: none.
-/
set_option linter.unusedVariables false
set_option linter.unusedSimpArgs false
set_option exponentiation.threshold 3000
set_option maxRecDepth 20000
namespace Go.Proofs.YtidcpndlloppdaaGreat
open Ieee
theorem Iw_rg {z : Int} (h : z.natAbs < 2 * BN) : rg (Iw z) = irg z.natAbs := iw_rg h
theorem Iw_fin {z : Int} (h : z.natAbs < 2 * BN) : rg (Iw z) < IR := by rw [Iw_rg h]; exact irg_lt h
theorem Iw_ng {z : Int} (h : z.natAbs < 2 * BN) : ngw (Iw z) = (z < 0 : Bool) := iw_ng h
theorem wd_lt (s : Bool) {r : Nat} (h : r < SW) : double.word s r < 2 * SW := by rw [wd_eq]; cases s <;> simp <;> omega
theorem iw_lt (s : Bool) {n : Nat} (h : n < 2 * BN) : iw s n < 2 * SW := wd_lt s (irg_sw h)
theorem Iw_lt {z : Int} (h : z.natAbs < 2 * BN) : Iw z < 2 * SW := iw_lt _ h
theorem two63_or {x : Nat} (h : x < 2 ^ 63) : 2 ^ 63 + x = 2 ^ 63 ||| x := by
 have := Nat.two_pow_add_eq_or_of_lt h 1
 simpa using this
theorem xor63 {x : Nat} (h : x < 2 ^ 63) : x ^^^ 2 ^ 63 = 2 ^ 63 + x ∧ (2 ^ 63 + x) ^^^ 2 ^ 63 = x := by
 rw [two63_or h]
 constructor <;> apply Nat.eq_of_testBit_eq <;> intro i <;> (by_cases hi : i = 63)
 · subst hi
   rw [Nat.testBit_xor,Nat.testBit_or,Nat.testBit_lt_two_pow h,Nat.testBit_two_pow_self]; rfl
 · rw [Nat.testBit_xor,Nat.testBit_or,Nat.testBit_two_pow_of_ne (Ne.symm hi)]; simp
 · subst hi
   rw [Nat.testBit_xor,Nat.testBit_or,Nat.testBit_lt_two_pow h,Nat.testBit_two_pow_self]; rfl
 · rw [Nat.testBit_xor,Nat.testBit_or,Nat.testBit_two_pow_of_ne (Ne.symm hi)]; simp
theorem sw_pow : SW = 2 ^ 63 := by decide
theorem neg_wd {w : Nat} (hw : w < 2 * SW) : w ^^^ SW = double.word (!ngw w) (rg w) := by
 have hr := rg_lt w
 have h := wd_self hw
 rw [wd_eq] at h ⊢
 rw [sw_pow] at hr h ⊢
 have hx := xor63 hr
 cases hn : ngw w
 · rw [hn] at h
   simp only [Bool.false_eq_true,if_false] at h
   rw [h] at hx
   simp only [Bool.not_false,if_true]
   rw [hx.1,h]
 · rw [hn] at h
   simp only [if_true] at h
   rw [h] at hx
   simp only [Bool.not_true,Bool.false_eq_true,if_false]
   exact hx.2
theorem neg_ng {w : Nat} (hw : w < 2 * SW) : ngw (w ^^^ SW) = (!ngw w) ∧ rg (w ^^^ SW) = rg w := by
 rw [neg_wd hw,ngw_wd _ (rg_lt w),rg_wd _ (rg_lt w)]
 exact ⟨rfl,rfl⟩
theorem flr_iw (s : Bool) {n : Nat} (h : n < 2 * BN) : flr (iw s n) = iw s n := by
 have hT : (0 : Int) < (TT : Int) := by exact_mod_cast tt_pos
 have hf : rg (iw s n) < IR := by rw [iw_rg h]; exact irg_lt h
 rcases flr_spec (iw_lt s h) hf with ⟨_,e⟩ | ⟨_,m,hm,e,h1,h2⟩
 · exact e
 · rw [e,iw_ng h]
   rw [iw_ng h] at h1 h2
   rw [vl_tt s h] at h1 h2
   have h1 := Int.le_of_mul_le_mul_right h1 hT
   have h2 := Int.lt_of_mul_lt_mul_right h2 (Int.le_of_lt hT)
   have : m = n := by
     cases s <;> simp only [sgn,if_true,Bool.false_eq_true,if_false] at h1 h2 <;> omega
   rw [this]
end Go.Proofs.YtidcpndlloppdaaGreat

/-
 Layer 2: the lesser and the greater one,ranks,noughts,one word for what is no number.
 Conditions: none.
-/
set_option linter.unusedVariables false
set_option linter.unusedSimpArgs false
set_option exponentiation.threshold 3000
set_option maxRecDepth 20000
namespace Go.Proofs.YtidcpndlloppdaaGreat
open Ieee
def NO : Nat := 9221120237041090560
def nanw (w : Nat) : Bool := decide (IR < rg w)
def cn (w : Nat) : Nat := if nanw w = true then NO else w
def far (op : BinOp) (x y : Nat) : Nat := match floatBits op .f64 x y with
 | some r => cn r
 | none => NO
theorem isNaN_read (w : Nat) : (double.read w).isNaN = nanw w := by
 rw [read_eq]; unfold nanw
 split
 · rename_i h; simp [Datum.isNaN]; omega
 · split
   · rename_i h1 h2; simp [Datum.isNaN]; omega
   · rename_i h1 h2; simp [Datum.isNaN]; omega
def rk (w : Nat) : Nat := if ngw w = true then SW - 1 - rg w else SW + rg w
theorem rk_lt {x y : Nat} (h : nanw x = false) (k : nanw y = false) : rk x < rk y ↔ (sr x < sr y ∨ (ngw x = true ∧ ngw y = false ∧ rg x = 0 ∧ rg y = 0)) := by
 have h1 := rg_lt x
 have h2 := rg_lt y
 unfold rk sr sgn
 cases ngw x <;> cases ngw y <;> simp <;> omega
def pickN (neg : Bool) (win : Ordering) (x y : Nat) : Nat :=
 if (double.read x == .infinity neg || double.read y == .infinity neg) = true then double.write (.infinity neg)
 else if ((double.read x).isNaN || (double.read y).isNaN) = true then 9221120237041090561
 else if ((double.read x).isZero && (double.read y).isZero) = true then (if (double.read x).neg == neg then x else y)
 else if ((double.read x).order (double.read y) == some win) = true then x else y
theorem read_inf_iff (w : Nat) (s : Bool) : (double.read w == Datum.infinity s) = decide (rg w = IR ∧ ngw w = s) := by
 rw [read_eq]
 split
 · rename_i h
   have : ¬ (rg w = IR ∧ ngw w = s) := fun e => by omega
   simp only [this,decide_false]; exact beq_eq_false_iff_ne.2 (by simp)
 · split
   · rename_i h1 h2
     cases hs : ngw w <;> cases s <;> simp [h2]
   · rename_i h1 h2
     have : ¬ (rg w = IR ∧ ngw w = s) := fun e => h2 e.1
     simp only [this,decide_false]; exact beq_eq_false_iff_ne.2 (by simp)
theorem kp_zero (r : Nat) : kp r = 0 ↔ r = 0 := by
 unfold kp
 have := bn_pos
 split <;> omega
theorem isZero_read {w : Nat} : (double.read w).isZero = decide (rg w = 0) := by
 have : 0 < IR := by decide
 rw [read_eq]
 split
 · by_cases h : rg w = 0
   · have : kp (rg w) = 0 := (kp_zero _).2 h
     rw [this]; simp [Datum.isZero,h]
   · have h2 : ¬ kp (rg w) = 0 := fun e => h ((kp_zero _).1 e)
     simp only [h,decide_false]
     generalize kp (rg w) = m at h2
     cases m with
     | zero => exact absurd rfl h2
     | succ m => rfl
 · split
   · have : ¬ rg w = 0 := by omega
     simp [Datum.isZero,this]
   · have : ¬ rg w = 0 := by omega
     simp [Datum.isZero,this]
theorem neg_read' (w : Nat) : (double.read w).neg = ngw w := by
 rw [read_eq]; split
 · rfl
 · split <;> rfl
theorem cmp_lt (a b : Int) : (compare a b == Ordering.lt) = decide (a < b) := by
 simp only [compare,compareOfLessAndEq]
 split
 · rename_i h; simp [h]
 · rename_i h; split <;> simp [h]
theorem cmp_gt (a b : Int) : (compare a b == Ordering.gt) = decide (b < a) := by
 simp only [compare,compareOfLessAndEq]
 split
 · rename_i h; simp; omega
 · rename_i h; split
   · rename_i k; simp; omega
   · rename_i k; simp; omega
theorem cmp_eq (a b : Int) : (compare a b == Ordering.eq) = decide (a = b) := by
 simp only [compare,compareOfLessAndEq]
 split
 · rename_i h; simp; omega
 · rename_i h; split
   · rename_i k; simp [k]
   · rename_i k; simp [k]
theorem nan_le {w : Nat} (h : nanw w = false) : rg w ≤ IR := by unfold nanw at h; simpa using h
theorem lt_order (x y : Nat) : (double.order x y == some Ordering.lt) = (!nanw x && !nanw y && decide (sr x < sr y)) := by
 cases hx : nanw x
 · cases hy : nanw y
   · rw [order_eq (nan_le hx) (nan_le hy)]
     simpa using cmp_lt (sr x) (sr y)
   · rw [order_nan (.inr (by unfold nanw at hy; simpa using hy))]; rfl
 · rw [order_nan (.inl (by unfold nanw at hx; simpa using hx))]; rfl
theorem eq_order (x y : Nat) : (double.order x y == some Ordering.eq) = (!nanw x && !nanw y && decide (sr x = sr y)) := by
 cases hx : nanw x
 · cases hy : nanw y
   · rw [order_eq (nan_le hx) (nan_le hy)]
     simpa using cmp_eq (sr x) (sr y)
   · rw [order_nan (.inr (by unfold nanw at hy; simpa using hy))]; rfl
 · rw [order_nan (.inl (by unfold nanw at hx; simpa using hx))]; rfl
theorem min_law {x y : Nat} (hx : x < 2 * SW) (hy : y < 2 * SW) (h : nanw x = false) (k : nanw y = false) : pickN true .lt x y = if rk y < rk x then y else x := by
 have hI : 0 < IR := by decide
 have h1 := nan_le h
 have h2 := nan_le k
 have e : ∀ a b,(double.read a).order (double.read b) = double.order a b := fun _ _ => rfl
 have iff := rk_lt k h
 unfold pickN
 simp only [read_inf_iff,isNaN_read,isZero_read,neg_read',e,lt_order,h,k]
 have w1 := wd_self hx
 have w2 := wd_self hy
 have hw : double.write (.infinity true) = double.word true IR := by rw [← dbl_inf]; rfl
 rw [hw]
 unfold sr sgn at *
 generalize rg x = r at *
 generalize rg y = s at *
 cases hn : ngw x <;> cases hm : ngw y <;> rw [hn,hm] at iff <;> simp only [hn,hm] at w1 w2 <;> simp at iff ⊢ <;> (repeat' split) <;> first | rfl | omega | skip
 all_goals first | (rw [← w1]; congr 1; omega) | (rw [← w2]; congr 1; omega) | (rw [← w1, ← w2]; congr 1; omega)
theorem max_law {x y : Nat} (hx : x < 2 * SW) (hy : y < 2 * SW) (h : nanw x = false) (k : nanw y = false) : pickN false .gt x y = if rk x < rk y then y else x := by
 have hI : 0 < IR := by decide
 have h1 := nan_le h
 have h2 := nan_le k
 have e : ∀ a b,((double.read a).order (double.read b) == some Ordering.gt) = ((!nanw a && !nanw b) && decide (sr b < sr a)) := fun a b => by
   show (double.order a b == _) = _
   cases hx : nanw a
   · cases hy : nanw b
     · rw [order_eq (nan_le hx) (nan_le hy)]
       simpa using cmp_gt (sr a) (sr b)
     · rw [order_nan (.inr (by unfold nanw at hy; simpa using hy))]; rfl
   · rw [order_nan (.inl (by unfold nanw at hx; simpa using hx))]; rfl
 have iff := rk_lt h k
 unfold pickN
 simp only [read_inf_iff,isNaN_read,isZero_read,neg_read',e,h,k]
 have w1 := wd_self hx
 have w2 := wd_self hy
 have hw : double.write (.infinity false) = double.word false IR := by rw [← dbl_inf]; rfl
 rw [hw]
 unfold sr sgn at *
 generalize rg x = r at *
 generalize rg y = s at *
 cases hn : ngw x <;> cases hm : ngw y <;> rw [hn,hm] at iff <;> simp only [hn,hm] at w1 w2 <;> simp at iff ⊢ <;> (repeat' split) <;> first | rfl | omega | skip
 all_goals first | (rw [← w1]; congr 1; omega) | (rw [← w2]; congr 1; omega) | (rw [← w1, ← w2]; congr 1; omega)
end Go.Proofs.YtidcpndlloppdaaGreat

/-
 Layer 2: which words are whole numbers; floors against their numbers.
 Conditions: none.
-/
set_option linter.unusedVariables false
set_option linter.unusedSimpArgs false
set_option exponentiation.threshold 3000
set_option maxRecDepth 20000
namespace Go.Proofs.YtidcpndlloppdaaGreat
open Ieee
theorem floor_law {w : Nat} (hw : w < 2 * SW) (h : rg w < IR) : flr w < 2 * SW ∧ rg (flr w) < IR ∧ flr (flr w) = flr w ∧ ¬ sr w < sr (flr w) ∧
   (flr w = w ∨ ∃ r,double.add (flr w) (Iw 1) = some r ∧ rg r < IR ∧ r < 2 * SW ∧ sr w < sr r) := by
 have hb := bn_pos
 have h1 : (1 : Int).natAbs < 2 * BN := by decide
 rcases flr_spec hw h with ⟨_,e⟩ | ⟨hu,n,hn,e,h2,h3⟩
 · rw [e]; exact ⟨hw,h,e,by omega,.inl rfl⟩
 · have hn2 : n < 2 * BN := by omega
   have hf : rg (flr w) < IR := by rw [e,iw_rg hn2]; exact irg_lt hn2
   refine ⟨by rw [e]; exact iw_lt _ hn2,hf,by rw [e]; exact flr_iw _ hn2, ?_,.inr ?_⟩
   · intro k
     have := (vl_lt w (flr w)).1.2 k
     rw [e,vl_tt _ hn2] at this
     omega
   · have hb1 : 1 < BN := by decide
     have hz : (sgn (ngw w) n + 1).natAbs < 2 * BN := by unfold sgn; split <;> omega
     have hs := sum_whole (z := sgn (ngw w) n + 1) hf (Iw_fin h1) hz (by rw [e,vl_tt _ hn2,vl_Iw h1,Int.add_mul])
     rw [hs]
     by_cases hz0 : sgn (ngw w) n + 1 = 0
     · rw [if_pos hz0,Iw_ng h1]
       have hd : (ngw (flr w) && decide ((1 : Int) < 0)) = false := by simp
       rw [hd]
       have e0 : double.word false 0 = Iw 0 := by decide
       rw [e0]
       have h0 : (0 : Int).natAbs < 2 * BN := by decide
       refine ⟨_,rfl,Iw_fin h0,Iw_lt h0,(vl_lt _ _).1.1 ?_⟩
       rw [vl_Iw h0, ← hz0]
       exact h3
     · rw [if_neg hz0]
       refine ⟨_,rfl,Iw_fin hz,Iw_lt hz,(vl_lt _ _).1.1 ?_⟩
       rw [vl_Iw hz]
       exact h3
end Go.Proofs.YtidcpndlloppdaaGreat

/-
 Layer 2: texts of numbers,and that they tell them apart.
 Conditions: none.
-/
set_option linter.unusedVariables false
set_option linter.unusedSimpArgs false
set_option exponentiation.threshold 3000
set_option maxRecDepth 20000
namespace Go.Proofs.YtidcpndlloppdaaGreat
open Ieee
def hxd (d : Nat) : UInt8 := if d < 10 then UInt8.ofNat (48 + d) else UInt8.ofNat (87 + d)
end Go.Proofs.YtidcpndlloppdaaGreat

/-
 Layer 29,plain: texts of traces,one trace ahead of another,traces by numbers.
 Conditions: none.
-/
set_option linter.unusedVariables false
set_option linter.unusedSimpArgs false
set_option maxRecDepth 20000
namespace Go.Proofs.YtidcpndlloppdaaGreat
open Ieee
structure Mk where
 k : Int
 w : Nat
def eqM (a b : Mk) : Bool := a.k == b.k && a.w == b.w
theorem eqM_iff (a b : Mk) : eqM a b = true ↔ a = b := by
 cases a; cases b
 simp [eqM]
def eqMs : List Mk → List Mk → Bool
 | [],[] => true
 | a :: l,b :: m => eqM a b && eqMs l m
 | _,_ => false
theorem eqMs_iff : ∀ (l m : List Mk),eqMs l m = true ↔ l = m
 | [],[] => by simp [eqMs]
 | [],_ :: _ => by simp [eqMs]
 | _ :: _,[] => by simp [eqMs]
 | a :: l,b :: m => by simp [eqMs,eqM_iff,eqMs_iff l m]
def begM (a b : List Mk) : Bool := decide (a.length ≤ b.length) && eqMs a (b.take a.length)
end Go.Proofs.YtidcpndlloppdaaGreat

/-
 Rules for operations on floats,and for functions of the host's library.
 Conditions: none.
-/
set_option linter.unusedVariables false
set_option linter.unusedSimpArgs false
namespace Go.Proofs.YtidcpndlloppdaaGreat
open Ieee Go.RowKit
def Lone (P : Program) (s : Sem Value) (Q : Value → Prop) : Prop := ∀ W : World,∃ v W',s.run P W = .ok v W' ∧ Q v ∧ W'.heap = W.heap ∧ W'.os = W.os ∧ W'.tape = W.tape ∧ W'.output = W.output
theorem run_lone {P : Program} {s : Sem Value} {B : Nat} {w : World} {bs : List Nat} {K : Value → World → Prop} {Q : Value → Prop} (hB : B ≤ w.heap.size) (hs : Lone P s Q)
   (hk : ∀ v w',Ext B w w' → Q v → K v w') : RunK P s B w bs K := by
 intro w1 h1 hx
 obtain ⟨v,W',hr,hq,e1,e2,e3,e4⟩ := hs w1
 have hb : Below w1.heap.size w1 W' := ⟨e2,e3,e4,by rw [e1]; exact Nat.le_refl _,fun k _ => by rw [e1]⟩
 refine ⟨v,W',hr,⟨by rw [e1]; exact Nat.le_refl _,fun x _ => by rw [e1]⟩,hide_any fun w' hm => hk v w' (masked h1 hx (Nat.le_trans hB h1.size) hb hm) hq⟩
theorem lone_pure {P : Program} {s : Sem Value} {v : Value} (h : ∀ W : World,s.run P W = .ok v W) : Lone P s fun u => u = v := fun W => ⟨v,W,h W,rfl,rfl,rfl,rfl,rfl⟩
def FR (op : BinOp) (x y r : Nat) : Prop := match floatBits op .f64 x y with
 | some s => r = s
 | none => nanw r = true ∧ r < 2 * SW
def IsF (Q : Nat → Prop) : Value → Prop := fun v => ∃ r,v = .float .f64 r ∧ Q r
theorem nan_cut (t : Nat) : nanw ((t % 2) * 2 ^ 63 + 0x7ff0000000000000 + 1 + (t / 2) % (2 ^ 52 - 1)) = true ∧ (t % 2) * 2 ^ 63 + 0x7ff0000000000000 + 1 + (t / 2) % (2 ^ 52 - 1) < 2 * SW := by
 have h1 : (t / 2) % (2 ^ 52 - 1) < 2 ^ 52 - 1 := Nat.mod_lt _ (by decide)
 generalize (t / 2) % (2 ^ 52 - 1) = q at *
 have h2 : t % 2 = 0 ∨ t % 2 = 1 := by omega
 unfold nanw rg SW IR
 rcases h2 with h2 | h2 <;> rw [h2] <;> constructor
 · simp only [decide_eq_true_eq]; omega
 · omega
 · simp only [decide_eq_true_eq]; omega
 · omega
theorem lone_arith {P : Program} (op : BinOp) (hop : op = .add ∨ op = .sub ∨ op = .mul ∨ op = .quo) (t : TypeId) (x y : Nat) : Lone P (Go.binOp op t (.float .f64 x) (.float .f64 y)) (IsF (FR op x y)) := by
 intro W
 cases h : floatBits op .f64 x y with
 | some r => exact ⟨_,W,run_float_arith W op t .f64 x y r h,⟨r,rfl,by unfold FR; rw [h]⟩,rfl,rfl,rfl,rfl⟩
 | none =>
   have hr : (Go.binOp op t (.float .f64 x) (.float .f64 y)).run P W = .ok (.float .f64 ((Question.nanBits .f64 x y).cut (W.tape W.drawn (.nanBits .f64 x y)))) { W with drawn := W.drawn + 1 } := by
     unfold floatBits at h
     rcases hop with rfl | rfl | rfl | rfl <;> simp only at h <;> simp [binOp,Op.floatArith,h,choose,Sem.run,Question.forced]
   exact ⟨_,_,hr,⟨_,rfl,by unfold FR; rw [h]; exact nan_cut _⟩,rfl,rfl,rfl,rfl⟩
theorem toI_nan (name : String) (way : Toward) {x : Nat} {s : Bool} {t : Nat} (hd : FloatKind.f64.decode x = .nan s t) : Extern.MathFloor.toIntegral name way #[.float .f64 x] = (if FloatKind.f64.format.quiet t = t then pure (.float .f64 x) else do
     let kept ← choose (.extern "math.Floor,Ceil,Trunc,RoundToEven.signallingNaN kept" 2)
     pure (.float .f64 (if kept == 1 then x else FloatKind.f64.encode (.nan s (FloatKind.f64.format.quiet t))))) := by
 have e : Extern.MathFloor.toIntegral name way #[.float .f64 x] = (match FloatKind.f64.decode x with
   | .nan s t => (if FloatKind.f64.format.quiet t = t then pure (.float .f64 x) else do
     let kept ← choose (.extern "math.Floor,Ceil,Trunc,RoundToEven.signallingNaN kept" 2)
     pure (.float .f64 (if kept == 1 then x else FloatKind.f64.encode (.nan s (FloatKind.f64.format.quiet t)))))
   | d => pure (.float .f64 (FloatKind.f64.encode (d.integral way)))) := rfl
 rw [e,hd]
theorem toI_num (name : String) (way : Toward) {x : Nat} (hd : ∀ s t,FloatKind.f64.decode x ≠ .nan s t) : Extern.MathFloor.toIntegral name way #[.float .f64 x] = pure (.float .f64 (FloatKind.f64.encode ((FloatKind.f64.decode x).integral way))) := by
 have e : Extern.MathFloor.toIntegral name way #[.float .f64 x] = (match FloatKind.f64.decode x with
   | .nan s t => (if FloatKind.f64.format.quiet t = t then pure (.float .f64 x) else do
     let kept ← choose (.extern "math.Floor,Ceil,Trunc,RoundToEven.signallingNaN kept" 2)
     pure (.float .f64 (if kept == 1 then x else FloatKind.f64.encode (.nan s (FloatKind.f64.format.quiet t)))))
   | d => pure (.float .f64 (FloatKind.f64.encode (d.integral way)))) := rfl
 rw [e]
 cases h : FloatKind.f64.decode x with
 | nan s t => exact absurd h (hd s t)
 | _ => rfl
theorem lone_floor {P : Program} (name : String) (x : Nat) (hx : x < 2 * SW) : Lone P (Extern.MathFloor.toIntegral name .down #[.float .f64 x]) (IsF fun r => if nanw x = true then nanw r = true ∧ r < 2 * SW else r = flr x) := by
 intro W
 by_cases hn : nanw x = true
 · have hr := read_nan (w := x) (by unfold nanw at hn; simpa using hn)
   by_cases hq : FloatKind.f64.format.quiet (rg x - IR) = rg x - IR
   · refine ⟨.float .f64 x,W, ?_,⟨x,rfl,by simp only [if_pos hn]; exact ⟨hn,hx⟩⟩,rfl,rfl,rfl,rfl⟩
     have hd : FloatKind.f64.decode x = .nan (ngw x) (rg x - IR) := hr
     rw [toI_nan _ _ hd,if_pos hq]; rfl
   · have hd : FloatKind.f64.decode x = .nan (ngw x) (rg x - IR) := hr
     have he : FloatKind.f64.encode (.nan (ngw x) (FloatKind.f64.format.quiet (rg x - IR))) = double.word (ngw x) (IR + (double.quiet (rg x - IR)) % BN) := by
       show double.write _ = _
       simp only [Format.write,dbl_inf,dbl_binade]; rfl
     have hlt : IR + (double.quiet (rg x - IR)) % BN < SW := by
       have := Nat.mod_lt (double.quiet (rg x - IR)) bn_pos
       have : IR + BN = SW := by decide
       omega
     have hpos : 0 < (double.quiet (rg x - IR)) % BN := by
       have h1 : rg x - IR < 2 ^ 52 := by
         have := rg_lt x
         have : IR + 2 ^ 52 = SW := by decide
         omega
       have h2 : double.quiet (rg x - IR) < 2 ^ 52 := by
         unfold Format.quiet
         exact Nat.or_lt_two_pow h1 (by decide)
       rw [bn_pow,Nat.mod_eq_of_lt h2]
       unfold Format.quiet
       have : 2 ^ (double.fractionBits - 1) ≤ (rg x - IR) ||| 2 ^ (double.fractionBits - 1) := Nat.right_le_or
       have h3 : 0 < 2 ^ (double.fractionBits - 1) := Nat.two_pow_pos _
       omega
     have hnan : nanw (double.word (ngw x) (IR + (double.quiet (rg x - IR)) % BN)) = true := by
       unfold nanw; rw [rg_wd _ hlt]; simp; exact hpos
     generalize hk : (Question.extern "math.Floor,Ceil,Trunc,RoundToEven.signallingNaN kept" 2).cut (W.tape W.drawn (Question.extern "math.Floor,Ceil,Trunc,RoundToEven.signallingNaN kept" 2)) = kept
     refine ⟨.float .f64 (if kept == 1 then x else double.word (ngw x) (IR + (double.quiet (rg x - IR)) % BN)),{ W with drawn := W.drawn + 1 }, ?_,⟨_,rfl, ?_⟩,rfl,rfl,rfl,rfl⟩
     · rw [toI_nan _ _ hd,if_neg hq,he]
       simp [choose,Sem.run,Question.forced,hk]
     · simp only [if_pos hn]
       split
       · exact ⟨hn,hx⟩
       · exact ⟨hnan,wd_lt _ hlt⟩
 · refine ⟨.float .f64 (flr x),W, ?_,⟨_,rfl,by simp only [if_neg hn]⟩,rfl,rfl,rfl,rfl⟩
   have hd : ∀ s t,FloatKind.f64.decode x ≠ .nan s t := fun s t e => hn (by rw [← isNaN_read]; show (FloatKind.f64.decode x).isNaN = true; rw [e]; rfl)
   rw [toI_num _ _ hd]; rfl
theorem lone_min {P : Program} (x y : Nat) : Lone P (Extern.MathDim.pick "math.archMin" true .lt #[.float .f64 x, .float .f64 y]) (fun u => u = .float .f64 (pickN true .lt x y)) := lone_pure fun W => rfl
theorem lone_max {P : Program} (x y : Nat) : Lone P (Extern.MathDim.pick "math.archMax" false .gt #[.float .f64 x, .float .f64 y]) (fun u => u = .float .f64 (pickN false .gt x y)) := lone_pure fun W => rfl
theorem lone_bits {P : Program} (x : Nat) : Lone P (Extern.MathFloatBits.float64bits #[.float .f64 x]) (fun u => u = .int .u64 x) := lone_pure fun W => rfl
theorem lone_from {P : Program} (x : Int) : Lone P (Extern.MathFloatBits.float64frombits #[.int .u64 x]) (fun u => u = .float .f64 x.toNat) := lone_pure fun W => rfl
theorem fr_cn {op : BinOp} {x y r : Nat} (h : FR op x y r) : cn r = far op x y := by
 unfold FR at h
 unfold far
 cases hf : floatBits op .f64 x y with
 | some s => rw [hf] at h; simp only at h; rw [h]
 | none => rw [hf] at h; simp only at h; unfold cn; rw [if_pos h.1]
end Go.Proofs.YtidcpndlloppdaaGreat

/-
 What the engine makes of the loaded functions e126,e177,e193,e178,e186,e188: conditions under which a call returns as told,and proofs of that.
 Conditions: none. Printed by a program of this project.
-/
set_option linter.unusedVariables false
set_option maxRecDepth 100000
namespace Go.Proofs.YtidcpndlloppdaaGreat
noncomputable def V126.ext : List Value → Sem Value := fun l => Extern.MathFloatBits.float64bits ⟨l⟩
theorem V126.extOk : ExtOk Tryz.prog 126 V126.ext := extOk_of Tryz.func126 (by kernel_rfl) (by kernel_rfl) (by kernel_rfl) (by kernel_rfl)
noncomputable def V177.ext : List Value → Sem Value := fun l => Extern.MathFloatBits.float64frombits ⟨l⟩
theorem V177.extOk : ExtOk Tryz.prog 177 V177.ext := extOk_of Tryz.func177 (by kernel_rfl) (by kernel_rfl) (by kernel_rfl) (by kernel_rfl)
noncomputable def V178.ext : List Value → Sem Value := fun l => Extern.MathFloor.toIntegral "math.archFloor" .down ⟨l⟩
theorem V178.extOk : ExtOk Tryz.prog 178 V178.ext := extOk_of Tryz.func178 (by kernel_rfl) (by kernel_rfl) (by kernel_rfl) (by kernel_rfl)
noncomputable def V186.ext : List Value → Sem Value := fun l => Extern.MathDim.pick "math.archMin" true .lt ⟨l⟩
theorem V186.extOk : ExtOk Tryz.prog 186 V186.ext := extOk_of Tryz.func186 (by kernel_rfl) (by kernel_rfl) (by kernel_rfl) (by kernel_rfl)
noncomputable def V188.ext : List Value → Sem Value := fun l => Extern.MathDim.pick "math.archMax" false .gt ⟨l⟩
theorem V188.extOk : ExtOk Tryz.prog 188 V188.ext := extOk_of Tryz.func188 (by kernel_rfl) (by kernel_rfl) (by kernel_rfl) (by kernel_rfl)
end Go.Proofs.YtidcpndlloppdaaGreat
