import Derived.Test.YtofblkmibghmbaaDoorZEngG
import Derived.Test.YtofblkmibghmbaaDoorZVE
import Derived.Test.YtofblkmibghmbaaDoorZVF
/-
  Layer 2: what the functions on words return.
  Conditions: none.
-/
set_option linter.unusedVariables false
set_option linter.unusedSimpArgs false
namespace Go.Proofs.YtofblkmibghmbaaDoor
open Go.RowKit Ieee
theorem wrapu {n : Nat} (h : n < 2 * SW) : IntKind.wrap .u64 (n : Int) = n := by
  have e : ∀ m : Int, IntKind.wrap .u64 m = m % 18446744073709551616 := fun m => by simp [IntKind.wrap, IntKind.bits, IntKind.signed]
  rw [e]; unfold SW at h; omega
theorem bvn {a : Nat} (h : a < 2 * SW) : (BitVec.ofInt 64 (a : Int)).toNat = a := by
  rw [BitVec.ofInt_natCast, BitVec.toNat_ofNat]; exact Nat.mod_eq_of_lt (by unfold SW at h; omega)
theorem b_nan {a : Nat} (h : a < 2 * SW) : decide (IntKind.wrap .u64 (((BitVec.ofInt 64 (a : Int) &&& BitVec.ofInt 64 9223372036854775807).toNat : Nat) : Int) > 9218868437227405312) = nanw a := by
  have e : (BitVec.ofInt 64 (a : Int) &&& BitVec.ofInt 64 9223372036854775807).toNat = rg a := by
    rw [BitVec.toNat_and, bvn h]
    show a &&& (2 ^ 63 - 1) = _
    rw [Nat.and_two_pow_sub_one_eq_mod]; rfl
  have := rg_lt a
  rw [e, wrapu (by omega)]
  unfold nanw IR
  exact decide_eq_decide.2 (by omega)
theorem nan_order (x : Nat) : (FloatKind.f64.format.order x x != some Ordering.eq) = nanw x := by
  show (!(double.order x x == some Ordering.eq)) = _
  rw [eq_order]; cases nanw x <;> simp
section
variable {w : World}
theorem gives24 (a : Nat) : Gives Tryd.prog 24 [.int .u64 (a : Int)] w (.float .f64 a) := by
  refine gives_of (V24.sound ?_)
  unfold V24.vc
  exact run_lone (Nat.le_refl _) (lone_from _) fun v w' he hv => ⟨a, hv, ret_is he.below rfl⟩
theorem gives31 (a : Nat) : Gives Tryd.prog 31 [.int .u64 (a : Int)] w (.float .f64 a) := by
  refine gives_of (V31.sound ?_)
  unfold V31.vc
  exact run_lone (Nat.le_refl _) (lone_from _) fun v w' he hv => ⟨a, hv, ret_is he.below rfl⟩
theorem gives30 (x : Nat) : Gives Tryd.prog 30 [.float .f64 x] w (.int .u64 (cn x : Nat)) := by
  refine gives_of (V30.sound ?_)
  unfold V30.vc
  rw [nan_order]
  unfold cn
  split
  · exact ret_is (Below.refl _ _) rfl
  · exact run_lone (Nat.le_refl _) (lone_bits _) fun v w' he hv => ⟨x, hv, ret_is he.below rfl⟩
def neF (a : Nat) : Nat := if nanw a = true then NO else a ^^^ SW
theorem gives82 {a : Nat} (h : a < 2 * SW) : Gives Tryd.prog 82 [.int .u64 (a : Int)] w (.bool (nanw a)) := by
  refine gives_of (V82.sound ?_)
  unfold V82.vc
  exact ret_is (Below.refl _ _) (congrArg Value.bool (b_nan h))
end
end Go.Proofs.YtofblkmibghmbaaDoor
