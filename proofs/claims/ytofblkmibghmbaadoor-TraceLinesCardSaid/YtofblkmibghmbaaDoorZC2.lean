/-
  Layer 2: what the functions on words return.
  Conditions: none.
-/
import Derived.Test.YtofblkmibghmbaaDoorZEngF
import Derived.Test.YtofblkmibghmbaaDoorZF7
import Derived.Test.YtofblkmibghmbaaDoorZVF
set_option linter.unusedVariables false
set_option linter.unusedSimpArgs false
namespace Go.Proofs.YtofblkmibghmbaaDoor
open Go.RowKit Ieee
theorem wrapu {n : Nat} (h : n < 2 * SW) : IntKind.wrap .u64 (n : Int) = n := by
  have e : ∀ m : Int, IntKind.wrap .u64 m = m % 18446744073709551616 := fun m => by simp [IntKind.wrap, IntKind.bits, IntKind.signed]
  rw [e]; unfold SW at h; omega
theorem bvn {a : Nat} (h : a < 2 * SW) : (BitVec.ofInt 64 (a : Int)).toNat = a := by
  rw [BitVec.ofInt_natCast, BitVec.toNat_ofNat]; exact Nat.mod_eq_of_lt (by unfold SW at h; omega)
theorem b_andnot {a : Nat} (h : a < 2 * SW) : IntKind.wrap .u64 (((BitVec.ofInt 64 (a : Int) &&& ~~~ BitVec.ofInt 64 9223372036854775808).toNat : Nat) : Int) = ((rg a : Nat) : Int) := by
  have e : (BitVec.ofInt 64 (a : Int) &&& ~~~ BitVec.ofInt 64 9223372036854775808).toNat = rg a := by
    have : ~~~ BitVec.ofInt 64 9223372036854775808 = BitVec.ofInt 64 9223372036854775807 := by decide
    rw [this, BitVec.toNat_and, bvn h]
    show a &&& (2 ^ 63 - 1) = _
    rw [Nat.and_two_pow_sub_one_eq_mod]; rfl
  have := rg_lt a
  rw [e]; exact wrapu (by omega)
theorem cn_lt {x : Nat} (h : x < 2 * SW) : cn x < 2 * SW := by unfold cn NO; split <;> simp only [SW] at * <;> omega
theorem nan_order (x : Nat) : (FloatKind.f64.format.order x x != some Ordering.eq) = nanw x := by
  show (!(double.order x x == some Ordering.eq)) = _
  rw [eq_order]; cases nanw x <;> simp
section
variable {w : World}
theorem gives24 (a : Nat) : Gives Tryd.prog 24 [.int .u64 (a : Int)] w (.float .f64 a) := by
  refine gives_of (V24.sound ?_)
  unfold V24.vc
  exact run_lone (Nat.le_refl _) (lone_from _) fun v w' he hv => ⟨a, hv, ret_is he.below rfl⟩
theorem gives73 (x : Nat) : Gives Tryd.prog 73 [.float .f64 x] w (.bool (nanw x)) := by
  refine gives_of (V73.sound ?_)
  unfold V73.vc
  exact ret_is (Below.refl _ _) (congrArg Value.bool (nan_order x))
theorem gives23 (x : Nat) : Gives Tryd.prog 23 [.float .f64 x] w (.int .u64 (cn x : Nat)) := by
  refine gives_of (V23.sound ?_)
  unfold V23.vc
  refine call_gives (Below.refl _ _) (fun _ _ _ => gives73 x) fun w1 _ h1 => ⟨_, rfl, ?_⟩
  unfold cn
  split
  · exact ret_is h1 rfl
  · exact run_lone h1.size (lone_bits _) fun v w' he hv => ⟨x, hv, ret_is (he.after h1) rfl⟩
def nw (n : Int) : Nat := cn (FloatKind.nearest .f64 n)
theorem gives32 (n : Int) : Gives Tryd.prog 32 [.int .i64 n] w (.int .u64 (nw n : Nat)) := by
  refine gives_of (V32.sound ?_)
  unfold V32.vc
  exact call_gives (Below.refl _ _) (fun _ _ _ => gives23 _) fun w1 _ h1 => ⟨_, rfl, ret_is h1 rfl⟩
end
end Go.Proofs.YtofblkmibghmbaaDoor
