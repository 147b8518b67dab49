/-
  Layer 2: what the functions on words return.
  Conditions: none.
-/
import Derived.Test.YtofblkmibghmbaaDoorZEngF
import Derived.Test.YtofblkmibghmbaaDoorZF7
import Derived.Test.YtofblkmibghmbaaDoorZVF
set_option linter.unusedVariables false
set_option linter.unusedSimpArgs false
namespace Go.Proofs.YtofblkmibghmbaaDoor
open Go.RowKit Ieee
theorem wrapu {n : Nat} (h : n < 2 * SW) : IntKind.wrap .u64 (n : Int) = n := by
  have e : ∀ m : Int, IntKind.wrap .u64 m = m % 18446744073709551616 := fun m => by simp [IntKind.wrap, IntKind.bits, IntKind.signed]
  rw [e]; unfold SW at h; omega
theorem bvn {a : Nat} (h : a < 2 * SW) : (BitVec.ofInt 64 (a : Int)).toNat = a := by
  rw [BitVec.ofInt_natCast, BitVec.toNat_ofNat]; exact Nat.mod_eq_of_lt (by unfold SW at h; omega)
theorem b_andnot {a : Nat} (h : a < 2 * SW) : IntKind.wrap .u64 (((BitVec.ofInt 64 (a : Int) &&& ~~~ BitVec.ofInt 64 9223372036854775808).toNat : Nat) : Int) = ((rg a : Nat) : Int) := by
  have e : (BitVec.ofInt 64 (a : Int) &&& ~~~ BitVec.ofInt 64 9223372036854775808).toNat = rg a := by
    have : ~~~ BitVec.ofInt 64 9223372036854775808 = BitVec.ofInt 64 9223372036854775807 := by decide
    rw [this, BitVec.toNat_and, bvn h]
    show a &&& (2 ^ 63 - 1) = _
    rw [Nat.and_two_pow_sub_one_eq_mod]; rfl
  have := rg_lt a
  rw [e]; exact wrapu (by omega)
theorem nan_order (x : Nat) : (FloatKind.f64.format.order x x != some Ordering.eq) = nanw x := by
  show (!(double.order x x == some Ordering.eq)) = _
  rw [eq_order]; cases nanw x <;> simp
theorem negf (x : Nat) : Op.negFloat .f64 x = x ^^^ SW := rfl
section
variable {w : World}
theorem gives24 (a : Nat) : Gives Tryd.prog 24 [.int .u64 (a : Int)] w (.float .f64 a) := by
  refine gives_of (V24.sound ?_)
  unfold V24.vc
  exact run_lone (Nat.le_refl _) (lone_from _) fun v w' he hv => ⟨a, hv, ret_is he.below rfl⟩
theorem gives73 (x : Nat) : Gives Tryd.prog 73 [.float .f64 x] w (.bool (nanw x)) := by
  refine gives_of (V73.sound ?_)
  unfold V73.vc
  exact ret_is (Below.refl _ _) (congrArg Value.bool (nan_order x))
theorem gives23 (x : Nat) : Gives Tryd.prog 23 [.float .f64 x] w (.int .u64 (cn x : Nat)) := by
  refine gives_of (V23.sound ?_)
  unfold V23.vc
  refine call_gives (Below.refl _ _) (fun _ _ _ => gives73 x) fun w1 _ h1 => ⟨_, rfl, ?_⟩
  unfold cn
  split
  · exact ret_is h1 rfl
  · exact run_lone h1.size (lone_bits _) fun v w' he hv => ⟨x, hv, ret_is (he.after h1) rfl⟩
def nw (n : Int) : Nat := cn (FloatKind.nearest .f64 n)
theorem gives32 (n : Int) : Gives Tryd.prog 32 [.int .i64 n] w (.int .u64 (nw n : Nat)) := by
  refine gives_of (V32.sound ?_)
  unfold V32.vc
  exact call_gives (Below.refl _ _) (fun _ _ _ => gives23 _) fun w1 _ h1 => ⟨_, rfl, ret_is h1 rfl⟩
theorem arith_vc {op : BinOp} (hop : op = .add ∨ op = .sub ∨ op = .mul ∨ op = .quo) {f g : Nat} (hf : ∀ (a : Nat) (w : World), Gives Tryd.prog f [.int .u64 (a : Int)] w (.float .f64 a)) (hg : ∀ (x : Nat) (w : World), Gives Tryd.prog g [.float .f64 x] w (.int .u64 (cn x : Nat))) (a b : Nat) :
    CallK Tryd.prog f [.int .u64 (a : Int)] w.heap.size w [] fun v w_1 => ∃ x6 : Nat, v = .float .f64 x6 ∧ CallK Tryd.prog f [.int .u64 (b : Int)] w.heap.size w_1 [] fun v_1 w_2 => ∃ x8 : Nat, v_1 = .float .f64 x8 ∧
      RunK Tryd.prog (Go.binOp op 29 (.float .f64 x6) (.float .f64 x8)) w.heap.size w_2 [] fun v_2 w_3 => ∃ x9 : Nat, v_2 = .float .f64 x9 ∧ CallK Tryd.prog g [.float .f64 x9] w.heap.size w_3 [] fun v_3 w_4 => ∃ x10 : Int, v_3 = .int .u64 x10 ∧
      Ret w.heap.size w_4 (IsV w (.int .u64 (far op a b : Nat)) (.int .u64 x10)) := by
  refine call_gives (Below.refl _ _) (fun _ _ _ => hf a _) fun w1 _ h1 => ⟨_, rfl, ?_⟩
  refine call_gives h1 (fun _ _ _ => hf b _) fun w2 _ h2 => ⟨_, rfl, ?_⟩
  refine run_lone h2.size (lone_arith op hop 29 a b) fun v w3 h3 ⟨r, hv, hr⟩ => ⟨r, hv, ?_⟩
  refine call_gives (h3.after h2) (fun _ _ _ => hg r _) fun w4 _ h4 => ⟨_, rfl, ret_is h4 ?_⟩
  rw [fr_cn hr]
theorem gives26 (a b : Nat) : Gives Tryd.prog 26 [.int .u64 (a : Int), .int .u64 (b : Int)] w (.int .u64 (far .add a b : Nat)) := gives_of (V26.sound (arith_vc (.inl rfl) (fun a _ => gives24 a) (fun x _ => gives23 x) a b))
theorem gives25 (a b : Nat) : Gives Tryd.prog 25 [.int .u64 (a : Int), .int .u64 (b : Int)] w (.int .u64 (far .sub a b : Nat)) := gives_of (V25.sound (arith_vc (.inr (.inl rfl)) (fun a _ => gives24 a) (fun x _ => gives23 x) a b))
theorem gives27 (a b : Nat) : Gives Tryd.prog 27 [.int .u64 (a : Int), .int .u64 (b : Int)] w (.int .u64 (far .mul a b : Nat)) := gives_of (V27.sound (arith_vc (.inr (.inr (.inl rfl))) (fun a _ => gives24 a) (fun x _ => gives23 x) a b))
theorem gives41 (a b : Nat) : Gives Tryd.prog 41 [.int .u64 (a : Int), .int .u64 (b : Int)] w (.int .u64 (far .quo a b : Nat)) := gives_of (V41.sound (arith_vc (.inr (.inr (.inr rfl))) (fun a _ => gives24 a) (fun x _ => gives23 x) a b))
def neF (a : Nat) : Nat := if nanw a = true then NO else a ^^^ SW
theorem cn_xor {a : Nat} (h : a < 2 * SW) : cn (a ^^^ SW) = neF a := by
  unfold cn neF nanw; rw [(neg_ng h).2]
theorem gives22 {a : Nat} (h : a < 2 * SW) : Gives Tryd.prog 22 [.int .u64 (a : Int)] w (.int .u64 (neF a : Nat)) := by
  refine gives_of (V22.sound ?_)
  unfold V22.vc
  refine call_gives (Below.refl _ _) (fun _ _ _ => gives24 a) fun w1 _ h1 => ⟨_, rfl, ?_⟩
  refine call_gives h1 (fun _ _ _ => gives23 _) fun w2 _ h2 => ⟨_, rfl, ret_is h2 ?_⟩
  rw [negf, cn_xor h]
def flF (a : Nat) : Nat := if nanw a = true then NO else cn (flr a)
theorem yields83 {a : Nat} (h : a < 2 * SW) : Yields Tryd.prog 83 [.float .f64 a] w fun v _ => ∃ r, v = .float .f64 r ∧ cn r = flF a := by
  refine yields_of (V83.sound ?_)
  unfold V83.vc
  refine run_lone (Nat.le_refl _) (lone_floor _ a h) fun v w' he ⟨r, hv, hr⟩ => ⟨r, hv, ret_q he.below fun _ _ => ⟨r, rfl, ?_⟩⟩
  unfold flF
  by_cases hn : nanw a = true
  · simp only [if_pos hn] at hr ⊢
    unfold cn; rw [if_pos hr.1]
  · simp only [if_neg hn] at hr ⊢
    rw [hr]
theorem gives35 {a : Nat} (h : a < 2 * SW) : Gives Tryd.prog 35 [.int .u64 (a : Int)] w (.int .u64 (flF a : Nat)) := by
  refine gives_of (V35.sound ?_)
  unfold V35.vc
  refine call_gives (Below.refl _ _) (fun _ _ _ => gives24 a) fun w1 _ h1 => ⟨_, rfl, ?_⟩
  refine call_yieldsX h1.size (fun _ _ => yields83 h) fun w2 v wx w3 _ ⟨r, hv, hr⟩ _ he => ⟨r, hv, ?_⟩
  refine call_gives (he.after h1) (fun _ _ _ => gives23 r) fun w4 _ h4 => ⟨_, rfl, ret_is h4 ?_⟩
  rw [hr]
end
end Go.Proofs.YtofblkmibghmbaaDoor
