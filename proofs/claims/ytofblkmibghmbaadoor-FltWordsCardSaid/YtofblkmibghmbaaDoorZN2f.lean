/-
  Layer 2: FltWords.
  Conditions: the tables of the host's library read as the program's text lays them.
-/
import Derived.Test.YtofblkmibghmbaaDoorZN2
import Derived.Test.YtofblkmibghmbaaDoorZT2d
set_option linter.unusedVariables false
set_option linter.unusedSimpArgs false
set_option maxRecDepth 100000
set_option exponentiation.threshold 3000
namespace Go.Proofs.YtofblkmibghmbaaDoor
open Go.RowKit Ieee
theorem nw_lt (n : Int) : nw n < 2 * SW := cn_lt (by
  have h : FloatKind.nearest .f64 n < 2 ^ double.width := double.write_lt (.number (n < 0) n.natAbs 0)
  have e : 2 ^ double.width = 2 * SW := by decide
  rw [e] at h; exact h)
section
variable {w : World}
theorem gives5 (ht : Tabs w) {a : Nat} (ha : a < 2 * SW) (n : Int) : Gives Tryd.prog 5 [.int .u64 (a : Int), .int .i64 n] w (.bool true) := by
  refine gives_of (V5.sound ?_)
  unfold V5.vc
  have be : ∀ x : Int, (x == x) = true := fun x => beq_self_eq_true x
  have hl := nw_lt n
  refine call_gives (Below.refl _ _) (fun _ _ _ => gives24 a) fun w1 _ h1 => ⟨_, rfl, ?_⟩
  refine call_gives h1 (fun _ _ _ => gives30 a) fun w2 _ h2 => ⟨_, rfl, ?_⟩
  refine call_gives h2 (fun _ _ _ => gives31 a) fun w3 _ h3 => ⟨_, rfl, ?_⟩
  refine call_gives h3 (fun _ _ _ => gives30 a) fun w4 _ h4 => ⟨_, rfl, ?_⟩
  rw [if_pos (be _)]
  refine call_gives h4 (fun _ _ _ => gives24 a) fun w5 _ h5 => ⟨_, rfl, ?_⟩
  refine call_gives h5 (fun _ _ _ => gives23 a) fun w6 _ h6 => ⟨_, rfl, ?_⟩
  refine call_gives h6 (fun _ _ _ => gives31 a) fun w7 _ h7 => ⟨_, rfl, ?_⟩
  refine call_gives h7 (fun _ _ _ => gives30 a) fun w8 _ h8 => ⟨_, rfl, ?_⟩
  rw [if_pos (be _)]
  refine call_gives h8 (fun _ _ _ => gives32 n) fun w9 _ h9 => ⟨_, rfl, ?_⟩
  refine call_gives h9 (fun _ _ _ => gives33 n) fun w10 _ h10 => ⟨_, rfl, ?_⟩
  rw [if_pos (be _)]
  refine call_gives h10 (fun _ _ h => gives19 (ht.on h) ha) fun w11 _ h11 => ⟨_, rfl, ?_⟩
  refine call_gives h11 (fun _ _ _ => gives34 ha) fun w12 _ h12 => ⟨_, rfl, ?_⟩
  rw [if_pos (str_eq rfl rfl)]
  refine call_gives h12 (fun _ _ _ => gives32 n) fun w13 _ h13 => ⟨_, rfl, ?_⟩
  refine call_gives h13 (fun _ _ h => gives19 (ht.on h) hl) fun w14 _ h14 => ⟨_, rfl, ?_⟩
  refine call_gives h14 (fun _ _ _ => gives33 n) fun w15 _ h15 => ⟨_, rfl, ?_⟩
  refine call_gives h15 (fun _ _ _ => gives34 hl) fun w16 _ h16 => ⟨_, rfl, ?_⟩
  rw [if_pos (str_eq rfl rfl)]
  exact call_gives h16 (fun _ _ h => gives21 (ht.on h)) fun w17 _ h17 => ⟨_, rfl, ret_is h17 rfl⟩
end
end Go.Proofs.YtofblkmibghmbaaDoor
