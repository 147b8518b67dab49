/-
  Layer 2: FltSigns, FltFloors, FltOrder.
  Conditions: the tables of the host's library read as the program's text lays them.
-/
import Derived.Test.YtofblkmibghmbaaDoorZN2
set_option linter.unusedVariables false
set_option linter.unusedSimpArgs false
set_option maxRecDepth 100000
set_option exponentiation.threshold 3000
namespace Go.Proofs.YtofblkmibghmbaaDoor
open Go.RowKit Ieee
theorem far_comm {op : BinOp} (hop : op = .add ∨ op = .mul) (a b : Nat) : far op a b = far op b a := by
  unfold far floatBits
  rcases hop with rfl | rfl
  · show (match double.add a b with | some r => cn r | none => NO) = (match double.add b a with | some r => cn r | none => NO)
    rw [add_comm_f]
  · show (match double.mul a b with | some r => cn r | none => NO) = (match double.mul b a with | some r => cn r | none => NO)
    rw [mul_comm_f]
theorem far_sub {a b : Nat} (hb : b < 2 * SW) : far .sub a b = far .add a (neF b) := by
  unfold neF
  split
  · rename_i hn
    unfold far
    rw [arith_nan .sub (.inr hn), arith_nan .add (.inr nanw_no)]
  · unfold far floatBits
    show (match double.sub a b with | some r => cn r | none => NO) = (match double.add a (b ^^^ SW) with | some r => cn r | none => NO)
    rw [sub_add hb]
theorem neF_lt {a : Nat} (h : a < 2 * SW) : neF a < 2 * SW := by
  unfold neF; split
  · decide
  · exact xor_lt h
theorem neF_neF {a : Nat} (h : a < 2 * SW) : neF (neF a) = cn a := by
  by_cases hn : nanw a = true
  · have e : neF a = NO := by unfold neF; rw [if_pos hn]
    rw [e]; unfold cn; rw [if_pos hn]; rfl
  · have e : neF a = a ^^^ SW := by unfold neF; rw [if_neg hn]
    have hx : ¬ nanw (a ^^^ SW) = true := by unfold nanw at *; rw [(neg_ng h).2]; exact hn
    rw [e, cn_id hn]
    unfold neF
    rw [if_neg hx, Nat.xor_assoc, Nat.xor_self, Nat.xor_zero]
section
variable {w : World}
theorem gives4 (ht : Tabs w) {a b : Nat} (ha : a < 2 * SW) (hb : b < 2 * SW) : Gives Tryd.prog 4 [.int .u64 (a : Int), .int .u64 (b : Int)] w (.bool true) := by
  refine gives_of (V4.sound ?_)
  unfold V4.vc
  have be : ∀ x : Int, (x == x) = true := fun x => beq_self_eq_true x
  have bb : ∀ x : Bool, (x == x) = true := fun x => beq_self_eq_true x
  refine call_gives (Below.refl _ _) (fun _ _ _ => gives22 ha) fun w1 _ h1 => ⟨_, rfl, ?_⟩
  refine call_gives h1 (fun _ _ _ => gives22 (neF_lt ha)) fun w2 _ h2 => ⟨_, rfl, ?_⟩
  refine call_gives h2 (fun _ _ _ => gives24 a) fun w3 _ h3 => ⟨_, rfl, ?_⟩
  refine call_gives h3 (fun _ _ _ => gives23 a) fun w4 _ h4 => ⟨_, rfl, ?_⟩
  rw [neF_neF ha, if_pos (be _)]
  refine call_gives h4 (fun _ _ _ => gives25 a b) fun w5 _ h5 => ⟨_, rfl, ?_⟩
  refine call_gives h5 (fun _ _ _ => gives22 hb) fun w6 _ h6 => ⟨_, rfl, ?_⟩
  refine call_gives h6 (fun _ _ _ => gives26 a (neF b)) fun w7 _ h7 => ⟨_, rfl, ?_⟩
  rw [far_sub hb, if_pos (be _)]
  refine call_gives h7 (fun _ _ _ => gives26 a b) fun w8 _ h8 => ⟨_, rfl, ?_⟩
  refine call_gives h8 (fun _ _ _ => gives26 b a) fun w9 _ h9 => ⟨_, rfl, ?_⟩
  rw [far_comm (.inl rfl) b a, if_pos (be _)]
  refine call_gives h9 (fun _ _ _ => gives27 a b) fun w10 _ h10 => ⟨_, rfl, ?_⟩
  refine call_gives h10 (fun _ _ _ => gives27 b a) fun w11 _ h11 => ⟨_, rfl, ?_⟩
  rw [far_comm (.inr rfl) b a, if_pos (be _)]
  refine call_gives h11 (fun _ _ _ => gives28 a) fun w12 _ h12 => ⟨_, rfl, ?_⟩
  refine call_gives h12 (fun _ _ _ => gives29 a 0) fun w13 _ h13 => ⟨_, rfl, ?_⟩
  rw [if_pos (by rw [show eqF a 0 = decide (rg a = 0) from eq_zero a]; unfold trF; by_cases h : rg a = 0 <;> simp [h])]
  refine call_gives h13 (fun _ _ _ => gives22 (a := 0) (by decide)) fun w14 _ h14 => ⟨_, rfl, ?_⟩
  rw [if_pos (by decide)]
  exact call_gives h14 (fun _ _ h => gives21 (ht.on h)) fun w15 _ h15 => ⟨_, rfl, ret_is h15 rfl⟩
end
end Go.Proofs.YtofblkmibghmbaaDoor
