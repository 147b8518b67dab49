/-
  Layer 2: FltNone.
  Conditions: the tables of the host's library read as the program's text lays them.
-/
import Derived.Test.YtofblkmibghmbaaDoorZN2
set_option linter.unusedVariables false
set_option linter.unusedSimpArgs false
set_option maxRecDepth 100000
set_option exponentiation.threshold 3000
namespace Go.Proofs.YtofblkmibghmbaaDoor
open Go.RowKit Ieee
theorem or_bits {a b : Nat} (ha : a < 2 * SW) (hb : b < 2 * SW) : IntKind.wrap .u64 (((BitVec.ofInt 64 (a : Int) ||| BitVec.ofInt 64 (b : Int)).toNat : Nat) : Int) = ((a ||| b : Nat) : Int) ∧ a ||| b < 2 * SW := by
  have hlt : a ||| b < 2 * SW := by
    have e : 2 * SW = 2 ^ 64 := by decide
    rw [e] at *
    exact Nat.or_lt_two_pow ha hb
  have e : (BitVec.ofInt 64 (a : Int) ||| BitVec.ofInt 64 (b : Int)).toNat = a ||| b := by rw [BitVec.toNat_or, bvn ha, bvn hb]
  rw [e]
  exact ⟨wrapu hlt, hlt⟩
theorem none_word {a : Nat} (ha : a < 2 * SW) : ∃ x : Nat, IntKind.wrap .u64 (((BitVec.ofInt 64 (IntKind.wrap .u64 (((BitVec.ofInt 64 (a : Int) ||| BitVec.ofInt 64 9218868437227405312).toNat : Nat) : Int)) ||| BitVec.ofInt 64 1).toNat : Nat) : Int) = (x : Int) ∧ x < 2 * SW ∧ nanw x = true := by
  have h1 := or_bits ha (b := IR) (by decide)
  have h2 := or_bits h1.2 (b := 1) (by decide)
  refine ⟨(a ||| IR) ||| 1, ?_, h2.2, ?_⟩
  · have e1 : (9218868437227405312 : Int) = ((IR : Nat) : Int) := by decide
    have e2 : (1 : Int) = ((1 : Nat) : Int) := by decide
    rw [e1, h1.1, e2]; exact h2.1
  · have e : rg ((a ||| IR) ||| 1) = (rg a) ||| (IR + 1) := by
      unfold rg
      rw [sw_pow, Nat.or_mod_two_pow, Nat.or_mod_two_pow, Nat.or_assoc]
      congr 1
    have : IR + 1 ≤ (rg a) ||| (IR + 1) := Nat.right_le_or
    unfold nanw
    rw [e]; simp; omega
section
variable {w : World}
theorem far_none (op : BinOp) {x y : Nat} (h : nanw x = true ∨ nanw y = true) : far op x y = NO := by unfold far; rw [arith_nan op h]
theorem l0_9 {w0 : World} {g : Nat} {x b : Nat} (ht : Tabs w0) (hx : x < 2 * SW) (hn : nanw x = true) : ∀ (k i : Nat) (w : World), i + k = 16 → 1 ≤ k → Below w0.heap.size w0 w → w.heap[g]? = some (.cells ⟨List.replicate 15 (.int .u64 9221120237041090560)⟩ 22 (0, 0)) →
    V9.l0 w0.heap.size (IsV w0 (.bool true)) k (b : Int) (x : Int) (some ⟨g, 0, none⟩) 15 15 ((15 : Nat) : Int) (i : Int) w := by
  intro k
  induction k with
  | zero => intro i w h1 h2; omega
  | succ k ih =>
    intro i w hi hk hb hr
    unfold V9.l0
    by_cases h : i < 15
    · rw [if_pos (by simp; omega)]
      refine ⟨_, rfl, by omega, by omega, 9221120237041090560, ?_, ?_⟩
      · rw [Int.toNat_natCast, own_add]
        exact at_cell hr (by rw [List.getElem?_replicate, if_pos h])
      · rw [if_neg (by decide), wrap_id (by omega) (by omega)]
        exact ih (i + 1) w (by omega) (by omega) hb hr
    · rw [if_neg (by simp; omega)]
      have l1 : ltF x b = false := by unfold ltF; rw [order_nan (.inl (by unfold nanw at hn; simpa using hn))]; rfl
      have l2 : ltF b x = false := by unfold ltF; rw [order_nan (.inr (by unfold nanw at hn; simpa using hn))]; rfl
      have q1 : eqF x b = false := by unfold eqF; rw [order_nan (.inl (by unfold nanw at hn; simpa using hn))]; rfl
      have q2 : eqF b x = false := by unfold eqF; rw [order_nan (.inr (by unfold nanw at hn; simpa using hn))]; rfl
      refine call_gives hb (fun _ _ _ => gives36 x b) fun w1 _ h1 => ⟨_, rfl, ?_⟩
      rw [l1, if_pos (by decide)]
      refine call_gives h1 (fun _ _ _ => gives36 b x) fun w2 _ h2 => ⟨_, rfl, ?_⟩
      rw [l2, if_pos (by decide)]
      refine call_gives h2 (fun _ _ _ => gives29 x b) fun w3 _ h3 => ⟨_, rfl, ?_⟩
      rw [q1, if_pos (by decide)]
      refine call_gives h3 (fun _ _ _ => gives29 b x) fun w4 _ h4 => ⟨_, rfl, ?_⟩
      rw [q2, if_pos (by decide)]
      refine call_gives h4 (fun _ _ _ => gives28 x) fun w5 _ h5 => ⟨_, rfl, ?_⟩
      have ht2 : trF x = true := by unfold trF; unfold nanw IR at hn; simp at hn ⊢; omega
      rw [if_pos ht2]
      refine call_gives h5 (fun _ _ h => gives19 (ht.on h) hx) fun w6 _ h6 => ⟨_, rfl, ?_⟩
      have et : textF x = [110, 97, 110] := by unfold textF; rw [if_pos hn]
      rw [if_pos (str_eq (x := { data := #[110, 97, 110] }) et rfl)]
      exact call_gives h6 (fun _ _ h => gives21 (ht.on h)) fun w7 _ h7 => ⟨_, rfl, ret_is h7 rfl⟩
theorem gives9 (ht : Tabs w) {a b : Nat} (ha : a < 2 * SW) (hb : b < 2 * SW) : Gives Tryd.prog 9 [.int .u64 (a : Int), .int .u64 (b : Int)] w (.bool true) := by
  refine gives_of (V9.sound ?_)
  unfold V9.vc
  obtain ⟨x, ex, hx, hn⟩ := none_word ha
  rw [ex]
  refine call_gives (Below.refl _ _) (fun _ _ _ => gives26 x b) fun w1 _ h1 => ⟨_, rfl, ?_⟩
  refine call_gives h1 (fun _ _ _ => gives26 b x) fun w2 _ h2 => ⟨_, rfl, ?_⟩
  refine call_gives h2 (fun _ _ _ => gives25 x b) fun w3 _ h3 => ⟨_, rfl, ?_⟩
  refine call_gives h3 (fun _ _ _ => gives25 b x) fun w4 _ h4 => ⟨_, rfl, ?_⟩
  refine call_gives h4 (fun _ _ _ => gives27 x b) fun w5 _ h5 => ⟨_, rfl, ?_⟩
  refine call_gives h5 (fun _ _ _ => gives27 b x) fun w6 _ h6 => ⟨_, rfl, ?_⟩
  refine call_gives h6 (fun _ _ _ => gives41 x b) fun w7 _ h7 => ⟨_, rfl, ?_⟩
  refine call_gives h7 (fun _ _ _ => gives41 b x) fun w8 _ h8 => ⟨_, rfl, ?_⟩
  refine call_gives h8 (fun _ _ _ => gives39 hx hb) fun w9 _ h9 => ⟨_, rfl, ?_⟩
  refine call_gives h9 (fun _ _ _ => gives39 hb hx) fun w10 _ h10 => ⟨_, rfl, ?_⟩
  refine call_gives h10 (fun _ _ _ => gives40 hx hb) fun w11 _ h11 => ⟨_, rfl, ?_⟩
  refine call_gives h11 (fun _ _ _ => gives40 hb hx) fun w12 _ h12 => ⟨_, rfl, ?_⟩
  refine call_gives h12 (fun _ _ _ => gives22 hx) fun w13 _ h13 => ⟨_, rfl, ?_⟩
  refine call_gives h13 (fun _ _ _ => gives35 hx) fun w14 _ h14 => ⟨_, rfl, ?_⟩
  refine call_gives h14 (fun _ _ _ => gives24 x) fun w15 _ h15 => ⟨_, rfl, ?_⟩
  refine call_gives h15 (fun _ _ _ => gives23 x) fun w16 _ h16 => ⟨_, rfl, ?_⟩
  have m1 : mnF x b = NO := by unfold mnF; rw [if_pos (.inl hn)]
  have m2 : mnF b x = NO := by unfold mnF; rw [if_pos (.inr hn)]
  have m3 : mxF x b = NO := by unfold mxF; rw [if_pos (.inl hn)]
  have m4 : mxF b x = NO := by unfold mxF; rw [if_pos (.inr hn)]
  have m5 : neF x = NO := by unfold neF; rw [if_pos hn]
  have m6 : flF x = NO := by unfold flF; rw [if_pos hn]
  have m7 : cn x = NO := by unfold cn; rw [if_pos hn]
  rw [far_none .add (.inl hn), far_none .add (.inr hn), far_none .sub (.inl hn), far_none .sub (.inr hn), far_none .mul (.inl hn), far_none .mul (.inr hn), far_none .quo (.inl hn), far_none .quo (.inr hn), m1, m2, m3, m4, m5, m6, m7]
  refine expo_alloc0 (F := fun w_17 w_18 => ∃ k_1, V9.l0 w.heap.size (IsV w (.bool true)) k_1 (b : Int) (x : Int) (some ⟨w_17.heap.size, 0, none⟩) 15 15 ((15 : Nat) : Int) 0 w_18) h16.size fun w17 w18 hs he hl ho => ⟨16, ?_⟩
  exact l0_9 ht hx hn 16 0 w18 rfl (by omega) (he.after h16) ho
end
end Go.Proofs.YtofblkmibghmbaaDoor
