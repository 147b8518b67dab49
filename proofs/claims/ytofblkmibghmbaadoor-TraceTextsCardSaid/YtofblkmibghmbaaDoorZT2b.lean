/-
  Layer 2: texts of numbers, the program's and the document's.
  Conditions: the tables of the host's library read as the program's text lays them.
-/
import Derived.Test.YtofblkmibghmbaaDoorZT2
import Derived.Lib.AppendIntMem
import Derived.Lib.ItoaLen
set_option linter.unusedVariables false
set_option linter.unusedSimpArgs false
set_option maxRecDepth 100000
set_option exponentiation.threshold 3000
namespace Go.Proofs.YtofblkmibghmbaaDoor
open Go.RowKit Ieee
section
variable {w : World}
theorem gives78 (ht : Tabs w) {n : Int} (h0 : -9223372036854775808 ≤ n) (h1 : n ≤ 9223372036854775807) : Gives Tryd.prog 78 [.int .i64 n] w (.string (bstr (Lib.itoa n))) := by
  refine (Tryd.strconv_Itoa n h0 h1 w ht.ten).mono ?_
  rintro e w' ⟨rfl, k, os, rfl⟩
  exact ⟨rfl, Lib.below_grow _ _ (Nat.le_refl _) _ _⟩
theorem l0_84 {w0 : World} {n0 : Nat} (hn0 : n0 < SW) {H : List UInt8} (hH : H.length ≤ 1000) : ∀ (k n : Nat) (s : List UInt8) (w : World), n < k → n ≤ n0 → Below w0.heap.size w0 w → Lib.decDigits n ++ s = H →
    V84.l0 w0.heap.size (IsV w0 (.string (bstr H))) k (n : Int) (bstr s) w := by
  have one : ∀ {w w1 w2 : World} {d : Nat} {s : List UInt8} {K : ByteArray → World → Prop}, d < 10 → Below w0.heap.size w0 w → (w.heap.size ≤ w1.heap.size) → Ext w0.heap.size w w2 → w2.heap[w1.heap.size]? = some (.cells ⟨[.int .u8 (IntKind.wrap .u8 (IntKind.wrap .i64 (48 + (d : Int))))]⟩ 5 (0, 0)) →
      s.length ≤ 1000 → (∀ w3, Ext w0.heap.size w2 w3 → K (bstr [UInt8.ofNat (48 + d)]) w3) →
      RunK Tryd.prog (Go.convert 48 9 (.slice (some ⟨w1.heap.size, 0, none⟩) 1 1)) w0.heap.size w2 [] fun v w_3 => ∃ s11 : ByteArray, v = .string s11 ∧ s11.size + (bstr s).size ≤ 9223372036854775807 ∧ K s11 w_3 := by
    intro w w1 w2 d s K hd hb hs he ho hl hK
    refine conv_str (e := 5) (by kernel_rfl) (by kernel_rfl) (by kernel_rfl) (Nat.le_trans hb.size he.size) (ns := [UInt8.ofNat (48 + d)]) rfl (fun j b hj => ?_) fun w3 h3 => ⟨_, rfl, ?_, hK w3 h3⟩
    · cases j with
      | zero =>
        simp only [List.getElem?_cons_zero, Option.some.injEq] at hj
        rw [own_add, at_cell ho (show ([_] : List Value)[0]? = some _ from rfl), ← hj, dig_nat hd]
        rw [wrap_id (by omega) (by omega)]
        have e : ∀ m : Int, IntKind.wrap .u8 m = m % 256 := fun m => by simp [IntKind.wrap, IntKind.bits, IntKind.signed]
        rw [e]
        congr 2
        omega
      | succ j => simp at hj
    · have : (bstr [UInt8.ofNat (48 + d)]).size = 1 := bstr_size _
      show (bstr [UInt8.ofNat (48 + d)]).size + _ ≤ _
      rw [this, bstr_size]; omega
  intro k
  induction k with
  | zero => intro n s w h; omega
  | succ k ih =>
    intro n s w hk hn hb hH2
    have hsl : s.length ≤ 1000 := by
      have := congrArg List.length hH2
      rw [List.length_append] at this; omega
    unfold V84.l0
    by_cases h : n < 10
    · rw [if_neg (by simp; omega)]
      refine expo_alloc0 (F := fun w_1 w_2 => RunK Tryd.prog (Go.convert 48 9 (.slice (some ⟨w_1.heap.size, 0, none⟩) 1 1)) w0.heap.size w_2 [] fun v w_3 => ∃ s20 : ByteArray, v = .string s20 ∧ s20.size + (bstr s).size ≤ 9223372036854775807 ∧ Ret w0.heap.size w_3 (IsV w0 (.string (bstr H)) (.string (s20 ++ bstr s)))) hb.size fun w1 w2 hs he hl ho => ?_
      refine one (K := fun s20 w_3 => Ret w0.heap.size w_3 (IsV w0 (.string (bstr H)) (.string (s20 ++ bstr s)))) h hb hs he ho hsl fun w3 h3 => ret_is (h3.after (he.after hb)) ?_
      rw [ba_app, ← hH2, Lib.decDigits, dif_pos h]
    · rw [if_pos (by simp; omega)]
      refine ⟨by decide, ?_⟩
      have e1 : Int.tmod (n : Int) 10 = ((n % 10 : Nat) : Int) := by rw [Int.tmod_eq_emod_of_nonneg (by omega)]; omega
      have e2 : IntKind.wrap .i64 (Int.tdiv (n : Int) 10) = ((n / 10 : Nat) : Int) := by
        rw [Int.tdiv_eq_ediv_of_nonneg (by omega)]
        have : (n : Int) / 10 = ((n / 10 : Nat) : Int) := by omega
        rw [this]
        exact wrap_id (by omega) (by unfold SW at hn0; omega)
      rw [e1, e2]
      refine expo_alloc0 (F := fun w_1 w_2 => RunK Tryd.prog (Go.convert 48 9 (.slice (some ⟨w_1.heap.size, 0, none⟩) 1 1)) w0.heap.size w_2 [] fun v w_3 => ∃ s11 : ByteArray, v = .string s11 ∧ s11.size + (bstr s).size ≤ 9223372036854775807 ∧ (10 : Int) ≠ 0 ∧ (V84.l0 w0.heap.size (IsV w0 (.string (bstr H))) k) ((n / 10 : Nat) : Int) (s11 ++ bstr s) w_3) hb.size fun w1 w2 hs he hl ho => ?_
      refine one (K := fun s11 w_3 => (10 : Int) ≠ 0 ∧ (V84.l0 w0.heap.size (IsV w0 (.string (bstr H))) k) ((n / 10 : Nat) : Int) (s11 ++ bstr s) w_3) (Nat.mod_lt _ (by omega)) hb hs he ho hsl fun w3 h3 => ⟨by decide, ?_⟩
      rw [ba_app]
      refine ih (n / 10) _ w3 (by omega) (by omega) (h3.after (he.after hb)) ?_
      rw [← hH2]
      conv => rhs; rw [Lib.decDigits, dif_neg h]
      simp
theorem gives84 {n : Nat} (hn : n < SW) : Gives Tryd.prog 84 [.int .i64 (n : Int)] w (.string (bstr (Lib.decDigits n))) := by
  refine gives_of (V84.sound ?_)
  unfold V84.vc
  have hl : (Lib.decDigits n).length ≤ 1000 := by
    rw [Lib.decDigits_length]
    have := Lib.nDigits_le20 n (by unfold SW at hn; omega)
    omega
  exact ⟨n + 1, l0_84 hn hl (n + 1) n [] w (by omega) (Nat.le_refl _) (Below.refl _ _) (by simp)⟩
theorem gt_order (x y : Nat) : (double.order x y == some Ordering.gt) = (!nanw x && !nanw y && decide (sr y < sr x)) := by
  cases hx : nanw x
  · cases hy : nanw y
    · rw [order_eq (nan_le hx) (nan_le hy)]
      simpa using cmp_gt (sr x) (sr y)
    · rw [order_nan (.inr (by unfold nanw at hy; simpa using hy))]; rfl
  · rw [order_nan (.inl (by unfold nanw at hx; simpa using hx))]; rfl
theorem word_cases {a : Nat} (h : a < 2 * SW) : (ngw a = false ∧ a = rg a ∧ sr a = rg a) ∨ (ngw a = true ∧ a = SW + rg a ∧ sr a = -(rg a : Int)) := by
  have h2 := wd_self h
  rw [wd_eq] at h2
  unfold sr sgn
  cases hn : ngw a <;> rw [hn] at h2 <;> simp only [if_true, Bool.false_eq_true, if_false] at h2 ⊢
  · exact .inl ⟨trivial, h2.symm, trivial⟩
  · exact .inr ⟨trivial, h2.symm, trivial⟩
theorem max_facts : nanw 9218868437227405311 = false ∧ sr 9218868437227405311 = 9218868437227405311 := by decide
theorem gives74p {a : Nat} (ha : a < 2 * SW) (hn : nanw a = false) : Gives Tryd.prog 74 [.float .f64 a, .int .i64 1] w (.bool (decide (a = IR))) := by
  refine gives_of (V74.sound ?_)
  unfold V74.vc
  rw [if_neg (by decide), if_neg (by decide)]
  refine ret_is (Below.refl _ _) (congrArg Value.bool ?_)
  show (double.order a 9218868437227405311 == some Ordering.gt) = _
  rw [gt_order, hn, max_facts.1, max_facts.2]
  have h1 := nan_le hn
  simp only [Bool.not_false, Bool.true_and]
  refine decide_eq_decide.2 ?_
  unfold IR at *
  unfold SW at *
  rcases word_cases (by unfold SW; exact ha) with ⟨_, h2, h3⟩ | ⟨_, h2, h3⟩ <;> rw [h3] <;> (try unfold SW at h2) <;> omega
theorem gives74m {a : Nat} (ha : a < 2 * SW) (hn : nanw a = false) : Gives Tryd.prog 74 [.float .f64 a, .int .i64 (-1)] w (.bool (decide (a = SW + IR))) := by
  refine gives_of (V74.sound ?_)
  unfold V74.vc
  rw [if_neg (by decide), if_pos (by decide)]
  refine ret_is (Below.refl _ _) (congrArg Value.bool ?_)
  show (double.order (a ^^^ SW) 9218868437227405311 == some Ordering.gt) = _
  have hx := neg_ng ha
  have hn2 : nanw (a ^^^ SW) = false := by unfold nanw at *; rw [hx.2]; exact hn
  have hs : sr (a ^^^ SW) = -(sr a) := by
    unfold sr sgn; rw [hx.1, hx.2]; cases ngw a <;> simp
  rw [gt_order, hn2, max_facts.1, max_facts.2, hs]
  have h1 := nan_le hn
  simp only [Bool.not_false, Bool.true_and]
  refine decide_eq_decide.2 ?_
  have hw := word_cases ha
  unfold IR at *
  unfold SW at *
  rcases hw with ⟨_, h2, h3⟩ | ⟨_, h2, h3⟩ <;> rw [h3] <;> omega
theorem gives75 {a : Nat} (ha : a < 2 * SW) : Gives Tryd.prog 75 [.float .f64 a] w (.bool (decide (SW ≤ a))) := by
  refine gives_of (V75.sound ?_)
  unfold V75.vc
  refine run_lone (Nat.le_refl _) (lone_bits _) fun v w' he hv => ⟨_, hv, ret_is he.below (congrArg Value.bool (decide_eq_decide.2 ?_))⟩
  rw [IntKind.wrap_i64]
  unfold SW at *
  omega
theorem gives77 {a : Nat} (ha : a < 2 * SW) : Gives Tryd.prog 77 [.float .f64 a] w (.float .f64 (rg a)) := by
  refine gives_of (V77.sound ?_)
  unfold V77.vc
  refine run_lone (Nat.le_refl _) (lone_bits _) fun v w1 h1 hv => ⟨_, hv, ?_⟩
  rw [b_andnot ha]
  exact run_lone h1.size (lone_from _) fun v w2 h2 hv => ⟨_, hv, ret_is (h2.after h1.below) rfl⟩
theorem gives76 {a : Nat} (hn : nanw a = false) : Gives Tryd.prog 76 [.float .f64 a] w (.float .f64 (trc a)) := by
  refine gives_of (V76.sound ?_)
  unfold V76.vc
  exact run_lone (Nat.le_refl _) (lone_trunc _ a (by rw [hn]; decide)) fun v w1 h1 hv => ⟨_, hv, ret_is h1.below rfl⟩
end
end Go.Proofs.YtofblkmibghmbaaDoor
