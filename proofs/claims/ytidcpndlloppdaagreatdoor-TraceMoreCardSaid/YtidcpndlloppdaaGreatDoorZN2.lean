import Derived.Test.YtidcpndlloppdaaGreatDoorZT2
import Derived.Lib.AppendIntMem
import Derived.Lib.ItoaLen
import Derived.Test.YtidcpndlloppdaaGreatDoorZFU
/-
  Layer 2: texts of numbers, the program's and the document's.
  Conditions: the tables of the host's library read as the program's text lays them.
-/
set_option linter.unusedVariables false
set_option linter.unusedSimpArgs false
set_option maxRecDepth 100000
set_option exponentiation.threshold 3000
namespace Go.Proofs.YtidcpndlloppdaaGreatDoor
open Go.RowKit Ieee
section
variable {w : World}
theorem gives57 (ht : Tabs w) {n : Int} (h0 : -9223372036854775808 ≤ n) (h1 : n ≤ 9223372036854775807) : Gives Tryz.prog 57 [.int .i64 n] w (.string (bstr (Lib.itoa n))) := by
  refine (Tryz.strconv_Itoa n h0 h1 w ht.ten).mono ?_
  rintro e w' ⟨rfl, k, os, rfl⟩
  exact ⟨rfl, Lib.below_grow _ _ (Nat.le_refl _) _ _⟩
theorem gt_order (x y : Nat) : (double.order x y == some Ordering.gt) = (!nanw x && !nanw y && decide (sr y < sr x)) := by
  cases hx : nanw x
  · cases hy : nanw y
    · rw [order_eq (nan_le hx) (nan_le hy)]
      simpa using cmp_gt (sr x) (sr y)
    · rw [order_nan (.inr (by unfold nanw at hy; simpa using hy))]; rfl
  · rw [order_nan (.inl (by unfold nanw at hx; simpa using hx))]; rfl
theorem word_cases {a : Nat} (h : a < 2 * SW) : (ngw a = false ∧ a = rg a ∧ sr a = rg a) ∨ (ngw a = true ∧ a = SW + rg a ∧ sr a = -(rg a : Int)) := by
  have h2 := wd_self h
  rw [wd_eq] at h2
  unfold sr sgn
  cases hn : ngw a <;> rw [hn] at h2 <;> simp only [if_true, Bool.false_eq_true, if_false] at h2 ⊢
  · exact .inl ⟨trivial, h2.symm, trivial⟩
  · exact .inr ⟨trivial, h2.symm, trivial⟩
theorem max_facts : nanw 9218868437227405311 = false ∧ sr 9218868437227405311 = 9218868437227405311 := by decide
theorem gives53p {a : Nat} (ha : a < 2 * SW) (hn : nanw a = false) : Gives Tryz.prog 53 [.float .f64 a, .int .i64 1] w (.bool (decide (a = IR))) := by
  refine gives_of (V53.sound ?_)
  unfold V53.vc
  rw [if_neg (by decide), if_neg (by decide)]
  refine ret_is (Below.refl _ _) (congrArg Value.bool ?_)
  show (double.order a 9218868437227405311 == some Ordering.gt) = _
  rw [gt_order, hn, max_facts.1, max_facts.2]
  have h1 := nan_le hn
  simp only [Bool.not_false, Bool.true_and]
  refine decide_eq_decide.2 ?_
  unfold IR at *
  unfold SW at *
  rcases word_cases (by unfold SW; exact ha) with ⟨_, h2, h3⟩ | ⟨_, h2, h3⟩ <;> rw [h3] <;> (try unfold SW at h2) <;> omega
theorem gives53m {a : Nat} (ha : a < 2 * SW) (hn : nanw a = false) : Gives Tryz.prog 53 [.float .f64 a, .int .i64 (-1)] w (.bool (decide (a = SW + IR))) := by
  refine gives_of (V53.sound ?_)
  unfold V53.vc
  rw [if_neg (by decide), if_pos (by decide)]
  refine ret_is (Below.refl _ _) (congrArg Value.bool ?_)
  show (double.order (a ^^^ SW) 9218868437227405311 == some Ordering.gt) = _
  have hx := neg_ng ha
  have hn2 : nanw (a ^^^ SW) = false := by unfold nanw at *; rw [hx.2]; exact hn
  have hs : sr (a ^^^ SW) = -(sr a) := by
    unfold sr sgn; rw [hx.1, hx.2]; cases ngw a <;> simp
  rw [gt_order, hn2, max_facts.1, max_facts.2, hs]
  have h1 := nan_le hn
  simp only [Bool.not_false, Bool.true_and]
  refine decide_eq_decide.2 ?_
  have hw := word_cases ha
  unfold IR at *
  unfold SW at *
  rcases hw with ⟨_, h2, h3⟩ | ⟨_, h2, h3⟩ <;> rw [h3] <;> omega
theorem gives54 {a : Nat} (ha : a < 2 * SW) : Gives Tryz.prog 54 [.float .f64 a] w (.bool (decide (SW ≤ a))) := by
  refine gives_of (V54.sound ?_)
  unfold V54.vc
  refine run_lone (Nat.le_refl _) (lone_bits _) fun v w' he hv => ⟨_, hv, ret_is he.below (congrArg Value.bool (decide_eq_decide.2 ?_))⟩
  rw [IntKind.wrap_i64]
  unfold SW at *
  omega
theorem gives56 {a : Nat} (ha : a < 2 * SW) : Gives Tryz.prog 56 [.float .f64 a] w (.float .f64 (rg a)) := by
  refine gives_of (V56.sound ?_)
  unfold V56.vc
  refine run_lone (Nat.le_refl _) (lone_bits _) fun v w1 h1 hv => ⟨_, hv, ?_⟩
  rw [b_andnot ha]
  exact run_lone h1.size (lone_from _) fun v w2 h2 hv => ⟨_, hv, ret_is (h2.after h1.below) rfl⟩
theorem gives55 {a : Nat} (hn : nanw a = false) : Gives Tryz.prog 55 [.float .f64 a] w (.float .f64 (trc a)) := by
  refine gives_of (V55.sound ?_)
  unfold V55.vc
  exact run_lone (Nat.le_refl _) (lone_trunc _ a (by rw [hn]; decide)) fun v w1 h1 hv => ⟨_, hv, ret_is h1.below rfl⟩
end
end Go.Proofs.YtidcpndlloppdaaGreatDoor

/-
  Layer 2: texts of numbers, the program's and the document's, are the plain rule's.
  Conditions: the tables of the host's library read as the program's text lays them.
-/
set_option linter.unusedVariables false
set_option linter.unusedSimpArgs false
set_option maxRecDepth 100000
set_option exponentiation.threshold 3000
namespace Go.Proofs.YtidcpndlloppdaaGreatDoor
open Go.RowKit Ieee
theorem trc_fin {a : Nat} (ha : a < 2 * SW) (h : rg a < IR) : nanw (trc a) = false ∧ nanw (flr a) = false := by
  have hb := bn_pos
  have hI : ∀ {x : Nat}, rg x < IR → nanw x = false := fun hx => by unfold nanw; simp; omega
  constructor
  · rcases trc_spec ha h with ⟨_, e⟩ | ⟨_, e, hl⟩
    · rw [e]; exact hI h
    · rw [e]; exact hI (by rw [iw_rg (by omega)]; exact irg_lt (by omega))
  · exact hI (floor_law ha h).2.1
theorem big_facts : nanw 4845873199050653696 = false ∧ sr 4845873199050653696 = 4845873199050653696 ∧ 1076 * BN = 4845873199050653696 := by decide
theorem two_bn : 2 * BN = 9007199254740992 := by decide
theorem pad_len {a : Nat} (ha : a < 2 * SW) : (hexN a).length ≤ 16 ∧ List.replicate (16 - (hexN a).length) 48 ++ hexN a = hexL 16 a := hex_pad (k := 15) (by rw [show 16 ^ (15 + 1) = 2 * SW from by decide]; exact ha)
section
variable {w : World}
theorem l2_32 {w0 : World} {a : Nat} (ha : a < 2 * SW) : ∀ (d : Nat) (w : World), d ≤ 16 - (hexN a).length → Below w0.heap.size w0 w →
    V32.l2 w0.heap.size (IsV w0 (.string (bstr (48 :: 120 :: hexL 16 a)))) (d + 1) (bstr (List.replicate (16 - (hexN a).length - d) 48 ++ hexN a)) w := by
  have hp := pad_len ha
  have e0 : ({ data := #[48] } : ByteArray) = bstr [48] := rfl
  have e1 : ({ data := #[48, 120] } : ByteArray) = bstr [48, 120] := rfl
  intro d
  induction d with
  | zero =>
    intro w hd hb
    unfold V32.l2
    rw [e0, e1, bstr_size, bstr_size, bstr_size]
    rw [if_neg (by simp; omega)]
    refine ⟨by simp; omega, ret_is hb ?_⟩
    rw [ba_app, Nat.sub_zero, hp.2]; rfl
  | succ d ih =>
    intro w hd hb
    unfold V32.l2
    rw [e0, e1, bstr_size, bstr_size, bstr_size]
    rw [if_pos (by simp; omega)]
    refine ⟨by simp; omega, ?_⟩
    rw [ba_app, ← List.append_assoc, show ([48] : List UInt8) ++ List.replicate (16 - (hexN a).length - (d + 1)) 48 = List.replicate (16 - (hexN a).length - d) 48 by
      rw [show 16 - (hexN a).length - d = (16 - (hexN a).length - (d + 1)) + 1 by omega, List.replicate_succ]; rfl]
    exact ih w (by omega) hb
theorem hex19 {w0 w : World} (ht : Tabs w0) {a : Nat} (ha : a < 2 * SW) (hb : Below w0.heap.size w0 w) : V32.b1 w0.heap.size (IsV w0 (.string (bstr (48 :: 120 :: hexL 16 a)))) (a : Int) w := by
  unfold V32.b1
  refine call_gives hb (fun w1 _ h1 => gives58 (ht.on h1) ha) fun w1 _ h1 => ⟨_, rfl, 16 - (hexN a).length + 1, ?_⟩
  have := l2_32 (w0 := w0) ha (16 - (hexN a).length) w1 (Nat.le_refl _) h1
  rw [Nat.sub_self] at this
  exact this
theorem intF_bounds {a : Nat} (ha : a < 2 * SW) (hz : a ≠ SW) (h : whB a = true) : (double.read a).toInt .zero = some (intF a) ∧ -9223372036854775808 ≤ intF a ∧ intF a ≤ 9223372036854775807 := by
  obtain ⟨z, h1, _, h2, h3⟩ := whole_int ha h hz
  rw [h3]
  have := two_bn
  exact ⟨h2, by omega, by omega⟩
theorem gives32 (ht : Tabs w) {a : Nat} (ha : a < 2 * SW) : Gives Tryz.prog 32 [.int .u64 (a : Int)] w (.string (bstr (textF a))) := by
  refine gives_of (V32.sound ?_)
  unfold V32.vc
  refine call_gives (Below.refl _ _) (fun _ _ _ => gives51 a) fun w1 _ h1 => ⟨_, rfl, ?_⟩
  refine call_gives h1 (fun _ _ _ => gives52 a) fun w2 _ h2 => ⟨_, rfl, ?_⟩
  by_cases hn : nanw a = true
  · rw [if_pos hn]
    exact ret_is h2 (by unfold textF; rw [if_pos hn]; rfl)
  have hn' : nanw a = false := by simpa using hn
  rw [if_neg hn]
  refine call_gives h2 (fun _ _ _ => gives53p ha hn') fun w3 _ h3 => ⟨_, rfl, ?_⟩
  by_cases hi : a = IR
  · rw [if_pos (by simpa using hi)]
    exact ret_is h3 (by unfold textF; rw [if_neg hn, if_pos hi]; rfl)
  rw [if_neg (by simpa using hi)]
  refine call_gives h3 (fun _ _ _ => gives53m ha hn') fun w4 _ h4 => ⟨_, rfl, ?_⟩
  by_cases hm : a = SW + IR
  · rw [if_pos (by simpa using hm)]
    exact ret_is h4 (by unfold textF; rw [if_neg hn, if_neg hi, if_pos hm]; rfl)
  rw [if_neg (by simpa using hm)]
  have hfin : rg a < IR := by
    have h := nan_le hn'
    rcases word_cases ha with ⟨_, e, _⟩ | ⟨_, e, _⟩ <;> omega
  have rest : ∀ {w5 : World}, a ≠ SW → Below w.heap.size w w5 → V32.b0 w.heap.size (IsV w (.string (bstr (textF a)))) (a : Int) a false w5 := by
    intro w5 hz h5
    unfold V32.b0
    rw [if_neg (by decide)]
    have ht2 : textF a = if whB a = true then Lib.itoa (intF a) else 48 :: 120 :: hexL 16 a := by unfold textF; rw [if_neg hn, if_neg hi, if_neg hm, if_neg hz]
    have htr := trc_fin ha hfin
    refine call_gives h5 (fun _ _ _ => gives55 hn') fun w6 _ h6 => ⟨_, rfl, ?_⟩
    have e1 : (FloatKind.f64.format.order a (trc a) == some Ordering.eq) = decide (sr a = sr (trc a)) := by
      show (double.order a (trc a) == some Ordering.eq) = _
      rw [eq_order, hn', htr.1]; simp
    rw [e1]
    have hwh := trc_whole ha hfin
    have hex : ¬ whB a = true → ∀ {w7 : World}, Below w.heap.size w w7 → V32.b1 w.heap.size (IsV w (.string (bstr (textF a)))) (a : Int) w7 := fun hq _ h7 => by
      rw [ht2, if_neg hq]; exact hex19 ht ha h7
    by_cases hw : wh a
    · rw [if_pos (by simpa using (hwh.2 hw).symm)]
      refine call_gives h6 (fun _ _ _ => gives56 ha) fun w7 _ h7 => ⟨_, rfl, ?_⟩
      have hrg : nanw (rg a) = false ∧ sr (rg a) = rg a := by
        have e : rg (rg a) = rg a := Nat.mod_eq_of_lt (rg_lt a)
        have e2 : ngw (rg a) = false := by unfold ngw; rw [Nat.div_eq_of_lt (rg_lt a)]; rfl
        constructor
        · unfold nanw at *; rw [e]; exact hn'
        · unfold sr sgn; rw [e, e2]; rfl
      have e2 : (FloatKind.f64.format.order (rg a) 4845873199050653696 == some Ordering.lt) = decide (rg a < 1076 * BN) := by
        show (double.order (rg a) 4845873199050653696 == some Ordering.lt) = _
        rw [lt_order, hrg.1, hrg.2, big_facts.1, big_facts.2.1, big_facts.2.2]
        simp only [Bool.not_false, Bool.true_and]
        exact decide_eq_decide.2 (by omega)
      rw [e2]
      by_cases hs : rg a < 1076 * BN
      · rw [if_pos (by simpa using hs)]
        have hq : whB a = true := (whB_iff a).2 ⟨hs, hw⟩
        obtain ⟨b1, b2, b3⟩ := intF_bounds ha hz hq
        refine run_lone h7.size (lone_toInt 82 3 a (intF a) (by kernel_rfl) (by kernel_rfl) b1 b2 b3) fun v w8 h8 hv => ⟨_, hv, ?_⟩
        refine call_gives (h8.after h7) (fun w9 _ h9 => gives57 (ht.on h9) b2 b3) fun w9 _ h9 => ⟨_, rfl, ret_is h9 ?_⟩
        rw [ht2, if_pos hq]
      · rw [if_neg (by simpa using hs)]
        exact hex (fun hq => hs ((whB_iff a).1 hq).1) h7
    · rw [if_neg (by simpa using fun e => hw (hwh.1 e.symm))]
      exact hex (fun hq => hw ((whB_iff a).1 hq).2) h6
  have ez : (FloatKind.f64.format.order a 0 == some Ordering.eq) = decide (rg a = 0) := eq_zero a
  rw [ez]
  by_cases hr : rg a = 0
  · rw [if_pos (by simpa using hr)]
    refine call_gives h4 (fun _ _ _ => gives54 ha) fun w5 _ h5 => ⟨_, rfl, ?_⟩
    by_cases hs : SW ≤ a
    · have hz : a = SW := by rcases word_cases ha with ⟨_, e, _⟩ | ⟨_, e, _⟩ <;> have := rg_lt a <;> omega
      unfold V32.b0
      rw [if_pos (by simpa using hs)]
      exact ret_is h5 (by unfold textF; rw [if_neg hn, if_neg hi, if_neg hm, if_pos hz]; rfl)
    · rw [decide_eq_false hs]
      exact rest (by omega) h5
  · rw [if_neg (by simpa using hr)]
    exact rest (fun e => hr (by rw [e]; decide)) h4
end
end Go.Proofs.YtidcpndlloppdaaGreatDoor

/-
  Layer 2: the document's texts are the plain rule's.
  Conditions: none.
-/
set_option linter.unusedVariables false
set_option linter.unusedSimpArgs false
set_option maxRecDepth 100000
set_option exponentiation.threshold 3000
namespace Go.Proofs.YtidcpndlloppdaaGreatDoor
open Go.RowKit Ieee
section
variable {w : World}
end
end Go.Proofs.YtidcpndlloppdaaGreatDoor

/-
  Layer 2: the document's examples; FltAll.
  Conditions: the tables of the host's library read as the program's text lays them.
-/
set_option linter.unusedVariables false
set_option linter.unusedSimpArgs false
set_option maxRecDepth 100000
set_option exponentiation.threshold 3000
namespace Go.Proofs.YtidcpndlloppdaaGreatDoor
open Go.RowKit Ieee
theorem str_eq {l m : List UInt8} {x : ByteArray} (h : l = m) (hx : bstr m = x) : ((bstr l).toList == x.toList) = true := by rw [h, hx]; exact beq_self_eq_true _
section
variable {w : World}
end
end Go.Proofs.YtidcpndlloppdaaGreatDoor
