import Derived.Test.YtidcpndlloppdaaGreatDoorZT2
import Derived.Lib.AppendIntMem
import Derived.Lib.ItoaLen
import Derived.Test.YtidcpndlloppdaaGreatDoorZFU
import Derived.Test.YtidcpndlloppdaaGreatDoorZP29
import Derived.Test.YtidcpndlloppdaaGreatDoorZM29
/-
  Layer 2: texts of numbers, the program's and the document's.
  Conditions: the tables of the host's library read as the program's text lays them.
-/
set_option linter.unusedVariables false
set_option linter.unusedSimpArgs false
set_option maxRecDepth 100000
set_option exponentiation.threshold 3000
namespace Go.Proofs.YtidcpndlloppdaaGreatDoor
open Go.RowKit Ieee
section
variable {w : World}
theorem gives57 (ht : Tabs w) {n : Int} (h0 : -9223372036854775808 ≤ n) (h1 : n ≤ 9223372036854775807) : Gives Tryz.prog 57 [.int .i64 n] w (.string (bstr (Lib.itoa n))) := by
  refine (Tryz.strconv_Itoa n h0 h1 w ht.ten).mono ?_
  rintro e w' ⟨rfl, k, os, rfl⟩
  exact ⟨rfl, Lib.below_grow _ _ (Nat.le_refl _) _ _⟩
theorem gt_order (x y : Nat) : (double.order x y == some Ordering.gt) = (!nanw x && !nanw y && decide (sr y < sr x)) := by
  cases hx : nanw x
  · cases hy : nanw y
    · rw [order_eq (nan_le hx) (nan_le hy)]
      simpa using cmp_gt (sr x) (sr y)
    · rw [order_nan (.inr (by unfold nanw at hy; simpa using hy))]; rfl
  · rw [order_nan (.inl (by unfold nanw at hx; simpa using hx))]; rfl
theorem word_cases {a : Nat} (h : a < 2 * SW) : (ngw a = false ∧ a = rg a ∧ sr a = rg a) ∨ (ngw a = true ∧ a = SW + rg a ∧ sr a = -(rg a : Int)) := by
  have h2 := wd_self h
  rw [wd_eq] at h2
  unfold sr sgn
  cases hn : ngw a <;> rw [hn] at h2 <;> simp only [if_true, Bool.false_eq_true, if_false] at h2 ⊢
  · exact .inl ⟨trivial, h2.symm, trivial⟩
  · exact .inr ⟨trivial, h2.symm, trivial⟩
theorem max_facts : nanw 9218868437227405311 = false ∧ sr 9218868437227405311 = 9218868437227405311 := by decide
theorem gives53p {a : Nat} (ha : a < 2 * SW) (hn : nanw a = false) : Gives Tryz.prog 53 [.float .f64 a, .int .i64 1] w (.bool (decide (a = IR))) := by
  refine gives_of (V53.sound ?_)
  unfold V53.vc
  rw [if_neg (by decide), if_neg (by decide)]
  refine ret_is (Below.refl _ _) (congrArg Value.bool ?_)
  show (double.order a 9218868437227405311 == some Ordering.gt) = _
  rw [gt_order, hn, max_facts.1, max_facts.2]
  have h1 := nan_le hn
  simp only [Bool.not_false, Bool.true_and]
  refine decide_eq_decide.2 ?_
  unfold IR at *
  unfold SW at *
  rcases word_cases (by unfold SW; exact ha) with ⟨_, h2, h3⟩ | ⟨_, h2, h3⟩ <;> rw [h3] <;> (try unfold SW at h2) <;> omega
theorem gives53m {a : Nat} (ha : a < 2 * SW) (hn : nanw a = false) : Gives Tryz.prog 53 [.float .f64 a, .int .i64 (-1)] w (.bool (decide (a = SW + IR))) := by
  refine gives_of (V53.sound ?_)
  unfold V53.vc
  rw [if_neg (by decide), if_pos (by decide)]
  refine ret_is (Below.refl _ _) (congrArg Value.bool ?_)
  show (double.order (a ^^^ SW) 9218868437227405311 == some Ordering.gt) = _
  have hx := neg_ng ha
  have hn2 : nanw (a ^^^ SW) = false := by unfold nanw at *; rw [hx.2]; exact hn
  have hs : sr (a ^^^ SW) = -(sr a) := by
    unfold sr sgn; rw [hx.1, hx.2]; cases ngw a <;> simp
  rw [gt_order, hn2, max_facts.1, max_facts.2, hs]
  have h1 := nan_le hn
  simp only [Bool.not_false, Bool.true_and]
  refine decide_eq_decide.2 ?_
  have hw := word_cases ha
  unfold IR at *
  unfold SW at *
  rcases hw with ⟨_, h2, h3⟩ | ⟨_, h2, h3⟩ <;> rw [h3] <;> omega
theorem gives54 {a : Nat} (ha : a < 2 * SW) : Gives Tryz.prog 54 [.float .f64 a] w (.bool (decide (SW ≤ a))) := by
  refine gives_of (V54.sound ?_)
  unfold V54.vc
  refine run_lone (Nat.le_refl _) (lone_bits _) fun v w' he hv => ⟨_, hv, ret_is he.below (congrArg Value.bool (decide_eq_decide.2 ?_))⟩
  rw [IntKind.wrap_i64]
  unfold SW at *
  omega
theorem gives56 {a : Nat} (ha : a < 2 * SW) : Gives Tryz.prog 56 [.float .f64 a] w (.float .f64 (rg a)) := by
  refine gives_of (V56.sound ?_)
  unfold V56.vc
  refine run_lone (Nat.le_refl _) (lone_bits _) fun v w1 h1 hv => ⟨_, hv, ?_⟩
  rw [b_andnot ha]
  exact run_lone h1.size (lone_from _) fun v w2 h2 hv => ⟨_, hv, ret_is (h2.after h1.below) rfl⟩
theorem gives55 {a : Nat} (hn : nanw a = false) : Gives Tryz.prog 55 [.float .f64 a] w (.float .f64 (trc a)) := by
  refine gives_of (V55.sound ?_)
  unfold V55.vc
  exact run_lone (Nat.le_refl _) (lone_trunc _ a (by rw [hn]; decide)) fun v w1 h1 hv => ⟨_, hv, ret_is h1.below rfl⟩
end
end Go.Proofs.YtidcpndlloppdaaGreatDoor

/-
  Layer 2: texts of numbers, the program's and the document's, are the plain rule's.
  Conditions: the tables of the host's library read as the program's text lays them.
-/
set_option linter.unusedVariables false
set_option linter.unusedSimpArgs false
set_option maxRecDepth 100000
set_option exponentiation.threshold 3000
namespace Go.Proofs.YtidcpndlloppdaaGreatDoor
open Go.RowKit Ieee
theorem trc_fin {a : Nat} (ha : a < 2 * SW) (h : rg a < IR) : nanw (trc a) = false ∧ nanw (flr a) = false := by
  have hb := bn_pos
  have hI : ∀ {x : Nat}, rg x < IR → nanw x = false := fun hx => by unfold nanw; simp; omega
  constructor
  · rcases trc_spec ha h with ⟨_, e⟩ | ⟨_, e, hl⟩
    · rw [e]; exact hI h
    · rw [e]; exact hI (by rw [iw_rg (by omega)]; exact irg_lt (by omega))
  · exact hI (floor_law ha h).2.1
theorem big_facts : nanw 4845873199050653696 = false ∧ sr 4845873199050653696 = 4845873199050653696 ∧ 1076 * BN = 4845873199050653696 := by decide
theorem two_bn : 2 * BN = 9007199254740992 := by decide
theorem pad_len {a : Nat} (ha : a < 2 * SW) : (hexN a).length ≤ 16 ∧ List.replicate (16 - (hexN a).length) 48 ++ hexN a = hexL 16 a := hex_pad (k := 15) (by rw [show 16 ^ (15 + 1) = 2 * SW from by decide]; exact ha)
section
variable {w : World}
theorem l2_32 {w0 : World} {a : Nat} (ha : a < 2 * SW) : ∀ (d : Nat) (w : World), d ≤ 16 - (hexN a).length → Below w0.heap.size w0 w →
    V32.l2 w0.heap.size (IsV w0 (.string (bstr (48 :: 120 :: hexL 16 a)))) (d + 1) (bstr (List.replicate (16 - (hexN a).length - d) 48 ++ hexN a)) w := by
  have hp := pad_len ha
  have e0 : ({ data := #[48] } : ByteArray) = bstr [48] := rfl
  have e1 : ({ data := #[48, 120] } : ByteArray) = bstr [48, 120] := rfl
  intro d
  induction d with
  | zero =>
    intro w hd hb
    unfold V32.l2
    rw [e0, e1, bstr_size, bstr_size, bstr_size]
    rw [if_neg (by simp; omega)]
    refine ⟨by simp; omega, ret_is hb ?_⟩
    rw [ba_app, Nat.sub_zero, hp.2]; rfl
  | succ d ih =>
    intro w hd hb
    unfold V32.l2
    rw [e0, e1, bstr_size, bstr_size, bstr_size]
    rw [if_pos (by simp; omega)]
    refine ⟨by simp; omega, ?_⟩
    rw [ba_app, ← List.append_assoc, show ([48] : List UInt8) ++ List.replicate (16 - (hexN a).length - (d + 1)) 48 = List.replicate (16 - (hexN a).length - d) 48 by
      rw [show 16 - (hexN a).length - d = (16 - (hexN a).length - (d + 1)) + 1 by omega, List.replicate_succ]; rfl]
    exact ih w (by omega) hb
theorem hex19 {w0 w : World} (ht : Tabs w0) {a : Nat} (ha : a < 2 * SW) (hb : Below w0.heap.size w0 w) : V32.b1 w0.heap.size (IsV w0 (.string (bstr (48 :: 120 :: hexL 16 a)))) (a : Int) w := by
  unfold V32.b1
  refine call_gives hb (fun w1 _ h1 => gives58 (ht.on h1) ha) fun w1 _ h1 => ⟨_, rfl, 16 - (hexN a).length + 1, ?_⟩
  have := l2_32 (w0 := w0) ha (16 - (hexN a).length) w1 (Nat.le_refl _) h1
  rw [Nat.sub_self] at this
  exact this
theorem intF_bounds {a : Nat} (ha : a < 2 * SW) (hz : a ≠ SW) (h : whB a = true) : (double.read a).toInt .zero = some (intF a) ∧ -9223372036854775808 ≤ intF a ∧ intF a ≤ 9223372036854775807 := by
  obtain ⟨z, h1, _, h2, h3⟩ := whole_int ha h hz
  rw [h3]
  have := two_bn
  exact ⟨h2, by omega, by omega⟩
theorem gives32 (ht : Tabs w) {a : Nat} (ha : a < 2 * SW) : Gives Tryz.prog 32 [.int .u64 (a : Int)] w (.string (bstr (textF a))) := by
  refine gives_of (V32.sound ?_)
  unfold V32.vc
  refine call_gives (Below.refl _ _) (fun _ _ _ => gives51 a) fun w1 _ h1 => ⟨_, rfl, ?_⟩
  refine call_gives h1 (fun _ _ _ => gives52 a) fun w2 _ h2 => ⟨_, rfl, ?_⟩
  by_cases hn : nanw a = true
  · rw [if_pos hn]
    exact ret_is h2 (by unfold textF; rw [if_pos hn]; rfl)
  have hn' : nanw a = false := by simpa using hn
  rw [if_neg hn]
  refine call_gives h2 (fun _ _ _ => gives53p ha hn') fun w3 _ h3 => ⟨_, rfl, ?_⟩
  by_cases hi : a = IR
  · rw [if_pos (by simpa using hi)]
    exact ret_is h3 (by unfold textF; rw [if_neg hn, if_pos hi]; rfl)
  rw [if_neg (by simpa using hi)]
  refine call_gives h3 (fun _ _ _ => gives53m ha hn') fun w4 _ h4 => ⟨_, rfl, ?_⟩
  by_cases hm : a = SW + IR
  · rw [if_pos (by simpa using hm)]
    exact ret_is h4 (by unfold textF; rw [if_neg hn, if_neg hi, if_pos hm]; rfl)
  rw [if_neg (by simpa using hm)]
  have hfin : rg a < IR := by
    have h := nan_le hn'
    rcases word_cases ha with ⟨_, e, _⟩ | ⟨_, e, _⟩ <;> omega
  have rest : ∀ {w5 : World}, a ≠ SW → Below w.heap.size w w5 → V32.b0 w.heap.size (IsV w (.string (bstr (textF a)))) (a : Int) a false w5 := by
    intro w5 hz h5
    unfold V32.b0
    rw [if_neg (by decide)]
    have ht2 : textF a = if whB a = true then Lib.itoa (intF a) else 48 :: 120 :: hexL 16 a := by unfold textF; rw [if_neg hn, if_neg hi, if_neg hm, if_neg hz]
    have htr := trc_fin ha hfin
    refine call_gives h5 (fun _ _ _ => gives55 hn') fun w6 _ h6 => ⟨_, rfl, ?_⟩
    have e1 : (FloatKind.f64.format.order a (trc a) == some Ordering.eq) = decide (sr a = sr (trc a)) := by
      show (double.order a (trc a) == some Ordering.eq) = _
      rw [eq_order, hn', htr.1]; simp
    rw [e1]
    have hwh := trc_whole ha hfin
    have hex : ¬ whB a = true → ∀ {w7 : World}, Below w.heap.size w w7 → V32.b1 w.heap.size (IsV w (.string (bstr (textF a)))) (a : Int) w7 := fun hq _ h7 => by
      rw [ht2, if_neg hq]; exact hex19 ht ha h7
    by_cases hw : wh a
    · rw [if_pos (by simpa using (hwh.2 hw).symm)]
      refine call_gives h6 (fun _ _ _ => gives56 ha) fun w7 _ h7 => ⟨_, rfl, ?_⟩
      have hrg : nanw (rg a) = false ∧ sr (rg a) = rg a := by
        have e : rg (rg a) = rg a := Nat.mod_eq_of_lt (rg_lt a)
        have e2 : ngw (rg a) = false := by unfold ngw; rw [Nat.div_eq_of_lt (rg_lt a)]; rfl
        constructor
        · unfold nanw at *; rw [e]; exact hn'
        · unfold sr sgn; rw [e, e2]; rfl
      have e2 : (FloatKind.f64.format.order (rg a) 4845873199050653696 == some Ordering.lt) = decide (rg a < 1076 * BN) := by
        show (double.order (rg a) 4845873199050653696 == some Ordering.lt) = _
        rw [lt_order, hrg.1, hrg.2, big_facts.1, big_facts.2.1, big_facts.2.2]
        simp only [Bool.not_false, Bool.true_and]
        exact decide_eq_decide.2 (by omega)
      rw [e2]
      by_cases hs : rg a < 1076 * BN
      · rw [if_pos (by simpa using hs)]
        have hq : whB a = true := (whB_iff a).2 ⟨hs, hw⟩
        obtain ⟨b1, b2, b3⟩ := intF_bounds ha hz hq
        refine run_lone h7.size (lone_toInt 82 3 a (intF a) (by kernel_rfl) (by kernel_rfl) b1 b2 b3) fun v w8 h8 hv => ⟨_, hv, ?_⟩
        refine call_gives (h8.after h7) (fun w9 _ h9 => gives57 (ht.on h9) b2 b3) fun w9 _ h9 => ⟨_, rfl, ret_is h9 ?_⟩
        rw [ht2, if_pos hq]
      · rw [if_neg (by simpa using hs)]
        exact hex (fun hq => hs ((whB_iff a).1 hq).1) h7
    · rw [if_neg (by simpa using fun e => hw (hwh.1 e.symm))]
      exact hex (fun hq => hw ((whB_iff a).1 hq).2) h6
  have ez : (FloatKind.f64.format.order a 0 == some Ordering.eq) = decide (rg a = 0) := eq_zero a
  rw [ez]
  by_cases hr : rg a = 0
  · rw [if_pos (by simpa using hr)]
    refine call_gives h4 (fun _ _ _ => gives54 ha) fun w5 _ h5 => ⟨_, rfl, ?_⟩
    by_cases hs : SW ≤ a
    · have hz : a = SW := by rcases word_cases ha with ⟨_, e, _⟩ | ⟨_, e, _⟩ <;> have := rg_lt a <;> omega
      unfold V32.b0
      rw [if_pos (by simpa using hs)]
      exact ret_is h5 (by unfold textF; rw [if_neg hn, if_neg hi, if_neg hm, if_pos hz]; rfl)
    · rw [decide_eq_false hs]
      exact rest (by omega) h5
  · rw [if_neg (by simpa using hr)]
    exact rest (fun e => hr (by rw [e]; decide)) h4
end
end Go.Proofs.YtidcpndlloppdaaGreatDoor

/-
  Layer 2: the document's texts are the plain rule's.
  Conditions: none.
-/
set_option linter.unusedVariables false
set_option linter.unusedSimpArgs false
set_option maxRecDepth 100000
set_option exponentiation.threshold 3000
namespace Go.Proofs.YtidcpndlloppdaaGreatDoor
open Go.RowKit Ieee
section
variable {w : World}
end
end Go.Proofs.YtidcpndlloppdaaGreatDoor

/-
  Layer 2: the document's examples; FltAll.
  Conditions: the tables of the host's library read as the program's text lays them.
-/
set_option linter.unusedVariables false
set_option linter.unusedSimpArgs false
set_option maxRecDepth 100000
set_option exponentiation.threshold 3000
namespace Go.Proofs.YtidcpndlloppdaaGreatDoor
open Go.RowKit Ieee
theorem str_eq {l m : List UInt8} {x : ByteArray} (h : l = m) (hx : bstr m = x) : ((bstr l).toList == x.toList) = true := by rw [h, hx]; exact beq_self_eq_true _
section
variable {w : World}
end
end Go.Proofs.YtidcpndlloppdaaGreatDoor

/-
  Layer 29: texts of traces, traces by numbers, what begins with what: what the functions return.
  Conditions: the tables of the host's library read as the program's text lays them; the arguments' memory says what their values are.
-/
set_option linter.unusedVariables false
set_option linter.unusedSimpArgs false
set_option maxRecDepth 100000
namespace Go.Proofs.YtidcpndlloppdaaGreatDoor
open Go.RowKit
theorem gives30 {w : World} (k : Int) : Gives Tryz.prog 30 [.int .i64 k] w (.tuple ⟨[.string (bstr (wordM k)), .bool (moreM k)]⟩) := by
  refine gives_of (V30.sound ?_)
  unfold V30.vc
  by_cases h1 : k = 1
  · subst h1; exact ret_is (Below.refl _ _) rfl
  rw [if_neg (by simpa using h1)]
  by_cases h2 : k = 2
  · subst h2; exact ret_is (Below.refl _ _) rfl
  rw [if_neg (by simpa using h2)]
  by_cases h3 : k = 3
  · subst h3; exact ret_is (Below.refl _ _) rfl
  rw [if_neg (by simpa using h3)]
  by_cases h4 : k = 4
  · subst h4; exact ret_is (Below.refl _ _) rfl
  rw [if_neg (by simpa using h4)]
  have hm : moreM k = false := decide_eq_false (by omega)
  by_cases h5 : k = 5
  · subst h5; exact ret_is (Below.refl _ _) rfl
  rw [if_neg (by simpa using h5)]
  by_cases h6 : k = 6
  · subst h6; exact ret_is (Below.refl _ _) rfl
  rw [if_neg (by simpa using h6)]
  refine ret_is (Below.refl _ _) ?_
  rw [hm, wordM, if_neg h1, if_neg h2, if_neg h3, if_neg h4, if_neg h5, if_neg h6]; rfl
theorem take_snocF {xs : List Mk} {i : Nat} {m : Mk} (h : xs[i]? = some m) : xs.take (i + 1) = xs.take i ++ [m] := by
  rw [List.take_add_one, h]; rfl
theorem l0_18 {w0 : World} (ht : Tabs w0) {A : Option Addr} {l c b : Nat} {xs : List Mk} (hx : Marks w0 A l xs) (hok : OkMs xs) (hl : l ≤ 1000000) :
    ∀ (k i : Nat) (w : World) (v : Value), l < i + k → i ≤ l → Below w0.heap.size w0 w → BldAt w w0.heap.size b v (traceM (xs.take i)) →
    V18.l0 w0.heap.size (IsV w0 (.string (bstr (traceM xs)))) k ⟨b, 0, none⟩ A l c (l : Int) (i : Int) w
  | 0, i, w, v, hk, hi, _, _ => by omega
  | k + 1, i, w, v, hk, hi, hw, hb => by
    dsimp -zeta only [V18.l0]
    by_cases hlt : i < l
    · rw [if_pos (by simpa using hlt)]
      obtain ⟨m, p, hm, hp, c0, c1⟩ := Marks.cells (RowAt.keep MarkE.kept hx (below_keeps hw)) hlt
      have hmw := hok m (List.mem_of_getElem? hm)
      have hlen : (traceM (xs.take i)).length ≤ 31 * l := by
        have := traceM_len (l := xs.take i) fun x hx => hok x (List.mem_of_mem_take hx)
        have h2 : (xs.take i).length ≤ l := by rw [List.length_take]; omega
        omega
      have hwl := (wordM_facts m.k).1
      have htl := text_len hmw
      refine ⟨p, hp, by omega, by omega, m.k, c0, (m.w : Int), c1, fun q5 hq5 => ?_⟩
      refine call_gives hw (fun _ _ _ => gives30 m.k) fun w1 e1 h1 => ⟨_, _, rfl, ?_⟩
      refine call_write rfl h1.size (hb.ext e1) (by omega) fun v2 w2 e2 hb2 => ⟨_, _, rfl, part_nil ?_⟩
      have h2 := e2.after (fun k hk => (hb.ext e1).own_ge hk) h1
      have fin : ∀ (w3 : World) (v3 : Value), Below w0.heap.size w0 w3 → BldAt w3 w0.heap.size b v3 (traceM (xs.take i) ++ wordM m.k ++ tailM m) →
          CallK Tryz.prog 31 [.pointer (some ⟨b, 0, none⟩), .string ({ data := #[10] } : ByteArray)] w0.heap.size w3 [q5] fun v_4 w_5 => ∃ (x28 : Int) (v28 : Value), v_4 = .tuple ⟨[.int .i64 x28, v28]⟩ ∧ partV v28 fun _ => (V18.l0 w0.heap.size (IsV w0 (.string (bstr (traceM xs)))) k) ⟨b, 0, none⟩ A l c (l : Int) (IntKind.wrap .i64 ((i : Int) + 1)) w_5 := by
        intro w3 v3 h3 hb3
        have htail : (tailM m).length ≤ 25 := by unfold tailM; split <;> simp <;> omega
        refine call_write (s := [10]) rfl h3.size hb3 (by simp; omega) fun v4 w4 e4 hb4 => ⟨_, _, rfl, part_nil ?_⟩
        rw [wrap_succ hlt hx.small]
        refine l0_18 ht hx hok hl k (i + 1) w4 v4 (by omega) (by omega) (e4.after (fun k hk => hb3.own_ge hk) h3) ?_
        rw [take_snocF hm, traceM_snoc]
        unfold lineM
        rw [← List.append_assoc, ← List.append_assoc]
        exact hb4
      by_cases hmore : moreM m.k = true
      · rw [if_pos hmore]
        have htm : tailM m = 32 :: textF m.w := by unfold tailM; rw [if_pos hmore]
        refine call_gives h2 (fun _ _ h => gives32 (ht.on h) hmw) fun w3 e3 h3 => ⟨_, rfl, ?_, ?_⟩
        · rw [bstr_size]; show 1 + _ ≤ _; omega
        have ex : (({ data := #[32] } : ByteArray) ++ bstr (textF m.w)) = bstr (32 :: textF m.w) := ba_app [32] (textF m.w)
        refine call_write ex h3.size (hb2.ext e3) (by simp; omega) fun v4 w4 e4 hb4 => ⟨_, _, rfl, part_nil ?_⟩
        exact fin w4 v4 (e4.after (fun k hk => (hb2.ext e3).own_ge hk) h3) (by rw [htm]; exact hb4)
      · rw [if_neg hmore]
        have htm : tailM m = [] := by unfold tailM; rw [if_neg hmore]
        exact fin w2 v2 h2 (by rw [htm, List.append_nil]; exact hb2)
    · rw [if_neg (by simpa using hlt)]
      intro w1 e1 _
      have hb1 := hb.ext e1
      have hall : xs.take i = xs := List.take_of_length_le (by rw [hx.len]; omega)
      rw [hall] at hb1
      obtain ⟨p, hp, hh⟩ := hb1.head
      have hB : Lib.BuilderAt 72 5 w0.heap.size b p (byts (traceM xs)) w1 := ⟨hb1.base, v, hh, by have := hb1.row; rw [show (byts (traceM xs)).length = (traceM xs).length by simp [byts]]; exact this, hb1.ne⟩
      have hI : Lib.IsBuilder 72 5 w0.heap.size b (Lib.byteCells (traceM xs)) w1 := by
        rcases hp with rfl | rfl
        · exact .inl hB
        · exact .inr hB
      have h1 := e1.after hw
      refine Calls.mono (Tryz.Builder_String_any w0.heap.size b (traceM xs) w1 hI h1.size) fun e w2 ⟨he, hbw⟩ => ⟨_, he, ⟨hbw.size, fun x hx => by cases hx⟩, ⟨_, rfl, ?_⟩⟩
      exact ret_is (h1.trans hbw) rfl
theorem gives18 {w : World} (ht : Tabs w) {A : Option Addr} {l c : Nat} {xs : List Mk} (hx : Marks w A l xs) (hok : OkMs xs) (hl : l ≤ 1000000) : Gives Tryz.prog 18 [.slice A l c] w (.string (bstr (traceM xs))) := by
  refine gives_of (V18.sound ?_)
  unfold V18.vc
  intro w1 e1 _
  obtain ⟨e2, ho2⟩ := alloc1 (.cells ⟨[.pointer none, .slice none 0 0]⟩ 72) e1 (Nat.le_refl _)
  have h2 := e2.after (Below.refl _ _)
  refine ⟨l + 1, l0_18 ht hx hok hl (l + 1) 0 _ (.slice none 0 0) (by omega) (by omega) h2 ⟨e1.size, ⟨_, .inl rfl, ho2⟩, World.ownsRow_nil _ _ _ _⟩⟩
theorem l0_24 {w0 : World} {A A' : Option Addr} {l c c' : Nat} {xs ys : List Mk} (hx : Marks w0 A l xs) (hy : Marks w0 A' l ys) (w : World) (hw : Below w0.heap.size w0 w) :
    ∀ (k i : Nat), l < i + k → i ≤ l → (∀ j, j < i → xs[j]? = ys[j]?) → V24.l0 w0.heap.size (IsV w0 (.bool (eqMs xs ys))) k A l c A' l c' (l : Int) (i : Int) w
  | 0, i, hk, hi, _ => by omega
  | k + 1, i, hk, hi, hall => by
    dsimp -zeta only [V24.l0]
    by_cases h : i < l
    · rw [if_pos (by simpa using h)]
      obtain ⟨m, p, hm, hp, c0, c1⟩ := Marks.cells (RowAt.keep MarkE.kept hx (below_keeps hw)) h
      obtain ⟨n, q, hn, hq, d0, d1⟩ := Marks.cells (RowAt.keep MarkE.kept hy (below_keeps hw)) h
      refine ⟨p, hp, by omega, by omega, _, c0, _, c1, q, hq, by omega, by omega, _, d0, _, d1, ?_⟩
      by_cases hnm : m = n
      · subst hnm
        rw [if_neg (by simp), wrap_succ h hx.small]
        refine l0_24 hx hy w hw k (i + 1) (by omega) (by omega) fun j hj => ?_
        rcases Nat.lt_succ_iff_lt_or_eq.1 hj with h1 | h1
        · exact hall j h1
        · subst h1; rw [hm, hn]
      · have hb : ((m.k == n.k) && ((m.w : Int) == (n.w : Int))) = false := by
          cases hq : ((m.k == n.k) && ((m.w : Int) == (n.w : Int))) with
          | false => rfl
          | true =>
            simp at hq
            obtain ⟨q1, q2⟩ := hq
            exact absurd (by cases m; cases n; simp only [Mk.mk.injEq] at *; exact ⟨q1, by omega⟩) hnm
        rw [hb, if_pos (by decide)]
        refine ret_is hw ?_
        have : xs ≠ ys := fun e => by subst e; rw [hm] at hn; cases hn; exact hnm rfl
        cases he : eqMs xs ys with
        | false => rfl
        | true => exact absurd ((eqMs_iff _ _).1 he) this
    · rw [if_neg (by simpa using h)]
      refine ret_is hw ?_
      have : xs = ys := by
        apply List.ext_getElem?
        intro j
        by_cases hj : j < i
        · exact hall j hj
        · rw [List.getElem?_eq_none (by have := hx.len; omega), List.getElem?_eq_none (by have := hy.len; omega)]
      rw [(eqMs_iff _ _).2 this]
theorem gives24 {w : World} {A A' : Option Addr} {l c l' c' : Nat} {xs ys : List Mk} (hx : Marks w A l xs) (hy : Marks w A' l' ys) : Gives Tryz.prog 24 [.slice A l c, .slice A' l' c'] w (.bool (eqMs xs ys)) := by
  refine gives_of (V24.sound ?_)
  unfold V24.vc
  by_cases h : l = l'
  · subst h
    rw [if_neg (by simp)]
    exact ⟨l + 1, l0_24 hx hy w (Below.refl _ _) (l + 1) 0 (by omega) (by omega) (fun j hj => by omega)⟩
  · rw [if_pos (by simp; omega)]
    refine ret_is (Below.refl _ _) ?_
    have : xs ≠ ys := fun e => h (by rw [← hx.len, ← hy.len, e])
    cases he : eqMs xs ys with
    | false => rfl
    | true => exact absurd ((eqMs_iff _ _).1 he) this
theorem sub_same (b : Option Addr) (c : Nat) : (if c = 0 then b else Option.map (fun a => a.add (0 * 2)) b) = b := by
  split
  · rfl
  · cases b with
    | none => rfl
    | some a => simp [Addr.add]
theorem gives15 {w : World} {A A' : Option Addr} {l c l' c' : Nat} {xs ys : List Mk} (hx : Marks w A l xs) (hy : Marks w A' l' ys) (hc : l' ≤ c') : Gives Tryz.prog 15 [.slice A l c, .slice A' l' c'] w (.bool (begM xs ys)) := by
  refine gives_of (V15.sound ?_)
  unfold V15.vc begM
  rw [hx.len, hy.len]
  by_cases h : l ≤ l'
  · rw [if_pos (by simpa using h), decide_eq_true h]
    refine ⟨by omega, by omega, ?_⟩
    rw [sub_same, Int.toNat_natCast, Nat.sub_zero]
    refine call_gives (Below.refl _ _) (fun w1 e1 _ => gives24 (RowAt.keep MarkE.kept hx (ext_keeps e1)) (Marks.take (RowAt.keep MarkE.kept hy (ext_keeps e1)) h)) fun w1 _ h1 => ⟨_, rfl, ret_is h1 ?_⟩
    rw [Bool.true_and]
  · rw [if_neg (by simpa using h), decide_eq_false h]
    exact ret_is (Below.refl _ _) rfl
end Go.Proofs.YtidcpndlloppdaaGreatDoor

/-
  Layer 29: the laws' functions TraceFronts, TraceLines, TraceTexts return true.
  Conditions: the tables of the host's library read as the program's text lays them; the arguments' memory says what their values are.
-/
set_option linter.unusedVariables false
set_option linter.unusedSimpArgs false
set_option maxRecDepth 100000
namespace Go.Proofs.YtidcpndlloppdaaGreatDoor
open Go.RowKit
theorem own_cap {w : World} {B n c : Nat} {A : Option Addr} {e : TypeId} {sz : Nat} {xs : List Value} (h : w.ownsRow B e sz (.slice A n c) n xs) : n ≤ c ∧ (A = none → c = 0) := by
  rcases h.2 with ⟨hv, h0⟩ | ⟨g, cap, cur, hv, hb, hg, hnc, _⟩
  · cases hv; exact ⟨by omega, fun _ => rfl⟩
  · cases hv; exact ⟨hnc, fun h => by cases h⟩
theorem append_ms {w0 w : World} {bs : List Nat} {v : Value} {xs ys : List Mk} {A : Option Addr} {l c : Nat} {K : Value → World → Prop} {b0 : Nat} (hB : w0.heap.size ≤ w.heap.size) (hb0 : b0 ≤ w.heap.size) (ho : OwnMs w b0 v xs)
    (hy : Marks w A l ys) (hA : A = none → c = 0) (hn : xs.length + l ≤ 1000000) (hk : ∀ v' w', ExtS w0.heap.size (fun k => v.ownBlock = some k) w w' → OwnMs w' b0 v' (xs ++ ys) → K v' w') :
    RunK Tryz.prog (Builtin.append_ #[27, 27] 27 ⟨[v, .slice A l c]⟩) w0.heap.size w bs K := by
  obtain rfl := hy.len
  cases A with
  | none =>
    have hn : ys = [] := by
      cases ys with
      | nil => rfl
      | cons x r => obtain ⟨p, hp, _⟩ := hy.get 0 x rfl; cases hp
    subst hn
    obtain rfl := hA rfl
    intro w1 he hxx
    have hr := run_append_owned_none (P := Tryz.prog) (w := w1) b0 27 27 41 Tryz.t41 2 (by kernel_rfl) (by kernel_rfl) v xs.length _ (he.owns ho)
    refine ⟨_, w1, hr, ⟨Nat.le_refl _, fun _ _ => rfl⟩, hide_any fun w' hm => ?_⟩
    have h1 := masked he hxx (Nat.le_trans hB he.size) (Below.refl _ _) hm
    refine hk _ w' h1.toS ?_
    rw [List.append_nil]
    exact h1.owns ho
  | some a => exact append_marks ho hy hn hB hb0 fun v' w' he ho' _ => hk v' w' he ho'
theorem marks_block {w : World} {g : Nat} {ms : List Mk} (h : w.heap[g]? = some (.cells ⟨mcs ms⟩ 41 (0, 0))) (hl : ms.length ≤ 1000000) : Marks w (some ⟨g, 0, none⟩) ms.length ms := by
  refine ⟨rfl, by simp only [maxLen]; omega, fun i m hm => ⟨_, rfl, ?_⟩⟩
  obtain ⟨k1, k2⟩ := mcs_get hm
  exact ⟨by simp only [own_add, bx_add, Nat.zero_add, Nat.add_zero]; exact at_cell h k1, by simp only [own_add, bx_add, Nat.zero_add]; exact at_cell h k2⟩
theorem awake29 : traceM [⟨1, nw 1⟩, ⟨5, 0⟩] = [111, 117, 116, 32, 49, 10, 111, 111, 109, 10] ∧ nw 1 < 2 * SW := by
  refine ⟨?_, by decide⟩
  have h : textF (nw 1) = [49] := by kernel_rfl
  have e : traceM [⟨1, nw 1⟩, ⟨5, 0⟩] = ([111, 117, 116] ++ (32 :: textF (nw 1)) ++ [10]) ++ (([111, 111, 109] ++ [] ++ [10]) ++ []) := rfl
  rw [e, h]; rfl
theorem gives7 {w : World} (ht : Tabs w) : Gives Tryz.prog 7 [] w (.bool true) := by
  refine gives_of (V7.sound ?_)
  unfold V7.vc
  obtain ⟨t1, l1⟩ := awake29
  refine call_gives (Below.refl _ _) (fun _ _ _ => gives19 1) fun w1 e1 h1 => ⟨_, rfl, ?_⟩
  intro w2 e2 _
  obtain ⟨e3, ho3⟩ := alloc1 (.cells ⟨[.int .i64 1, .int .u64 (nw 1 : Nat), .int .i64 5, .int .u64 0]⟩ 41) e2 h1.size
  try dsimp only
  generalize w2.alloc (.cells ⟨[.int .i64 1, .int .u64 (nw 1 : Nat), .int .i64 5, .int .u64 0]⟩ 41) = w3 at *
  have h3 := e3.after h1
  have hm3 : Marks w3 (some ⟨w2.heap.size, 0, none⟩) 2 [⟨1, nw 1⟩, ⟨5, 0⟩] := marks_block (ms := [⟨1, nw 1⟩, ⟨5, 0⟩]) ho3 (by simp)
  have hok : OkMs [⟨1, nw 1⟩, ⟨5, 0⟩] := fun m hm => by
    rcases List.mem_cons.1 hm with rfl | hm
    · exact l1
    · rw [List.mem_singleton] at hm; subst hm; decide
  refine call_gives h3 (fun w4 e4 h4 => gives18 (ht.on h4) (RowAt.keep MarkE.kept hm3 (ext_keeps e4)) hok (by omega)) fun w4 e4 h4 => ⟨_, rfl, ?_⟩
  rw [if_pos (str_eq (x := { data := #[111, 117, 116, 32, 49, 10, 111, 111, 109, 10] }) t1 rfl)]
  intro w5 e5 _
  obtain ⟨e6, ho6⟩ := alloc1 (.cells ⟨[.int .i64 5, .int .u64 0]⟩ 41) e5 h4.size
  try dsimp only
  generalize w5.alloc (.cells ⟨[.int .i64 5, .int .u64 0]⟩ 41) = w6 at *
  have hm6 : Marks w6 (some ⟨w5.heap.size, 0, none⟩) 1 [⟨5, 0⟩] := marks_block (ms := [⟨5, 0⟩]) ho6 (by simp)
  refine call_gives (e6.after h4) (fun w7 e7 _ => gives15 (marks_nil w7) (RowAt.keep MarkE.kept hm6 (ext_keeps e7)) (Nat.le_refl _)) fun w7 _ h7 => ⟨_, rfl, ret_is h7 ?_⟩
  rw [beg_nil]
end Go.Proofs.YtidcpndlloppdaaGreatDoor
