/-
  Layer 2: the document's texts are the plain rule's.
  Conditions: none.
-/
import Derived.Test.YtofblkmibghmbaaDoorZT2c
set_option linter.unusedVariables false
set_option linter.unusedSimpArgs false
set_option maxRecDepth 100000
set_option exponentiation.threshold 3000
namespace Go.Proofs.YtofblkmibghmbaaDoor
open Go.RowKit Ieee
theorem dig16_fin : ∀ d : Fin 16, ({ data := #[48, 49, 50, 51, 52, 53, 54, 55, 56, 57, 97, 98, 99, 100, 101, 102] } : ByteArray)[d.val]? = some (hxd d.val) := by decide
theorem dig16_at {d : Nat} (h : d < 16) : ({ data := #[48, 49, 50, 51, 52, 53, 54, 55, 56, 57, 97, 98, 99, 100, 101, 102] } : ByteArray)[d]? = some (hxd d) := dig16_fin ⟨d, h⟩
section
variable {w : World}
def topN (a i : Nat) : List UInt8 := (List.range i).map fun j => hxd (a / 16 ^ (15 - j) % 16)
theorem topN_all (a : Nat) : topN a 16 = hexL 16 a := by rw [hexL_top]; rfl
theorem topN_succ (a i : Nat) : topN a (i + 1) = topN a i ++ [hxd (a / 16 ^ (15 - i) % 16)] := by unfold topN; rw [List.range_succ, List.map_append]; rfl
theorem topN_len (a i : Nat) : (topN a i).length = i := by unfold topN; simp
theorem l1_34 {w0 : World} {a : Nat} (ha : a < 2 * SW) : ∀ (k i : Nat) (w : World), i + k = 17 → 1 ≤ k → Below w0.heap.size w0 w →
    V34.l1 w0.heap.size (IsV w0 (.string (bstr (48 :: 120 :: hexL 16 a)))) k (a : Int) (bstr (topN a i)) (i : Int) w := by
  have e1 : ({ data := #[48, 120] } : ByteArray) = bstr [48, 120] := rfl
  intro k
  induction k with
  | zero => intro i w h1 h2; omega
  | succ k ih =>
    intro i w hi hk hb
    unfold V34.l1
    by_cases h : i < 16
    · rw [if_pos (by simp; omega)]
      have w1 : IntKind.wrap .i64 (4 * (i : Int)) = 4 * i := wrap_id (by omega) (by omega)
      have w2 : IntKind.wrap .i64 (60 - 4 * (i : Int)) = ((4 * (15 - i) : Nat) : Int) := by rw [wrap_id (by omega) (by omega)]; omega
      rw [w1, w2]
      have hd : Int.fdiv (a : Int) (2 ^ min ((4 * (15 - i) : Nat) : Int).toNat 64) = ((a / 16 ^ (15 - i) : Nat) : Int) := by
        have e : ((2 : Int) ^ min ((4 * (15 - i) : Nat) : Int).toNat 64) = ((16 ^ (15 - i) : Nat) : Int) := by
          rw [Int.toNat_natCast, Nat.min_eq_left (by omega), Int.natCast_pow]
          show (2 : Int) ^ (4 * (15 - i)) = (16 : Int) ^ (15 - i)
          rw [Int.pow_mul]; rfl
        rw [e, Int.fdiv_eq_ediv_of_nonneg _ (Int.natCast_nonneg _)]; rfl
      have hlt : a / 16 ^ (15 - i) < 2 * SW := Nat.lt_of_le_of_lt (Nat.div_le_self _ _) ha
      rw [hd, mod16 hlt]
      have hm := Nat.mod_lt (a / 16 ^ (15 - i)) (show 16 > 0 by omega)
      refine ⟨Int.natCast_nonneg _, hxd (a / 16 ^ (15 - i) % 16), Int.natCast_nonneg _, by rw [Int.toNat_natCast]; exact dig16_at hm, ?_⟩
      refine expo_alloc0 (F := fun w_1 w_2 => RunK Tryd.prog (Go.convert 48 9 (.slice (some ⟨w_1.heap.size, 0, none⟩) 1 1)) w0.heap.size w_2 [] fun v w_3 => ∃ s56 : ByteArray, v = .string s56 ∧ (bstr (topN a i)).size + s56.size ≤ 9223372036854775807 ∧ (V34.l1 w0.heap.size (IsV w0 (.string (bstr (48 :: 120 :: hexL 16 a)))) k) (a : Int) (bstr (topN a i) ++ s56) (IntKind.wrap .i64 ((i : Int) + 1)) w_3) hb.size fun w1' w2' hs he hl ho => ?_
      refine conv_str (e := 5) (by kernel_rfl) (by kernel_rfl) (by kernel_rfl) (Nat.le_trans hb.size he.size) (ns := [hxd (a / 16 ^ (15 - i) % 16)]) rfl (fun j b hj => ?_) fun w3 h3 => ⟨bstr [hxd (a / 16 ^ (15 - i) % 16)], rfl, ?_, ?_⟩
      · cases j with
        | zero =>
          simp only [List.getElem?_cons_zero, Option.some.injEq] at hj
          rw [own_add, at_cell ho (show ([_] : List Value)[0]? = some _ from rfl), ← hj]
        | succ j => simp at hj
      · rw [bstr_size, bstr_size, topN_len]; simp; omega
      · rw [ba_app, ← topN_succ, wrap_id (by omega) (by omega)]
        exact ih (i + 1) w3 (by omega) (by omega) (h3.after (he.after hb))
    · rw [if_neg (by simp; omega), e1]
      have hi16 : i = 16 := by omega
      refine ⟨by rw [bstr_size, bstr_size, topN_len]; simp; omega, ret_is hb ?_⟩
      rw [ba_app, hi16, topN_all]; rfl
theorem gives34 {a : Nat} (ha : a < 2 * SW) : Gives Tryd.prog 34 [.int .u64 (a : Int)] w (.string (bstr (textF a))) := by
  refine gives_of (V34.sound ?_)
  unfold V34.vc
  refine call_gives (Below.refl _ _) (fun _ _ _ => gives31 a) fun w1 _ h1 => ⟨_, rfl, ?_⟩
  refine call_gives h1 (fun _ _ _ => gives82 ha) fun w2 _ h2 => ⟨_, rfl, ?_⟩
  by_cases hn : nanw a = true
  · rw [if_pos hn]
    exact ret_is h2 (by unfold textF; rw [if_pos hn]; rfl)
  have hn' : nanw a = false := by simpa using hn
  rw [if_neg hn]
  have eqn : ∀ {m : Nat}, ((a : Int) == (m : Int)) = decide (a = m) := fun {m} => by
    by_cases h : a = m
    · subst h; simp
    · rw [decide_eq_false h]; exact beq_eq_false_iff_ne.2 (by omega)
  have c1 : (9218868437227405312 : Int) = ((IR : Nat) : Int) := by decide
  have c2 : (18442240474082181120 : Int) = ((SW + IR : Nat) : Int) := by decide
  have c3 : (9223372036854775808 : Int) = ((SW : Nat) : Int) := by decide
  rw [c1, c2, c3, eqn, eqn, eqn]
  by_cases hi : a = IR
  · rw [if_pos (by simpa using hi)]
    exact ret_is h2 (by unfold textF; rw [if_neg hn, if_pos hi]; rfl)
  rw [if_neg (by simpa using hi)]
  by_cases hm : a = SW + IR
  · rw [if_pos (by simpa using hm)]
    exact ret_is h2 (by unfold textF; rw [if_neg hn, if_neg hi, if_pos hm]; rfl)
  rw [if_neg (by simpa using hm)]
  by_cases hz : a = SW
  · rw [if_pos (by simpa using hz)]
    exact ret_is h2 (by unfold textF; rw [if_neg hn, if_neg hi, if_neg hm, if_pos hz]; rfl)
  rw [if_neg (by simpa using hz)]
  have hfin : rg a < IR := by
    have h := nan_le hn'
    rcases word_cases ha with ⟨_, e, _⟩ | ⟨_, e, _⟩ <;> omega
  have ht2 : textF a = if whB a = true then Lib.itoa (intF a) else 48 :: 120 :: hexL 16 a := by unfold textF; rw [if_neg hn, if_neg hi, if_neg hm, if_neg hz]
  have no : ∀ {w5 : World}, ¬ whB a = true → Below w.heap.size w w5 → V34.b0 w.heap.size (IsV w (.string (bstr (textF a)))) (a : Int) a false w5 := by
    intro w5 hq h5
    unfold V34.b0
    rw [if_neg (by decide), ht2, if_neg hq]
    exact ⟨17, l1_34 ha 17 0 w5 (by omega) (by omega) h5⟩
  have g1 : (FloatKind.f64.format.order a 14069245235905429504 == some Ordering.gt) = decide (-(4845873199050653696 : Int) < sr a) := by
    show (double.order a 14069245235905429504 == some Ordering.gt) = _
    rw [gt_order, hn', neg_facts.1, neg_facts.2]; simp
  have g2 : (FloatKind.f64.format.order a 4845873199050653696 == some Ordering.lt) = decide (sr a < (4845873199050653696 : Int)) := by
    show (double.order a 4845873199050653696 == some Ordering.lt) = _
    rw [lt_order, hn', big_facts.1, big_facts.2.1]; simp
  rw [g1, g2]
  have hsm : rg a < 1076 * BN ↔ (-(4845873199050653696 : Int) < sr a ∧ sr a < 4845873199050653696) := by
    rw [big_facts.2.2]
    rcases word_cases ha with ⟨_, _, e⟩ | ⟨_, _, e⟩ <;> rw [e] <;> omega
  by_cases hs : rg a < 1076 * BN
  · have hs2 := hsm.1 hs
    rw [if_pos (by simpa using hs2.1), if_pos (by simpa using hs2.2)]
    have htr := trc_fin ha hfin
    refine call_yieldsX h2.size (fun _ _ => yields83 ha) fun w3 v wx w4 _ ⟨r, hv, hr⟩ _ he => ⟨r, hv, ?_⟩
    have h4 := he.after h2
    have hrf : r = flr a := by
      have e : flF a = flr a := by unfold flF; rw [if_neg hn, cn_id (by rw [htr.2]; decide)]
      rw [e] at hr
      by_cases hnr : nanw r = true
      · exfalso
        have : cn r = NO := by unfold cn; rw [if_pos hnr]
        rw [this] at hr
        rw [← hr] at htr
        exact absurd htr.2 (by decide)
      · rw [cn_id hnr] at hr; exact hr
    have g3 : (FloatKind.f64.format.order r a == some Ordering.eq) = decide (sr (flr a) = sr a) := by
      show (double.order r a == some Ordering.eq) = _
      rw [hrf, eq_order, hn', htr.2]; simp
    rw [g3]
    have hfl := flr_whole ha hfin
    by_cases hw : wh a
    · rw [decide_eq_true (hfl.2 hw)]
      have hq : whB a = true := (whB_iff a).2 ⟨hs, hw⟩
      obtain ⟨b1, b2, b3⟩ := intF_bounds ha hz hq
      unfold V34.b0
      rw [if_pos rfl, ht2, if_pos hq]
      have hlen : ∀ u : Nat, u < SW → (Lib.decDigits u).length ≤ 20 := fun u hu => by
        rw [Lib.decDigits_length]; exact Lib.nDigits_le20 u (by unfold SW at hu; omega)
      have hsw : SW = 9223372036854775808 := rfl
      have hbd : (intF a).natAbs < SW := by
        obtain ⟨z, k1, _, _, k3⟩ := whole_int ha hq hz
        have := two_bn
        rw [k3]; omega
      refine run_lone h4.size (lone_toInt 29 3 a (intF a) (by kernel_rfl) (by kernel_rfl) b1 b2 b3) fun v w5 h5 hv => ⟨_, hv, ?_⟩
      have h5 := h5.after h4
      by_cases hneg : intF a < 0
      · rw [if_pos (by simpa using hneg)]
        have e : IntKind.wrap .i64 (0 - intF a) = ((intF a).natAbs : Int) := by rw [wrap_id (by omega) (by omega)]; omega
        rw [e]
        refine call_gives h5 (fun _ _ _ => gives84 hbd) fun w6 _ h6 => ⟨_, rfl, ?_, ret_is h6 ?_⟩
        · have := hlen _ hbd
          show (bstr [45]).size + _ ≤ _
          rw [bstr_size, bstr_size]; simp; omega
        · show Value.string (bstr [45] ++ _) = _
          rw [ba_app]; unfold Lib.itoa; rw [if_pos hneg]; rfl
      · rw [if_neg (by simpa using hneg)]
        have e : intF a = ((intF a).toNat : Int) := by omega
        have hx : (intF a).toNat < SW := by omega
        rw [show Value.int .i64 (intF a) = Value.int .i64 (((intF a).toNat : Nat) : Int) from congrArg (Value.int .i64) e]
        refine call_gives h5 (fun _ _ _ => gives84 hx) fun w6 _ h6 => ⟨_, rfl, ret_is h6 ?_⟩
        unfold Lib.itoa; rw [if_neg hneg]
    · rw [decide_eq_false (fun e => hw (hfl.1 e))]
      exact no (fun hq => hw ((whB_iff a).1 hq).2) h4
  · have hq : ¬ whB a = true := fun hq => hs ((whB_iff a).1 hq).1
    by_cases h1 : -(4845873199050653696 : Int) < sr a
    · rw [if_pos (by simpa using h1), if_neg (by simpa using fun h2 => hs (hsm.2 ⟨h1, h2⟩))]
      exact no hq h2
    · rw [if_neg (by simpa using h1)]
      exact no hq h2
end
end Go.Proofs.YtofblkmibghmbaaDoor
