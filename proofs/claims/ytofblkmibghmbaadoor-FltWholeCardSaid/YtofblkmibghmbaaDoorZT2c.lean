/-
  Layer 2: texts of numbers, the program's and the document's, are the plain rule's.
  Conditions: the tables of the host's library read as the program's text lays them.
-/
import Derived.Test.YtofblkmibghmbaaDoorZT2b
set_option linter.unusedVariables false
set_option linter.unusedSimpArgs false
set_option maxRecDepth 100000
set_option exponentiation.threshold 3000
namespace Go.Proofs.YtofblkmibghmbaaDoor
open Go.RowKit Ieee
theorem trc_fin {a : Nat} (ha : a < 2 * SW) (h : rg a < IR) : nanw (trc a) = false ∧ nanw (flr a) = false := by
  have hb := bn_pos
  have hI : ∀ {x : Nat}, rg x < IR → nanw x = false := fun hx => by unfold nanw; simp; omega
  constructor
  · rcases trc_spec ha h with ⟨_, e⟩ | ⟨_, e, hl⟩
    · rw [e]; exact hI h
    · rw [e]; exact hI (by rw [iw_rg (by omega)]; exact irg_lt (by omega))
  · exact hI (floor_law ha h).2.1
theorem big_facts : nanw 4845873199050653696 = false ∧ sr 4845873199050653696 = 4845873199050653696 ∧ 1076 * BN = 4845873199050653696 := by decide
theorem two_bn : 2 * BN = 9007199254740992 := by decide
theorem pad_len {a : Nat} (ha : a < 2 * SW) : (hexN a).length ≤ 16 ∧ List.replicate (16 - (hexN a).length) 48 ++ hexN a = hexL 16 a := hex_pad (k := 15) (by rw [show 16 ^ (15 + 1) = 2 * SW from by decide]; exact ha)
section
variable {w : World}
theorem l2_19 {w0 : World} {a : Nat} (ha : a < 2 * SW) : ∀ (d : Nat) (w : World), d ≤ 16 - (hexN a).length → Below w0.heap.size w0 w →
    V19.l2 w0.heap.size (IsV w0 (.string (bstr (48 :: 120 :: hexL 16 a)))) (d + 1) (bstr (List.replicate (16 - (hexN a).length - d) 48 ++ hexN a)) w := by
  have hp := pad_len ha
  have e0 : ({ data := #[48] } : ByteArray) = bstr [48] := rfl
  have e1 : ({ data := #[48, 120] } : ByteArray) = bstr [48, 120] := rfl
  intro d
  induction d with
  | zero =>
    intro w hd hb
    unfold V19.l2
    rw [e0, e1, bstr_size, bstr_size, bstr_size]
    rw [if_neg (by simp; omega)]
    refine ⟨by simp; omega, ret_is hb ?_⟩
    rw [ba_app, Nat.sub_zero, hp.2]; rfl
  | succ d ih =>
    intro w hd hb
    unfold V19.l2
    rw [e0, e1, bstr_size, bstr_size, bstr_size]
    rw [if_pos (by simp; omega)]
    refine ⟨by simp; omega, ?_⟩
    rw [ba_app, ← List.append_assoc, show ([48] : List UInt8) ++ List.replicate (16 - (hexN a).length - (d + 1)) 48 = List.replicate (16 - (hexN a).length - d) 48 by
      rw [show 16 - (hexN a).length - d = (16 - (hexN a).length - (d + 1)) + 1 by omega, List.replicate_succ]; rfl]
    exact ih w (by omega) hb
theorem hex19 {w0 w : World} (ht : Tabs w0) {a : Nat} (ha : a < 2 * SW) (hb : Below w0.heap.size w0 w) : V19.b1 w0.heap.size (IsV w0 (.string (bstr (48 :: 120 :: hexL 16 a)))) (a : Int) w := by
  unfold V19.b1
  refine call_gives hb (fun w1 _ h1 => gives79 (ht.on h1) ha) fun w1 _ h1 => ⟨_, rfl, 16 - (hexN a).length + 1, ?_⟩
  have := l2_19 (w0 := w0) ha (16 - (hexN a).length) w1 (Nat.le_refl _) h1
  rw [Nat.sub_self] at this
  exact this
theorem intF_bounds {a : Nat} (ha : a < 2 * SW) (hz : a ≠ SW) (h : whB a = true) : (double.read a).toInt .zero = some (intF a) ∧ -9223372036854775808 ≤ intF a ∧ intF a ≤ 9223372036854775807 := by
  obtain ⟨z, h1, _, h2, h3⟩ := whole_int ha h hz
  rw [h3]
  have := two_bn
  exact ⟨h2, by omega, by omega⟩
theorem gives19 (ht : Tabs w) {a : Nat} (ha : a < 2 * SW) : Gives Tryd.prog 19 [.int .u64 (a : Int)] w (.string (bstr (textF a))) := by
  refine gives_of (V19.sound ?_)
  unfold V19.vc
  refine call_gives (Below.refl _ _) (fun _ _ _ => gives24 a) fun w1 _ h1 => ⟨_, rfl, ?_⟩
  refine call_gives h1 (fun _ _ _ => gives73 a) fun w2 _ h2 => ⟨_, rfl, ?_⟩
  by_cases hn : nanw a = true
  · rw [if_pos hn]
    exact ret_is h2 (by unfold textF; rw [if_pos hn]; rfl)
  have hn' : nanw a = false := by simpa using hn
  rw [if_neg hn]
  refine call_gives h2 (fun _ _ _ => gives74p ha hn') fun w3 _ h3 => ⟨_, rfl, ?_⟩
  by_cases hi : a = IR
  · rw [if_pos (by simpa using hi)]
    exact ret_is h3 (by unfold textF; rw [if_neg hn, if_pos hi]; rfl)
  rw [if_neg (by simpa using hi)]
  refine call_gives h3 (fun _ _ _ => gives74m ha hn') fun w4 _ h4 => ⟨_, rfl, ?_⟩
  by_cases hm : a = SW + IR
  · rw [if_pos (by simpa using hm)]
    exact ret_is h4 (by unfold textF; rw [if_neg hn, if_neg hi, if_pos hm]; rfl)
  rw [if_neg (by simpa using hm)]
  have hfin : rg a < IR := by
    have h := nan_le hn'
    rcases word_cases ha with ⟨_, e, _⟩ | ⟨_, e, _⟩ <;> omega
  have rest : ∀ {w5 : World}, a ≠ SW → Below w.heap.size w w5 → V19.b0 w.heap.size (IsV w (.string (bstr (textF a)))) (a : Int) a false w5 := by
    intro w5 hz h5
    unfold V19.b0
    rw [if_neg (by decide)]
    have ht2 : textF a = if whB a = true then Lib.itoa (intF a) else 48 :: 120 :: hexL 16 a := by unfold textF; rw [if_neg hn, if_neg hi, if_neg hm, if_neg hz]
    have htr := trc_fin ha hfin
    refine call_gives h5 (fun _ _ _ => gives76 hn') fun w6 _ h6 => ⟨_, rfl, ?_⟩
    have e1 : (FloatKind.f64.format.order a (trc a) == some Ordering.eq) = decide (sr a = sr (trc a)) := by
      show (double.order a (trc a) == some Ordering.eq) = _
      rw [eq_order, hn', htr.1]; simp
    rw [e1]
    have hwh := trc_whole ha hfin
    have hex : ¬ whB a = true → ∀ {w7 : World}, Below w.heap.size w w7 → V19.b1 w.heap.size (IsV w (.string (bstr (textF a)))) (a : Int) w7 := fun hq _ h7 => by
      rw [ht2, if_neg hq]; exact hex19 ht ha h7
    by_cases hw : wh a
    · rw [if_pos (by simpa using (hwh.2 hw).symm)]
      refine call_gives h6 (fun _ _ _ => gives77 ha) fun w7 _ h7 => ⟨_, rfl, ?_⟩
      have hrg : nanw (rg a) = false ∧ sr (rg a) = rg a := by
        have e : rg (rg a) = rg a := Nat.mod_eq_of_lt (rg_lt a)
        have e2 : ngw (rg a) = false := by unfold ngw; rw [Nat.div_eq_of_lt (rg_lt a)]; rfl
        constructor
        · unfold nanw at *; rw [e]; exact hn'
        · unfold sr sgn; rw [e, e2]; rfl
      have e2 : (FloatKind.f64.format.order (rg a) 4845873199050653696 == some Ordering.lt) = decide (rg a < 1076 * BN) := by
        show (double.order (rg a) 4845873199050653696 == some Ordering.lt) = _
        rw [lt_order, hrg.1, hrg.2, big_facts.1, big_facts.2.1, big_facts.2.2]
        simp only [Bool.not_false, Bool.true_and]
        exact decide_eq_decide.2 (by omega)
      rw [e2]
      by_cases hs : rg a < 1076 * BN
      · rw [if_pos (by simpa using hs)]
        have hq : whB a = true := (whB_iff a).2 ⟨hs, hw⟩
        obtain ⟨b1, b2, b3⟩ := intF_bounds ha hz hq
        refine run_lone h7.size (lone_toInt 29 3 a (intF a) (by kernel_rfl) (by kernel_rfl) b1 b2 b3) fun v w8 h8 hv => ⟨_, hv, ?_⟩
        refine call_gives (h8.after h7) (fun w9 _ h9 => gives78 (ht.on h9) b2 b3) fun w9 _ h9 => ⟨_, rfl, ret_is h9 ?_⟩
        rw [ht2, if_pos hq]
      · rw [if_neg (by simpa using hs)]
        exact hex (fun hq => hs ((whB_iff a).1 hq).1) h7
    · rw [if_neg (by simpa using fun e => hw (hwh.1 e.symm))]
      exact hex (fun hq => hw ((whB_iff a).1 hq).2) h6
  have ez : (FloatKind.f64.format.order a 0 == some Ordering.eq) = decide (rg a = 0) := eq_zero a
  rw [ez]
  by_cases hr : rg a = 0
  · rw [if_pos (by simpa using hr)]
    refine call_gives h4 (fun _ _ _ => gives75 ha) fun w5 _ h5 => ⟨_, rfl, ?_⟩
    by_cases hs : SW ≤ a
    · have hz : a = SW := by rcases word_cases ha with ⟨_, e, _⟩ | ⟨_, e, _⟩ <;> have := rg_lt a <;> omega
      unfold V19.b0
      rw [if_pos (by simpa using hs)]
      exact ret_is h5 (by unfold textF; rw [if_neg hn, if_neg hi, if_neg hm, if_pos hz]; rfl)
    · rw [decide_eq_false hs]
      exact rest (by omega) h5
  · rw [if_neg (by simpa using hr)]
    exact rest (fun e => hr (by rw [e]; decide)) h4
end
end Go.Proofs.YtofblkmibghmbaaDoor
