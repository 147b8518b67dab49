/-
  Layer 23: which calls may be, their texts, the document's reading of numbers: what the functions return.
  Conditions: the tables of the host's library read as the program's text lays them.
-/
import Derived.Test.YtofblkmibghmbaaDoorZT2b
import Derived.Test.YtofblkmibghmbaaDoorZT2d
import Derived.Test.YtofblkmibghmbaaDoorZP23
import Derived.Test.YtofblkmibghmbaaDoorZVH
set_option linter.unusedVariables false
set_option linter.unusedSimpArgs false
set_option maxRecDepth 100000
namespace Go.Proofs.YtofblkmibghmbaaDoor
open Go.RowKit
def clV (c : Cl) : Value := .agg ⟨[.int .i64 c.k, .int .i64 c.a, .int .i64 c.b]⟩
theorem k_cases (k : Int) : k = 1 ∨ k = 2 ∨ k = 3 ∨ k = 4 ∨ k = 5 ∨ k = 6 ∨ k = 7 ∨ k = 8 ∨ k = 9 ∨ (k ≠ 1 ∧ k ≠ 2 ∧ k ≠ 3 ∧ k ≠ 4 ∧ k ≠ 5 ∧ k ≠ 6 ∧ k ≠ 7 ∧ k ≠ 8 ∧ k ≠ 9) := by omega
theorem may_none {c : Cl} (h : c.k ≠ 1 ∧ c.k ≠ 2 ∧ c.k ≠ 3 ∧ c.k ≠ 4 ∧ c.k ≠ 5 ∧ c.k ≠ 6 ∧ c.k ≠ 7 ∧ c.k ≠ 8 ∧ c.k ≠ 9) : mayC c = false := by
  unfold mayC
  rw [if_neg (by omega), if_neg (by omega), if_neg (by omega), if_neg (by omega)]
theorem may_zero {k a b : Int} (h : k = 3 ∨ k = 4 ∨ k = 5) : mayC ⟨k, a, b⟩ = decide (a = 0 ∧ b = 0) := by
  unfold mayC; rw [if_neg (by dsimp only; omega), if_neg (by dsimp only; omega), if_pos (by dsimp only; omega)]
theorem beq_no {k l : Int} (h : k ≠ l) : (k == l) = false := beq_eq_false_iff_ne.2 h
theorem vc57 {w w1 : World} (c : Cl) (hw : Below w.heap.size w w1) : V57.vc w.heap.size (IsV w (.bool (mayC c))) c.k c.a c.b w1 := by
  obtain ⟨k, a, b⟩ := c
  unfold V57.vc
  intro q1 _
  have zero : ∀ k : Int, k = 3 ∨ k = 4 ∨ k = 5 → V57.b1 w.heap.size (IsV w (.bool (mayC ⟨k, a, b⟩))) k true q1 k a b w1 := fun k hk => by
    unfold V57.b1
    rw [may_zero hk, if_pos rfl]
    by_cases h0 : a = 0
    · rw [if_pos (by rw [h0]; rfl)]
      refine ret_is hw (congrArg Value.bool ?_)
      show decide (b = 0) = _
      exact decide_eq_decide.2 (by omega)
    · rw [beq_no h0, if_neg (by decide)]
      exact ret_is hw (congrArg Value.bool (decide_eq_false (fun h => h0 h.1)).symm)
  rcases k_cases k with rfl | rfl | rfl | rfl | rfl | rfl | rfl | rfl | rfl | h
  · exact ret_is hw rfl
  · have e : mayC ⟨2, a, b⟩ = decide (b = 0 ∨ b = 1) := rfl
    rw [e]
    by_cases h0 : b = 0
    · subst h0; exact ret_is hw rfl
    · have hb := beq_no h0
      show (if (b == 0) = false then Ret _ w1 (IsV w _ (.bool (b == 1))) else Ret _ w1 (IsV w _ (.bool true)))
      rw [hb, if_pos rfl]
      refine ret_is hw (congrArg Value.bool ?_)
      show decide (b = 1) = _
      exact decide_eq_decide.2 (by omega)
  · exact zero 3 (.inl rfl)
  · exact zero 4 (.inr (.inl rfl))
  · exact zero 5 (.inr (.inr rfl))
  · have e : mayC ⟨6, a, b⟩ = decide (1 ≤ b ∧ b ≤ 1000) := rfl
    rw [e]
    show (if (decide (b ≥ 1)) = true then Ret _ w1 (IsV w _ (.bool (decide (b ≤ 1000)))) else Ret _ w1 (IsV w _ (.bool false)))
    by_cases h1 : b ≥ 1
    · rw [if_pos (by simpa using h1)]
      exact ret_is hw (congrArg Value.bool (decide_eq_decide.2 (by omega)))
    · rw [if_neg (by simpa using h1)]
      exact ret_is hw (congrArg Value.bool (decide_eq_false (fun h => h1 h.1)).symm)
  · exact ret_is hw rfl
  · exact ret_is hw rfl
  · exact ret_is hw rfl
  · obtain ⟨h1, h2, h3, h4, h5, h6, h7, h8, h9⟩ := h
    rw [may_none ⟨h1, h2, h3, h4, h5, h6, h7, h8, h9⟩]
    unfold V57.b0 V57.b1
    simp only [beq_no h1, beq_no h2, beq_no h3, beq_no h4, beq_no h5, beq_no h6, beq_no h7, beq_no h8, beq_no h9, Bool.false_eq_true, if_false]
    exact ret_is hw rfl
theorem gives57 {w : World} (c : Cl) : Gives Tryd.prog 57 [clV c] w (.bool (mayC c)) := gives_of (V57.sound (vc57 c (Below.refl _ _)))
theorem gives58 {w : World} (c : Cl) : Gives Tryd.prog 58 [clV c] w (.bool (mayC c)) := gives_of (V58.sound (vc57 c (Below.refl _ _)))
def wordsC : List Value := [.string ({ data := #[] } : ByteArray), .string ({ data := #[97, 108, 108, 111, 99] } : ByteArray), .string ({ data := #[102, 114, 101, 101] } : ByteArray), .string ({ data := #[102, 108, 117, 115, 104] } : ByteArray), .string ({ data := #[111, 110] } : ByteArray), .string ({ data := #[111, 102, 102] } : ByteArray), .string ({ data := #[114, 117, 110] } : ByteArray), .string ({ data := #[115, 104, 114, 105, 110, 107] } : ByteArray), .string ({ data := #[115, 99, 97, 110] } : ByteArray), .string ({ data := #[119, 97, 107, 101] } : ByteArray)]
theorem wordsC_at {k : Nat} (h : k < 10) : wordsC[k]? = some (.string (bstr (wordC k))) := by
  have : k = 0 ∨ k = 1 ∨ k = 2 ∨ k = 3 ∨ k = 4 ∨ k = 5 ∨ k = 6 ∨ k = 7 ∨ k = 8 ∨ k = 9 := by omega
  rcases this with rfl | rfl | rfl | rfl | rfl | rfl | rfl | rfl | rfl | rfl <;> rfl
theorem call_words {w0 w : World} {bs : List Nat} {K : Value → World → Prop} (hB : w0.heap.size ≤ w.heap.size) (hk : ∀ g w', Ext w0.heap.size w w' → w.heap.size ≤ g → w'.heap[g]? = some (.cells ⟨wordsC⟩ 9 (0, 0)) → K (.slice (some ⟨g, 0, none⟩) 10 10) w') :
    CallK Tryd.prog 89 [] w0.heap.size w bs K := by
  refine call_yieldsX (Q := fun w1 u w2 => ∃ g, w1.heap.size ≤ g ∧ u = .slice (some ⟨g, 0, none⟩) 10 10 ∧ w2.heap[g]? = some (.cells ⟨wordsC⟩ 9 (0, 0))) hB (fun w1 e1 => ?_) fun w1 u w2 w' hsz hQ hnew he => ?_
  · refine yields_of (V89.sound ?_)
    unfold V89.vc
    intro w2 e2 _
    obtain ⟨e3, ho3⟩ := alloc1 (.cells ⟨wordsC⟩ 9) e2 (Nat.le_refl _)
    exact ret_q (e3.after (Below.refl _ _)) fun w4 e4 => ⟨_, e2.size, rfl, e4.row _ _ _ _ ho3⟩
  · obtain ⟨g, hg, rfl, ho⟩ := hQ
    exact hk g w' he (Nat.le_trans hsz hg) (by rw [hnew g hg]; exact ho)
theorem blist (l : List UInt8) : (bstr l).toList = l := by rw [ByteArray.toList_eq]; simp [bstr]
theorem beqs {l m : List UInt8} {x : ByteArray} (hx : x = bstr m) : ((bstr l).toList == x.toList) = decide (l = m) := by
  subst hx
  rw [blist, blist]
  by_cases h : l = m
  · rw [decide_eq_true h]; exact beq_iff_eq.2 h
  · rw [decide_eq_false h]; exact beq_eq_false_iff_ne.2 h
theorem gives94 {w : World} (s : List UInt8) : Gives Tryd.prog 94 [.string (bstr s)] w (.int .i64 (kindC s)) := by
  refine gives_of (V94.sound ?_)
  unfold V94.vc kindC
  rw [beqs (m := wordC 1) (x := { data := #[97, 108, 108, 111, 99] }) rfl, beqs (m := wordC 2) (x := { data := #[102, 114, 101, 101] }) rfl, beqs (m := wordC 3) (x := { data := #[102, 108, 117, 115, 104] }) rfl, beqs (m := wordC 4) (x := { data := #[111, 110] }) rfl, beqs (m := wordC 5) (x := { data := #[111, 102, 102] }) rfl, beqs (m := wordC 6) (x := { data := #[114, 117, 110] }) rfl, beqs (m := wordC 7) (x := { data := #[115, 104, 114, 105, 110, 107] }) rfl, beqs (m := wordC 8) (x := { data := #[115, 99, 97, 110] }) rfl, beqs (m := wordC 9) (x := { data := #[119, 97, 107, 101] }) rfl]
  simp only [decide_eq_true_eq]
  by_cases h1 : s = wordC 1
  · simp only [if_pos h1]; exact ret_is (Below.refl _ _) rfl
  by_cases h2 : s = wordC 2
  · simp only [if_neg h1, if_pos h2]; exact ret_is (Below.refl _ _) rfl
  by_cases h3 : s = wordC 3
  · simp only [if_neg h1, if_neg h2, if_pos h3]; exact ret_is (Below.refl _ _) rfl
  by_cases h4 : s = wordC 4
  · simp only [if_neg h1, if_neg h2, if_neg h3, if_pos h4]; exact ret_is (Below.refl _ _) rfl
  by_cases h5 : s = wordC 5
  · simp only [if_neg h1, if_neg h2, if_neg h3, if_neg h4, if_pos h5]; exact ret_is (Below.refl _ _) rfl
  by_cases h6 : s = wordC 6
  · simp only [if_neg h1, if_neg h2, if_neg h3, if_neg h4, if_neg h5, if_pos h6]; exact ret_is (Below.refl _ _) rfl
  by_cases h7 : s = wordC 7
  · simp only [if_neg h1, if_neg h2, if_neg h3, if_neg h4, if_neg h5, if_neg h6, if_pos h7]; exact ret_is (Below.refl _ _) rfl
  by_cases h8 : s = wordC 8
  · simp only [if_neg h1, if_neg h2, if_neg h3, if_neg h4, if_neg h5, if_neg h6, if_neg h7, if_pos h8]; exact ret_is (Below.refl _ _) rfl
  by_cases h9 : s = wordC 9
  · simp only [if_neg h1, if_neg h2, if_neg h3, if_neg h4, if_neg h5, if_neg h6, if_neg h7, if_neg h8, if_pos h9]; exact ret_is (Below.refl _ _) rfl
  simp only [if_neg h1, if_neg h2, if_neg h3, if_neg h4, if_neg h5, if_neg h6, if_neg h7, if_neg h8, if_neg h9]
  exact ret_is (Below.refl _ _) rfl
theorem one124 {w0 w w1 w2 : World} {d : Nat} {s : List UInt8} {K : ByteArray → World → Prop} (hd : d < 10) (hb : Below w0.heap.size w0 w) (he : Ext w0.heap.size w w2) (ho : w2.heap[w1.heap.size]? = some (.cells ⟨[.int .u8 (IntKind.wrap .u8 (IntKind.wrap .u64 (48 + (d : Int))))]⟩ 5 (0, 0)))
    (hl : s.length ≤ 1000) (hK : ∀ w3, Ext w0.heap.size w2 w3 → K (bstr [UInt8.ofNat (48 + d)]) w3) :
    RunK Tryd.prog (Go.convert 48 9 (.slice (some ⟨w1.heap.size, 0, none⟩) 1 1)) w0.heap.size w2 [] fun v w_3 => ∃ s11 : ByteArray, v = .string s11 ∧ s11.size + (bstr s).size ≤ 9223372036854775807 ∧ K s11 w_3 := by
  refine conv_str (e := 5) (by kernel_rfl) (by kernel_rfl) (by kernel_rfl) (Nat.le_trans hb.size he.size) (ns := [UInt8.ofNat (48 + d)]) rfl (fun j b hj => ?_) fun w3 h3 => ⟨_, rfl, ?_, hK w3 h3⟩
  · cases j with
    | zero =>
      simp only [List.getElem?_cons_zero, Option.some.injEq] at hj
      rw [own_add, at_cell ho (show ([_] : List Value)[0]? = some _ from rfl), ← hj, dig_nat hd]
      have e64 : IntKind.wrap .u64 (48 + (d : Int)) = 48 + d := by have := wrapu (n := 48 + d) (by unfold SW; omega); push_cast at this; exact this
      rw [e64]
      have e : ∀ m : Int, IntKind.wrap .u8 m = m % 256 := fun m => by simp [IntKind.wrap, IntKind.bits, IntKind.signed]
      rw [e]
      congr 2
      omega
    | succ j => simp at hj
  · have : (bstr [UInt8.ofNat (48 + d)]).size = 1 := bstr_size _
    show (bstr [UInt8.ofNat (48 + d)]).size + _ ≤ _
    rw [this, bstr_size]; omega
theorem l0_124 {w0 : World} {n0 : Nat} (hn0 : n0 < 2 * SW) {H : List UInt8} (hH : H.length ≤ 1000) : ∀ (k n : Nat) (s : List UInt8) (w : World), n < k → n ≤ n0 → Below w0.heap.size w0 w → Lib.decDigits n ++ s = H →
    V124.l0 w0.heap.size (IsV w0 (.string (bstr H))) k (n : Int) (bstr s) w := by
  intro k
  induction k with
  | zero => intro n s w h; omega
  | succ k ih =>
    intro n s w hk hn hb hH2
    have hsl : s.length ≤ 1000 := by
      have := congrArg List.length hH2
      rw [List.length_append] at this; omega
    unfold V124.l0
    by_cases h : n < 10
    · rw [if_neg (by simp; omega)]
      refine expo_alloc0 (F := fun w_1 w_2 => RunK Tryd.prog (Go.convert 48 9 (.slice (some ⟨w_1.heap.size, 0, none⟩) 1 1)) w0.heap.size w_2 [] fun v w_3 => ∃ s20 : ByteArray, v = .string s20 ∧ s20.size + (bstr s).size ≤ 9223372036854775807 ∧ Ret w0.heap.size w_3 (IsV w0 (.string (bstr H)) (.string (s20 ++ bstr s)))) hb.size fun w1 w2 hs he hl ho => ?_
      refine one124 (K := fun s20 w_3 => Ret w0.heap.size w_3 (IsV w0 (.string (bstr H)) (.string (s20 ++ bstr s)))) h hb he ho hsl fun w3 h3 => ret_is (h3.after (he.after hb)) ?_
      rw [ba_app, ← hH2, Lib.decDigits, dif_pos h]
    · rw [if_pos (by simp; omega)]
      refine ⟨by decide, ?_⟩
      have e1 : Int.tmod (n : Int) 10 = ((n % 10 : Nat) : Int) := by rw [Int.tmod_eq_emod_of_nonneg (by omega)]; omega
      have e2 : IntKind.wrap .u64 (Int.tdiv (n : Int) 10) = ((n / 10 : Nat) : Int) := by
        rw [Int.tdiv_eq_ediv_of_nonneg (by omega)]
        have : (n : Int) / 10 = ((n / 10 : Nat) : Int) := by omega
        rw [this]
        exact wrapu (by omega)
      rw [e1, e2]
      refine expo_alloc0 (F := fun w_1 w_2 => RunK Tryd.prog (Go.convert 48 9 (.slice (some ⟨w_1.heap.size, 0, none⟩) 1 1)) w0.heap.size w_2 [] fun v w_3 => ∃ s11 : ByteArray, v = .string s11 ∧ s11.size + (bstr s).size ≤ 9223372036854775807 ∧ (10 : Int) ≠ 0 ∧ (V124.l0 w0.heap.size (IsV w0 (.string (bstr H))) k) ((n / 10 : Nat) : Int) (s11 ++ bstr s) w_3) hb.size fun w1 w2 hs he hl ho => ?_
      refine one124 (K := fun s11 w_3 => (10 : Int) ≠ 0 ∧ (V124.l0 w0.heap.size (IsV w0 (.string (bstr H))) k) ((n / 10 : Nat) : Int) (s11 ++ bstr s) w_3) (Nat.mod_lt _ (by omega)) hb he ho hsl fun w3 h3 => ⟨by decide, ?_⟩
      rw [ba_app]
      refine ih (n / 10) _ w3 (by omega) (by omega) (h3.after (he.after hb)) ?_
      rw [← hH2]
      conv => rhs; rw [Lib.decDigits, dif_neg h]
      simp
theorem gives124 {w : World} {n : Nat} (hn : n < 2 * SW) : Gives Tryd.prog 124 [.int .u64 (n : Int)] w (.string (bstr (Lib.decDigits n))) := by
  refine gives_of (V124.sound ?_)
  unfold V124.vc
  have hl : (Lib.decDigits n).length ≤ 1000 := by
    rw [Lib.decDigits_length]
    have := Lib.nDigits_le20 n (by unfold SW at hn; omega)
    omega
  exact ⟨n + 1, l0_124 hn hl (n + 1) n [] w (by omega) (Nat.le_refl _) (Below.refl _ _) (by simp)⟩
theorem wrapU (n : Int) : IntKind.wrap .u64 n = n % 18446744073709551616 := by simp [IntKind.wrap, IntKind.bits, IntKind.signed]
theorem gives96 {w : World} {n : Int} (hn : I64 n) : Gives Tryd.prog 96 [.int .i64 n] w (.string (bstr (Lib.itoa n))) := by
  refine gives_of (V96.sound ?_)
  unfold V96.vc
  unfold I64 at hn
  by_cases h : n < 0
  · rw [if_pos (by simpa using h)]
    have e : IntKind.wrap .u64 (0 - IntKind.wrap .u64 n) = ((n.natAbs : Nat) : Int) := by rw [wrapU, wrapU]; omega
    rw [e]
    refine call_gives (Below.refl _ _) (fun _ _ _ => gives124 (by unfold SW; omega)) fun w1 _ h1 => ⟨_, rfl, ?_, ret_is h1 ?_⟩
    · rw [bstr_size]
      have := Lib.nDigits_le20 n.natAbs (by omega)
      rw [Lib.decDigits_length]; show 1 + _ ≤ _; omega
    · rw [show ({ data := #[45] } : ByteArray) = bstr [45] from rfl, ba_app]
      unfold Lib.itoa; rw [if_pos h]; rfl
  · rw [if_neg (by simpa using h)]
    have e : IntKind.wrap .u64 n = ((n.toNat : Nat) : Int) := by rw [wrapU]; omega
    rw [e]
    refine call_gives (Below.refl _ _) (fun _ _ _ => gives124 (by unfold SW; omega)) fun w1 _ h1 => ⟨_, rfl, ret_is h1 ?_⟩
    unfold Lib.itoa; rw [if_neg h]
theorem gives60 {w : World} {c : Cl} (ha : I64 c.a) : Gives Tryd.prog 60 [clV c] w (.string (bstr (textC c))) := by
  refine gives_of (V60.sound ?_)
  obtain ⟨k, a, b⟩ := c
  unfold V60.vc
  intro q1 _
  refine call_gives (Below.refl _ _) (fun _ _ _ => gives58 ⟨k, a, b⟩) fun w1 _ h1 => ⟨_, rfl, ?_⟩
  have hlen := itoa_short ha
  by_cases hm : mayC ⟨k, a, b⟩ = true
  · rw [hm, if_neg (by decide)]
    have one : ∀ {pre : List UInt8} {x : ByteArray}, x = bstr pre → pre.length ≤ 10 → textC ⟨k, a, b⟩ = pre ++ Lib.itoa a → CallK Tryd.prog 96 [.int .i64 a] w.heap.size w1 [q1] fun v_1 w_2 => ∃ s12 : ByteArray, v_1 = .string s12 ∧ x.size + s12.size ≤ 9223372036854775807 ∧ Ret w.heap.size w_2 (IsV w (.string (bstr (textC ⟨k, a, b⟩))) (.string (x ++ s12))) := by
      intro pre x hx hp ht
      subst hx
      refine call_gives h1 (fun _ _ _ => gives96 ha) fun w2 _ h2 => ⟨_, rfl, ?_, ret_is h2 ?_⟩
      · rw [bstr_size, bstr_size]; dsimp only at hlen; omega
      · rw [ba_app, ht]
    have tx : textC ⟨k, a, b⟩ = joinS (wordC k) (restC ⟨k, a, b⟩) := by rw [textC, if_pos hm]
    rcases k_cases k with rfl | rfl | rfl | rfl | rfl | rfl | rfl | rfl | rfl | h
    · exact one rfl (by decide) tx
    · rcases may_cases hm with ⟨h, _⟩ | ⟨_, h⟩ | ⟨h, _⟩ | ⟨h, _⟩
      · dsimp only at h; omega
      · dsimp only at h
        rcases h with rfl | rfl
        · exact one rfl (by decide) tx
        · exact one rfl (by decide) tx
      · dsimp only at h; omega
      · dsimp only at h; omega
    · exact ret_is h1 (by rw [tx]; rfl)
    · exact ret_is h1 (by rw [tx]; rfl)
    · exact ret_is h1 (by rw [tx]; rfl)
    · have hb : I64 b := by
        rcases may_cases hm with ⟨h, _⟩ | ⟨h, _⟩ | ⟨h, _⟩ | ⟨_, h, h'⟩
        · dsimp only at h; omega
        · dsimp only at h; omega
        · dsimp only at h; omega
        · unfold I64; dsimp only at h h'; omega
      have hlb := itoa_short hb
      show CallK Tryd.prog 96 [.int .i64 a] w.heap.size w1 [q1] fun v_1 w_2 => _
      refine call_gives h1 (fun _ _ _ => gives96 ha) fun w2 _ h2 => ⟨_, rfl, ?_, ?_, ?_⟩
      · rw [bstr_size]; show 4 + _ ≤ _; dsimp only at hlen; omega
      · rw [show ({ data := #[114, 117, 110, 32] } : ByteArray) = bstr [114, 117, 110, 32] from rfl, ba_app, bstr_size]; simp; show _ + 1 ≤ _; dsimp only at hlen; omega
      refine call_gives h2 (fun _ _ _ => gives96 hb) fun w3 _ h3 => ⟨_, rfl, ?_, ret_is h3 ?_⟩
      · rw [show ({ data := #[114, 117, 110, 32] } : ByteArray) = bstr [114, 117, 110, 32] from rfl, show ({ data := #[32] } : ByteArray) = bstr [32] from rfl, ba_app, ba_app, bstr_size, bstr_size]; simp; dsimp only at hlen; omega
      · rw [show ({ data := #[114, 117, 110, 32] } : ByteArray) = bstr [114, 117, 110, 32] from rfl, show ({ data := #[32] } : ByteArray) = bstr [32] from rfl, ba_app, ba_app, ba_app, tx]
        congr 2
        show _ = wordC 6 ++ 32 :: (Lib.itoa a ++ 32 :: Lib.itoa b)
        simp [wordC]
    · exact one rfl (by decide) tx
    · exact one rfl (by decide) tx
    · exact one rfl (by decide) tx
    · rw [may_none h] at hm; cases hm
  · have hm' : mayC ⟨k, a, b⟩ = false := by simpa using hm
    rw [hm', if_pos (by decide)]
    exact ret_is h1 (by rw [textC, if_neg hm]; rfl)
theorem gives59 {w : World} (ht : Tabs w) {c : Cl} (ha : I64 c.a) : Gives Tryd.prog 59 [clV c] w (.string (bstr (textC c))) := by
  refine gives_of (V59.sound ?_)
  obtain ⟨k, a, b⟩ := c
  unfold V59.vc
  intro q1 _
  refine call_gives (Below.refl _ _) (fun _ _ _ => gives57 ⟨k, a, b⟩) fun w1 _ h1 => ⟨_, rfl, ?_⟩
  have hlen := itoa_short ha
  dsimp only at hlen
  by_cases hm : mayC ⟨k, a, b⟩ = true
  · rw [hm, if_neg (by decide)]
    have hk := may_kind hm
    dsimp only at hk
    refine call_words h1.size fun g w2 e2 hg ho2 => ⟨_, _, _, rfl, ?_⟩
    have h2 := e2.after h1
    have hc : w2.cell? ((⟨g, 0, none⟩ : Addr).add k.toNat) = some (.string (bstr (wordC k))) := by
      rw [own_add]
      have := wordsC_at (k := k.toNat) (by omega)
      rw [Int.toNat_of_nonneg (by omega)] at this
      exact at_cell ho2 this
    refine ⟨_, rfl, by dsimp only; omega, by dsimp only; omega, _, hc, ?_⟩
    refine call_gives h2 (fun _ _ h => gives78 (ht.on h) ha.1 ha.2) fun w3 e3 h3 => ⟨_, rfl, e3.cell hc, ?_⟩
    have tx : textC ⟨k, a, b⟩ = joinS (wordC k) (restC ⟨k, a, b⟩) := by rw [textC, if_pos hm]
    have hwl := word_len k
    have e32 : ({ data := #[32] } : ByteArray) = bstr [32] := rfl
    have plain : restC ⟨k, a, b⟩ = [Lib.itoa a] → (bstr (wordC k)).size + ({ data := #[32] } : ByteArray).size ≤ 9223372036854775807 ∧ (bstr (wordC k) ++ ({ data := #[32] } : ByteArray)).size + (bstr (Lib.itoa a)).size ≤ 9223372036854775807 ∧
        Ret w.heap.size w3 (IsV w (.string (bstr (textC ⟨k, a, b⟩))) (.string ((bstr (wordC k) ++ ({ data := #[32] } : ByteArray)) ++ bstr (Lib.itoa a)))) := fun hr => by
      refine ⟨by rw [bstr_size]; show _ + 1 ≤ _; omega, by rw [e32, ba_app, bstr_size, bstr_size]; simp; omega, ret_is h3 ?_⟩
      rw [e32, ba_app, ba_app, tx, hr]
      congr 2
      simp [joinS]
    have b0 : ∀ b31 : Bool, k ≠ 2 → k ≠ 3 → k ≠ 4 → k ≠ 5 → b31 = false → V59.b0 w.heap.size (IsV w (.string (bstr (textC ⟨k, a, b⟩)))) (bstr (wordC k)) (bstr (Lib.itoa a)) k b31 q1 k a b w3 := by
      intro b31 h2' h3' h4' h5' hb31
      subst hb31
      unfold V59.b0
      rw [if_neg (by decide)]
      by_cases h6 : k = 6
      · rw [if_pos (by simpa using h6)]
        have hb : I64 b := by rcases may_cases hm with h | h | h | h <;> (dsimp only at h; unfold I64; omega)
        have hlb := itoa_short hb
        refine ⟨by rw [bstr_size]; show _ + 1 ≤ _; omega, by rw [e32, ba_app, bstr_size, bstr_size]; simp; omega, by rw [e32, ba_app, ba_app, bstr_size]; simp; show _ + 1 ≤ _; omega, ?_⟩
        refine call_gives h3 (fun _ _ h => gives78 (ht.on h) hb.1 hb.2) fun w4 _ h4 => ⟨_, rfl, by rw [e32, ba_app, ba_app, ba_app, bstr_size, bstr_size]; simp; omega, ret_is h4 ?_⟩
        rw [e32, ba_app, ba_app, ba_app, ba_app, tx]
        have hr : restC ⟨k, a, b⟩ = [Lib.itoa a, Lib.itoa b] := by unfold restC; rw [if_neg (by dsimp only; omega), if_neg (by dsimp only; omega), if_pos (by dsimp only; omega)]
        rw [hr]
        congr 2
        simp [joinS]
      · rw [if_neg (by simpa using h6)]
        exact plain (by unfold restC; rw [if_neg (by dsimp only; omega), if_neg (by dsimp only; omega), if_neg (by dsimp only; omega)])
    by_cases k2 : k = 2
    · rw [if_pos (by simpa using k2)]
      subst k2
      have hb : b = 0 ∨ b = 1 := by rcases may_cases hm with h | h | h | h <;> (dsimp only at h; omega)
      have e1 : IntKind.wrap .i64 (b + 1) = b + 1 := wrap_id (by omega) (by omega)
      rw [e1]
      have ex : (({ data := #[64, 35] } : ByteArray).extract b.toNat (b + 1).toNat) = bstr [if b = 0 then 64 else 35] := by
        rcases hb with rfl | rfl <;> rfl
      rw [ex, e32]
      refine ⟨by rw [bstr_size, bstr_size]; simp; omega, by omega, by show b + 1 ≤ ((2 : Nat) : Int); omega, by dsimp only; omega, by dsimp only; omega, by rw [ba_app, bstr_size, bstr_size]; simp; omega, by rw [ba_app, ba_app, bstr_size, bstr_size]; simp; omega, ret_is h3 ?_⟩
      rw [ba_app, ba_app, ba_app, tx]
      have e : wordC 2 ++ [32] ++ [if b = 0 then 64 else 35] ++ Lib.itoa a = joinS (wordC 2) (restC ⟨2, a, b⟩) := by
        show _ = wordC 2 ++ 32 :: ((if b = 0 then 64 else 35) :: Lib.itoa a)
        simp
      rw [e]
    rw [if_neg (by simpa using k2)]
    have word : k = 3 ∨ k = 4 ∨ k = 5 → V59.b0 w.heap.size (IsV w (.string (bstr (textC ⟨k, a, b⟩)))) (bstr (wordC k)) (bstr (Lib.itoa a)) k true q1 k a b w3 := fun h => by
      unfold V59.b0
      rw [if_pos rfl]
      refine ret_is h3 ?_
      have hr : restC ⟨k, a, b⟩ = [] := by unfold restC; rw [if_neg (by dsimp only; omega), if_pos (by dsimp only; omega)]
      rw [tx, hr]; rfl
    by_cases k3 : k = 3
    · rw [if_pos (by simpa using k3), show (k == 3) = true from by simpa using k3]; exact word (.inl k3)
    rw [if_neg (by simpa using k3)]
    by_cases k4 : k = 4
    · rw [if_pos (by simpa using k4), show (k == 4) = true from by simpa using k4]; exact word (.inr (.inl k4))
    rw [if_neg (by simpa using k4)]
    by_cases k5 : k = 5
    · rw [show (k == 5) = true from by simpa using k5]; exact word (.inr (.inr k5))
    · exact b0 _ k2 k3 k4 k5 (beq_no k5)
  · have hm' : mayC ⟨k, a, b⟩ = false := by simpa using hm
    rw [hm', if_pos (by decide)]
    exact ret_is h1 (by rw [textC, if_neg hm]; rfl)
end Go.Proofs.YtofblkmibghmbaaDoor
