import Derived.Test.YtofblkmibghmbaaDoorZT2b
import Derived.Test.YtofblkmibghmbaaDoorZT2d
import Derived.Test.YtofblkmibghmbaaDoorZP23
import Derived.Test.YtofblkmibghmbaaDoorZVH
/-
  Layer 23: which calls may be, their texts, the document's reading of numbers: what the functions return.
  Conditions: the tables of the host's library read as the program's text lays them.
-/
set_option linter.unusedVariables false
set_option linter.unusedSimpArgs false
set_option maxRecDepth 100000
namespace Go.Proofs.YtofblkmibghmbaaDoor
open Go.RowKit
def clV (c : Cl) : Value := .agg ⟨[.int .i64 c.k, .int .i64 c.a, .int .i64 c.b]⟩
theorem k_cases (k : Int) : k = 1 ∨ k = 2 ∨ k = 3 ∨ k = 4 ∨ k = 5 ∨ k = 6 ∨ k = 7 ∨ k = 8 ∨ k = 9 ∨ (k ≠ 1 ∧ k ≠ 2 ∧ k ≠ 3 ∧ k ≠ 4 ∧ k ≠ 5 ∧ k ≠ 6 ∧ k ≠ 7 ∧ k ≠ 8 ∧ k ≠ 9) := by omega
theorem may_none {c : Cl} (h : c.k ≠ 1 ∧ c.k ≠ 2 ∧ c.k ≠ 3 ∧ c.k ≠ 4 ∧ c.k ≠ 5 ∧ c.k ≠ 6 ∧ c.k ≠ 7 ∧ c.k ≠ 8 ∧ c.k ≠ 9) : mayC c = false := by
  unfold mayC
  rw [if_neg (by omega), if_neg (by omega), if_neg (by omega), if_neg (by omega)]
theorem may_zero {k a b : Int} (h : k = 3 ∨ k = 4 ∨ k = 5) : mayC ⟨k, a, b⟩ = decide (a = 0 ∧ b = 0) := by
  unfold mayC; rw [if_neg (by dsimp only; omega), if_neg (by dsimp only; omega), if_pos (by dsimp only; omega)]
theorem beq_no {k l : Int} (h : k ≠ l) : (k == l) = false := beq_eq_false_iff_ne.2 h
theorem vc57 {w w1 : World} (c : Cl) (hw : Below w.heap.size w w1) : V57.vc w.heap.size (IsV w (.bool (mayC c))) c.k c.a c.b w1 := by
  obtain ⟨k, a, b⟩ := c
  unfold V57.vc
  intro q1 _
  have zero : ∀ k : Int, k = 3 ∨ k = 4 ∨ k = 5 → V57.b1 w.heap.size (IsV w (.bool (mayC ⟨k, a, b⟩))) k true q1 k a b w1 := fun k hk => by
    unfold V57.b1
    rw [may_zero hk, if_pos rfl]
    by_cases h0 : a = 0
    · rw [if_pos (by rw [h0]; rfl)]
      refine ret_is hw (congrArg Value.bool ?_)
      show decide (b = 0) = _
      exact decide_eq_decide.2 (by omega)
    · rw [beq_no h0, if_neg (by decide)]
      exact ret_is hw (congrArg Value.bool (decide_eq_false (fun h => h0 h.1)).symm)
  rcases k_cases k with rfl | rfl | rfl | rfl | rfl | rfl | rfl | rfl | rfl | h
  · exact ret_is hw rfl
  · have e : mayC ⟨2, a, b⟩ = decide (b = 0 ∨ b = 1) := rfl
    rw [e]
    by_cases h0 : b = 0
    · subst h0; exact ret_is hw rfl
    · have hb := beq_no h0
      show (if (b == 0) = false then Ret _ w1 (IsV w _ (.bool (b == 1))) else Ret _ w1 (IsV w _ (.bool true)))
      rw [hb, if_pos rfl]
      refine ret_is hw (congrArg Value.bool ?_)
      show decide (b = 1) = _
      exact decide_eq_decide.2 (by omega)
  · exact zero 3 (.inl rfl)
  · exact zero 4 (.inr (.inl rfl))
  · exact zero 5 (.inr (.inr rfl))
  · have e : mayC ⟨6, a, b⟩ = decide (1 ≤ b ∧ b ≤ 1000) := rfl
    rw [e]
    show (if (decide (b ≥ 1)) = true then Ret _ w1 (IsV w _ (.bool (decide (b ≤ 1000)))) else Ret _ w1 (IsV w _ (.bool false)))
    by_cases h1 : b ≥ 1
    · rw [if_pos (by simpa using h1)]
      exact ret_is hw (congrArg Value.bool (decide_eq_decide.2 (by omega)))
    · rw [if_neg (by simpa using h1)]
      exact ret_is hw (congrArg Value.bool (decide_eq_false (fun h => h1 h.1)).symm)
  · exact ret_is hw rfl
  · exact ret_is hw rfl
  · exact ret_is hw rfl
  · obtain ⟨h1, h2, h3, h4, h5, h6, h7, h8, h9⟩ := h
    rw [may_none ⟨h1, h2, h3, h4, h5, h6, h7, h8, h9⟩]
    unfold V57.b0 V57.b1
    simp only [beq_no h1, beq_no h2, beq_no h3, beq_no h4, beq_no h5, beq_no h6, beq_no h7, beq_no h8, beq_no h9, Bool.false_eq_true, if_false]
    exact ret_is hw rfl
theorem gives57 {w : World} (c : Cl) : Gives Tryd.prog 57 [clV c] w (.bool (mayC c)) := gives_of (V57.sound (vc57 c (Below.refl _ _)))
def wordsC : List Value := [.string ({ data := #[] } : ByteArray), .string ({ data := #[97, 108, 108, 111, 99] } : ByteArray), .string ({ data := #[102, 114, 101, 101] } : ByteArray), .string ({ data := #[102, 108, 117, 115, 104] } : ByteArray), .string ({ data := #[111, 110] } : ByteArray), .string ({ data := #[111, 102, 102] } : ByteArray), .string ({ data := #[114, 117, 110] } : ByteArray), .string ({ data := #[115, 104, 114, 105, 110, 107] } : ByteArray), .string ({ data := #[115, 99, 97, 110] } : ByteArray), .string ({ data := #[119, 97, 107, 101] } : ByteArray)]
theorem wordsC_at {k : Nat} (h : k < 10) : wordsC[k]? = some (.string (bstr (wordC k))) := by
  have : k = 0 ∨ k = 1 ∨ k = 2 ∨ k = 3 ∨ k = 4 ∨ k = 5 ∨ k = 6 ∨ k = 7 ∨ k = 8 ∨ k = 9 := by omega
  rcases this with rfl | rfl | rfl | rfl | rfl | rfl | rfl | rfl | rfl | rfl <;> rfl
theorem call_words {w0 w : World} {bs : List Nat} {K : Value → World → Prop} (hB : w0.heap.size ≤ w.heap.size) (hk : ∀ g w', Ext w0.heap.size w w' → w.heap.size ≤ g → w'.heap[g]? = some (.cells ⟨wordsC⟩ 9 (0, 0)) → K (.slice (some ⟨g, 0, none⟩) 10 10) w') :
    CallK Tryd.prog 89 [] w0.heap.size w bs K := by
  refine call_yieldsX (Q := fun w1 u w2 => ∃ g, w1.heap.size ≤ g ∧ u = .slice (some ⟨g, 0, none⟩) 10 10 ∧ w2.heap[g]? = some (.cells ⟨wordsC⟩ 9 (0, 0))) hB (fun w1 e1 => ?_) fun w1 u w2 w' hsz hQ hnew he => ?_
  · refine yields_of (V89.sound ?_)
    unfold V89.vc
    intro w2 e2 _
    obtain ⟨e3, ho3⟩ := alloc1 (.cells ⟨wordsC⟩ 9) e2 (Nat.le_refl _)
    exact ret_q (e3.after (Below.refl _ _)) fun w4 e4 => ⟨_, e2.size, rfl, e4.row _ _ _ _ ho3⟩
  · obtain ⟨g, hg, rfl, ho⟩ := hQ
    exact hk g w' he (Nat.le_trans hsz hg) (by rw [hnew g hg]; exact ho)
theorem blist (l : List UInt8) : (bstr l).toList = l := by rw [ByteArray.toList_eq]; simp [bstr]
theorem beqs {l m : List UInt8} {x : ByteArray} (hx : x = bstr m) : ((bstr l).toList == x.toList) = decide (l = m) := by
  subst hx
  rw [blist, blist]
  by_cases h : l = m
  · rw [decide_eq_true h]; exact beq_iff_eq.2 h
  · rw [decide_eq_false h]; exact beq_eq_false_iff_ne.2 h
theorem gives59 {w : World} (ht : Tabs w) {c : Cl} (ha : I64 c.a) : Gives Tryd.prog 59 [clV c] w (.string (bstr (textC c))) := by
  refine gives_of (V59.sound ?_)
  obtain ⟨k, a, b⟩ := c
  unfold V59.vc
  intro q1 _
  refine call_gives (Below.refl _ _) (fun _ _ _ => gives57 ⟨k, a, b⟩) fun w1 _ h1 => ⟨_, rfl, ?_⟩
  have hlen := itoa_short ha
  dsimp only at hlen
  by_cases hm : mayC ⟨k, a, b⟩ = true
  · rw [hm, if_neg (by decide)]
    have hk := may_kind hm
    dsimp only at hk
    refine call_words h1.size fun g w2 e2 hg ho2 => ⟨_, _, _, rfl, ?_⟩
    have h2 := e2.after h1
    have hc : w2.cell? ((⟨g, 0, none⟩ : Addr).add k.toNat) = some (.string (bstr (wordC k))) := by
      rw [own_add]
      have := wordsC_at (k := k.toNat) (by omega)
      rw [Int.toNat_of_nonneg (by omega)] at this
      exact at_cell ho2 this
    refine ⟨_, rfl, by dsimp only; omega, by dsimp only; omega, _, hc, ?_⟩
    refine call_gives h2 (fun _ _ h => gives78 (ht.on h) ha.1 ha.2) fun w3 e3 h3 => ⟨_, rfl, e3.cell hc, ?_⟩
    have tx : textC ⟨k, a, b⟩ = joinS (wordC k) (restC ⟨k, a, b⟩) := by rw [textC, if_pos hm]
    have hwl := word_len k
    have e32 : ({ data := #[32] } : ByteArray) = bstr [32] := rfl
    have plain : restC ⟨k, a, b⟩ = [Lib.itoa a] → (bstr (wordC k)).size + ({ data := #[32] } : ByteArray).size ≤ 9223372036854775807 ∧ (bstr (wordC k) ++ ({ data := #[32] } : ByteArray)).size + (bstr (Lib.itoa a)).size ≤ 9223372036854775807 ∧
        Ret w.heap.size w3 (IsV w (.string (bstr (textC ⟨k, a, b⟩))) (.string ((bstr (wordC k) ++ ({ data := #[32] } : ByteArray)) ++ bstr (Lib.itoa a)))) := fun hr => by
      refine ⟨by rw [bstr_size]; show _ + 1 ≤ _; omega, by rw [e32, ba_app, bstr_size, bstr_size]; simp; omega, ret_is h3 ?_⟩
      rw [e32, ba_app, ba_app, tx, hr]
      congr 2
      simp [joinS]
    have b0 : ∀ b31 : Bool, k ≠ 2 → k ≠ 3 → k ≠ 4 → k ≠ 5 → b31 = false → V59.b0 w.heap.size (IsV w (.string (bstr (textC ⟨k, a, b⟩)))) (bstr (wordC k)) (bstr (Lib.itoa a)) k b31 q1 k a b w3 := by
      intro b31 h2' h3' h4' h5' hb31
      subst hb31
      unfold V59.b0
      rw [if_neg (by decide)]
      by_cases h6 : k = 6
      · rw [if_pos (by simpa using h6)]
        have hb : I64 b := by rcases may_cases hm with h | h | h | h <;> (dsimp only at h; unfold I64; omega)
        have hlb := itoa_short hb
        refine ⟨by rw [bstr_size]; show _ + 1 ≤ _; omega, by rw [e32, ba_app, bstr_size, bstr_size]; simp; omega, by rw [e32, ba_app, ba_app, bstr_size]; simp; show _ + 1 ≤ _; omega, ?_⟩
        refine call_gives h3 (fun _ _ h => gives78 (ht.on h) hb.1 hb.2) fun w4 _ h4 => ⟨_, rfl, by rw [e32, ba_app, ba_app, ba_app, bstr_size, bstr_size]; simp; omega, ret_is h4 ?_⟩
        rw [e32, ba_app, ba_app, ba_app, ba_app, tx]
        have hr : restC ⟨k, a, b⟩ = [Lib.itoa a, Lib.itoa b] := by unfold restC; rw [if_neg (by dsimp only; omega), if_neg (by dsimp only; omega), if_pos (by dsimp only; omega)]
        rw [hr]
        congr 2
        simp [joinS]
      · rw [if_neg (by simpa using h6)]
        exact plain (by unfold restC; rw [if_neg (by dsimp only; omega), if_neg (by dsimp only; omega), if_neg (by dsimp only; omega)])
    by_cases k2 : k = 2
    · rw [if_pos (by simpa using k2)]
      subst k2
      have hb : b = 0 ∨ b = 1 := by rcases may_cases hm with h | h | h | h <;> (dsimp only at h; omega)
      have e1 : IntKind.wrap .i64 (b + 1) = b + 1 := wrap_id (by omega) (by omega)
      rw [e1]
      have ex : (({ data := #[64, 35] } : ByteArray).extract b.toNat (b + 1).toNat) = bstr [if b = 0 then 64 else 35] := by
        rcases hb with rfl | rfl <;> rfl
      rw [ex, e32]
      refine ⟨by rw [bstr_size, bstr_size]; simp; omega, by omega, by show b + 1 ≤ ((2 : Nat) : Int); omega, by dsimp only; omega, by dsimp only; omega, by rw [ba_app, bstr_size, bstr_size]; simp; omega, by rw [ba_app, ba_app, bstr_size, bstr_size]; simp; omega, ret_is h3 ?_⟩
      rw [ba_app, ba_app, ba_app, tx]
      have e : wordC 2 ++ [32] ++ [if b = 0 then 64 else 35] ++ Lib.itoa a = joinS (wordC 2) (restC ⟨2, a, b⟩) := by
        show _ = wordC 2 ++ 32 :: ((if b = 0 then 64 else 35) :: Lib.itoa a)
        simp
      rw [e]
    rw [if_neg (by simpa using k2)]
    have word : k = 3 ∨ k = 4 ∨ k = 5 → V59.b0 w.heap.size (IsV w (.string (bstr (textC ⟨k, a, b⟩)))) (bstr (wordC k)) (bstr (Lib.itoa a)) k true q1 k a b w3 := fun h => by
      unfold V59.b0
      rw [if_pos rfl]
      refine ret_is h3 ?_
      have hr : restC ⟨k, a, b⟩ = [] := by unfold restC; rw [if_neg (by dsimp only; omega), if_pos (by dsimp only; omega)]
      rw [tx, hr]; rfl
    by_cases k3 : k = 3
    · rw [if_pos (by simpa using k3), show (k == 3) = true from by simpa using k3]; exact word (.inl k3)
    rw [if_neg (by simpa using k3)]
    by_cases k4 : k = 4
    · rw [if_pos (by simpa using k4), show (k == 4) = true from by simpa using k4]; exact word (.inr (.inl k4))
    rw [if_neg (by simpa using k4)]
    by_cases k5 : k = 5
    · rw [show (k == 5) = true from by simpa using k5]; exact word (.inr (.inr k5))
    · exact b0 _ k2 k3 k4 k5 (beq_no k5)
  · have hm' : mayC ⟨k, a, b⟩ = false := by simpa using hm
    rw [hm', if_pos (by decide)]
    exact ret_is h1 (by rw [textC, if_neg hm]; rfl)
end Go.Proofs.YtofblkmibghmbaaDoor
