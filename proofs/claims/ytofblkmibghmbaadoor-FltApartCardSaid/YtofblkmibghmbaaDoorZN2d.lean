/-
  Layer 2: FltApart.
  Conditions: the tables of the host's library read as the program's text lays them.
-/
import Derived.Test.YtofblkmibghmbaaDoorZN2
import Derived.Laws.Closers25b
set_option linter.unusedVariables false
set_option linter.unusedSimpArgs false
set_option maxRecDepth 100000
set_option exponentiation.threshold 3000
namespace Go.Proofs.YtofblkmibghmbaaDoor
open Go.RowKit Ieee
theorem bstr_list (l : List UInt8) : (bstr l).toList = l := by rw [ByteArray.toList_eq]; simp [bstr]
theorem bstr_eq (l m : List UInt8) : ((bstr l).toList == (bstr m).toList) = decide (l = m) := by
  rw [bstr_list, bstr_list]
  by_cases h : l = m
  · subst h; simp
  · rw [decide_eq_false h]; exact beq_eq_false_iff_ne.2 h
section
variable {w : World}
theorem gives3 (ht : Tabs w) {a b : Nat} (ha : a < 2 * SW) (hb : b < 2 * SW) : Gives Tryd.prog 3 [.int .u64 (a : Int), .int .u64 (b : Int)] w (.bool true) := by
  refine gives_of (V3.sound ?_)
  unfold V3.vc
  have bb : ∀ x : Bool, (x == x) = true := fun x => beq_self_eq_true x
  have iff := text_apart ha hb
  refine call_gives (Below.refl _ _) (fun _ _ h => gives19 (ht.on h) ha) fun w1 _ h1 => ⟨_, rfl, ?_⟩
  refine call_gives h1 (fun _ _ h => gives19 (ht.on h) hb) fun w2 _ h2 => ⟨_, rfl, ?_⟩
  rw [bstr_eq]
  have fin : ∀ {w5 : World}, Below w.heap.size w w5 → CallK Tryd.prog 21 [] w.heap.size w5 [] fun v_4 w_5 => ∃ b23 : Bool, v_4 = .bool b23 ∧ Ret w.heap.size w_5 (IsV w (.bool true) (.bool b23)) :=
    fun h5 => call_gives h5 (fun _ _ h => gives21 (ht.on h)) fun w6 _ h6 => ⟨_, rfl, ret_is h6 rfl⟩
  by_cases hab : a = b
  · rw [if_neg (by rw [hab]; simp), if_pos (by rw [decide_eq_true (iff.2 (.inl hab))]; rfl)]
    exact fin h2
  · rw [if_pos (beq_eq_false_iff_ne.2 (by omega))]
    refine call_gives h2 (fun _ _ _ => gives20 ha) fun w3 _ h3 => ⟨_, rfl, ?_⟩
    by_cases na : nanw a = true
    · rw [if_pos na]
      refine call_gives h3 (fun _ _ _ => gives20 hb) fun w4 _ h4 => ⟨_, rfl, ?_⟩
      have e : decide (textF a = textF b) = nanw b := by
        cases nb : nanw b
        · exact decide_eq_false fun h => by
            rcases iff.1 h with h | ⟨_, h⟩
            · exact hab h
            · rw [nb] at h; cases h
        · exact decide_eq_true (iff.2 (.inr ⟨na, nb⟩))
      rw [e, if_pos (bb _)]
      exact fin h4
    · rw [if_neg na]
      have e : decide (textF a = textF b) = false := decide_eq_false fun h => by
        rcases iff.1 h with h | ⟨h, _⟩
        · exact hab h
        · exact na h
      rw [e, if_pos (bb _)]
      exact fin h3
end
end Go.Proofs.YtofblkmibghmbaaDoor
