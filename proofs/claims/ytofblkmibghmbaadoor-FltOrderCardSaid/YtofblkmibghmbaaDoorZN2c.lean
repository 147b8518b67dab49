/-
  Layer 2: FltOrder.
  Conditions: the tables of the host's library read as the program's text lays them.
-/
import Derived.Test.YtofblkmibghmbaaDoorZN2
set_option linter.unusedVariables false
set_option linter.unusedSimpArgs false
set_option maxRecDepth 100000
set_option exponentiation.threshold 3000
namespace Go.Proofs.YtofblkmibghmbaaDoor
open Go.RowKit Ieee
section
variable {w : World}
theorem b1_8 {w0 w : World} (ht : Tabs w0) {a b : Nat} (ha : a < 2 * SW) (hb : b < 2 * SW) (na : ¬ nanw a = true) (nb : ¬ nanw b = true) (h : Below w0.heap.size w0 w) :
    V8.b1 w0.heap.size (IsV w0 (.bool true)) (a : Int) (b : Int) (decide (rk a < rk b)) (if rk a < rk b then (a : Int) else (b : Int)) (if rk a < rk b then (b : Int) else (a : Int)) w := by
  have bb : ∀ x : Bool, (x == x) = true := fun x => beq_self_eq_true x
  unfold V8.b1
  refine call_gives h (fun _ _ _ => gives38 ha) fun w1 _ h1 => ⟨_, rfl, ?_⟩
  refine call_gives h1 (fun _ _ _ => gives38 hb) fun w2 _ h2 => ⟨_, rfl, ?_⟩
  rw [if_pos (by rw [show decide (((rk a : Nat) : Int) < ((rk b : Nat) : Int)) = decide (rk a < rk b) from decide_eq_decide.2 (by omega)]; exact bb _)]
  refine call_gives h2 (fun _ _ _ => gives38 ha) fun w3 _ h3 => ⟨_, rfl, ?_⟩
  refine call_gives h3 (fun _ _ _ => gives38 hb) fun w4 _ h4 => ⟨_, rfl, ?_⟩
  have he : (((rk a : Nat) : Int) == ((rk b : Nat) : Int)) = ((a : Int) == (b : Int)) := by
    have := rk_eq ha hb
    by_cases e : a = b
    · subst e; simp
    · have : ¬ rk a = rk b := fun h => e (this.1 h)
      have h1 : ¬ ((rk a : Nat) : Int) = ((rk b : Nat) : Int) := by omega
      have h2 : ¬ (a : Int) = (b : Int) := by omega
      rw [beq_eq_false_iff_ne.2 h1, beq_eq_false_iff_ne.2 h2]
  rw [if_pos (by rw [he]; exact bb _)]
  refine call_gives h4 (fun _ _ _ => gives39 ha hb) fun w5 _ h5 => ⟨_, rfl, ?_⟩
  have hn : ¬ (nanw a = true ∨ nanw b = true) := fun h => by rcases h with h | h; exact na h; exact nb h
  have key : ¬ rk a < rk b → ¬ rk b < rk a → a = b := fun h1 h2 => (rk_eq ha hb).1 (by omega)
  have hm : ((mnF a b : Nat) : Int) = if rk a < rk b then (a : Int) else (b : Int) := by
    unfold mnF; rw [if_neg hn]
    by_cases h1 : rk a < rk b
    · rw [if_pos h1, if_neg (by omega)]
    · rw [if_neg h1]
      by_cases h2 : rk b < rk a
      · rw [if_pos h2]
      · rw [if_neg h2, key h1 h2]
  have hx : ((mxF a b : Nat) : Int) = if rk a < rk b then (b : Int) else (a : Int) := by
    unfold mxF; rw [if_neg hn]
    by_cases h1 : rk a < rk b
    · rw [if_pos h1, if_pos h1]
    · rw [if_neg h1, if_neg h1]
  rw [hm, if_pos (beq_self_eq_true _)]
  refine call_gives h5 (fun _ _ _ => gives40 ha hb) fun w6 _ h6 => ⟨_, rfl, ?_⟩
  rw [hx, if_pos (beq_self_eq_true _)]
  exact call_gives h6 (fun _ _ h => gives21 (ht.on h)) fun w7 _ h7 => ⟨_, rfl, ret_is h7 rfl⟩
theorem b0_8 {w0 w : World} (ht : Tabs w0) {a b : Nat} (ha : a < 2 * SW) (hb : b < 2 * SW) (na : ¬ nanw a = true) (nb : ¬ nanw b = true) (h : Below w0.heap.size w0 w) {x : Bool} (hx : x = decide (rk a < rk b)) :
    V8.b0 w0.heap.size (IsV w0 (.bool true)) (a : Int) (b : Int) x w := by
  unfold V8.b0
  refine call_gives h (fun _ _ _ => gives38 ha) fun w1 _ h1 => ⟨_, rfl, ?_⟩
  refine call_gives h1 (fun _ _ _ => gives38 hb) fun w2 _ h2 => ⟨_, rfl, ?_⟩
  have k := b1_8 ht ha hb na nb h2
  rw [hx]
  by_cases hr : rk a < rk b
  · rw [if_pos hr, if_pos hr] at k
    rw [if_pos (by simpa using hr)]; exact k
  · rw [if_neg hr, if_neg hr] at k
    rw [if_neg (by simpa using hr)]; exact k
theorem gives8 (ht : Tabs w) {a b : Nat} (ha : a < 2 * SW) (hb : b < 2 * SW) : Gives Tryd.prog 8 [.int .u64 (a : Int), .int .u64 (b : Int)] w (.bool true) := by
  refine gives_of (V8.sound ?_)
  unfold V8.vc
  refine call_gives (Below.refl _ _) (fun _ _ _ => gives20 ha) fun w1 _ h1 => ⟨_, rfl, ?_⟩
  by_cases na : nanw a = true
  · rw [if_neg (by rw [na]; decide)]
    exact call_gives h1 (fun _ _ h => gives21 (ht.on h)) fun w2 _ h2 => ⟨_, rfl, ret_is h2 rfl⟩
  have na' : nanw a = false := by simpa using na
  rw [if_pos na']
  refine call_gives h1 (fun _ _ _ => gives20 hb) fun w2 _ h2 => ⟨_, rfl, ?_⟩
  by_cases nb : nanw b = true
  · rw [if_pos nb]
    exact call_gives h2 (fun _ _ h => gives21 (ht.on h)) fun w3 _ h3 => ⟨_, rfl, ret_is h3 rfl⟩
  have nb' : nanw b = false := by simpa using nb
  rw [if_neg nb]
  refine call_gives h2 (fun _ _ _ => gives36 a b) fun w3 _ h3 => ⟨_, rfl, ?_⟩
  have hl : ltF a b = decide (sr a < sr b) := by unfold ltF; rw [lt_order, na', nb']; simp
  have iff := rk_lt na' nb'
  rw [hl]
  have wa := word_cases ha
  have wb := word_cases hb
  by_cases hs : sr a < sr b
  · rw [if_neg (by simp [hs])]
    exact b0_8 ht ha hb na nb h3 (by simp [iff, hs])
  · rw [if_pos (by simp [hs])]
    by_cases hz : a = SW
    · rw [if_pos (by rw [hz]; decide)]
      refine b0_8 ht ha hb na nb h3 ?_
      have e : ngw a = true ∧ rg a = 0 := by rw [hz]; decide
      by_cases hb0 : b = 0
      · have e2 : ngw b = false ∧ rg b = 0 := by rw [hb0]; decide
        rw [decide_eq_true (iff.2 (.inr ⟨e.1, e2.1, e.2, e2.2⟩)), hb0]; rfl
      · have : ¬ rk a < rk b := fun h => by
          rcases iff.1 h with h | ⟨_, h2, _, h4⟩
          · exact hs h
          · rcases wb with ⟨_, e5, _⟩ | ⟨e5, _, _⟩
            · exact hb0 (e5.trans h4)
            · rw [h2] at e5; cases e5
        rw [decide_eq_false this]
        exact beq_eq_false_iff_ne.2 (by omega)
    · rw [if_neg (by
        have : ¬ ((a : Int) = 9223372036854775808) := by unfold SW at hz; omega
        simpa using this)]
      refine b0_8 ht ha hb na nb h3 ?_
      have : ¬ rk a < rk b := fun h => by
        rcases iff.1 h with h | ⟨h1, _, h3, _⟩
        · exact hs h
        · rcases wa with ⟨e5, _, _⟩ | ⟨_, e5, _⟩
          · rw [h1] at e5; cases e5
          · exact hz (by rw [e5, h3]; rfl)
      rw [decide_eq_false this]
end
end Go.Proofs.YtofblkmibghmbaaDoor
