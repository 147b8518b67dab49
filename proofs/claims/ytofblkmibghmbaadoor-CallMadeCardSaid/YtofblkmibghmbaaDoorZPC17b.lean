import Derived.Test.YtofblkmibghmbaaDoorZPK17
import Derived.Test.YtofblkmibghmbaaDoorZQX
/-
  The functions of layer 17 that tell whether a function's numbers and an instruction's fields may be, and which places follow: what their calls return.
  Conditions: the arguments' memory says what their values are.
-/
set_option linter.unusedVariables false
set_option linter.unusedSimpArgs false
namespace Go.Proofs.YtofblkmibghmbaaDoor.P17
open Go.RowKit
theorem gives122 (a n : Int) (w : World) : Gives Tryd.prog 130 [.int .i64 a, .int .i64 n] w (.bool (withinM a n)) := by
  refine gives_of (V130.sound ?_)
  unfold V130.vc
  simp only [decide_eq_true_eq]
  split
  · exact ret_is (Below.refl _ _) (congrArg Value.bool (decide_eq_decide.2 (by omega)))
  · exact ret_is (Below.refl _ _) (congrArg Value.bool (decide_eq_false (by omega)).symm)
theorem gives90 {w : World} {A : Option Addr} {np c : Nat} {pr : List Fnc} (hp : ProgAt w A np pr) (p l r : Int) (A' : Option Addr) (n c' : Nat) (op a b : Int) :
    Gives Tryd.prog 100 [.agg ⟨[.slice A np c]⟩, .agg ⟨[.int .i64 p, .int .i64 l, .int .i64 r, .slice A' n c']⟩, .agg ⟨[.int .i64 op, .int .i64 a, .int .i64 b]⟩] w (.bool (shapedM np l r n op a b)) := by
  refine gives_of (V100.sound ?_)
  intro q3 _ q4 _ q5 _
  have two : ∀ (x y : Int) (v : Bool), (withinM x y && b == 0) = v → CallK Tryd.prog 130 [.int .i64 x, .int .i64 y] w.heap.size w [q5, q4, q3] fun v1 w_1 => ∃ b37 : Bool, v1 = .bool b37 ∧ if b37 = true then (Ret w.heap.size w_1 (IsV w (.bool v) (.bool (b == 0)))) else (Ret w.heap.size w_1 (IsV w (.bool v) (.bool false))) := by
    intro x y v hv
    refine call_gives (Below.refl _ _) (fun w2 _ _ => gives122 _ _ w2) fun w2 _ hb2 => ⟨_, rfl, ?_⟩
    split
    · rename_i h; exact ret_is hb2 (by rw [← hv, h]; simp)
    · rename_i h; exact ret_is hb2 (by rw [← hv, Bool.eq_false_iff.2 h]; simp)
  have main : ∀ (none7 : Bool), none7 = (a == 0 && b == 0) → V100.b0 w.heap.size (IsV w (.bool (shapedM np l r n op a b))) none7 q5 op a b q4 p l r A' n c' q3 A np c w := by
    intro none7 hn
    rcases op_cases op with h | h | h | h | h | h | h | h | h | h | h | h | h | h | h | h | h | h | h | h | h | h | h | h | h | h | h | hd
    case inl =>
      subst h
      simp only [V100.b0, Int.reduceBEq, if_true, decide_eq_true_eq]
      split
      · split
        · exact ret_is (Below.refl _ _) (congrArg Value.bool (by simp [shapedM, kindM, rowT, *]))
        · exact ret_is (Below.refl _ _) (congrArg Value.bool (by simp [shapedM, kindM, rowT, *]))
      · exact ret_is (Below.refl _ _) (congrArg Value.bool (by simp [shapedM, kindM, rowT]; omega))
    all_goals first
      | subst h
        simp only [V100.b0, V100.b1, V100.b2, V100.b3, V100.b4, V100.b5, Int.reduceBEq, Bool.false_eq_true, if_false, if_true]
        first
          | exact two _ _ _ (by simp [shapedM, kindM, rowT, Bool.and_comm])
          | exact ret_is (Below.refl _ _) (by rw [hn]; simp [shapedM, kindM, rowT, Bool.and_comm])
          | (refine call_gives (Below.refl _ _) (fun w2 _ _ => gives122 _ _ w2) fun w2 _ hb2 => ⟨_, rfl, ?_⟩
             split
             · rename_i h
               exact call_gives hb2 (fun w3 _ _ => gives122 _ _ w3) fun w3 _ hb3 => ⟨_, rfl, ret_is hb3 (by simp [shapedM, kindM, rowT, h])⟩
             · rename_i h
               exact ret_is hb2 (by simp [shapedM, kindM, rowT, h]))
          | skip
      | obtain ⟨h1, h2, h3, h4, h5, h6, h7, h8, h9, h10, h11, h12, h13, h14, h15, h16, h17, h18, h19, h20, h21, h22, h23, h24, h25, h26, h27⟩ := hd
        simp only [V100.b0, V100.b1, V100.b2, V100.b3, V100.b4, V100.b5, beq_iff_eq, *, if_false, if_true, Bool.false_eq_true]
        have hr : rowT op = (0, 0, 0, false) := by simp [rowT, *]
        have hs : shapedM np l r n op a b = false := by unfold shapedM; rw [hr]; rfl
        rw [hs]
        split
        · refine call_gives (Below.refl _ _) (fun w2 _ hb => gives28 (hp.keep hb) _ _ _) fun w2 _ hb2 => ⟨_, rfl, ?_⟩
          rw [if_neg (by unfold popsM; rw [hr]; simp)]
          exact ret_is hb2 rfl
        · exact ret_is (Below.refl _ _) rfl
    all_goals
      have hn2 := hn.trans (Bool.and_comm _ _)
      cases none7 with
      | false =>
        rw [if_neg (by simp)]
        exact ret_is (Below.refl _ _) (congrArg Value.bool (show false = (b == 0 && a == 0) from hn2))
      | true =>
        rw [if_pos rfl]
        refine call_gives (Below.refl _ _) (fun w2 _ hb => gives28 (hp.keep hb) _ _ _) fun w2 _ hb2 => ⟨_, rfl, ?_⟩
        rw [if_pos (by simp [popsM, rowT])]
        exact call_gives hb2 (fun w3 _ _ => gives30 _ _ _ w3) fun w3 _ hb3 => ⟨_, rfl, ret_is hb3 (congrArg Value.bool (show true = (b == 0 && a == 0) from hn2))⟩
  by_cases ha : a = 0
  · rw [if_pos (by simpa using ha)]
    exact main _ (by simp [ha])
  · rw [if_neg (by simpa using ha)]
    exact main _ (by simp [ha])
end Go.Proofs.YtofblkmibghmbaaDoor.P17
