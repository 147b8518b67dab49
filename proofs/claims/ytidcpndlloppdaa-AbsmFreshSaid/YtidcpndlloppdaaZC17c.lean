import Derived.Test.YtidcpndlloppdaaZK17
import Derived.Test.YtidcpndlloppdaaZVX
/-
  The functions of layer 17 that tell whether a function's numbers and an instruction's fields may be, and which places follow: what their calls return.
  Conditions: the arguments' memory says what their values are.
-/
set_option linter.unusedVariables false
set_option linter.unusedSimpArgs false
namespace Go.Proofs.Ytidcpndlloppdaa
open Go.RowKit
theorem gives79 (a n : Int) (w : World) : Gives Try.prog 79 [.int .i64 a, .int .i64 n] w (.bool (withinM a n)) := by
  refine gives_of (V79.sound ?_)
  unfold V79.vc
  simp only [decide_eq_true_eq]
  split
  · exact ret_is (Below.refl _ _) (congrArg Value.bool (decide_eq_decide.2 (by omega)))
  · exact ret_is (Below.refl _ _) (congrArg Value.bool (decide_eq_false (by omega)).symm)
theorem gives97 (a n : Int) (w : World) : Gives Try.prog 97 [.int .i64 a, .int .i64 n] w (.bool (withinM a n)) := by
  refine gives_of (V97.sound ?_)
  unfold V97.vc
  simp only [decide_eq_true_eq]
  split
  · exact ret_is (Below.refl _ _) (congrArg Value.bool (decide_eq_decide.2 (by omega)))
  · exact ret_is (Below.refl _ _) (congrArg Value.bool (decide_eq_false (by omega)).symm)
theorem gives53 {w : World} {A : Option Addr} {np c : Nat} {pr : List Fnc} (hp : ProgAt w A np pr) (p l r : Int) (A' : Option Addr) (n c' : Nat) (op a b : Int) :
    Gives Try.prog 53 [.agg ⟨[.slice A np c]⟩, .agg ⟨[.int .i64 p, .int .i64 l, .int .i64 r, .slice A' n c']⟩, .agg ⟨[.int .i64 op, .int .i64 a, .int .i64 b]⟩] w (.bool (shapedM np l r n op a b)) := by
  refine gives_of (V53.sound ?_)
  intro q3 _ q4 _ q5 _
  refine call_gives (Below.refl _ _) (fun w1 _ _ => gives78 op w1) fun w1 _ hb => ?_
  refine ⟨_, _, _, _, rfl, ?_⟩
  have body : ∀ X, X = (rowT op).1 → (rowT op).2.2.2 = true → ((rowT op).1 == 7 || b == 0) = true → V53.b0 w.heap.size (IsV w (.bool (shapedM np l r n op a b))) X q5 op a b q4 p l r A' n c' q3 A np c w1 := by
    rintro X rfl h1 h2
    have hs : shapedM np l r n op a b = kindM np l r n (rowT op).1 a b := by unfold shapedM; rw [h1, h2]; rfl
    rw [hs]
    generalize (rowT op).1 = k
    unfold V53.b0 kindM
    simp only [beq_iff_eq, decide_eq_true_eq]
    by_cases k1 : k = 1
    · simp only [k1, if_true]
      split
      · exact ret_is hb (congrArg Value.bool (decide_eq_decide.2 (by omega)))
      · exact ret_is hb (congrArg Value.bool (decide_eq_false (by omega)).symm)
    simp only [k1, if_false]
    by_cases k2 : k = 2
    · simp only [k2, if_true]
      exact call_gives hb (fun w2 _ _ => gives79 _ _ w2) fun w2 _ hb2 => ⟨_, rfl, ret_is hb2 rfl⟩
    simp only [k2, if_false]
    by_cases k3 : k = 3
    · simp only [k3, if_true]
      exact call_gives hb (fun w2 _ _ => gives79 _ _ w2) fun w2 _ hb2 => ⟨_, rfl, ret_is hb2 rfl⟩
    simp only [k3, if_false]
    by_cases k4 : k = 4
    · simp only [k4, if_true]
      exact call_gives hb (fun w2 _ _ => gives79 _ _ w2) fun w2 _ hb2 => ⟨_, rfl, ret_is hb2 rfl⟩
    simp only [k4, if_false]
    by_cases k5 : k = 5
    · simp only [k5, if_true]
      exact call_gives hb (fun w2 _ _ => gives79 _ _ w2) fun w2 _ hb2 => ⟨_, rfl, ret_is hb2 rfl⟩
    simp only [k5, if_false]
    by_cases k6 : k = 6
    · simp only [k6, if_true]
      exact call_gives hb (fun w2 _ _ => gives79 _ _ w2) fun w2 _ hb2 => ⟨_, rfl, ret_is hb2 rfl⟩
    simp only [k6, if_false]
    by_cases k7 : k = 7
    · simp only [k7, if_true]
      refine call_gives hb (fun w2 _ _ => gives79 _ _ w2) fun w2 _ hb2 => ⟨_, rfl, ?_⟩
      split
      · rename_i h; rw [h]
        exact call_gives hb2 (fun w3 _ _ => gives79 _ _ w3) fun w3 _ hb3 => ⟨_, rfl, ret_is hb3 rfl⟩
      · rename_i h
        exact ret_is hb2 (by rw [Bool.eq_false_iff.2 h]; rfl)
    simp only [k7, if_false]
    exact ret_is hb rfl
  cases h1 : (rowT op).2.2.2 with
  | false =>
    rw [if_neg (by simp)]
    exact ret_is hb (by unfold shapedM; rw [h1]; rfl)
  | true =>
    rw [if_pos (by simp)]
    by_cases h7 : (rowT op).1 = 7
    · rw [if_neg (by simpa using h7)]
      exact body _ rfl h1 (by simp [h7])
    · rw [if_pos (by simpa using h7)]
      by_cases hb0 : b = 0
      · rw [if_neg (by simpa using hb0)]
        exact body _ rfl h1 (by simp [hb0])
      · rw [if_pos (by simpa using hb0)]
        exact ret_is hb (by unfold shapedM; simp [h7, hb0])
theorem gives73 {w : World} {A : Option Addr} {np c : Nat} {pr : List Fnc} (hp : ProgAt w A np pr) (p l r : Int) (A' : Option Addr) (n c' : Nat) (op a b : Int) :
    Gives Try.prog 73 [.agg ⟨[.slice A np c]⟩, .agg ⟨[.int .i64 p, .int .i64 l, .int .i64 r, .slice A' n c']⟩, .agg ⟨[.int .i64 op, .int .i64 a, .int .i64 b]⟩] w (.bool (shapedM np l r n op a b)) := by
  refine gives_of (V73.sound ?_)
  intro q3 _ q4 _ q5 _
  have two : ∀ (x y : Int) (v : Bool), (withinM x y && b == 0) = v → CallK Try.prog 97 [.int .i64 x, .int .i64 y] w.heap.size w [q5, q4, q3] fun v1 w_1 => ∃ b37 : Bool, v1 = .bool b37 ∧ if b37 = true then (Ret w.heap.size w_1 (IsV w (.bool v) (.bool (b == 0)))) else (Ret w.heap.size w_1 (IsV w (.bool v) (.bool false))) := by
    intro x y v hv
    refine call_gives (Below.refl _ _) (fun w2 _ _ => gives97 _ _ w2) fun w2 _ hb2 => ⟨_, rfl, ?_⟩
    split
    · rename_i h; exact ret_is hb2 (by rw [← hv, h]; simp)
    · rename_i h; exact ret_is hb2 (by rw [← hv, Bool.eq_false_iff.2 h]; simp)
  have main : ∀ (none7 : Bool), none7 = (a == 0 && b == 0) → V73.b0 w.heap.size (IsV w (.bool (shapedM np l r n op a b))) none7 q5 op a b q4 p l r A' n c' q3 A np c w := by
    intro none7 hn
    rcases op_cases op with h | h | h | h | h | h | h | h | h | h | h | h | h | h | h | h | h | h | h | h | h | h | h | h | h | h | h | hd
    case inl =>
      subst h
      simp only [V73.b0, Int.reduceBEq, if_true, decide_eq_true_eq]
      split
      · split
        · exact ret_is (Below.refl _ _) (congrArg Value.bool (by simp [shapedM, kindM, rowT, *]))
        · exact ret_is (Below.refl _ _) (congrArg Value.bool (by simp [shapedM, kindM, rowT, *]))
      · exact ret_is (Below.refl _ _) (congrArg Value.bool (by simp [shapedM, kindM, rowT]; omega))
    all_goals first
      | subst h
        simp only [V73.b0, V73.b1, V73.b2, V73.b3, V73.b4, V73.b5, Int.reduceBEq, Bool.false_eq_true, if_false, if_true]
        first
          | exact two _ _ _ (by simp [shapedM, kindM, rowT, Bool.and_comm])
          | exact ret_is (Below.refl _ _) (by rw [hn]; simp [shapedM, kindM, rowT, Bool.and_comm])
          | (refine call_gives (Below.refl _ _) (fun w2 _ _ => gives97 _ _ w2) fun w2 _ hb2 => ⟨_, rfl, ?_⟩
             split
             · rename_i h
               exact call_gives hb2 (fun w3 _ _ => gives97 _ _ w3) fun w3 _ hb3 => ⟨_, rfl, ret_is hb3 (by simp [shapedM, kindM, rowT, h])⟩
             · rename_i h
               exact ret_is hb2 (by simp [shapedM, kindM, rowT, h]))
          | skip
      | obtain ⟨h1, h2, h3, h4, h5, h6, h7, h8, h9, h10, h11, h12, h13, h14, h15, h16, h17, h18, h19, h20, h21, h22, h23, h24, h25, h26, h27⟩ := hd
        simp only [V73.b0, V73.b1, V73.b2, V73.b3, V73.b4, V73.b5, beq_iff_eq, *, if_false, if_true, Bool.false_eq_true]
        have hr : rowT op = (0, 0, 0, false) := by simp [rowT, *]
        have hs : shapedM np l r n op a b = false := by unfold shapedM; rw [hr]; rfl
        rw [hs]
        split
        · refine call_gives (Below.refl _ _) (fun w2 _ hb => gives63 (hp.keep hb) _ _ _) fun w2 _ hb2 => ⟨_, rfl, ?_⟩
          rw [if_neg (by unfold popsM; rw [hr]; simp)]
          exact ret_is hb2 rfl
        · exact ret_is (Below.refl _ _) rfl
    all_goals
      have hn2 := hn.trans (Bool.and_comm _ _)
      cases none7 with
      | false =>
        rw [if_neg (by simp)]
        exact ret_is (Below.refl _ _) (congrArg Value.bool (show false = (b == 0 && a == 0) from hn2))
      | true =>
        rw [if_pos rfl]
        refine call_gives (Below.refl _ _) (fun w2 _ hb => gives63 (hp.keep hb) _ _ _) fun w2 _ hb2 => ⟨_, rfl, ?_⟩
        rw [if_pos (by simp [popsM, rowT])]
        exact call_gives hb2 (fun w3 _ _ => gives76 _ _ _ w3) fun w3 _ hb3 => ⟨_, rfl, ret_is hb3 (congrArg Value.bool (show true = (b == 0 && a == 0) from hn2))⟩
  by_cases ha : a = 0
  · rw [if_pos (by simpa using ha)]
    exact main _ (by simp [ha])
  · rw [if_neg (by simpa using ha)]
    exact main _ (by simp [ha])
end Go.Proofs.Ytidcpndlloppdaa

/-
  The function of layer 17 that reckons depths: what its calls return.
  Conditions: the arguments' memory says what their values are; jumps do not go below nought; few numbers are handed.
-/
set_option linter.unusedVariables false
set_option linter.unusedSimpArgs false
namespace Go.Proofs.Ytidcpndlloppdaa
open Go.RowKit
theorem yields77 (at_ : Nat) (op a b : Int) (hat : at_ < maxLen) (w : World) : Yields Try.prog 77 [.int .i64 at_, .agg ⟨[.int .i64 op, .int .i64 a, .int .i64 b]⟩] w (FreshNums (nextM at_ op a) w) := by
  refine yields_of (V77.sound ?_)
  intro q3 _
  have hw1 : IntKind.wrap .i64 ((at_ : Int) + 1) = (at_ : Int) + 1 := by rw [wrap_succ hat (Nat.le_refl _)]; rfl
  have nil : ∀ b7 : Bool, b7 = true → (op = 18 ∨ op = 20) → V77.b0 w.heap.size (IsQ w (FreshNums (nextM at_ op a) w)) at_ op b7 q3 op a b w := by
    intro b7 h1 h2
    unfold V77.b0
    rw [if_pos h1]
    refine ret_q (Below.refl _ _) fun w1 h1 => ⟨_, _, _, rfl, ?_, fun p hp => by cases hp⟩
    have : nextM at_ op a = [] := by unfold nextM; rw [if_pos h2]
    rw [this]
    exact nums_nil _ _
  have rest : ∀ b7 : Bool, b7 = false → ¬ (op = 18 ∨ op = 20) → V77.b0 w.heap.size (IsQ w (FreshNums (nextM at_ op a) w)) at_ op b7 q3 op a b w := by
    intro b7 h1 h2
    unfold V77.b0
    rw [if_neg (by simp [h1]), hw1]
    by_cases h15 : op = 15
    · rw [if_pos (by simpa using h15)]
      have hx : nextM at_ op a = [a] := by unfold nextM; rw [if_neg h2, if_pos h15]
      rw [hx]
      exact expo_alloc (Nat.le_refl _) fun wa w' hs he _ ho => fresh_ret (xs := [a]) (Below.refl _ _) hs he ho (by simp)
    · rw [if_neg (by simpa using h15)]
      by_cases h16 : op = 16
      · rw [if_pos (by simpa using h16)]
        have hx : nextM at_ op a = [a, (at_ : Int) + 1] := by unfold nextM; rw [if_neg h2, if_neg h15, if_pos h16]
        rw [hx]
        exact expo_alloc (Nat.le_refl _) fun wa w' hs he _ ho => fresh_ret (xs := [a, (at_ : Int) + 1]) (Below.refl _ _) hs he ho (by simp)
      · rw [if_neg (by simpa using h16)]
        have hx : nextM at_ op a = [(at_ : Int) + 1] := by unfold nextM; rw [if_neg h2, if_neg h15, if_neg h16]
        rw [hx]
        exact expo_alloc (Nat.le_refl _) fun wa w' hs he _ ho => fresh_ret (xs := [(at_ : Int) + 1]) (Below.refl _ _) hs he ho (by simp)
  by_cases h18 : op = 18
  · rw [if_pos (by simpa using h18)]
    exact nil _ (by simpa using h18) (.inl h18)
  · rw [if_neg (by simpa using h18)]
    by_cases h20 : op = 20
    · exact nil _ (by simpa using h20) (.inr h20)
    · exact rest _ (by simpa using h20) (by simp [h18, h20])
end Go.Proofs.Ytidcpndlloppdaa
