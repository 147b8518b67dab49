/-
  Layer 23: CallAll, CallBack, CallTexts return true.
  Conditions: the variables of the host's library hold what the program's text lays into them.
-/
import Derived.Test.YtofblkmibghmbaaDoorZG23
set_option linter.unusedVariables false
set_option linter.unusedSimpArgs false
set_option maxRecDepth 100000
namespace Go.Proofs.YtofblkmibghmbaaDoor
open Go.RowKit
theorem gives11 {w : World} (hl : Libs w) {c : Cl} (ha : I64 c.a) (s : ByteArray) : Gives Tryd.prog 11 [clV c, .string s] w (.bool true) := by
  refine gives_of (V11.sound ?_)
  unfold V11.vc
  intro q2 _
  obtain ⟨s, rfl⟩ : ∃ l, s = bstr l := ⟨s.data.toList, (bstr_data s).symm⟩
  have bb : ∀ x : Bool, (x == x) = true := fun x => beq_self_eq_true x
  have be : ∀ x : Int, (x == x) = true := fun x => beq_self_eq_true x
  rw [bstr_size]
  by_cases h : s.length > 2000
  · rw [if_pos (by simp; omega)]
    exact call_gives (Below.refl _ _) (fun _ _ h => gives54 (hl.on h)) fun w1 _ h1 => ⟨_, rfl, ret_is h1 rfl⟩
  rw [if_neg (by simp; omega)]
  refine call_gives (Below.refl _ _) (fun _ _ h => gives55 (s := s) (hl.on h) (by omega)) fun w1 _ h1 => ⟨_, _, _, _, rfl, fun q5 _ => ?_⟩
  refine call_gives h1 (fun _ _ h => gives56 s) fun w2 _ h2 => ⟨_, _, _, _, rfl, fun q7 _ => ?_⟩
  refine call_gives h2 (fun _ _ h => gives57 c) fun w3 _ h3 => ⟨_, rfl, ?_⟩
  refine call_gives h3 (fun _ _ h => gives58 c) fun w4 _ h4 => ⟨_, rfl, ?_⟩
  rw [if_pos (bb _)]
  refine call_gives h4 (fun _ _ h => gives59 (c := c) (hl.tabs.on h) ha) fun w5 _ h5 => ⟨_, rfl, ?_⟩
  refine call_gives h5 (fun _ _ h => gives60 (c := c) ha) fun w6 _ h6 => ⟨_, rfl, ?_⟩
  rw [beqs rfl, decide_eq_true rfl, if_pos rfl, if_pos (by rw [be, be, be]; rfl), if_pos (bb _)]
  exact call_gives h6 (fun _ _ h => gives54 (hl.on h)) fun w7 _ h7 => ⟨_, rfl, ret_is h7 rfl⟩
end Go.Proofs.YtofblkmibghmbaaDoor
