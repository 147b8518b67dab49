/-
  Layer 23: CallAll, CallBack, CallTexts return true.
  Conditions: the variables of the host's library hold what the program's text lays into them.
-/
import Derived.Test.YtofblkmibghmbaaDoorZG23
set_option linter.unusedVariables false
set_option linter.unusedSimpArgs false
set_option maxRecDepth 100000
namespace Go.Proofs.YtofblkmibghmbaaDoor
open Go.RowKit
theorem gives12 {w : World} (hl : Libs w) {c : Cl} (hc : I64 c.a) {kd a b : Int} (hk : 0 ≤ kd ∧ kd < 256) (ha : 0 ≤ a ∧ a < 256) (hb : 0 ≤ b ∧ b < 256) : Gives Tryd.prog 12 [clV c, .int .u8 kd, .int .u8 a, .int .u8 b] w (.bool true) := by
  refine gives_of (V12.sound ?_)
  unfold V12.vc
  intro q4 _
  have be : ∀ x : Int, (x == x) = true := fun x => beq_self_eq_true x
  have hlen : (textC c).length ≤ 60 := by
    by_cases hm : mayC c = true
    · exact text_short hm hc
    · rw [textC, if_neg hm]; simp
  refine call_gives (Below.refl _ _) (fun _ _ h => gives59 (c := c) (hl.tabs.on h) hc) fun w1 _ h1 => ⟨_, rfl, ?_⟩
  refine call_gives h1 (fun _ _ h => gives55 (hl.on h) (by omega)) fun w2 _ h2 => ⟨_, _, _, _, rfl, fun q10 _ => ?_⟩
  refine call_gives h2 (fun _ _ h => gives57 c) fun w3 _ h3 => ⟨_, rfl, ?_⟩
  by_cases hm : mayC c = true
  · rw [hm, if_neg (show ¬ (!true) = true from Bool.false_ne_true), read_text hm hc]
    obtain ⟨hmm, hmr⟩ := made_ok (kd := kd) (n := 6) ha hb (by omega)
    refine call_gives h3 (fun _ _ h => gives61 hk ha hb (by omega)) fun w4 _ h4 => ⟨_, _, _, rfl, fun q12 _ => ?_⟩
    generalize madeC kd a b 6 = m at *
    refine call_gives h4 (fun _ _ h => gives59 (c := m) (hl.tabs.on h) hmr) fun w5 _ h5 => ⟨_, rfl, ?_⟩
    have hml := text_short hmm hmr
    refine call_gives h5 (fun _ _ h => gives55 (hl.on h) (by omega)) fun w6 _ h6 => ⟨_, _, _, _, rfl, fun q13 _ => ?_⟩
    rw [read_text hmm hmr, if_pos rfl, if_pos (by rw [be, be, be]; rfl)]
    refine call_gives h6 (fun _ _ h => gives57 m) fun w7 _ h7 => ⟨_, rfl, ?_⟩
    rw [hmm, if_pos rfl, if_pos rfl, if_pos (by rw [be, be, be]; rfl)]
    exact call_gives h7 (fun _ _ h => gives54 (hl.on h)) fun w8 _ h8 => ⟨_, rfl, ret_is h8 rfl⟩
  · have hm' : mayC c = false := by simpa using hm
    have ht : textC c = [] := by rw [textC, if_neg hm]
    rw [hm', if_pos (show (!false) = true from rfl), ht, read_nil]
    rw [beqs (m := []) (x := { data := #[] }) rfl, decide_eq_true rfl, if_pos rfl, if_pos (show (!noC.2) = true from rfl), if_pos (show ((noC.1.k == 0) && ((noC.1.a == 0) && (noC.1.b == 0))) = true from rfl)]
    exact call_gives h3 (fun _ _ h => gives54 (hl.on h)) fun w8 _ h8 => ⟨_, rfl, ret_is h8 rfl⟩
end Go.Proofs.YtofblkmibghmbaaDoor
