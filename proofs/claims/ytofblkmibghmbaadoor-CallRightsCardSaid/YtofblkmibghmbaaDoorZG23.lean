/-
  Layer 23: the document's reading; calls by numbers; CallAll, CallBack, CallTexts return true.
  Conditions: the variables of the host's library hold what the program's text lays into them.
-/
import Derived.Test.YtofblkmibghmbaaDoorZE23
set_option linter.unusedVariables false
set_option linter.unusedSimpArgs false
set_option maxRecDepth 100000
namespace Go.Proofs.YtofblkmibghmbaaDoor
open Go.RowKit
section
variable {w0 : World} {s : List UInt8}
variable (hs : s.length ≤ 60)
include hs
end
theorem awake23 : readC [102, 114, 101, 101, 32, 35, 49, 50] = (⟨2, 12, 1⟩, true) ∧ textC ⟨6, 0, 50⟩ = [114, 117, 110, 32, 48, 32, 53, 48] := by
  have e : textC ⟨2, 12, 1⟩ = [102, 114, 101, 101, 32, 35, 49, 50] := by
    have h : Lib.itoa 12 = [49, 50] := by kernel_rfl
    show joinS (wordC 2) [(if (1 : Int) = 0 then 64 else 35) :: Lib.itoa 12] = _
    rw [h]; rfl
  refine ⟨?_, ?_⟩
  · rw [← e]; exact read_text rfl (by unfold I64; dsimp only; omega)
  · have h : Lib.itoa 0 = [48] := by kernel_rfl
    have h2 : Lib.itoa 50 = [53, 48] := by kernel_rfl
    show joinS (wordC 6) [Lib.itoa 0, Lib.itoa 50] = _
    rw [h, h2]; rfl
theorem gives54 {w : World} (hl : Libs w) : Gives Tryd.prog 54 [] w (.bool true) := by
  obtain ⟨t1, t2⟩ := awake23
  refine gives_of (V54.sound ?_)
  unfold V54.vc
  refine call_gives (Below.refl _ _) (fun _ _ h => gives55 (s := [102, 114, 101, 101, 32, 35, 49, 50]) (hl.on h) (by decide)) fun w1 _ h1 => ⟨_, _, _, _, rfl, fun q1 _ => ?_⟩
  rw [t1]
  refine call_gives h1 (fun _ _ h => gives59 (c := ⟨6, 0, 50⟩) (hl.tabs.on h) (by unfold I64; dsimp only; omega)) fun w2 _ h2 => ⟨_, rfl, ?_⟩
  rw [beqs (m := [114, 117, 110, 32, 48, 32, 53, 48]) (x := { data := #[114, 117, 110, 32, 48, 32, 53, 48] }) rfl, decide_eq_true t2, if_pos rfl, if_pos rfl, if_pos (by decide)]
  exact call_gives h2 (fun _ _ h => gives57 ⟨2, 12, 1⟩) fun w3 _ h3 => ⟨_, rfl, ret_is h3 rfl⟩
end Go.Proofs.YtofblkmibghmbaaDoor
