import Derived.Test.YtidcpndlloppdaaRows
import Derived.Test.YtidcpndlloppdaaZK17
import Derived.Test.YtidcpndlloppdaaZEngD
import Derived.WalkKit
import Derived.ProofKit
import Derived.OpenShut
import Derived.ChangeOld
import Derived.Below
import Derived.SizedLaws
import Derived.Test.YtidcpndlloppdaaZVA
import Derived.Test.YtidcpndlloppdaaZEngC
import Derived.Test.YtidcpndlloppdaaProg
/-
  Layer 21: what the arguments' memory says, read as programs.
  Conditions: none.
-/
set_option linter.unusedVariables false
set_option linter.unusedSimpArgs false
set_option maxRecDepth 100000
namespace Go.Proofs.Ytidcpndlloppdaa
open Go.ChangeShapes Go.WideShapes Go.ChangeAt Go.RowKit
theorem own17 : ownKnob Try.prog.godebug = none := by kernel_rfl
theorem laidOut17 : laidOutB Try.prog = true := by kernel_rfl
section
variable {H : Type} {enc : TypeId × Value → H} {w : World} {base : Nat} {spare : Nat → Bool} {held : Bool} {fuel : Nat}
theorem choose_list {α : Type} {n : Nat} {R : Nat → α → Prop} (h : ∀ i, i < n → ∃ x, R i x) : ∃ xs : List α, xs.length = n ∧ ∀ i x, xs[i]? = some x → R i x := by
  induction n with
  | zero => exact ⟨[], rfl, fun i x hx => by simp at hx⟩
  | succ n ih =>
    obtain ⟨xs, hl, hx⟩ := ih fun i hi => h i (by omega)
    obtain ⟨y, hy⟩ := h n (by omega)
    refine ⟨xs ++ [y], by simp [hl], fun i x hi => ?_⟩
    by_cases hin : i < n
    · exact hx i x (by rw [List.getElem?_append_left (by omega)] at hi; exact hi)
    · have := (List.getElem?_eq_some_iff.1 hi).1
      simp [hl] at this
      have hin : i = n := by omega
      subst hin
      rw [List.getElem?_append_right (by omega), hl] at hi
      simp at hi
      subst hi
      exact hy
end
theorem read_bytes {H : Type} {enc : TypeId × Value → H} {w : World} {base : Nat} {spare : Nat → Bool} {held : Bool} {fuel : Nat} {cs : List Value} {x : DataW H × List MemPlace} (h : DataW.trod enc Try.prog w base spare held fuel 47 cs = some x) :
    ∃ A l c ns, cs = [.slice A l c] ∧ BytesAt w A l c ns := by
  have c5 : Try.prog.cellsOf 5 = 1 := by kernel_rfl
  rcases DataW.trod_slice (e := 5) (by kernel_rfl) h with ⟨rfl, _⟩ | ⟨a, len, cap, elems, rest, n, _, rfl, _, _, hlc, hm, hl, hel, _⟩
  · exact ⟨none, 0, 0, [], rfl, ⟨rfl, Nat.zero_le _, fun i x h => by simp at h⟩, fun n h => by (cases h), Nat.le_refl _⟩
  · obtain ⟨xs, hxl, hx⟩ := choose_list (n := len) (R := fun i (x : Int) => NumE .u8 w (a.add (i * 1)) x ∧ 0 ≤ x ∧ x < 256) fun i hi => by
      obtain ⟨y, hy⟩ : ∃ y, elems[i]? = some y := ⟨_, List.getElem?_eq_getElem (by rw [hl]; exact hi)⟩
      have := (hel i hi).trans hy
      rw [c5, Option.bind_eq_some_iff] at this
      obtain ⟨c, hc, ht⟩ := this
      obtain ⟨n, rfl, _, wn⟩ := DataW.trod_int Try.underlying5 ht
      have hn : 0 ≤ n ∧ n < 256 := by
        simp [Lit.wf, IntKind.min, IntKind.max, IntKind.bits, IntKind.signed] at wn
        omega
      exact ⟨n, cell_of_cells?_one hc, hn⟩
    refine ⟨some a, len, cap, xs, rfl, ⟨hxl, Nat.le_trans hlc hm, fun i x hi => ⟨a, rfl, (hx i x hi).1⟩⟩, fun n hn => ?_, hlc⟩
    obtain ⟨i, hi⟩ := List.mem_iff_getElem?.1 hn
    exact (hx i n hi).2
end Go.Proofs.Ytidcpndlloppdaa

/-
  What the engine makes of the loaded functions 18, 38: conditions under which a call returns as told, and proofs of that.
  Conditions: none. Printed by a program of this project.
-/
set_option linter.unusedVariables false
set_option maxRecDepth 100000
namespace Go.Proofs.Ytidcpndlloppdaa
def V38.vc (B : Nat) (R : Value → World → Prop) (a : Option Addr) (c d : Nat) (w : World) : Prop :=
  if (Option.isNone a) = true
  then (Ret B w (R (.slice none 0 0)))
  else (Expo B w [] fun f => 
   let g := f.alloc (.cells ⟨[]⟩ 28);
   RunK Try.prog (Builtin.append_ #[49, 49] 49 ⟨[.slice (some ⟨f.heap.size, 0, none⟩) 0 0, .slice a c d]⟩) B g [] fun v i => 
   ∃ (j : Option Addr) (l m : Nat), v = .slice j l m ∧
   Ret B i (R (.slice j l m)))
noncomputable def V38.cfg (B : Nat) : Cfg := ⟨Try.prog, ⟨8, B⟩, [], hasN [], hasN [], look []⟩
noncomputable def V38.code : Code := (Try.f38.body).getD .skip
noncomputable def V38.cuts (B : Nat) (R : Value → World → Prop) : Nat → Cut := nthC []
noncomputable def V38.h : H := .s (.z) (.s (.s (.z) (.c (.s (.z) (.z)) (.z))) (.s (.z) (.z)))
theorem V38.vc_eq (B : Nat) (R : Value → World → Prop) (a : Option Addr) (c d : Nat) (w : World) : wpf (V38.cfg B) (V38.cuts B R) V38.code V38.h [] (postOf Try.prog B (Try.f38.results.toList) R) (argE 0 [.slice a c d]) [] w = V38.vc B R a c d w := by kernel_rfl
theorem V38.obl (B : Nat) (R : Value → World → Prop) : oblP (V38.cfg B) (V38.cuts B R) V38.code V38.h [] (postOf Try.prog B (Try.f38.results.toList) R) := by
  have e : oblP (V38.cfg B) (V38.cuts B R) V38.code V38.h [] (postOf Try.prog B (Try.f38.results.toList) R) = (True ∧ ((True ∧ ((True ∧ True) ∧ True)) ∧ (True ∧ True))) := by kernel_rfl
  exact e.mpr (⟨trivial, ⟨⟨trivial, ⟨⟨trivial, trivial⟩, trivial⟩⟩, ⟨trivial, trivial⟩⟩⟩)
theorem V38.cfgOk (B : Nat) : CfgOk (V38.cfg B) := cfgOk_of (by kernel_rfl) (by kernel_rfl) extNil
theorem V38.sound {a : Option Addr} {d f : Nat} {w : World} {R : Value → World → Prop} (h : V38.vc w.heap.size R a d f w) : Calls Try.prog 38 ⟨[.slice a d f]⟩ w fun e w' => ∃ v, e = .returned v ∧ R v w' :=
  calls_wpfP (c := V38.cfg w.heap.size) (fn := Try.f38) (x := V38.code) (V38.cuts w.heap.size R) V38.h (V38.cfgOk _) mixed Try.func38 (by kernel_rfl) (by kernel_rfl) (by kernel_rfl) rfl (V38.obl _ _) ((V38.vc_eq _ _ a d f _).symm ▸ h)
end Go.Proofs.Ytidcpndlloppdaa

/-
  What the engine makes of the loaded functions 29, 47, 48: conditions under which a call returns as told, and proofs of that.
  Conditions: none. Printed by a program of this project.
-/
set_option linter.unusedVariables false
set_option maxRecDepth 100000
namespace Go.Proofs.Ytidcpndlloppdaa
end Go.Proofs.Ytidcpndlloppdaa
