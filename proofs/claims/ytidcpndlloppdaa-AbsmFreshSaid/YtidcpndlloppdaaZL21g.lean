import Derived.Test.YtidcpndlloppdaaZVB
import Derived.Test.YtidcpndlloppdaaZN21h
import Derived.Test.YtidcpndlloppdaaZInit
/-
  Layer 21: whatever the input, AbsmFresh returns true, and the input reads as it did.
  Conditions: none.
-/
set_option maxRecDepth 100000
set_option linter.unusedVariables false
namespace Go.Proofs.Ytidcpndlloppdaa
open Go.ChangeShapes Go.WideShapes Go.ChangeAt Go.RowKit
namespace absmFresh
theorem lifted (os : Os) (started : os.Started) (H : Type) (enc : TypeId × Value → H) :
    ReturnsInHanded {} Try.checked os 5 .any (Rows.absmFreshSpec.pre6 enc Try.prog Try.f5 Rows.absmFreshRow.domain false) (Rows.absmFreshSpec.post enc Try.prog Try.f5 false true false false) := by
  refine returnsInHanded_of_change (C := Try.checked) own17 started (by kernel_rfl) Try.func5
    (ChangeSpec.witness6 (enc := enc) (C := Try.checked) false ⟨#[], #[.slice none 0 0], []⟩ 8 (by kernel_rfl) (by kernel_rfl) (by kernel_rfl) (by kernel_rfl)) ?_
  intro W base args ds gs before hval0 hW hcnd _
  have hval : ∀ (j : Nat) t v, Try.f5.params[j]? = some t → args[j]? = some v → Value.okWide Try.prog W .any base t v := hval0
  have hW' := hW
  obtain ⟨p, q, hA0, hV, rfl, hfz, hnd⟩ := hW
  have hA : DataW.TrodAll enc Try.prog W 0 (fun _ => true) true Try.f5.params.toList args.toList ds p := hA0
  rw [Try.params5] at hA hval
  obtain ⟨v0, vs0, d0, ds0, p0, q0, hargs, rfl, rfl, h0, r0⟩ := trodAll_cons hA
  obtain ⟨rfl, rfl, rfl⟩ := trodAll_nil r0
  obtain rfl : args = #[v0] := by cases args; simp_all
  obtain ⟨rfl, rfl⟩ := trodVars_none hV
  obtain ⟨a0, l0, cap0, rfl⟩ := okWide_slice (e := 5) (by kernel_rfl) (hval 0 47 v0 rfl rfl)
  have lt : ∀ {t : TypeId} {v : Value} {d : DataW H} {ps : List MemPlace}, DataW.Trod enc Try.prog W 0 (fun _ => true) true t v d ps → ∀ x ∈ ps, x.block < W.heap.size := fun h => by obtain ⟨m, hm⟩ := h; exact DataW.trod_lt m _ _ _ hm
  have k0 := h0
  obtain ⟨_, m0⟩ := h0
  obtain ⟨_, _, _, xs0, e0, hb0⟩ := read_bytes m0
  cases e0
  refine (gives5 hb0).mono fun e W' ⟨he, bel⟩ => ?_
  subst he
  exact ⟨_, rfl, _, _, _, [], _, [], hW', trodAll_mk1 (shut_bool Try.underlying4 _), (trodAll_cons_mk (Below.trod laidOut17 (by kernel_rfl) (of_decide_eq_true (by kernel_rfl)) k0 bel (lt k0)) trodAll_mk0), rfl, bel.frame _, fun h => by cases h⟩
end absmFresh
theorem joined5 : joinedFacts Try.prog 5 Try.f5 Rows.absmFreshSpec Rows.absmFreshRow = true := by
  unfold joinedFacts
  rw [mayEnter_ok, liftsFinal_ok, make_ok]
  kernel_rfl
theorem absmFresh.over : Rows.absmFreshRow.holds Try.pinned (OpenSpec.ofChange Rows.absmFreshSpec) :=
  OpenClaim.holds_of_wide 5 Try.f5 rfl rfl rfl rfl rfl rfl rfl ⟨rfl, rfl, rfl, rfl, rfl⟩ rfl rfl rfl rfl rfl (by kernel_rfl) Try.func5 joined5
    (of_decide_eq_true (by kernel_rfl)) (by unfold Func.isWrapper; first | (rw [if_pos (by decide +kernel)]; kernel_rfl) | (rw [if_neg (by decide +kernel)]; exact ⟨rfl, rfl⟩))
    (fun os started H enc _ => absmFresh.lifted os started H enc)
theorem absmFresh_holds : Rows.AbsmFreshSaid := absmFresh.over
end Go.Proofs.Ytidcpndlloppdaa
