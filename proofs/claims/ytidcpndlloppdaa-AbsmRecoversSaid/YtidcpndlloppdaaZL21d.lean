import Derived.Test.YtidcpndlloppdaaZVB
import Derived.Test.YtidcpndlloppdaaZN21e
import Derived.Test.YtidcpndlloppdaaZInit
/-
  Layer 21: whatever the input, AbsmRecovers returns true, and the input reads as it did.
  Conditions: none.
-/
set_option maxRecDepth 100000
set_option linter.unusedVariables false
namespace Go.Proofs.Ytidcpndlloppdaa
open Go.ChangeShapes Go.WideShapes Go.ChangeAt Go.RowKit
namespace absmRecovers
theorem lifted (os : Os) (started : os.Started) (H : Type) (enc : TypeId × Value → H) :
    ReturnsInHanded {} Try.checked os 3 .any (Rows.absmRecoversSpec.pre6 enc Try.prog Try.f3 Rows.absmRecoversRow.domain false) (Rows.absmRecoversSpec.post enc Try.prog Try.f3 false true false false) := by
  refine returnsInHanded_of_change (C := Try.checked) own17 started (by kernel_rfl) Try.func3
    (ChangeSpec.witness6 (enc := enc) (C := Try.checked) false ⟨#[], #[.int .i32 0, .bool false, .int .u8 0], []⟩ 8 (by kernel_rfl) (by kernel_rfl) (by kernel_rfl) (by kernel_rfl)) ?_
  intro W base args ds gs before hval0 hW hcnd _
  have hval : ∀ (j : Nat) t v, Try.f3.params[j]? = some t → args[j]? = some v → Value.okWide Try.prog W .any base t v := hval0
  have hW' := hW
  obtain ⟨p, q, hA0, hV, rfl, hfz, hnd⟩ := hW
  have hA : DataW.TrodAll enc Try.prog W 0 (fun _ => true) true Try.f3.params.toList args.toList ds p := hA0
  rw [Try.params3] at hA hval
  obtain ⟨v0, vs0, d0, ds0, p0, q0, hargs, rfl, rfl, h0, r0⟩ := trodAll_cons hA
  obtain ⟨v1, vs1, d1, ds1, p1, q1, rfl, rfl, rfl, h1, r1⟩ := trodAll_cons r0
  obtain ⟨v2, vs2, d2, ds2, p2, q2, rfl, rfl, rfl, h2, r2⟩ := trodAll_cons r1
  obtain ⟨rfl, rfl, rfl⟩ := trodAll_nil r2
  obtain rfl : args = #[v0, v1, v2] := by cases args; simp_all
  obtain ⟨rfl, rfl⟩ := trodVars_none hV
  obtain ⟨x0, rfl, rfl, rfl, wx0⟩ := open_int (t := 21) (k := .i32) (by kernel_rfl) (hval 0 21 v0 rfl rfl) h0
  obtain ⟨x1, rfl, rfl, rfl⟩ := open_bool Try.underlying4 (hval 1 4 v1 rfl rfl) h1
  obtain ⟨x2, rfl, rfl, rfl, wx2⟩ := open_int Try.underlying5 (hval 2 5 v2 rfl rfl) h2
  have lt : ∀ {t : TypeId} {v : Value} {d : DataW H} {ps : List MemPlace}, DataW.Trod enc Try.prog W 0 (fun _ => true) true t v d ps → ∀ x ∈ ps, x.block < W.heap.size := fun h => by obtain ⟨m, hm⟩ := h; exact DataW.trod_lt m _ _ _ hm
  refine (gives3 (i32_bd wx0) x1 (byte_bd wx2)).mono fun e W' ⟨he, bel⟩ => ?_
  subst he
  exact ⟨_, rfl, _, _, _, [], _, [], hW', trodAll_mk1 (shut_bool Try.underlying4 _), (trodAll_cons_mk (shut_int (t := 21) (k := .i32) (by kernel_rfl) wx0) (trodAll_cons_mk (shut_bool Try.underlying4 x1) (trodAll_cons_mk (shut_int Try.underlying5 wx2) trodAll_mk0))), rfl, bel.frame _, fun h => by cases h⟩
end absmRecovers
theorem joined3 : joinedFacts Try.prog 3 Try.f3 Rows.absmRecoversSpec Rows.absmRecoversRow = true := by
  unfold joinedFacts
  rw [mayEnter_ok, liftsFinal_ok, make_ok]
  kernel_rfl
theorem absmRecovers.over : Rows.absmRecoversRow.holds Try.pinned (OpenSpec.ofChange Rows.absmRecoversSpec) :=
  OpenClaim.holds_of_wide 3 Try.f3 rfl rfl rfl rfl rfl rfl rfl ⟨rfl, rfl, rfl, rfl, rfl⟩ rfl rfl rfl rfl rfl (by kernel_rfl) Try.func3 joined3
    (of_decide_eq_true (by kernel_rfl)) (by unfold Func.isWrapper; first | (rw [if_pos (by decide +kernel)]; kernel_rfl) | (rw [if_neg (by decide +kernel)]; exact ⟨rfl, rfl⟩))
    (fun os started H enc _ => absmRecovers.lifted os started H enc)
theorem absmRecovers_holds : Rows.AbsmRecoversSaid := absmRecovers.over
end Go.Proofs.Ytidcpndlloppdaa
