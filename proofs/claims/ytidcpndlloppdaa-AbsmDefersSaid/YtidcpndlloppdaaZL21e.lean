import Derived.Test.YtidcpndlloppdaaZWB
import Derived.Test.YtidcpndlloppdaaZN21f
import Derived.Test.YtidcpndlloppdaaZInit
/-
  Layer 21: whatever the input, AbsmDefers returns true, and the input reads as it did.
  Conditions: none.
-/
set_option maxRecDepth 100000
set_option linter.unusedVariables false
namespace Go.Proofs.Ytidcpndlloppdaa
open Go.ChangeShapes Go.WideShapes Go.ChangeAt Go.RowKit
namespace absmDefers
theorem lifted (os : Os) (started : os.Started) (H : Type) (enc : TypeId × Value → H) :
    ReturnsInHanded {} Try.checked os 4 .any (Rows.absmDefersSpec.pre6 enc Try.prog Try.f4 Rows.absmDefersRow.domain false) (Rows.absmDefersSpec.post enc Try.prog Try.f4 false true false false) := by
  refine returnsInHanded_of_change (C := Try.checked) own17 started (by kernel_rfl) Try.func4
    (ChangeSpec.witness6 (enc := enc) (C := Try.checked) false ⟨#[], #[.slice none 0 0, .bool false, .int .i16 0], []⟩ 8 (by kernel_rfl) (by kernel_rfl) (by kernel_rfl) (by kernel_rfl)) ?_
  intro W base args ds gs before hval0 hW hcnd _
  have hval : ∀ (j : Nat) t v, Try.f4.params[j]? = some t → args[j]? = some v → Value.okWide Try.prog W .any base t v := hval0
  have hW' := hW
  obtain ⟨p, q, hA0, hV, rfl, hfz, hnd⟩ := hW
  have hA : DataW.TrodAll enc Try.prog W 0 (fun _ => true) true Try.f4.params.toList args.toList ds p := hA0
  rw [Try.params4] at hA hval
  obtain ⟨v0, vs0, d0, ds0, p0, q0, hargs, rfl, rfl, h0, r0⟩ := trodAll_cons hA
  obtain ⟨v1, vs1, d1, ds1, p1, q1, rfl, rfl, rfl, h1, r1⟩ := trodAll_cons r0
  obtain ⟨v2, vs2, d2, ds2, p2, q2, rfl, rfl, rfl, h2, r2⟩ := trodAll_cons r1
  obtain ⟨rfl, rfl, rfl⟩ := trodAll_nil r2
  obtain rfl : args = #[v0, v1, v2] := by cases args; simp_all
  obtain ⟨rfl, rfl⟩ := trodVars_none hV
  obtain ⟨a0, l0, cap0, rfl⟩ := okWide_slice (e := 44) (by kernel_rfl) (hval 0 42 v0 rfl rfl)
  obtain ⟨x1, rfl, rfl, rfl⟩ := open_bool Try.underlying4 (hval 1 4 v1 rfl rfl) h1
  obtain ⟨x2, rfl, rfl, rfl, wx2⟩ := open_int (t := 43) (k := .i16) (by kernel_rfl) (hval 2 43 v2 rfl rfl) h2
  have lt : ∀ {t : TypeId} {v : Value} {d : DataW H} {ps : List MemPlace}, DataW.Trod enc Try.prog W 0 (fun _ => true) true t v d ps → ∀ x ∈ ps, x.block < W.heap.size := fun h => by obtain ⟨m, hm⟩ := h; exact DataW.trod_lt m _ _ _ hm
  have k0 := h0
  obtain ⟨_, m0⟩ := h0
  obtain ⟨_, _, _, xs0, e0, hb0⟩ := read_i8s m0
  cases e0
  refine (gives4 hb0.nums hb0.byte x1 (i16_bd wx2)).mono fun e W' ⟨he, bel⟩ => ?_
  subst he
  exact ⟨_, rfl, _, _, _, [], _, [], hW', trodAll_mk1 (shut_bool Try.underlying4 _), (trodAll_cons_mk (Below.trod laidOut17 (by kernel_rfl) (of_decide_eq_true (by kernel_rfl)) k0 bel (lt k0)) (trodAll_cons_mk (shut_bool Try.underlying4 x1) (trodAll_cons_mk (shut_int (t := 43) (k := .i16) (by kernel_rfl) wx2) trodAll_mk0))), rfl, bel.frame _, fun h => by cases h⟩
end absmDefers
theorem joined4 : joinedFacts Try.prog 4 Try.f4 Rows.absmDefersSpec Rows.absmDefersRow = true := by
  unfold joinedFacts
  rw [mayEnter_ok, liftsFinal_ok, make_ok]
  kernel_rfl
theorem absmDefers.over : Rows.absmDefersRow.holds Try.pinned (OpenSpec.ofChange Rows.absmDefersSpec) :=
  OpenClaim.holds_of_wide 4 Try.f4 rfl rfl rfl rfl rfl rfl rfl ⟨rfl, rfl, rfl, rfl, rfl⟩ rfl rfl rfl rfl rfl (by kernel_rfl) Try.func4 joined4
    (of_decide_eq_true (by kernel_rfl)) (by unfold Func.isWrapper; first | (rw [if_pos (by decide +kernel)]; kernel_rfl) | (rw [if_neg (by decide +kernel)]; exact ⟨rfl, rfl⟩))
    (fun os started H enc _ => absmDefers.lifted os started H enc)
theorem absmDefers_holds : Rows.AbsmDefersSaid := absmDefers.over
end Go.Proofs.Ytidcpndlloppdaa
