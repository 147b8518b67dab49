/-
  Layer 19: whatever the input, MoveFixes returns true, and the input reads as it did.
  Conditions: none.
-/
import Derived.Test.YtlccbaemcfjdoaaZR18
import Derived.Test.YtlccbaemcfjdoaaZN19b
import Derived.Test.YtlccbaemcfjdoaaZInit
set_option maxRecDepth 100000
set_option linter.unusedVariables false
namespace Go.Proofs.Ytlccbaemcfjdoaa
open Go.ChangeShapes Go.WideShapes Go.ChangeAt Go.RowKit
namespace moveFixes
theorem lifted (os : Os) (started : os.Started) (H : Type) (enc : TypeId × Value → H) :
    ReturnsInHanded {} Try.checked os 23 .any (Rows.moveFixesSpec.pre6 enc Try.prog Try.f23 Rows.moveFixesRow.domain false) (Rows.moveFixesSpec.post enc Try.prog Try.f23 false true false false) := by
  refine returnsInHanded_of_change (C := Try.checked) own17 started (by kernel_rfl) Try.func23
    (ChangeSpec.witness6 (enc := enc) (C := Try.checked) false ⟨#[], #[.slice none 0 0, .int .i64 0, .int .i64 0, .int .u64 0], []⟩ 8 (by kernel_rfl) (by kernel_rfl) (by kernel_rfl) (by kernel_rfl)) ?_
  intro W base args ds gs before hval0 hW hcnd _
  have hval : ∀ (j : Nat) t v, Try.f23.params[j]? = some t → args[j]? = some v → Value.okWide Try.prog W .any base t v := hval0
  have hW' := hW
  obtain ⟨p, q, hA0, hV, rfl, hfz, hnd⟩ := hW
  have hA : DataW.TrodAll enc Try.prog W 0 (fun _ => true) true Try.f23.params.toList args.toList ds p := hA0
  rw [Try.params23] at hA hval
  obtain ⟨v0, vs0, d0, ds0, p0, q0, hargs, rfl, rfl, h0, r0⟩ := trodAll_cons hA
  obtain ⟨v1, vs1, d1, ds1, p1, q1, rfl, rfl, rfl, h1, r1⟩ := trodAll_cons r0
  obtain ⟨v2, vs2, d2, ds2, p2, q2, rfl, rfl, rfl, h2, r2⟩ := trodAll_cons r1
  obtain ⟨v3, vs3, d3, ds3, p3, q3, rfl, rfl, rfl, h3, r3⟩ := trodAll_cons r2
  obtain ⟨rfl, rfl, rfl⟩ := trodAll_nil r3
  obtain rfl : args = #[v0, v1, v2, v3] := by cases args; simp_all
  obtain ⟨rfl, rfl⟩ := trodVars_none hV
  obtain ⟨a0, l0, cap0, rfl⟩ := okWide_slice (e := 51) (by kernel_rfl) (hval 0 50 v0 rfl rfl)
  obtain ⟨x1, rfl, rfl, rfl, wx1⟩ := open_int Try.underlying3 (hval 1 3 v1 rfl rfl) h1
  obtain ⟨x2, rfl, rfl, rfl, wx2⟩ := open_int Try.underlying3 (hval 2 3 v2 rfl rfl) h2
  obtain ⟨x3, rfl, rfl, rfl, wx3⟩ := open_int (t := 51) (k := .u64) (by kernel_rfl) (hval 3 51 v3 rfl rfl) h3
  have lt : ∀ {t : TypeId} {v : Value} {d : DataW H} {ps : List MemPlace}, DataW.Trod enc Try.prog W 0 (fun _ => true) true t v d ps → ∀ x ∈ ps, x.block < W.heap.size := fun h => by obtain ⟨m, hm⟩ := h; exact DataW.trod_lt m _ _ _ hm
  have k0 := h0
  obtain ⟨_, m0⟩ := h0
  obtain ⟨_, _, xs0, e0, hws0, hwd0⟩ := read_words m0
  cases e0
  refine (gives23 hws0 hwd0 x1 (i64_bd wx2) (word_bd wx3)).mono fun e W' ⟨he, bel⟩ => ?_
  subst he
  exact ⟨_, rfl, _, _, _, [], _, [], hW', trodAll_mk1 (shut_bool Try.underlying4 _), (trodAll_cons_mk (Below.trod laidOut17 (by kernel_rfl) (of_decide_eq_true (by kernel_rfl)) k0 bel (lt k0)) (trodAll_cons_mk (shut_int Try.underlying3 wx1) (trodAll_cons_mk (shut_int Try.underlying3 wx2) (trodAll_cons_mk (shut_int (t := 51) (k := .u64) (by kernel_rfl) wx3) trodAll_mk0)))), rfl, bel.frame _, fun h => by cases h⟩
end moveFixes
theorem joined23 : joinedFacts Try.prog 23 Try.f23 Rows.moveFixesSpec Rows.moveFixesRow = true := by
  unfold joinedFacts
  rw [mayEnter_ok, liftsFinal_ok, make_ok]
  kernel_rfl
theorem moveFixes.over : Rows.moveFixesRow.holds Try.pinned (OpenSpec.ofChange Rows.moveFixesSpec) :=
  OpenClaim.holds_of_wide 23 Try.f23 rfl rfl rfl rfl rfl rfl rfl ⟨rfl, rfl, rfl, rfl, rfl⟩ rfl rfl rfl rfl rfl (by kernel_rfl) Try.func23 joined23
    (of_decide_eq_true (by kernel_rfl)) (by unfold Func.isWrapper; first | (rw [if_pos (by decide +kernel)]; kernel_rfl) | (rw [if_neg (by decide +kernel)]; exact ⟨rfl, rfl⟩))
    (fun os started H enc _ => moveFixes.lifted os started H enc)
theorem moveFixes_holds : Rows.MoveFixesSaid := moveFixes.over
end Go.Proofs.Ytlccbaemcfjdoaa
