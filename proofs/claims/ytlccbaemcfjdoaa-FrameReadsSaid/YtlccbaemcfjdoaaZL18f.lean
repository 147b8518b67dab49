/-
  Layer 18: whatever the input, FrameReads returns true, and the input reads as it did.
  Conditions: none.
-/
import Derived.Test.YtlccbaemcfjdoaaZR18
import Derived.Test.YtlccbaemcfjdoaaZN18g
import Derived.Test.YtlccbaemcfjdoaaZInit
set_option maxRecDepth 100000
set_option linter.unusedVariables false
namespace Go.Proofs.Ytlccbaemcfjdoaa
open Go.ChangeShapes Go.WideShapes Go.ChangeAt Go.RowKit
namespace frameReads
theorem lifted (os : Os) (started : os.Started) (H : Type) (enc : TypeId × Value → H) :
    ReturnsInHanded {} Try.checked os 13 .any (Rows.frameReadsSpec.pre6 enc Try.prog Try.f13 Rows.frameReadsRow.domain false) (Rows.frameReadsSpec.post enc Try.prog Try.f13 false true false false) := by
  refine returnsInHanded_of_change (C := Try.checked) own17 started (by kernel_rfl) Try.func13
    (ChangeSpec.witness6 (enc := enc) (C := Try.checked) false ⟨#[], #[.slice none 0 0, .slice none 0 0, .slice none 0 0, .slice none 0 0, .int .i64 0], []⟩ 8 (by kernel_rfl) (by kernel_rfl) (by kernel_rfl) (by kernel_rfl)) ?_
  intro W base args ds gs before hval0 hW hcnd _
  have hval : ∀ (j : Nat) t v, Try.f13.params[j]? = some t → args[j]? = some v → Value.okWide Try.prog W .any base t v := hval0
  have hW' := hW
  obtain ⟨p, q, hA0, hV, rfl, hfz, hnd⟩ := hW
  have hA : DataW.TrodAll enc Try.prog W 0 (fun _ => true) true Try.f13.params.toList args.toList ds p := hA0
  rw [Try.params13] at hA hval
  obtain ⟨v0, vs0, d0, ds0, p0, q0, hargs, rfl, rfl, h0, r0⟩ := trodAll_cons hA
  obtain ⟨v1, vs1, d1, ds1, p1, q1, rfl, rfl, rfl, h1, r1⟩ := trodAll_cons r0
  obtain ⟨v2, vs2, d2, ds2, p2, q2, rfl, rfl, rfl, h2, r2⟩ := trodAll_cons r1
  obtain ⟨v3, vs3, d3, ds3, p3, q3, rfl, rfl, rfl, h3, r3⟩ := trodAll_cons r2
  obtain ⟨v4, vs4, d4, ds4, p4, q4, rfl, rfl, rfl, h4, r4⟩ := trodAll_cons r3
  obtain ⟨rfl, rfl, rfl⟩ := trodAll_nil r4
  obtain rfl : args = #[v0, v1, v2, v3, v4] := by cases args; simp_all
  obtain ⟨rfl, rfl⟩ := trodVars_none hV
  obtain ⟨a0, l0, cap0, rfl⟩ := okWide_slice (e := 5) (by kernel_rfl) (hval 0 35 v0 rfl rfl)
  obtain ⟨a1, l1, cap1, rfl⟩ := okWide_slice (e := 5) (by kernel_rfl) (hval 1 35 v1 rfl rfl)
  obtain ⟨a2, l2, cap2, rfl⟩ := okWide_slice (e := 51) (by kernel_rfl) (hval 2 50 v2 rfl rfl)
  obtain ⟨a3, l3, cap3, rfl⟩ := okWide_slice (e := 5) (by kernel_rfl) (hval 3 35 v3 rfl rfl)
  obtain ⟨x4, rfl, rfl, rfl, wx4⟩ := open_int Try.underlying3 (hval 4 3 v4 rfl rfl) h4
  have lt : ∀ {t : TypeId} {v : Value} {d : DataW H} {ps : List MemPlace}, DataW.Trod enc Try.prog W 0 (fun _ => true) true t v d ps → ∀ x ∈ ps, x.block < W.heap.size := fun h => by obtain ⟨m, hm⟩ := h; exact DataW.trod_lt m _ _ _ hm
  have k0 := h0
  obtain ⟨_, m0⟩ := h0
  obtain ⟨_, _, _, xs0, e0, hb0⟩ := read_bytes m0
  cases e0
  have k1 := h1
  obtain ⟨_, m1⟩ := h1
  obtain ⟨_, _, _, xs1, e1, hb1⟩ := read_bytes m1
  cases e1
  have k2 := h2
  obtain ⟨_, m2⟩ := h2
  obtain ⟨_, _, xs2, e2, hws2, hwd2⟩ := read_words m2
  cases e2
  have k3 := h3
  obtain ⟨_, m3⟩ := h3
  obtain ⟨_, _, _, xs3, e3, hb3⟩ := read_bytes m3
  cases e3
  refine (gives13 hb0 hb1 hws2 hwd2 hb3 x4).mono fun e W' ⟨he, bel⟩ => ?_
  subst he
  exact ⟨_, rfl, _, _, _, [], _, [], hW', trodAll_mk1 (shut_bool Try.underlying4 _), (trodAll_cons_mk (Below.trod laidOut17 (by kernel_rfl) (of_decide_eq_true (by kernel_rfl)) k0 bel (lt k0)) (trodAll_cons_mk (Below.trod laidOut17 (by kernel_rfl) (of_decide_eq_true (by kernel_rfl)) k1 bel (lt k1)) (trodAll_cons_mk (Below.trod laidOut17 (by kernel_rfl) (of_decide_eq_true (by kernel_rfl)) k2 bel (lt k2)) (trodAll_cons_mk (Below.trod laidOut17 (by kernel_rfl) (of_decide_eq_true (by kernel_rfl)) k3 bel (lt k3)) (trodAll_cons_mk (shut_int Try.underlying3 wx4) trodAll_mk0))))), rfl, bel.frame _, fun h => by cases h⟩
end frameReads
theorem joined13 : joinedFacts Try.prog 13 Try.f13 Rows.frameReadsSpec Rows.frameReadsRow = true := by
  unfold joinedFacts
  rw [mayEnter_ok, liftsFinal_ok, make_ok]
  kernel_rfl
theorem frameReads.over : Rows.frameReadsRow.holds Try.pinned (OpenSpec.ofChange Rows.frameReadsSpec) :=
  OpenClaim.holds_of_wide 13 Try.f13 rfl rfl rfl rfl rfl rfl rfl ⟨rfl, rfl, rfl, rfl, rfl⟩ rfl rfl rfl rfl rfl (by kernel_rfl) Try.func13 joined13
    (of_decide_eq_true (by kernel_rfl)) (by unfold Func.isWrapper; first | (rw [if_pos (by decide +kernel)]; kernel_rfl) | (rw [if_neg (by decide +kernel)]; exact ⟨rfl, rfl⟩))
    (fun os started H enc _ => frameReads.lifted os started H enc)
theorem frameReads_holds : Rows.FrameReadsSaid := frameReads.over
end Go.Proofs.Ytlccbaemcfjdoaa
