import Derived.Test.YtidcpndlloppdaaGreatDoorZM17
import Derived.Test.YtidcpndlloppdaaGreatDoorZInit
import Derived.Test.YtidcpndlloppdaaGreatDoorCards
/-
  Layer 29: whatever the input, TraceAgrees returns true, and the input reads as it did; the card, tied.
  Conditions: none beyond the row's own.
-/
set_option maxRecDepth 100000
set_option linter.unusedVariables false
namespace Go.Proofs.YtidcpndlloppdaaGreatDoor
open Go.ChangeShapes Go.WideShapes Go.ChangeAt Go.RowKit
namespace traceAgrees
theorem lifted (os : Os) (started : os.Started) (H : Type) (enc : TypeId × Value → H) :
    ReturnsInHanded {} Tryz.checked os 4 .any (fun w args => (Rows.traceAgreesSpec.pre enc Tryz.prog Tryz.f4 Rows.traceAgreesRow.domain false w args ∧ laidMetH Tryz.prog Rows.traceAgreesRow.laid w) ∧ sizedMet enc Tryz.prog Tryz.f4 (OpenSpec.ofChange Rows.traceAgreesSpec) false w args)
      (Rows.traceAgreesSpec.post enc Tryz.prog Tryz.f4 false true false false) := by
  refine returnsInHanded_of_change_and (C := Tryz.checked) (X := fun w _ => laidMetH Tryz.prog Rows.traceAgreesRow.laid w) (fun _ _ _ hh h => h.of_heap hh) own2 started (by kernel_rfl) Tryz.func4
    (ChangeSpec.witness_shaped (enc := enc) (C := Tryz.checked) (os := os) (X := fun w _ => laidMetH Tryz.prog Rows.traceAgreesRow.laid w) false (World.laidAll Tryz.prog os Rows.traceAgreesRow.laid) #[.agg ⟨[.slice none 0 0]⟩, .int .i64 0, .int .u16 0, .int .u16 0, .int .u8 0, .slice none 0 0, .int .u8 0] 8 (World.laidAll_os _ _ _)
      (World.shaped_of_ZipB (by kernel_rfl) (by kernel_rfl)) (by kernel_rfl) (by kernel_rfl) (by kernel_rfl)
      (by rw [MakeChecks.laidMetH_plain _ _ _ (by kernel_rfl)]; exact laidMet_laidAll _ (by kernel_rfl) (by kernel_rfl))) ?_
  intro W base args ds gs before hval0 hW hc _ hL _
  have hval : ∀ (j : Nat) t v, Tryz.f4.params[j]? = some t → args[j]? = some v → Value.okWide Tryz.prog W .any base t v := hval0
  have hW' := hW
  obtain ⟨p, q, hA0, hV, rfl, hfz, hnd⟩ := hW
  have hA : DataW.TrodAll enc Tryz.prog W 0 (fun _ => true) true Tryz.f4.params.toList args.toList ds p := hA0
  rw [Tryz.params4] at hA hval
  obtain ⟨v0, vs0, d0, ds0, p0, q0, hargs, rfl, rfl, h0, r0⟩ := trodAll_cons hA
  obtain ⟨v1, vs1, d1, ds1, p1, q1, rfl, rfl, rfl, h1, r1⟩ := trodAll_cons r0
  obtain ⟨v2, vs2, d2, ds2, p2, q2, rfl, rfl, rfl, h2, r2⟩ := trodAll_cons r1
  obtain ⟨v3, vs3, d3, ds3, p3, q3, rfl, rfl, rfl, h3, r3⟩ := trodAll_cons r2
  obtain ⟨v4, vs4, d4, ds4, p4, q4, rfl, rfl, rfl, h4, r4⟩ := trodAll_cons r3
  obtain ⟨v5, vs5, d5, ds5, p5, q5, rfl, rfl, rfl, h5, r5⟩ := trodAll_cons r4
  obtain ⟨v6, vs6, d6, ds6, p6, q6, rfl, rfl, rfl, h6, r6⟩ := trodAll_cons r5
  obtain ⟨rfl, rfl, rfl⟩ := trodAll_nil r6
  obtain rfl : args = #[v0, v1, v2, v3, v4, v5, v6] := by cases args; simp_all
  obtain ⟨rfl, rfl⟩ := trodVars_none hV
  obtain ⟨c0, rfl, s0⟩ := okWide_struct Tryz.underlying24 (hval 0 24 v0 rfl rfl)
  obtain ⟨x1, rfl, rfl, rfl, wx1⟩ := open_int (t := 3) (k := .i64) (by kernel_rfl) (hval 1 3 v1 rfl rfl) h1
  obtain ⟨x2, rfl, rfl, rfl, wx2⟩ := open_int (t := 32) (k := .u16) (by kernel_rfl) (hval 2 32 v2 rfl rfl) h2
  obtain ⟨x3, rfl, rfl, rfl, wx3⟩ := open_int (t := 32) (k := .u16) (by kernel_rfl) (hval 3 32 v3 rfl rfl) h3
  obtain ⟨x4, rfl, rfl, rfl, wx4⟩ := open_int (t := 5) (k := .u8) (by kernel_rfl) (hval 4 5 v4 rfl rfl) h4
  obtain ⟨a5, l5, cap5, rfl⟩ := okWide_slice (e := 41) (by kernel_rfl) (hval 5 27 v5 rfl rfl)
  obtain ⟨x6, rfl, rfl, rfl, wx6⟩ := open_int (t := 5) (k := .u8) (by kernel_rfl) (hval 6 5 v6 rfl rfl) h6
  have lt : ∀ {t : TypeId} {v : Value} {d : DataW H} {ps : List MemPlace}, DataW.Trod enc Tryz.prog W 0 (fun _ => true) true t v d ps → ∀ x ∈ ps, x.block < W.heap.size := fun h => by obtain ⟨m, hm⟩ := h; exact DataW.trod_lt m _ _ _ hm
  have k0 := h0
  obtain ⟨_, m0⟩ := h0
  obtain ⟨P0, pc0, pr0, e0, hP0⟩ := read_prog m0
  obtain rfl : c0 = ⟨[.slice P0 pr0.length pc0]⟩ := Array.toList_inj.1 e0
  have k5 := h5
  obtain ⟨_, m5⟩ := h5
  obtain ⟨_, _, xs5, e5, hm5, ok5⟩ := read_marks m5
  cases e5
  have ht : Tabs W := tabs_of hL
  refine (gives4 ht hP0 x1 (u16_bd wx2) (u16_bd wx3) (byte_bd wx4) (byte_bd wx6) hm5 ok5.1 ok5.2).mono fun e W' ⟨he, bel⟩ => ?_
  subst he
  exact ⟨_, rfl, _, _, _, [], _, [], hW', trodAll_mk1 (shut_bool Tryz.underlying4 _), (trodAll_cons_mk (Below.trod laidOut2 (by kernel_rfl) (of_decide_eq_true (by kernel_rfl)) k0 bel (lt k0)) (trodAll_cons_mk (shut_int (t := 3) (k := .i64) (by kernel_rfl) wx1) (trodAll_cons_mk (shut_int (t := 32) (k := .u16) (by kernel_rfl) wx2) (trodAll_cons_mk (shut_int (t := 32) (k := .u16) (by kernel_rfl) wx3) (trodAll_cons_mk (shut_int (t := 5) (k := .u8) (by kernel_rfl) wx4) (trodAll_cons_mk (Below.trod laidOut2 (by kernel_rfl) (of_decide_eq_true (by kernel_rfl)) k5 bel (lt k5)) (trodAll_cons_mk (shut_int (t := 5) (k := .u8) (by kernel_rfl) wx6) trodAll_mk0))))))), rfl, bel.frame _, fun h => by cases h⟩
end traceAgrees
theorem joined4 : joinedFacts Tryz.prog 4 Tryz.f4 Rows.traceAgreesSpec Rows.traceAgreesRow = true := by
  unfold joinedFacts
  rw [mayEnter_ok, liftsFinal_ok, make_ok]
  kernel_rfl
theorem traceAgrees.over : Rows.traceAgreesRow.holds Tryz.pinned (OpenSpec.ofChange Rows.traceAgreesSpec) :=
  OpenClaim.holds_of_wide 4 Tryz.f4 rfl rfl rfl rfl rfl rfl rfl ⟨rfl, rfl, rfl, rfl, rfl⟩ rfl rfl rfl rfl rfl (by kernel_rfl) Tryz.func4 joined4
    (of_decide_eq_true (by kernel_rfl)) (by unfold Func.isWrapper; first | (rw [if_pos (by decide +kernel)]; kernel_rfl) | (rw [if_neg (by decide +kernel)]; exact ⟨rfl, rfl⟩))
    (fun os started H enc _ => traceAgrees.lifted os started H enc)
theorem traceAgrees_holds : Rows.TraceAgreesCardSaid :=
  Claim7.holds_tied_plain_at .later [] [.data, .data, .data] true (true, "5d4329e7af50def1f8856efa05137222b8f142d4be29453ebec0498046d83e5d") false
    traceAgrees.over (fun _ h => by cases h) (by kernel_rfl) (fun _ h => by cases h) traceAgrees_row_tie rfl ⟨rfl, rfl⟩ (by kernel_rfl) rfl
    (fun f fn hf hfn => by
      obtain rfl : f = 4 := Option.some.inj ((show Tryz.prog.funcNamed "rickyard/rickyardlaw29.TraceAgrees" = some 4 by kernel_rfl).symm.trans hf) |>.symm
      obtain rfl : fn = Tryz.f4 := (Option.some.inj (Tryz.func4.symm.trans hfn)).symm
      exact ⟨by kernel_rfl, fun j t ht => by
        rw [Tryz.params4] at ht
        have hm : t ∈ [24, 3, 32, 32, 5, 27, 5] := by simpa using Array.mem_of_getElem? ht
        have hall : ([24, 3, 32, 32, 5, 27, 5].all fun u => !Tryz.prog.wantsStandIn u) = true := by kernel_rfl
        exact (show Tryz.prog.wantsStandIn t = false by simpa using List.all_eq_true.1 hall t hm)⟩)
    (by kernel_rfl)
end Go.Proofs.YtidcpndlloppdaaGreatDoor
