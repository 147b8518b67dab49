/-
  Layer 23: whatever the input, CallRights returns true, and the input reads as it did; the card, tied.
  Conditions: none beyond the row's own.
-/
import Derived.Test.YtofblkmibghmbaaDoorZR23b
import Derived.Test.YtofblkmibghmbaaDoorZInit
import Derived.Test.YtofblkmibghmbaaDoorCards
set_option maxRecDepth 100000
set_option linter.unusedVariables false
namespace Go.Proofs.YtofblkmibghmbaaDoor
open Go.ChangeShapes Go.WideShapes Go.ChangeAt Go.RowKit
namespace callRights
theorem lifted (os : Os) (started : os.Started) (H : Type) (enc : TypeId × Value → H) :
    ReturnsInHanded {} Tryd.checked os 14 .any (fun w args => (Rows.callRightsSpec.pre enc Tryd.prog Tryd.f14 Rows.callRightsRow.domain false w args ∧ laidMetH Tryd.prog Rows.callRightsRow.laid w) ∧ sizedMet enc Tryd.prog Tryd.f14 (OpenSpec.ofChange Rows.callRightsSpec) false w args)
      (Rows.callRightsSpec.post enc Tryd.prog Tryd.f14 false true false false) := by
  refine handed_and_shaped (C := Tryd.checked) (X := fun w _ => laidMetH Tryd.prog Rows.callRightsRow.laid w) (fun _ _ _ hh h => h.of_heap hh) own2 started (by kernel_rfl) Tryd.func14
    (ChangeSpec.witness_shaped (enc := enc) (C := Tryd.checked) (os := os) (X := fun w _ => laidMetH Tryd.prog Rows.callRightsRow.laid w) false (World.laidAll Tryd.prog os Rows.callRightsRow.laid) #[.agg ⟨[.int .i64 0, .int .i64 0, .slice none 0 0, .slice none 0 0]⟩, .slice none 0 0] 8 (World.laidAll_os _ _ _)
      (World.shaped_of_ZipB (by kernel_rfl) (by kernel_rfl)) (by kernel_rfl) (by kernel_rfl) (by kernel_rfl)
      (by rw [MakeChecks.laidMetH_plain _ _ _ (by kernel_rfl)]; exact laidMet_laidAll _ (by kernel_rfl) (by kernel_rfl))) ?_
  intro W base args ds gs before hval0 hW hc _ hL hsh _
  have hval : ∀ (j : Nat) t v, Tryd.f14.params[j]? = some t → args[j]? = some v → Value.okWide Tryd.prog W .any base t v := hval0
  have hW' := hW
  obtain ⟨p, q, hA0, hV, rfl, hfz, hnd⟩ := hW
  have hA : DataW.TrodAll enc Tryd.prog W 0 (fun _ => true) true Tryd.f14.params.toList args.toList ds p := hA0
  rw [Tryd.params14] at hA hval
  obtain ⟨v0, vs0, d0, ds0, p0, q0, hargs, rfl, rfl, h0, r0⟩ := trodAll_cons hA
  obtain ⟨v1, vs1, d1, ds1, p1, q1, rfl, rfl, rfl, h1, r1⟩ := trodAll_cons r0
  obtain ⟨rfl, rfl, rfl⟩ := trodAll_nil r1
  obtain rfl : args = #[v0, v1] := by cases args; simp_all
  obtain ⟨rfl, rfl⟩ := trodVars_none hV
  obtain ⟨c0, rfl, s0⟩ := okWide_struct Tryd.underlying55 (hval 0 55 v0 rfl rfl)
  obtain ⟨a1, l1, cap1, rfl⟩ := okWide_slice (e := 66) (by kernel_rfl) (hval 1 56 v1 rfl rfl)
  have lt : ∀ {t : TypeId} {v : Value} {d : DataW H} {ps : List MemPlace}, DataW.Trod enc Tryd.prog W 0 (fun _ => true) true t v d ps → ∀ x ∈ ps, x.block < W.heap.size := fun h => by obtain ⟨m, hm⟩ := h; exact DataW.trod_lt m _ _ _ hm
  have k0 := h0
  obtain ⟨_, m0⟩ := h0
  obtain ⟨pg0, wk0, P0, pr0, pc0, T0, ts0, tc0, e0, hP0, hT0⟩ := read_setup m0
  obtain rfl : c0 = ⟨[.int .i64 pg0, .int .i64 wk0, .slice P0 pr0.length pc0, .slice T0 ts0.length tc0]⟩ := Array.toList_inj.1 e0
  have k1 := h1
  obtain ⟨_, m1⟩ := h1
  obtain ⟨_, _, xs1, e1, hR1⟩ := read_rows m1
  cases e1
  have hl : Libs W := libs_of hL hsh
  refine (gives14 hl hP0 hT0 hR1 pg0 wk0).mono fun e W' ⟨he, bel⟩ => ?_
  subst he
  exact ⟨_, rfl, _, _, _, [], _, [], hW', trodAll_mk1 (shut_bool Tryd.underlying4 _), (trodAll_cons_mk (Below.trod laidOut2 (by kernel_rfl) (of_decide_eq_true (by kernel_rfl)) k0 bel (lt k0)) (trodAll_cons_mk (Below.trod laidOut2 (by kernel_rfl) (of_decide_eq_true (by kernel_rfl)) k1 bel (lt k1)) trodAll_mk0)), rfl, bel.frame _, fun h => by cases h⟩
end callRights
theorem joined14 : joinedFacts Tryd.prog 14 Tryd.f14 Rows.callRightsSpec Rows.callRightsRow = true := by
  unfold joinedFacts
  rw [mayEnter_ok, liftsFinal_ok, make_ok]
  kernel_rfl
theorem callRights.over : Rows.callRightsRow.holds Tryd.pinned (OpenSpec.ofChange Rows.callRightsSpec) :=
  OpenClaim.holds_of_wide 14 Tryd.f14 rfl rfl rfl rfl rfl rfl rfl ⟨rfl, rfl, rfl, rfl, rfl⟩ rfl rfl rfl rfl rfl (by kernel_rfl) Tryd.func14 joined14
    (of_decide_eq_true (by kernel_rfl)) (by unfold Func.isWrapper; first | (rw [if_pos (by decide +kernel)]; kernel_rfl) | (rw [if_neg (by decide +kernel)]; exact ⟨rfl, rfl⟩))
    (fun os started H enc _ => callRights.lifted os started H enc)
theorem callRights_holds : Rows.CallRightsCardSaid :=
  Claim7.holds_tied_plain_at .later [] [.data, .data, .data, .data, .sentinel, .sentinel, .pinned] true (true, "58bf5c44c4dbb43c54201ce7946c7322bca203efa5a3678ed560caef1114c237") true
    callRights.over (fun _ h => by cases h) (by kernel_rfl) (fun _ h => by cases h) callRights_row_tie rfl ⟨rfl, rfl⟩ (by kernel_rfl) rfl
    (fun f fn hf hfn => by
      obtain rfl : f = 14 := Option.some.inj ((show Tryd.prog.funcNamed "rickyard/rickyardlaw23.CallRights" = some 14 by kernel_rfl).symm.trans hf) |>.symm
      obtain rfl : fn = Tryd.f14 := (Option.some.inj (Tryd.func14.symm.trans hfn)).symm
      exact ⟨by kernel_rfl, fun j t ht => by
        rw [Tryd.params14] at ht
        have hm : t ∈ [55, 56] := by simpa using Array.mem_of_getElem? ht
        have hall : ([55, 56].all fun u => !Tryd.prog.wantsStandIn u) = true := by kernel_rfl
        exact (show Tryd.prog.wantsStandIn t = false by simpa using List.all_eq_true.1 hall t hm)⟩)
    (by kernel_rfl)
end Go.Proofs.YtofblkmibghmbaaDoor
