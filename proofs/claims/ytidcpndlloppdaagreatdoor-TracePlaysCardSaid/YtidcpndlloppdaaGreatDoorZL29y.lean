import Derived.Test.YtidcpndlloppdaaGreatDoorZVB
import Derived.Test.YtidcpndlloppdaaGreatDoorZInit
import Derived.Test.YtidcpndlloppdaaGreatDoorCards
/-
  Layer 29: whatever the input, TracePlays returns true, and the input reads as it did; the card, tied.
  Conditions: none beyond the row's own.
-/
set_option maxRecDepth 100000
set_option linter.unusedVariables false
namespace Go.Proofs.YtidcpndlloppdaaGreatDoor
open Go.ChangeShapes Go.WideShapes Go.ChangeAt Go.RowKit
namespace tracePlays
theorem lifted (os : Os) (started : os.Started) (H : Type) (enc : TypeId × Value → H) :
    ReturnsInHanded {} Tryz.checked os 3 .any (fun w args => (Rows.tracePlaysSpec.pre enc Tryz.prog Tryz.f3 Rows.tracePlaysRow.domain false w args ∧ laidMetH Tryz.prog Rows.tracePlaysRow.laid w) ∧ sizedMet enc Tryz.prog Tryz.f3 (OpenSpec.ofChange Rows.tracePlaysSpec) false w args)
      (Rows.tracePlaysSpec.post enc Tryz.prog Tryz.f3 false true false false) := by
  refine returnsInHanded_of_change_and (C := Tryz.checked) (X := fun w _ => laidMetH Tryz.prog Rows.tracePlaysRow.laid w) (fun _ _ _ hh h => h.of_heap hh) own2 started (by kernel_rfl) Tryz.func3
    (ChangeSpec.witness_shaped (enc := enc) (C := Tryz.checked) (os := os) (X := fun w _ => laidMetH Tryz.prog Rows.tracePlaysRow.laid w) false (World.laidAll Tryz.prog os Rows.tracePlaysRow.laid) #[.agg ⟨[.slice none 0 0]⟩, .int .i64 0, .int .i64 0] 8 (World.laidAll_os _ _ _)
      (World.shaped_of_ZipB (by kernel_rfl) (by kernel_rfl)) (by kernel_rfl) (by kernel_rfl) (by kernel_rfl)
      (by rw [MakeChecks.laidMetH_plain _ _ _ (by kernel_rfl)]; exact laidMet_laidAll _ (by kernel_rfl) (by kernel_rfl))) ?_
  intro W base args ds gs before hval0 hW hc _ hL _
  have hval : ∀ (j : Nat) t v, Tryz.f3.params[j]? = some t → args[j]? = some v → Value.okWide Tryz.prog W .any base t v := hval0
  have hW' := hW
  obtain ⟨p, q, hA0, hV, rfl, hfz, hnd⟩ := hW
  have hA : DataW.TrodAll enc Tryz.prog W 0 (fun _ => true) true Tryz.f3.params.toList args.toList ds p := hA0
  rw [Tryz.params3] at hA hval
  obtain ⟨v0, vs0, d0, ds0, p0, q0, hargs, rfl, rfl, h0, r0⟩ := trodAll_cons hA
  obtain ⟨v1, vs1, d1, ds1, p1, q1, rfl, rfl, rfl, h1, r1⟩ := trodAll_cons r0
  obtain ⟨v2, vs2, d2, ds2, p2, q2, rfl, rfl, rfl, h2, r2⟩ := trodAll_cons r1
  obtain ⟨rfl, rfl, rfl⟩ := trodAll_nil r2
  obtain rfl : args = #[v0, v1, v2] := by cases args; simp_all
  obtain ⟨rfl, rfl⟩ := trodVars_none hV
  obtain ⟨c0, rfl, s0⟩ := okWide_struct Tryz.underlying24 (hval 0 24 v0 rfl rfl)
  obtain ⟨x1, rfl, rfl, rfl, wx1⟩ := open_int (t := 3) (k := .i64) (by kernel_rfl) (hval 1 3 v1 rfl rfl) h1
  obtain ⟨x2, rfl, rfl, rfl, wx2⟩ := open_int (t := 3) (k := .i64) (by kernel_rfl) (hval 2 3 v2 rfl rfl) h2
  have lt : ∀ {t : TypeId} {v : Value} {d : DataW H} {ps : List MemPlace}, DataW.Trod enc Tryz.prog W 0 (fun _ => true) true t v d ps → ∀ x ∈ ps, x.block < W.heap.size := fun h => by obtain ⟨m, hm⟩ := h; exact DataW.trod_lt m _ _ _ hm
  have k0 := h0
  obtain ⟨_, m0⟩ := h0
  obtain ⟨P0, pc0, pr0, e0, hP0⟩ := read_prog m0
  obtain rfl : c0 = ⟨[.slice P0 pr0.length pc0]⟩ := Array.toList_inj.1 e0
  have ht : Tabs W := tabs_of hL
  refine (gives3 ht hP0 x1 x2 (i64_bd wx2).2).mono fun e W' ⟨he, bel⟩ => ?_
  subst he
  exact ⟨_, rfl, _, _, _, [], _, [], hW', trodAll_mk1 (shut_bool Tryz.underlying4 _), (trodAll_cons_mk (Below.trod laidOut2 (by kernel_rfl) (of_decide_eq_true (by kernel_rfl)) k0 bel (lt k0)) (trodAll_cons_mk (shut_int (t := 3) (k := .i64) (by kernel_rfl) wx1) (trodAll_cons_mk (shut_int (t := 3) (k := .i64) (by kernel_rfl) wx2) trodAll_mk0))), rfl, bel.frame _, fun h => by cases h⟩
end tracePlays
theorem joined3 : joinedFacts Tryz.prog 3 Tryz.f3 Rows.tracePlaysSpec Rows.tracePlaysRow = true := by
  unfold joinedFacts
  rw [mayEnter_ok, liftsFinal_ok, make_ok]
  kernel_rfl
theorem tracePlays.over : Rows.tracePlaysRow.holds Tryz.pinned (OpenSpec.ofChange Rows.tracePlaysSpec) :=
  OpenClaim.holds_of_wide 3 Tryz.f3 rfl rfl rfl rfl rfl rfl rfl ⟨rfl, rfl, rfl, rfl, rfl⟩ rfl rfl rfl rfl rfl (by kernel_rfl) Tryz.func3 joined3
    (of_decide_eq_true (by kernel_rfl)) (by unfold Func.isWrapper; first | (rw [if_pos (by decide +kernel)]; kernel_rfl) | (rw [if_neg (by decide +kernel)]; exact ⟨rfl, rfl⟩))
    (fun os started H enc _ => tracePlays.lifted os started H enc)
theorem tracePlays_holds : Rows.TracePlaysCardSaid :=
  Claim7.holds_tied_plain_at .later [] [.data, .data, .data] true (true, "5d4329e7af50def1f8856efa05137222b8f142d4be29453ebec0498046d83e5d") false
    tracePlays.over (fun _ h => by cases h) (by kernel_rfl) (fun _ h => by cases h) tracePlays_row_tie rfl ⟨rfl, rfl⟩ (by kernel_rfl) rfl
    (fun f fn hf hfn => by
      obtain rfl : f = 3 := Option.some.inj ((show Tryz.prog.funcNamed "rickyard/rickyardlaw29.TracePlays" = some 3 by kernel_rfl).symm.trans hf) |>.symm
      obtain rfl : fn = Tryz.f3 := (Option.some.inj (Tryz.func3.symm.trans hfn)).symm
      exact ⟨by kernel_rfl, fun j t ht => by
        rw [Tryz.params3] at ht
        have hm : t ∈ [24, 3, 3] := by simpa using Array.mem_of_getElem? ht
        have hall : ([24, 3, 3].all fun u => !Tryz.prog.wantsStandIn u) = true := by kernel_rfl
        exact (show Tryz.prog.wantsStandIn t = false by simpa using List.all_eq_true.1 hall t hm)⟩)
    (by kernel_rfl)
end Go.Proofs.YtidcpndlloppdaaGreatDoor
