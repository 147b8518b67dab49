/-
  Layer 23: whatever the input, CallAll returns true, and the input reads as it did; the card, tied.
  Conditions: none beyond the row's own.
-/
import Derived.Test.YtofblkmibghmbaaDoorZR23
import Derived.Test.YtofblkmibghmbaaDoorZH23
import Derived.Test.YtofblkmibghmbaaDoorZInit
import Derived.Test.YtofblkmibghmbaaDoorCards
set_option maxRecDepth 100000
set_option linter.unusedVariables false
namespace Go.Proofs.YtofblkmibghmbaaDoor
open Go.ChangeShapes Go.WideShapes Go.ChangeAt Go.RowKit
namespace callAll
theorem lifted (os : Os) (started : os.Started) (H : Type) (enc : TypeId × Value → H) :
    ReturnsInHanded {} Tryd.checked os 11 .any (fun w args => (Rows.callAllSpec.pre enc Tryd.prog Tryd.f11 Rows.callAllRow.domain false w args ∧ laidMetH Tryd.prog Rows.callAllRow.laid w) ∧ sizedMet enc Tryd.prog Tryd.f11 (OpenSpec.ofChange Rows.callAllSpec) false w args)
      (Rows.callAllSpec.post enc Tryd.prog Tryd.f11 false true false false) := by
  refine handed_and_shaped (C := Tryd.checked) (X := fun w _ => laidMetH Tryd.prog Rows.callAllRow.laid w) (fun _ _ _ hh h => h.of_heap hh) own2 started (by kernel_rfl) Tryd.func11
    (ChangeSpec.witness_shaped (enc := enc) (C := Tryd.checked) (os := os) (X := fun w _ => laidMetH Tryd.prog Rows.callAllRow.laid w) false (World.laidAll Tryd.prog os Rows.callAllRow.laid) #[.agg ⟨[.int .i64 0, .int .i64 0, .int .i64 0]⟩, .string ⟨#[]⟩] 8 (World.laidAll_os _ _ _)
      (World.shaped_of_ZipB (by kernel_rfl) (by kernel_rfl)) (by kernel_rfl) (by kernel_rfl) (by kernel_rfl)
      (by rw [MakeChecks.laidMetH_plain _ _ _ (by kernel_rfl)]; exact laidMet_laidAll _ (by kernel_rfl) (by kernel_rfl))) ?_
  intro W base args ds gs before hval0 hW hc _ hL hsh _
  have hval : ∀ (j : Nat) t v, Tryd.f11.params[j]? = some t → args[j]? = some v → Value.okWide Tryd.prog W .any base t v := hval0
  have hW' := hW
  obtain ⟨p, q, hA0, hV, rfl, hfz, hnd⟩ := hW
  have hA : DataW.TrodAll enc Tryd.prog W 0 (fun _ => true) true Tryd.f11.params.toList args.toList ds p := hA0
  rw [Tryd.params11] at hA hval
  obtain ⟨v0, vs0, d0, ds0, p0, q0, hargs, rfl, rfl, h0, r0⟩ := trodAll_cons hA
  obtain ⟨v1, vs1, d1, ds1, p1, q1, rfl, rfl, rfl, h1, r1⟩ := trodAll_cons r0
  obtain ⟨rfl, rfl, rfl⟩ := trodAll_nil r1
  obtain rfl : args = #[v0, v1] := by cases args; simp_all
  obtain ⟨rfl, rfl⟩ := trodVars_none hV
  obtain ⟨c0, rfl, s0⟩ := okWide_struct Tryd.underlying40 (hval 0 40 v0 rfl rfl)
  obtain ⟨x1, rfl, rfl, rfl, wx1⟩ := Go.ChangeMaps.open_string (t := 9) (by kernel_rfl) (hval 1 9 v1 rfl rfl) h1
  have lt : ∀ {t : TypeId} {v : Value} {d : DataW H} {ps : List MemPlace}, DataW.Trod enc Tryd.prog W 0 (fun _ => true) true t v d ps → ∀ x ∈ ps, x.block < W.heap.size := fun h => by obtain ⟨m, hm⟩ := h; exact DataW.trod_lt m _ _ _ hm
  have k0 := h0
  obtain ⟨_, m0⟩ := h0
  obtain ⟨cl0, e0, oc0⟩ := read_call m0
  obtain rfl : c0 = ⟨[.int .i64 cl0.k, .int .i64 cl0.a, .int .i64 cl0.b]⟩ := Array.toList_inj.1 e0
  have hl : Libs W := libs_of hL hsh
  refine (gives11 hl oc0 x1).mono fun e W' ⟨he, bel⟩ => ?_
  subst he
  exact ⟨_, rfl, _, _, _, [], _, [], hW', trodAll_mk1 (shut_bool Tryd.underlying4 _), (trodAll_cons_mk (Below.trod laidOut2 (by kernel_rfl) (of_decide_eq_true (by kernel_rfl)) k0 bel (lt k0)) (trodAll_cons_mk (Go.ChangeMaps.shut_string (t := 9) (by kernel_rfl) wx1) trodAll_mk0)), rfl, bel.frame _, fun h => by cases h⟩
end callAll
theorem joined11 : joinedFacts Tryd.prog 11 Tryd.f11 Rows.callAllSpec Rows.callAllRow = true := by
  unfold joinedFacts
  rw [mayEnter_ok, liftsFinal_ok, make_ok]
  kernel_rfl
theorem callAll.over : Rows.callAllRow.holds Tryd.pinned (OpenSpec.ofChange Rows.callAllSpec) :=
  OpenClaim.holds_of_wide 11 Tryd.f11 rfl rfl rfl rfl rfl rfl rfl ⟨rfl, rfl, rfl, rfl, rfl⟩ rfl rfl rfl rfl rfl (by kernel_rfl) Tryd.func11 joined11
    (of_decide_eq_true (by kernel_rfl)) (by unfold Func.isWrapper; first | (rw [if_pos (by decide +kernel)]; kernel_rfl) | (rw [if_neg (by decide +kernel)]; exact ⟨rfl, rfl⟩))
    (fun os started H enc _ => callAll.lifted os started H enc)
theorem callAll_holds : Rows.CallAllCardSaid :=
  Claim7.holds_tied_plain_at .later [] [.data, .data, .data, .data, .sentinel, .sentinel, .pinned] true (true, "58bf5c44c4dbb43c54201ce7946c7322bca203efa5a3678ed560caef1114c237") true
    callAll.over (fun _ h => by cases h) (by kernel_rfl) (fun _ h => by cases h) callAll_row_tie rfl ⟨rfl, rfl⟩ (by kernel_rfl) rfl
    (fun f fn hf hfn => by
      obtain rfl : f = 11 := Option.some.inj ((show Tryd.prog.funcNamed "rickyard/rickyardlaw23.CallAll" = some 11 by kernel_rfl).symm.trans hf) |>.symm
      obtain rfl : fn = Tryd.f11 := (Option.some.inj (Tryd.func11.symm.trans hfn)).symm
      exact ⟨by kernel_rfl, fun j t ht => by
        rw [Tryd.params11] at ht
        have hm : t ∈ [40, 9] := by simpa using Array.mem_of_getElem? ht
        have hall : ([40, 9].all fun u => !Tryd.prog.wantsStandIn u) = true := by kernel_rfl
        exact (show Tryd.prog.wantsStandIn t = false by simpa using List.all_eq_true.1 hall t hm)⟩)
    (by kernel_rfl)
end Go.Proofs.YtofblkmibghmbaaDoor
