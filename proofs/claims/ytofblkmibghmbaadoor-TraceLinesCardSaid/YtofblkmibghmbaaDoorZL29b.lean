/-
  Layer 29: whatever the input, TraceLines returns true, and the input reads as it did; the card, tied.
  Conditions: none beyond the row's own.
-/
import Derived.Test.YtofblkmibghmbaaDoorZRD29
import Derived.Test.YtofblkmibghmbaaDoorZN29
import Derived.Test.YtofblkmibghmbaaDoorZInit
import Derived.Test.YtofblkmibghmbaaDoorCards
set_option maxRecDepth 100000
set_option linter.unusedVariables false
namespace Go.Proofs.YtofblkmibghmbaaDoor
open Go.ChangeShapes Go.WideShapes Go.ChangeAt Go.RowKit
namespace traceLines
theorem lifted (os : Os) (started : os.Started) (H : Type) (enc : TypeId × Value → H) :
    ReturnsInHanded {} Tryd.checked os 17 .any (fun w args => (Rows.traceLinesSpec.pre enc Tryd.prog Tryd.f17 Rows.traceLinesRow.domain false w args ∧ laidMetH Tryd.prog Rows.traceLinesRow.laid w) ∧ sizedMet enc Tryd.prog Tryd.f17 (OpenSpec.ofChange Rows.traceLinesSpec) false w args)
      (Rows.traceLinesSpec.post enc Tryd.prog Tryd.f17 false true false false) := by
  refine returnsInHanded_of_change_and (C := Tryd.checked) (X := fun w _ => laidMetH Tryd.prog Rows.traceLinesRow.laid w) (fun _ _ _ hh h => h.of_heap hh) own2 started (by kernel_rfl) Tryd.func17
    (ChangeSpec.witness_shaped (enc := enc) (C := Tryd.checked) (os := os) (X := fun w _ => laidMetH Tryd.prog Rows.traceLinesRow.laid w) false (World.laidAll Tryd.prog os Rows.traceLinesRow.laid) #[.slice none 0 0, .slice none 0 0, .int .i64 0, .int .u64 0] 8 (World.laidAll_os _ _ _)
      (World.shaped_of_ZipB (by kernel_rfl) (by kernel_rfl)) (by kernel_rfl) (by kernel_rfl) (by kernel_rfl)
      (by rw [MakeChecks.laidMetH_plain _ _ _ (by kernel_rfl)]; exact laidMet_laidAll _ (by kernel_rfl) (by kernel_rfl))) ?_
  intro W base args ds gs before hval0 hW hc _ hL _
  have hval : ∀ (j : Nat) t v, Tryd.f17.params[j]? = some t → args[j]? = some v → Value.okWide Tryd.prog W .any base t v := hval0
  have hW' := hW
  obtain ⟨p, q, hA0, hV, rfl, hfz, hnd⟩ := hW
  have hA : DataW.TrodAll enc Tryd.prog W 0 (fun _ => true) true Tryd.f17.params.toList args.toList ds p := hA0
  rw [Tryd.params17] at hA hval
  obtain ⟨v0, vs0, d0, ds0, p0, q0, hargs, rfl, rfl, h0, r0⟩ := trodAll_cons hA
  obtain ⟨v1, vs1, d1, ds1, p1, q1, rfl, rfl, rfl, h1, r1⟩ := trodAll_cons r0
  obtain ⟨v2, vs2, d2, ds2, p2, q2, rfl, rfl, rfl, h2, r2⟩ := trodAll_cons r1
  obtain ⟨v3, vs3, d3, ds3, p3, q3, rfl, rfl, rfl, h3, r3⟩ := trodAll_cons r2
  obtain ⟨rfl, rfl, rfl⟩ := trodAll_nil r3
  obtain rfl : args = #[v0, v1, v2, v3] := by cases args; simp_all
  obtain ⟨rfl, rfl⟩ := trodVars_none hV
  obtain ⟨a0, l0, cap0, rfl⟩ := okWide_slice (e := 5) (by kernel_rfl) (hval 0 48 v0 rfl rfl)
  obtain ⟨a1, l1, cap1, rfl⟩ := okWide_slice (e := 5) (by kernel_rfl) (hval 1 48 v1 rfl rfl)
  obtain ⟨x2, rfl, rfl, rfl, wx2⟩ := open_int (t := 3) (k := .i64) (by kernel_rfl) (hval 2 3 v2 rfl rfl) h2
  obtain ⟨x3, rfl, rfl, rfl, wx3⟩ := open_int (t := 22) (k := .u64) (by kernel_rfl) (hval 3 22 v3 rfl rfl) h3
  obtain ⟨n3, rfl, hn3⟩ := u64_nat wx3
  have lt : ∀ {t : TypeId} {v : Value} {d : DataW H} {ps : List MemPlace}, DataW.Trod enc Tryd.prog W 0 (fun _ => true) true t v d ps → ∀ x ∈ ps, x.block < W.heap.size := fun h => by obtain ⟨m, hm⟩ := h; exact DataW.trod_lt m _ _ _ hm
  have k0 := h0
  obtain ⟨_, m0⟩ := h0
  obtain ⟨_, _, _, xs0, e0, hb0⟩ := read_bytes m0
  cases e0
  have k1 := h1
  obtain ⟨_, m1⟩ := h1
  obtain ⟨_, _, _, xs1, e1, hb1⟩ := read_bytes m1
  cases e1
  have ht : Tabs W := tabs_of hL
  refine (gives17 ht hb0 hb1 hn3 (i64_bd wx2)).mono fun e W' ⟨he, bel⟩ => ?_
  subst he
  exact ⟨_, rfl, _, _, _, [], _, [], hW', trodAll_mk1 (shut_bool Tryd.underlying4 _), (trodAll_cons_mk (Below.trod laidOut2 (by kernel_rfl) (of_decide_eq_true (by kernel_rfl)) k0 bel (lt k0)) (trodAll_cons_mk (Below.trod laidOut2 (by kernel_rfl) (of_decide_eq_true (by kernel_rfl)) k1 bel (lt k1)) (trodAll_cons_mk (shut_int (t := 3) (k := .i64) (by kernel_rfl) wx2) (trodAll_cons_mk (shut_int (t := 22) (k := .u64) (by kernel_rfl) wx3) trodAll_mk0)))), rfl, bel.frame _, fun h => by cases h⟩
end traceLines
theorem joined17 : joinedFacts Tryd.prog 17 Tryd.f17 Rows.traceLinesSpec Rows.traceLinesRow = true := by
  unfold joinedFacts
  rw [mayEnter_ok, liftsFinal_ok, make_ok]
  kernel_rfl
theorem traceLines.over : Rows.traceLinesRow.holds Tryd.pinned (OpenSpec.ofChange Rows.traceLinesSpec) :=
  OpenClaim.holds_of_wide 17 Tryd.f17 rfl rfl rfl rfl rfl rfl rfl ⟨rfl, rfl, rfl, rfl, rfl⟩ rfl rfl rfl rfl rfl (by kernel_rfl) Tryd.func17 joined17
    (of_decide_eq_true (by kernel_rfl)) (by unfold Func.isWrapper; first | (rw [if_pos (by decide +kernel)]; kernel_rfl) | (rw [if_neg (by decide +kernel)]; exact ⟨rfl, rfl⟩))
    (fun os started H enc _ => traceLines.lifted os started H enc)
theorem traceLines_holds : Rows.TraceLinesCardSaid :=
  Claim7.holds_tied_plain_at .later [] [.data, .data, .data] true (true, "58bf5c44c4dbb43c54201ce7946c7322bca203efa5a3678ed560caef1114c237") true
    traceLines.over (fun _ h => by cases h) (by kernel_rfl) (fun _ h => by cases h) traceLines_row_tie rfl ⟨rfl, rfl⟩ (by kernel_rfl) rfl
    (fun f fn hf hfn => by
      obtain rfl : f = 17 := Option.some.inj ((show Tryd.prog.funcNamed "rickyard/rickyardlaw29.TraceLines" = some 17 by kernel_rfl).symm.trans hf) |>.symm
      obtain rfl : fn = Tryd.f17 := (Option.some.inj (Tryd.func17.symm.trans hfn)).symm
      exact ⟨by kernel_rfl, fun j t ht => by
        rw [Tryd.params17] at ht
        have hm : t ∈ [48, 48, 3, 22] := by simpa using Array.mem_of_getElem? ht
        have hall : ([48, 48, 3, 22].all fun u => !Tryd.prog.wantsStandIn u) = true := by kernel_rfl
        exact (show Tryd.prog.wantsStandIn t = false by simpa using List.all_eq_true.1 hall t hm)⟩)
    (by kernel_rfl)
end Go.Proofs.YtofblkmibghmbaaDoor
