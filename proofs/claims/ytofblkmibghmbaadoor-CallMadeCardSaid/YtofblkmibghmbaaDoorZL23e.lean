import Derived.Test.YtofblkmibghmbaaDoorZR23b
import Derived.Test.YtofblkmibghmbaaDoorZP29
import Derived.Test.YtofblkmibghmbaaDoorZRD29
import Derived.Test.YtofblkmibghmbaaDoorZK23c
import Derived.Test.YtofblkmibghmbaaDoorZInit
import Derived.Test.YtofblkmibghmbaaDoorCards
/-
  Layer 23: whatever the input, CallMade returns true, and the input reads as it did; the card, tied.
  Conditions: none beyond the row's own.
-/
set_option maxRecDepth 100000
set_option linter.unusedVariables false
namespace Go.Proofs.YtofblkmibghmbaaDoor
open Go.ChangeShapes Go.WideShapes Go.ChangeAt Go.RowKit
namespace callMade
theorem lifted (os : Os) (started : os.Started) (H : Type) (enc : TypeId × Value → H) :
    ReturnsInHanded {} Tryd.checked os 15 .any (fun w args => (Rows.callMadeSpec.pre enc Tryd.prog Tryd.f15 Rows.callMadeRow.domain false w args ∧ laidMetH Tryd.prog Rows.callMadeRow.laid w) ∧ sizedMet enc Tryd.prog Tryd.f15 (OpenSpec.ofChange Rows.callMadeSpec) false w args)
      (Rows.callMadeSpec.post enc Tryd.prog Tryd.f15 false true false false) := by
  refine handed_and_shaped (C := Tryd.checked) (X := fun w _ => laidMetH Tryd.prog Rows.callMadeRow.laid w) (fun _ _ _ hh h => h.of_heap hh) own2 started (by kernel_rfl) Tryd.func15
    (ChangeSpec.witness_shaped (enc := enc) (C := Tryd.checked) (os := os) (X := fun w _ => laidMetH Tryd.prog Rows.callMadeRow.laid w) false (World.laidAll Tryd.prog os Rows.callMadeRow.laid) #[.int .u8 0, .int .u8 0, .int .u8 0, .slice none 0 0, .slice none 0 0, .int .u8 0, .agg ⟨[.int .i64 0, .int .i64 0, .int .i64 0]⟩, .int .i64 0] 8 (World.laidAll_os _ _ _)
      (World.shaped_of_ZipB (by kernel_rfl) (by kernel_rfl)) (by kernel_rfl) (by kernel_rfl) (by kernel_rfl)
      (by rw [MakeChecks.laidMetH_plain _ _ _ (by kernel_rfl)]; exact laidMet_laidAll _ (by kernel_rfl) (by kernel_rfl))) ?_
  intro W base args ds gs before hval0 hW hc _ hL hsh _
  have hval : ∀ (j : Nat) t v, Tryd.f15.params[j]? = some t → args[j]? = some v → Value.okWide Tryd.prog W .any base t v := hval0
  have hW' := hW
  obtain ⟨p, q, hA0, hV, rfl, hfz, hnd⟩ := hW
  have hA : DataW.TrodAll enc Tryd.prog W 0 (fun _ => true) true Tryd.f15.params.toList args.toList ds p := hA0
  rw [Tryd.params15] at hA hval
  obtain ⟨v0, vs0, d0, ds0, p0, q0, hargs, rfl, rfl, h0, r0⟩ := trodAll_cons hA
  obtain ⟨v1, vs1, d1, ds1, p1, q1, rfl, rfl, rfl, h1, r1⟩ := trodAll_cons r0
  obtain ⟨v2, vs2, d2, ds2, p2, q2, rfl, rfl, rfl, h2, r2⟩ := trodAll_cons r1
  obtain ⟨v3, vs3, d3, ds3, p3, q3, rfl, rfl, rfl, h3, r3⟩ := trodAll_cons r2
  obtain ⟨v4, vs4, d4, ds4, p4, q4, rfl, rfl, rfl, h4, r4⟩ := trodAll_cons r3
  obtain ⟨v5, vs5, d5, ds5, p5, q5, rfl, rfl, rfl, h5, r5⟩ := trodAll_cons r4
  obtain ⟨v6, vs6, d6, ds6, p6, q6, rfl, rfl, rfl, h6, r6⟩ := trodAll_cons r5
  obtain ⟨v7, vs7, d7, ds7, p7, q7, rfl, rfl, rfl, h7, r7⟩ := trodAll_cons r6
  obtain ⟨rfl, rfl, rfl⟩ := trodAll_nil r7
  obtain rfl : args = #[v0, v1, v2, v3, v4, v5, v6, v7] := by cases args; simp_all
  obtain ⟨rfl, rfl⟩ := trodVars_none hV
  obtain ⟨x0, rfl, rfl, rfl, wx0⟩ := open_int (t := 5) (k := .u8) (by kernel_rfl) (hval 0 5 v0 rfl rfl) h0
  obtain ⟨x1, rfl, rfl, rfl, wx1⟩ := open_int (t := 5) (k := .u8) (by kernel_rfl) (hval 1 5 v1 rfl rfl) h1
  obtain ⟨x2, rfl, rfl, rfl, wx2⟩ := open_int (t := 5) (k := .u8) (by kernel_rfl) (hval 2 5 v2 rfl rfl) h2
  obtain ⟨a3, l3, cap3, rfl⟩ := okWide_slice (e := 5) (by kernel_rfl) (hval 3 48 v3 rfl rfl)
  obtain ⟨a4, l4, cap4, rfl⟩ := okWide_slice (e := 5) (by kernel_rfl) (hval 4 48 v4 rfl rfl)
  obtain ⟨x5, rfl, rfl, rfl, wx5⟩ := open_int (t := 5) (k := .u8) (by kernel_rfl) (hval 5 5 v5 rfl rfl) h5
  obtain ⟨c6, rfl, s6⟩ := okWide_struct Tryd.underlying40 (hval 6 40 v6 rfl rfl)
  obtain ⟨x7, rfl, rfl, rfl, wx7⟩ := open_int (t := 3) (k := .i64) (by kernel_rfl) (hval 7 3 v7 rfl rfl) h7
  have lt : ∀ {t : TypeId} {v : Value} {d : DataW H} {ps : List MemPlace}, DataW.Trod enc Tryd.prog W 0 (fun _ => true) true t v d ps → ∀ x ∈ ps, x.block < W.heap.size := fun h => by obtain ⟨m, hm⟩ := h; exact DataW.trod_lt m _ _ _ hm
  have k3 := h3
  obtain ⟨_, m3⟩ := h3
  obtain ⟨_, _, _, xs3, e3, hb3⟩ := read_bytes m3
  cases e3
  have k4 := h4
  obtain ⟨_, m4⟩ := h4
  obtain ⟨_, _, _, xs4, e4, hb4⟩ := read_bytes m4
  cases e4
  have k6 := h6
  obtain ⟨_, m6⟩ := h6
  obtain ⟨cl6, e6, oc6⟩ := read_call m6
  obtain rfl : c6 = ⟨[.int .i64 cl6.k, .int .i64 cl6.a, .int .i64 cl6.b]⟩ := Array.toList_inj.1 e6
  have hl : Libs W := libs_of hL hsh
  refine (gives15 hl hb3 hb4 (byte_bd wx0) (byte_bd wx1) (byte_bd wx2) (byte_bd wx5) cl6 x7).mono fun e W' ⟨he, bel⟩ => ?_
  subst he
  exact ⟨_, rfl, _, _, _, [], _, [], hW', trodAll_mk1 (shut_bool Tryd.underlying4 _), (trodAll_cons_mk (shut_int (t := 5) (k := .u8) (by kernel_rfl) wx0) (trodAll_cons_mk (shut_int (t := 5) (k := .u8) (by kernel_rfl) wx1) (trodAll_cons_mk (shut_int (t := 5) (k := .u8) (by kernel_rfl) wx2) (trodAll_cons_mk (Below.trod laidOut2 (by kernel_rfl) (of_decide_eq_true (by kernel_rfl)) k3 bel (lt k3)) (trodAll_cons_mk (Below.trod laidOut2 (by kernel_rfl) (of_decide_eq_true (by kernel_rfl)) k4 bel (lt k4)) (trodAll_cons_mk (shut_int (t := 5) (k := .u8) (by kernel_rfl) wx5) (trodAll_cons_mk (Below.trod laidOut2 (by kernel_rfl) (of_decide_eq_true (by kernel_rfl)) k6 bel (lt k6)) (trodAll_cons_mk (shut_int (t := 3) (k := .i64) (by kernel_rfl) wx7) trodAll_mk0)))))))), rfl, bel.frame _, fun h => by cases h⟩
end callMade
theorem joined15 : joinedFacts Tryd.prog 15 Tryd.f15 Rows.callMadeSpec Rows.callMadeRow = true := by
  unfold joinedFacts
  rw [mayEnter_ok, liftsFinal_ok, make_ok]
  kernel_rfl
theorem callMade.over : Rows.callMadeRow.holds Tryd.pinned (OpenSpec.ofChange Rows.callMadeSpec) :=
  OpenClaim.holds_of_wide 15 Tryd.f15 rfl rfl rfl rfl rfl rfl rfl ⟨rfl, rfl, rfl, rfl, rfl⟩ rfl rfl rfl rfl rfl (by kernel_rfl) Tryd.func15 joined15
    (of_decide_eq_true (by kernel_rfl)) (by unfold Func.isWrapper; first | (rw [if_pos (by decide +kernel)]; kernel_rfl) | (rw [if_neg (by decide +kernel)]; exact ⟨rfl, rfl⟩))
    (fun os started H enc _ => callMade.lifted os started H enc)
theorem callMade_holds : Rows.CallMadeCardSaid :=
  Claim7.holds_tied_plain_at .later [] [.data, .data, .data, .data, .sentinel, .sentinel, .pinned] true (true, "58bf5c44c4dbb43c54201ce7946c7322bca203efa5a3678ed560caef1114c237") true
    callMade.over (fun _ h => by cases h) (by kernel_rfl) (fun _ h => by cases h) callMade_row_tie rfl ⟨rfl, rfl⟩ (by kernel_rfl) rfl
    (fun f fn hf hfn => by
      obtain rfl : f = 15 := Option.some.inj ((show Tryd.prog.funcNamed "rickyard/rickyardlaw23.CallMade" = some 15 by kernel_rfl).symm.trans hf) |>.symm
      obtain rfl : fn = Tryd.f15 := (Option.some.inj (Tryd.func15.symm.trans hfn)).symm
      exact ⟨by kernel_rfl, fun j t ht => by
        rw [Tryd.params15] at ht
        have hm : t ∈ [5, 5, 5, 48, 48, 5, 40, 3] := by simpa using Array.mem_of_getElem? ht
        have hall : ([5, 5, 5, 48, 48, 5, 40, 3].all fun u => !Tryd.prog.wantsStandIn u) = true := by kernel_rfl
        exact (show Tryd.prog.wantsStandIn t = false by simpa using List.all_eq_true.1 hall t hm)⟩)
    (by kernel_rfl)
end Go.Proofs.YtofblkmibghmbaaDoor
