/-
  Layer 17: whatever the input, ProgWays returns true, and the input reads as it did.
  Conditions: none.
-/
import Derived.Test.YtlccbaemcfjdoaaZR17
import Derived.Test.YtlccbaemcfjdoaaZC17l
import Derived.Test.YtlccbaemcfjdoaaZInit
set_option maxRecDepth 100000
set_option linter.unusedVariables false
namespace Go.Proofs.Ytlccbaemcfjdoaa
open Go.ChangeShapes Go.WideShapes Go.ChangeAt Go.RowKit
theorem read_bools {H : Type} {enc : TypeId × Value → H} {w : World} {base : Nat} {spare : Nat → Bool} {held : Bool} {fuel : Nat} {cs : List Value} {x : DataW H × List MemPlace} (h : DataW.trod enc Try.prog w base spare held fuel 45 cs = some x) :
    ∃ A l c xs, cs = [.slice A l c] ∧ Bools w A l xs := by
  have c4 : Try.prog.cellsOf 4 = 1 := by kernel_rfl
  rcases DataW.trod_slice (e := 4) (by kernel_rfl) h with ⟨rfl, _⟩ | ⟨a, len, cap, elems, rest, n, _, rfl, _, _, hlc, hm, hl, hel, _⟩
  · exact ⟨none, 0, 0, [], rfl, rfl, Nat.zero_le _, fun i x h => by simp at h⟩
  · obtain ⟨xs, hxl, hx⟩ := choose_list (n := len) (R := fun i (x : Bool) => BoolE w (a.add (i * 1)) x) fun i hi => by
      obtain ⟨y, hy⟩ : ∃ y, elems[i]? = some y := ⟨_, List.getElem?_eq_getElem (by rw [hl]; exact hi)⟩
      have := (hel i hi).trans hy
      rw [c4, Option.bind_eq_some_iff] at this
      obtain ⟨c, hc, ht⟩ := this
      obtain ⟨b, rfl, _⟩ := DataW.trod_bool Try.underlying4 ht
      exact ⟨b, cell_of_cells?_one hc⟩
    exact ⟨some a, len, cap, xs, rfl, hxl, Nat.le_trans hlc hm, fun i x hi => ⟨a, rfl, hx i x hi⟩⟩
namespace progWays
theorem lifted (os : Os) (started : os.Started) (H : Type) (enc : TypeId × Value → H) :
    ReturnsInHanded {} Try.checked os 7 .any (Rows.progWaysSpec.pre6 enc Try.prog Try.f7 Rows.progWaysRow.domain false) (Rows.progWaysSpec.post enc Try.prog Try.f7 false true false false) := by
  refine returnsInHanded_of_change (C := Try.checked) own17 started (by kernel_rfl) Try.func7
    (ChangeSpec.witness6 (enc := enc) (C := Try.checked) false ⟨#[], #[.agg #[.slice none 0 0], .int .u8 0, .slice none 0 0], []⟩ 8 (by kernel_rfl) (by kernel_rfl) (by kernel_rfl) (by kernel_rfl)) ?_
  intro W base args ds gs before hval0 hW hcnd _
  have hval : ∀ (j : Nat) t v, Try.f7.params[j]? = some t → args[j]? = some v → Value.okWide Try.prog W .any base t v := hval0
  have hW' := hW
  obtain ⟨p, q, hA0, hV, rfl, hfz, hnd⟩ := hW
  have hA : DataW.TrodAll enc Try.prog W 0 (fun _ => true) true Try.f7.params.toList args.toList ds p := hA0
  rw [Try.params7] at hA hval
  obtain ⟨v0, vs0, d0, ds0, p0, q0, hargs, rfl, rfl, h0, r0⟩ := trodAll_cons hA
  obtain ⟨v1, vs1, d1, ds1, p1, q1, rfl, rfl, rfl, h1, r1⟩ := trodAll_cons r0
  obtain ⟨v2, vs2, d2, ds2, p2, q2, rfl, rfl, rfl, h2, r2⟩ := trodAll_cons r1
  obtain ⟨rfl, rfl, rfl⟩ := trodAll_nil r2
  obtain rfl : args = #[v0, v1, v2] := by cases args; simp_all
  obtain ⟨rfl, rfl⟩ := trodVars_none hV
  obtain ⟨c0, rfl, s0⟩ := okWide_struct Try.underlying24 (hval 0 24 v0 rfl rfl)
  obtain ⟨n, rfl, rfl, rfl, wn⟩ := open_int Try.underlying5 (hval 1 5 v1 rfl rfl) h1
  obtain ⟨a2, l2, cap2, rfl⟩ := okWide_slice (e := 4) (by kernel_rfl) (hval 2 45 v2 rfl rfl)
  have lt : ∀ {t : TypeId} {v : Value} {d : DataW H} {ps : List MemPlace}, DataW.Trod enc Try.prog W 0 (fun _ => true) true t v d ps → ∀ x ∈ ps, x.block < W.heap.size := fun h => by obtain ⟨m, hm⟩ := h; exact DataW.trod_lt m _ _ _ hm
  have k0 := h0
  have k2 := h2
  obtain ⟨_, m0⟩ := h0
  obtain ⟨_, m2⟩ := h2
  obtain ⟨A, c, pr, e0, hp⟩ := read_prog m0
  obtain ⟨A2, l2', c2', ways, e2, hy⟩ := read_bools m2
  obtain rfl : c0 = ⟨[.slice A pr.length c]⟩ := Array.toList_inj.1 e0
  cases e2
  have hn : 0 ≤ n ∧ n < 256 := by
    simp [Lit.wf, IntKind.min, IntKind.max, IntKind.bits, IntKind.signed] at wn
    omega
  refine (gives7 hp hy hn).mono fun e W' ⟨he, bel⟩ => ?_
  subst he
  exact ⟨_, rfl, _, _, _, [], _, [], hW', trodAll_mk1 (shut_bool Try.underlying4 _), (trodAll_cons_mk (Below.trod laidOut17 (by kernel_rfl) (of_decide_eq_true (by kernel_rfl)) k0 bel (lt k0)) (trodAll_cons_mk (shut_int Try.underlying5 wn) (trodAll_cons_mk (Below.trod laidOut17 (by kernel_rfl) (of_decide_eq_true (by kernel_rfl)) k2 bel (lt k2)) trodAll_mk0))), rfl, bel.frame _, fun h => by cases h⟩
end progWays
theorem joined7 : joinedFacts Try.prog 7 Try.f7 Rows.progWaysSpec Rows.progWaysRow = true := by
  unfold joinedFacts
  rw [mayEnter_ok, liftsFinal_ok, make_ok]
  kernel_rfl
theorem progWays.over : Rows.progWaysRow.holds Try.pinned (OpenSpec.ofChange Rows.progWaysSpec) :=
  OpenClaim.holds_of_wide 7 Try.f7 rfl rfl rfl rfl rfl rfl rfl ⟨rfl, rfl, rfl, rfl, rfl⟩ rfl rfl rfl rfl rfl (by kernel_rfl) Try.func7 joined7
    (of_decide_eq_true (by kernel_rfl)) (by unfold Func.isWrapper; first | (rw [if_pos (by decide +kernel)]; kernel_rfl) | (rw [if_neg (by decide +kernel)]; exact ⟨rfl, rfl⟩))
    (fun os started H enc _ => progWays.lifted os started H enc)
theorem progWays_holds : Rows.ProgWaysSaid := progWays.over
end Go.Proofs.Ytlccbaemcfjdoaa
