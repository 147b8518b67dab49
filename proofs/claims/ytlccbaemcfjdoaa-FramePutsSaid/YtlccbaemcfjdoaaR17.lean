/-
  Layer 17: whatever the input, ProgRows and ProgAll return true, and the input reads as it did.
  Conditions: none.
-/
import Derived.Test.YtlccbaemcfjdoaaRows
import Derived.Test.YtlccbaemcfjdoaaC17j
import Derived.WalkKit
import Derived.ProofKit
import Derived.OpenShut
import Derived.ChangeOld
import Derived.Below
import Derived.SizedLaws
set_option linter.unusedVariables false
set_option linter.unusedSimpArgs false
set_option maxRecDepth 100000
namespace Go.Proofs.Ytlccbaemcfjdoaa
open Go.ChangeShapes Go.WideShapes Go.ChangeAt Go.RowKit

theorem own17 : ownKnob Try.prog.godebug = none := by kernel_rfl
theorem laidOut17 : laidOutB Try.prog = true := by kernel_rfl
section
variable {H : Type} {enc : TypeId × Value → H} {w : World} {base : Nat} {spare : Nat → Bool} {held : Bool} {fuel : Nat}
theorem cells3 : Try.prog.cellsOf 3 = 1 := by kernel_rfl
theorem cells26 : Try.prog.cellsOf 26 = 3 := by kernel_rfl
theorem cells27 : Try.prog.cellsOf 27 = 1 := by kernel_rfl
theorem cells29 : Try.prog.cellsOf 29 = 4 := by kernel_rfl
theorem read_ins {cs : List Value} {x : DataW H × List MemPlace} (h : DataW.trod enc Try.prog w base spare held fuel 26 cs = some x) : ∃ i : Ins, cs = insV i := by
  obtain ⟨xs, n, _, _, hl, hx, hf⟩ := DataW.trod_struct Try.underlying26 h
  rw [cells26] at hl
  match cs, hl with
  | [a, b, c], _ =>
    have get : ∀ i (hi : i < 3), ∃ y, xs[i]? = some y := fun i hi => ⟨_, List.getElem?_eq_getElem (by rw [hx]; exact hi)⟩
    obtain ⟨y0, h0⟩ := get 0 (by omega)
    obtain ⟨y1, h1⟩ := get 1 (by omega)
    obtain ⟨y2, h2⟩ := get 2 (by omega)
    have f0 := (hf 0 _ rfl).trans h0
    have f1 := (hf 1 _ rfl).trans h1
    have f2 := (hf 2 _ rfl).trans h2
    obtain ⟨n0, e0, _⟩ := DataW.trod_int Try.underlying3 f0
    obtain ⟨n1, e1, _⟩ := DataW.trod_int Try.underlying3 f1
    obtain ⟨n2, e2, _⟩ := DataW.trod_int Try.underlying3 f2
    replace e0 : List.take (Try.prog.cellsOf 3) (List.drop 0 [a, b, c]) = [.int .i64 n0] := e0
    replace e1 : List.take (Try.prog.cellsOf 3) (List.drop 1 [a, b, c]) = [.int .i64 n1] := e1
    replace e2 : List.take (Try.prog.cellsOf 3) (List.drop 2 [a, b, c]) = [.int .i64 n2] := e2
    rw [cells3] at e0 e1 e2
    cases e0
    cases e1
    cases e2
    exact ⟨⟨n0, n1, n2⟩, rfl⟩
theorem cellsq {a : Addr} {n : Nat} {cs : List Value} (h : w.cells? base a n = some cs) : cs.length = n ∧ ∀ i v, cs[i]? = some v → w.cell? (a.add i) = some v := by
  obtain ⟨_, hl, hc⟩ := World.cells?_some h
  exact ⟨hl, fun i v hv => by rw [hc i (by rw [← hl]; exact (List.getElem?_eq_some_iff.1 hv).1)]; exact hv⟩
/-- A list of what the elements are. -/
theorem choose_list {α : Type} {n : Nat} {R : Nat → α → Prop} (h : ∀ i, i < n → ∃ x, R i x) : ∃ xs : List α, xs.length = n ∧ ∀ i x, xs[i]? = some x → R i x := by
  induction n with
  | zero => exact ⟨[], rfl, fun i x hx => by simp at hx⟩
  | succ n ih =>
    obtain ⟨xs, hl, hx⟩ := ih fun i hi => h i (by omega)
    obtain ⟨y, hy⟩ := h n (by omega)
    refine ⟨xs ++ [y], by simp [hl], fun i x hi => ?_⟩
    by_cases hin : i < n
    · exact hx i x (by rw [List.getElem?_append_left (by omega)] at hi; exact hi)
    · have := (List.getElem?_eq_some_iff.1 hi).1
      simp [hl] at this
      have hin : i = n := by omega
      subst hin
      rw [List.getElem?_append_right (by omega), hl] at hi
      simp at hi
      subst hi
      exact hy
theorem read_code {cs : List Value} {x : DataW H × List MemPlace} (h : DataW.trod enc Try.prog w base spare held fuel 27 cs = some x) : ∃ A c xs, cs = [.slice A xs.length c] ∧ CodeAt w A xs.length xs := by
  rcases DataW.trod_slice Try.underlying27 h with ⟨rfl, _⟩ | ⟨a, len, cap, elems, rest, n, _, rfl, _, _, hlc, hm, hl, hel, _⟩
  · exact ⟨none, 0, [], rfl, rfl, Nat.zero_le _, fun i x h => by simp at h⟩
  · obtain ⟨xs, hxl, hx⟩ := choose_list (n := len) (R := fun i (x : Ins) => InsE w (a.add (i * 3)) x) fun i hi => by
      obtain ⟨y, hy⟩ : ∃ y, elems[i]? = some y := ⟨_, List.getElem?_eq_getElem (by rw [hl]; exact hi)⟩
      have := (hel i hi).trans hy
      rw [cells26, Option.bind_eq_some_iff] at this
      obtain ⟨c, hc, ht⟩ := this
      obtain ⟨i, rfl⟩ := read_ins ht
      obtain ⟨_, hg⟩ := cellsq hc
      exact ⟨i, hg 0 _ rfl, hg 1 _ rfl, hg 2 _ rfl⟩
    subst hxl
    exact ⟨some a, cap, xs, rfl, rfl, Nat.le_trans hlc hm, fun i x hi => ⟨a, rfl, hx i x hi⟩⟩
theorem read_fnc {cs : List Value} {x : DataW H × List MemPlace} (h : DataW.trod enc Try.prog w base spare held fuel 29 cs = some x) :
    ∃ (f : Fnc) (A : Option Addr) (c : Nat), cs = [.int .i64 f.params, .int .i64 f.locals, .int .i64 f.refs, .slice A f.code.length c] ∧ CodeAt w A f.code.length f.code := by
  obtain ⟨xs, n, _, _, hl, hx, hf⟩ := DataW.trod_struct Try.underlying29 h
  rw [cells29] at hl
  match cs, hl with
  | [a, b, c, d], _ =>
    have get : ∀ i (hi : i < 4), ∃ y, xs[i]? = some y := fun i hi => ⟨_, List.getElem?_eq_getElem (by rw [hx]; exact hi)⟩
    obtain ⟨y0, h0⟩ := get 0 (by omega)
    obtain ⟨y1, h1⟩ := get 1 (by omega)
    obtain ⟨y2, h2⟩ := get 2 (by omega)
    obtain ⟨y3, h3⟩ := get 3 (by omega)
    have f0 := (hf 0 _ rfl).trans h0
    have f1 := (hf 1 _ rfl).trans h1
    have f2 := (hf 2 _ rfl).trans h2
    have f3 := (hf 3 _ rfl).trans h3
    obtain ⟨n0, e0, _⟩ := DataW.trod_int Try.underlying3 f0
    obtain ⟨n1, e1, _⟩ := DataW.trod_int Try.underlying3 f1
    obtain ⟨n2, e2, _⟩ := DataW.trod_int Try.underlying3 f2
    obtain ⟨A, cc, code, e3, hc⟩ := read_code f3
    replace e0 : List.take (Try.prog.cellsOf 3) (List.drop 0 [a, b, c, d]) = [.int .i64 n0] := e0
    replace e1 : List.take (Try.prog.cellsOf 3) (List.drop 1 [a, b, c, d]) = [.int .i64 n1] := e1
    replace e2 : List.take (Try.prog.cellsOf 3) (List.drop 2 [a, b, c, d]) = [.int .i64 n2] := e2
    replace e3 : List.take (Try.prog.cellsOf 27) (List.drop 3 [a, b, c, d]) = [.slice A code.length cc] := e3
    rw [cells3] at e0 e1 e2
    rw [cells27] at e3
    cases e0
    cases e1
    cases e2
    cases e3
    exact ⟨⟨n0, n1, n2, code⟩, A, cc, rfl, hc⟩
theorem read_prog {cs : List Value} {x : DataW H × List MemPlace} (h : DataW.trod enc Try.prog w base spare held fuel 24 cs = some x) : ∃ A c p, cs = [.slice A p.length c] ∧ ProgAt w A p.length p := by
  obtain ⟨xs, n, _, _, hl, hx, hf⟩ := DataW.trod_struct Try.underlying24 h
  have c24 : Try.prog.cellsOf 24 = 1 := by kernel_rfl
  rw [c24] at hl
  match cs, hl with
  | [a], _ =>
    obtain ⟨y0, h0⟩ : ∃ y, xs[0]? = some y := ⟨_, List.getElem?_eq_getElem (by rw [hx]; decide)⟩
    have f0 := (hf 0 _ rfl).trans h0
    rcases DataW.trod_slice (by kernel_rfl) f0 with ⟨e, _⟩ | ⟨a', len, cap, elems, rest, m, _, e, _, _, hlc, hm, hl, hel, _⟩
    · replace e : [a] = [.slice none 0 0] := e
      cases e
      exact ⟨none, 0, [], rfl, rfl, Nat.zero_le _, fun i x h => by simp at h⟩
    · replace e : [a] = [.slice (some a') len cap] := e
      cases e
      obtain ⟨p, hpl, hp⟩ := choose_list (n := len) (R := fun i (f : Fnc) => FncE w (a'.add (i * 4)) f) fun i hi => by
        obtain ⟨y, hy⟩ : ∃ y, elems[i]? = some y := ⟨_, List.getElem?_eq_getElem (by rw [hl]; exact hi)⟩
        have := (hel i hi).trans hy
        rw [cells29, Option.bind_eq_some_iff] at this
        obtain ⟨c, hc, ht⟩ := this
        obtain ⟨f, A, cc, rfl, hcode⟩ := read_fnc ht
        obtain ⟨_, hg⟩ := cellsq hc
        exact ⟨f, hg 0 _ rfl, hg 1 _ rfl, hg 2 _ rfl, A, _, cc, hg 3 _ rfl, hcode⟩
      subst hpl
      exact ⟨some a', cap, p, rfl, rfl, Nat.le_trans hlc hm, fun i x hi => ⟨a', rfl, hp i x hi⟩⟩
end

namespace progRows
theorem lifted (os : Os) (started : os.Started) (H : Type) (enc : TypeId × Value → H) :
    ReturnsInHanded {} Try.checked os 3 .any (Rows.progRowsSpec.pre6 enc Try.prog Try.f3 Rows.progRowsRow.domain false) (Rows.progRowsSpec.post enc Try.prog Try.f3 false true false false) := by
  refine returnsInHanded_of_change (C := Try.checked) own17 started (by kernel_rfl) Try.func3
    (ChangeSpec.witness6 (enc := enc) (C := Try.checked) false ⟨#[], #[.agg #[.slice none 0 0], .agg #[.int .i64 0, .int .i64 0, .int .i64 0], .agg #[.int .i64 0, .int .i64 0, .int .i64 0, .slice none 0 0]], []⟩ 8 (by kernel_rfl) (by kernel_rfl) (by kernel_rfl) (by kernel_rfl)) ?_
  intro W base args ds gs before hval0 hW hcnd _
  have hval : ∀ (j : Nat) t v, Try.f3.params[j]? = some t → args[j]? = some v → Value.okWide Try.prog W .any base t v := hval0
  have hW' := hW
  obtain ⟨p, q, hA0, hV, rfl, hfz, hnd⟩ := hW
  have hA : DataW.TrodAll enc Try.prog W 0 (fun _ => true) true Try.f3.params.toList args.toList ds p := hA0
  rw [Try.params3] at hA hval
  obtain ⟨v0, vs0, d0, ds0, p0, q0, hargs, rfl, rfl, h0, r0⟩ := trodAll_cons hA
  obtain ⟨v1, vs1, d1, ds1, p1, q1, rfl, rfl, rfl, h1, r1⟩ := trodAll_cons r0
  obtain ⟨v2, vs2, d2, ds2, p2, q2, rfl, rfl, rfl, h2, r2⟩ := trodAll_cons r1
  obtain ⟨rfl, rfl, rfl⟩ := trodAll_nil r2
  obtain rfl : args = #[v0, v1, v2] := by cases args; simp_all
  obtain ⟨rfl, rfl⟩ := trodVars_none hV
  obtain ⟨c0, rfl, s0⟩ := okWide_struct Try.underlying24 (hval 0 24 v0 rfl rfl)
  obtain ⟨c1, rfl, s1⟩ := okWide_struct Try.underlying26 (hval 1 26 v1 rfl rfl)
  obtain ⟨c2, rfl, s2⟩ := okWide_struct Try.underlying29 (hval 2 29 v2 rfl rfl)
  have lt : ∀ {t : TypeId} {v : Value} {d : DataW H} {ps : List MemPlace}, DataW.Trod enc Try.prog W 0 (fun _ => true) true t v d ps → ∀ x ∈ ps, x.block < W.heap.size := fun h => by obtain ⟨m, hm⟩ := h; exact DataW.trod_lt m _ _ _ hm
  have k0 := h0
  have k1 := h1
  have k2 := h2
  obtain ⟨_, m0⟩ := h0
  obtain ⟨_, m1⟩ := h1
  obtain ⟨_, m2⟩ := h2
  obtain ⟨A, c, pr, e0, hp⟩ := read_prog m0
  obtain ⟨i, e1⟩ := read_ins m1
  obtain ⟨f, C, c', e2, hx⟩ := read_fnc m2
  obtain rfl : c0 = ⟨[.slice A pr.length c]⟩ := Array.toList_inj.1 e0
  obtain rfl : c1 = ⟨insV i⟩ := Array.toList_inj.1 e1
  obtain rfl : c2 = ⟨[.int .i64 f.params, .int .i64 f.locals, .int .i64 f.refs, .slice C f.code.length c']⟩ := Array.toList_inj.1 e2
  refine (gives3 hp hx i.op i.a i.b f.params f.locals f.refs).mono fun e W' ⟨he, bel⟩ => ?_
  subst he
  exact ⟨_, rfl, _, _, _, [], _, [], hW', trodAll_mk1 (shut_bool Try.underlying4 _), (trodAll_cons_mk (Below.trod laidOut17 (by kernel_rfl) (of_decide_eq_true (by kernel_rfl)) k0 bel (lt k0)) (trodAll_cons_mk (Below.trod laidOut17 (by kernel_rfl) (of_decide_eq_true (by kernel_rfl)) k1 bel (lt k1)) (trodAll_cons_mk (Below.trod laidOut17 (by kernel_rfl) (of_decide_eq_true (by kernel_rfl)) k2 bel (lt k2)) trodAll_mk0))), rfl, bel.frame _, fun h => by cases h⟩
end progRows

namespace progAll
theorem lifted (os : Os) (started : os.Started) (H : Type) (enc : TypeId × Value → H) :
    ReturnsInHanded {} Try.checked os 5 .any (Rows.progAllSpec.pre6 enc Try.prog Try.f5 Rows.progAllRow.domain false) (Rows.progAllSpec.post enc Try.prog Try.f5 false true false false) := by
  refine returnsInHanded_of_change (C := Try.checked) own17 started (by kernel_rfl) Try.func5
    (ChangeSpec.witness6 (enc := enc) (C := Try.checked) false ⟨#[], #[.agg #[.slice none 0 0], .int .i64 0], []⟩ 8 (by kernel_rfl) (by kernel_rfl) (by kernel_rfl) (by kernel_rfl)) ?_
  intro W base args ds gs before hval0 hW hcnd _
  have hval : ∀ (j : Nat) t v, Try.f5.params[j]? = some t → args[j]? = some v → Value.okWide Try.prog W .any base t v := hval0
  have hW' := hW
  obtain ⟨p, q, hA0, hV, rfl, hfz, hnd⟩ := hW
  have hA : DataW.TrodAll enc Try.prog W 0 (fun _ => true) true Try.f5.params.toList args.toList ds p := hA0
  rw [Try.params5] at hA hval
  obtain ⟨v0, vs0, d0, ds0, p0, q0, hargs, rfl, rfl, h0, r0⟩ := trodAll_cons hA
  obtain ⟨v1, vs1, d1, ds1, p1, q1, rfl, rfl, rfl, h1, r1⟩ := trodAll_cons r0
  obtain ⟨rfl, rfl, rfl⟩ := trodAll_nil r1
  obtain rfl : args = #[v0, v1] := by cases args; simp_all
  obtain ⟨rfl, rfl⟩ := trodVars_none hV
  obtain ⟨c0, rfl, s0⟩ := okWide_struct Try.underlying24 (hval 0 24 v0 rfl rfl)
  obtain ⟨n, rfl, rfl, rfl, wn⟩ := open_int Try.underlying3 (hval 1 3 v1 rfl rfl) h1
  have lt : ∀ {t : TypeId} {v : Value} {d : DataW H} {ps : List MemPlace}, DataW.Trod enc Try.prog W 0 (fun _ => true) true t v d ps → ∀ x ∈ ps, x.block < W.heap.size := fun h => by obtain ⟨m, hm⟩ := h; exact DataW.trod_lt m _ _ _ hm
  have k0 := h0
  obtain ⟨_, m0⟩ := h0
  obtain ⟨A, c, pr, e0, hp⟩ := read_prog m0
  obtain rfl : c0 = ⟨[.slice A pr.length c]⟩ := Array.toList_inj.1 e0
  refine (gives5 hp n).mono fun e W' ⟨he, bel⟩ => ?_
  subst he
  exact ⟨_, rfl, _, _, _, [], _, [], hW', trodAll_mk1 (shut_bool Try.underlying4 _), (trodAll_cons_mk (Below.trod laidOut17 (by kernel_rfl) (of_decide_eq_true (by kernel_rfl)) k0 bel (lt k0)) (trodAll_cons_mk (shut_int Try.underlying3 wn) trodAll_mk0)), rfl, bel.frame _, fun h => by cases h⟩
end progAll
end Go.Proofs.Ytlccbaemcfjdoaa
