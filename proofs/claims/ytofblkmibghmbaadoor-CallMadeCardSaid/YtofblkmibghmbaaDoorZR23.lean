import Derived.Test.YtofblkmibghmbaaDoorZT2d
import Derived.Test.YtofblkmibghmbaaDoorZG23
import Derived.HandedShaped
import Derived.Shelf.Vars
import Derived.LaidLaws
import Derived.ChangeMaps5
/-
  Layer 23: from the rows' conditions to what the walks ask; arguments read as calls.
  Conditions: none.
-/
set_option linter.unusedVariables false
set_option linter.unusedSimpArgs false
set_option maxRecDepth 100000
namespace Go
variable {H : Type} {enc : TypeId × Value → H}
theorem handed_and_shaped {a : Assume} {C : Checked} {os : Os} {f : FuncId} {fn : Func} {s : ChangeSpec} {conds : List PathCond} {apart fresh handsOn again : Bool} {X : World → Array Value → Prop}
    (hX : ∀ (w w' : World) (args : Array Value), w.heap = w'.heap → X w args → X w' args)
    (own : ownKnob C.prog.godebug = none) (started : os.Started) (noInit : C.prog.inits.idxOf? f = none) (hfn : C.prog.funcs[f]? = some fn)
    (witness : ∃ (w : World) (tape : Tape) (i : Input), w.os = os ∧ (w.forCall tape i).Shaped C.prog ∧ i.vars = [] ∧ Input.okWide C.prog (w.forCall tape i) .any w.heap.size f i ∧
      ((s.pre enc C.prog fn conds apart (w.forCall tape i).memory i.args ∧ X (w.forCall tape i).memory i.args) ∧ sizedMet enc C.prog fn (OpenSpec.ofChange s) apart (w.forCall tape i).memory i.args) ∧ a.holds C.prog (lone (Frame.enter C.prog f i.args .normal) [] (w.forCall tape i)))
    (contract : ∀ (W : World) (base : Nat) (args : Array Value) (ds gs : List (DataW H)) (before : List MemPlace),
      (∀ (j : Nat) t v, fn.params[j]? = some t → args[j]? = some v → Value.okWide C.prog W .any base t v) →
      DataW.Whole enc C.prog fn.params.toList s.vars apart W args.toList ds gs before →
      conds.all (PathCond.test C.prog ⟨fn.params.toList, ds, s.plain.varTypes C.prog, gs⟩) = true →
      (DataW.weightsEach C.prog (fn.params.toList ++ s.plain.varTypes C.prog) (ds ++ gs)).all (· ≤ reachBytes) = true → X W args →
      W.ShapedOpen C.prog →
      a.holds C.prog (lone (Frame.enter C.prog f args .normal) [] W) →
      Calls C.prog f args W fun e W' => ∃ v, e = .returned v ∧ s.post enc C.prog fn apart fresh handsOn again W args v W') :
    ReturnsInHanded a C os f .any (fun w args => (s.pre enc C.prog fn conds apart w args ∧ X w args) ∧ sizedMet enc C.prog fn (OpenSpec.ofChange s) apart w args) (s.post enc C.prog fn apart fresh handsOn again) := by
  refine returnsInHanded_of_calls own started noInit witness ?_
  intro w tape i _ hsh _ hok hpre hholds
  obtain ⟨_, _, _, fn', hfn', _, _, _, _, hval⟩ := hok
  have e : fn' = fn := Option.some.inj (hfn'.symm.trans hfn)
  subst e
  obtain ⟨⟨⟨ds, gs, before, hw, hc⟩, hx⟩, hz⟩ := hpre
  have hw' := DataW.Whole.of_heap (w' := w.forCall tape i) (by rfl) hw
  refine (contract (w.forCall tape i) w.heap.size i.args ds gs before hval hw' hc (hz.weights hw) (hX _ _ _ (by rfl) hx) hsh hholds).mono fun e W' ⟨v, he, hp⟩ => ?_
  subst he
  exact ChangeSpec.post_blind hp
end Go
namespace Go.Proofs.YtofblkmibghmbaaDoor
open Go.ChangeShapes Go.WideShapes Go.ChangeAt Go.RowKit
theorem err_of {W : World} {name : String} {d : DataW Unit} {nm : String} {rest : List (String × DataW Unit)} {ps : List MemPlace} {g t : Nat} {ms : Array (String × TypeId)}
    (hg : Tryd.prog.globalNamed name = some g) (hty : (Tryd.prog.globals[g]?).map (·.type) = some t) (hi : Tryd.prog.underlying t = some (.interface ms)) (h : DataW.LaidVars Tryd.prog W ((name, .iface nm d) :: rest) ps) : (∃ ev, W.cell? ⟨g, 0, none⟩ = some ev ∧ ErrIs ev) ∧ ∃ q, DataW.LaidVars Tryd.prog W rest q := by
  obtain ⟨g', t', cs, fuel, p, q, hg', ht', hvar, hd, hr, _⟩ := h
  obtain rfl := Option.some.inj (hg.symm.trans hg')
  obtain rfl := Option.some.inj (hty.symm.trans ht')
  obtain ⟨_, u, v, hcs, _⟩ := iface_of_trod hi hd
  refine ⟨⟨.iface u v, ?_, .inr ⟨u, v, rfl⟩⟩, q, hr⟩
  rw [World.var?_cell hg hvar 0]
  obtain rfl : cs = #[.iface u v] := by cases cs; simp_all
  rfl
theorem libs_of {W : World} (h : laidMetH Tryd.prog Rows.callAllRow.laid W) (hsh : W.ShapedOpen Tryd.prog) : Libs W := by
  rw [MakeChecks.laidMetH_plain _ _ _ (by kernel_rfl)] at h
  obtain ⟨ps, hv, _, _⟩ := h
  have hv1 : DataW.LaidVars Tryd.prog W (("math/bits.deBruijn32tab", Lib.tabData .u8 db32) :: ("math/bits.deBruijn64tab", Lib.tabData .u8 db64) :: ("internal/strconv.uint64pow10", Lib.tabData .u64 Lib.pow10Tab) :: ("unicode/utf8.acceptRanges", Rows.laid_unicode_utf8_acceptRanges) :: ("strconv.ErrRange", Rows.laid_strconv_ErrRange) :: ("strconv.ErrSyntax", Rows.laid_strconv_ErrSyntax) :: ("unicode/utf8.first", Rows.laid_unicode_utf8_first) :: []) ps := hv
  obtain ⟨_, q, hv2⟩ := tab_vars (g := 7) (t := 186) (e := 5) (n := 32) (by kernel_rfl) (by kernel_rfl) (by kernel_rfl) (by kernel_rfl) (by kernel_rfl) (by kernel_rfl) hv1
  obtain ⟨h64, q, hv3⟩ := tab_vars (g := 8) (t := 187) (e := 5) (n := 64) (by kernel_rfl) (by kernel_rfl) (by kernel_rfl) (by kernel_rfl) (by kernel_rfl) (by kernel_rfl) hv2
  obtain ⟨h10, q, hv4⟩ := tab_vars (g := 1) (t := 161) (e := 22) (n := 20) (by kernel_rfl) (by kernel_rfl) (by kernel_rfl) (by kernel_rfl) (by kernel_rfl) (by kernel_rfl) hv3
  obtain ⟨_, _, _, _, _, q, _, _, _, _, hv5, _⟩ := hv4
  obtain ⟨hr, q, hv6⟩ := err_of (g := 3) (t := 93) (by kernel_rfl) (by kernel_rfl) Tryd.underlying93 hv5
  obtain ⟨hs, q, _⟩ := err_of (g := 2) (t := 93) (by kernel_rfl) (by kernel_rfl) Tryd.underlying93 hv6
  exact ⟨⟨h10, h64⟩, cell_of_shapedOpen_int (g := 4) (t := 3) (zero := #[.int .i64 0]) (k := .i64) hsh (of_decide_eq_true (by kernel_rfl)) (by kernel_rfl) (by kernel_rfl) (by kernel_rfl) (by kernel_rfl) (by kernel_rfl), hs, hr⟩
theorem laidOut2 : laidOutB Tryd.prog = true := by kernel_rfl
section
variable {H : Type} {enc : TypeId × Value → H} {w : World} {base : Nat} {spare : Nat → Bool} {held : Bool} {fuel : Nat}
theorem cells3 : Tryd.prog.cellsOf 3 = 1 := by kernel_rfl
theorem cells40 : Tryd.prog.cellsOf 40 = 3 := by kernel_rfl
theorem i64_bd {n : Int} (h : (Lit.int .i64 n).wf = true) : -9223372036854775808 ≤ n ∧ n ≤ 9223372036854775807 := by
  simp [Lit.wf, IntKind.min, IntKind.max, IntKind.bits, IntKind.signed] at h
  omega
theorem byte_bd {n : Int} (h : (Lit.int .u8 n).wf = true) : 0 ≤ n ∧ n < 256 := by
  simp [Lit.wf, IntKind.min, IntKind.max, IntKind.bits, IntKind.signed] at h
  omega
theorem read_call {cs : List Value} {x : DataW H × List MemPlace} (h : DataW.trod enc Tryd.prog w base spare held fuel 40 cs = some x) : ∃ c : Cl, cs = [.int .i64 c.k, .int .i64 c.a, .int .i64 c.b] ∧ I64 c.a := by
  obtain ⟨xs, n, _, _, hl, hx, hf⟩ := DataW.trod_struct Tryd.underlying40 h
  rw [cells40] at hl
  match cs, hl with
  | [a, b, c], _ =>
    have get : ∀ i (hi : i < 3), ∃ y, xs[i]? = some y := fun i hi => ⟨_, List.getElem?_eq_getElem (by rw [hx]; exact hi)⟩
    obtain ⟨y0, h0⟩ := get 0 (by omega)
    obtain ⟨y1, h1⟩ := get 1 (by omega)
    obtain ⟨y2, h2⟩ := get 2 (by omega)
    have f0 := (hf 0 _ rfl).trans h0
    have f1 := (hf 1 _ rfl).trans h1
    have f2 := (hf 2 _ rfl).trans h2
    obtain ⟨n0, e0, _⟩ := DataW.trod_int Tryd.underlying3 f0
    obtain ⟨n1, e1, _, w1⟩ := DataW.trod_int Tryd.underlying3 f1
    obtain ⟨n2, e2, _⟩ := DataW.trod_int Tryd.underlying3 f2
    replace e0 : List.take (Tryd.prog.cellsOf 3) (List.drop 0 [a, b, c]) = [.int .i64 n0] := e0
    replace e1 : List.take (Tryd.prog.cellsOf 3) (List.drop 1 [a, b, c]) = [.int .i64 n1] := e1
    replace e2 : List.take (Tryd.prog.cellsOf 3) (List.drop 2 [a, b, c]) = [.int .i64 n2] := e2
    rw [cells3] at e0 e1 e2
    cases e0
    cases e1
    cases e2
    exact ⟨⟨n0, n1, n2⟩, rfl, i64_bd w1⟩
end
end Go.Proofs.YtofblkmibghmbaaDoor
