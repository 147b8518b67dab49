import Derived.Test.YtidcpndlloppdaaGreatDoorRows
import Derived.Test.YtidcpndlloppdaaGreatDoorTie
import Derived.Test.YtidcpndlloppdaaGreatDoorZN29
import Derived.Test.YtidcpndlloppdaaGreatDoorZK17
import Derived.Test.YtidcpndlloppdaaGreatDoorZEngD
import Derived.WalkKit
import Derived.ProofKit
import Derived.OpenShut
import Derived.ChangeOld
import Derived.Below
import Derived.SizedLaws
import Derived.LaidMore
import Derived.Lay
import Derived.SevenTiedAt
import Derived.Stop.Joined
import Derived.Test.YtidcpndlloppdaaGreatDoorZM29
import Derived.Test.YtidcpndlloppdaaGreatDoorZFE
import Derived.Test.YtidcpndlloppdaaGreatDoorZEngC
import Derived.Test.YtidcpndlloppdaaGreatDoorProg
import Derived.Test.YtidcpndlloppdaaGreatDoorZVA
/-
  Layer 29: what the arguments' memory says, read; the tables of the host's library.
  Conditions: none.
-/
set_option linter.unusedVariables false
set_option linter.unusedSimpArgs false
set_option maxRecDepth 100000
namespace Go.Proofs.YtidcpndlloppdaaGreatDoor
open Go.ChangeShapes Go.WideShapes Go.ChangeAt Go.RowKit
theorem own2 : ownKnob Tryz.prog.godebug = none := by kernel_rfl
theorem tab_vars {P : Program} {W : World} {name : String} {k : IntKind} {zs : List Int} {rest : List (String × DataW Unit)} {ps : List MemPlace} {g : Nat} {t e : TypeId} {n : Nat}
    (hg : P.globalNamed name = some g) (hty : (P.globals[g]?).map (·.type) = some t) (ht : P.underlying t = some (.array n e)) (he : P.underlying e = some (.int k)) (hce : P.cellsOf e = 1) (hct : P.cellsOf t = n)
    (h : DataW.LaidVars P W ((name, Lib.tabData k zs) :: rest) ps) : Lib.TabIs P W name k zs ∧ ∃ q, DataW.LaidVars P W rest q := by
  obtain ⟨g', t', cs, fuel, p, q, hg', ht', hvar, hd, hr, _⟩ := h
  obtain rfl := Option.some.inj (hg.symm.trans hg')
  obtain rfl := Option.some.inj (hty.symm.trans ht')
  refine ⟨?_, q, hr⟩
  unfold Lib.TabIs
  rw [hvar, ← Lib.cells_of_tab ht he hce hct hd]
def db32 : List Int := [0, 1, 28, 2, 29, 14, 24, 3, 30, 22, 20, 15, 25, 17, 4, 8, 31, 27, 13, 23, 21, 19, 16, 7, 26, 12, 18, 6, 11, 5, 10, 9]
theorem tabs_of {W : World} (h : laidMetH Tryz.prog Rows.traceMoreRow.laid W) : Tabs W := by
  rw [MakeChecks.laidMetH_plain _ _ _ (by kernel_rfl)] at h
  obtain ⟨ps, hv, _, _⟩ := h
  have hv1 : DataW.LaidVars Tryz.prog W (("math/bits.deBruijn32tab", Lib.tabData .u8 db32) :: ("math/bits.deBruijn64tab", Lib.tabData .u8 db64) :: ("internal/strconv.uint64pow10", Lib.tabData .u64 Lib.pow10Tab) :: []) ps := hv
  obtain ⟨_, q, hv2⟩ := tab_vars (g := 2) (t := 157) (e := 5) (n := 32) (by kernel_rfl) (by kernel_rfl) (by kernel_rfl) (by kernel_rfl) (by kernel_rfl) (by kernel_rfl) hv1
  obtain ⟨h64, q, hv3⟩ := tab_vars (g := 3) (t := 158) (e := 5) (n := 64) (by kernel_rfl) (by kernel_rfl) (by kernel_rfl) (by kernel_rfl) (by kernel_rfl) (by kernel_rfl) hv2
  obtain ⟨h10, q, _⟩ := tab_vars (g := 1) (t := 148) (e := 39) (n := 20) (by kernel_rfl) (by kernel_rfl) (by kernel_rfl) (by kernel_rfl) (by kernel_rfl) (by kernel_rfl) hv3
  exact ⟨h10, h64⟩
theorem laidOut2 : laidOutB Tryz.prog = true := by kernel_rfl
section
variable {H : Type} {enc : TypeId × Value → H} {w : World} {base : Nat} {spare : Nat → Bool} {held : Bool} {fuel : Nat}
theorem cells3 : Tryz.prog.cellsOf 3 = 1 := by kernel_rfl
theorem cells67 : Tryz.prog.cellsOf 67 = 3 := by kernel_rfl
theorem cells61 : Tryz.prog.cellsOf 61 = 1 := by kernel_rfl
theorem cells63 : Tryz.prog.cellsOf 63 = 4 := by kernel_rfl
theorem read_ins {cs : List Value} {x : DataW H × List MemPlace} (h : DataW.trod enc Tryz.prog w base spare held fuel 67 cs = some x) : ∃ i : Ins, cs = insV i := by
  obtain ⟨xs, n, _, _, hl, hx, hf⟩ := DataW.trod_struct Tryz.underlying67 h
  rw [cells67] at hl
  match cs, hl with
  | [a, b, c], _ =>
    have get : ∀ i (hi : i < 3), ∃ y, xs[i]? = some y := fun i hi => ⟨_, List.getElem?_eq_getElem (by rw [hx]; exact hi)⟩
    obtain ⟨y0, h0⟩ := get 0 (by omega)
    obtain ⟨y1, h1⟩ := get 1 (by omega)
    obtain ⟨y2, h2⟩ := get 2 (by omega)
    have f0 := (hf 0 _ rfl).trans h0
    have f1 := (hf 1 _ rfl).trans h1
    have f2 := (hf 2 _ rfl).trans h2
    obtain ⟨n0, e0, _⟩ := DataW.trod_int Tryz.underlying3 f0
    obtain ⟨n1, e1, _⟩ := DataW.trod_int Tryz.underlying3 f1
    obtain ⟨n2, e2, _⟩ := DataW.trod_int Tryz.underlying3 f2
    replace e0 : List.take (Tryz.prog.cellsOf 3) (List.drop 0 [a, b, c]) = [.int .i64 n0] := e0
    replace e1 : List.take (Tryz.prog.cellsOf 3) (List.drop 1 [a, b, c]) = [.int .i64 n1] := e1
    replace e2 : List.take (Tryz.prog.cellsOf 3) (List.drop 2 [a, b, c]) = [.int .i64 n2] := e2
    rw [cells3] at e0 e1 e2
    cases e0
    cases e1
    cases e2
    exact ⟨⟨n0, n1, n2⟩, rfl⟩
theorem cellsq {a : Addr} {n : Nat} {cs : List Value} (h : w.cells? base a n = some cs) : cs.length = n ∧ ∀ i v, cs[i]? = some v → w.cell? (a.add i) = some v := by
  obtain ⟨_, hl, hc⟩ := World.cells?_some h
  exact ⟨hl, fun i v hv => by rw [hc i (by rw [← hl]; exact (List.getElem?_eq_some_iff.1 hv).1)]; exact hv⟩
theorem choose_list {α : Type} {n : Nat} {R : Nat → α → Prop} (h : ∀ i, i < n → ∃ x, R i x) : ∃ xs : List α, xs.length = n ∧ ∀ i x, xs[i]? = some x → R i x := by
  induction n with
  | zero => exact ⟨[], rfl, fun i x hx => by simp at hx⟩
  | succ n ih =>
    obtain ⟨xs, hl, hx⟩ := ih fun i hi => h i (by omega)
    obtain ⟨y, hy⟩ := h n (by omega)
    refine ⟨xs ++ [y], by simp [hl], fun i x hi => ?_⟩
    by_cases hin : i < n
    · exact hx i x (by rw [List.getElem?_append_left (by omega)] at hi; exact hi)
    · have := (List.getElem?_eq_some_iff.1 hi).1
      simp [hl] at this
      have hin : i = n := by omega
      subst hin
      rw [List.getElem?_append_right (by omega), hl] at hi
      simp at hi
      subst hi
      exact hy
theorem read_code {cs : List Value} {x : DataW H × List MemPlace} (h : DataW.trod enc Tryz.prog w base spare held fuel 61 cs = some x) : ∃ A c xs, cs = [.slice A xs.length c] ∧ CodeAt w A xs.length xs := by
  rcases DataW.trod_slice Tryz.underlying61 h with ⟨rfl, _⟩ | ⟨a, len, cap, elems, rest, n, _, rfl, _, _, hlc, hm, hl, hel, _⟩
  · exact ⟨none, 0, [], rfl, rfl, Nat.zero_le _, fun i x h => by simp at h⟩
  · obtain ⟨xs, hxl, hx⟩ := choose_list (n := len) (R := fun i (x : Ins) => InsE w (a.add (i * 3)) x) fun i hi => by
      obtain ⟨y, hy⟩ : ∃ y, elems[i]? = some y := ⟨_, List.getElem?_eq_getElem (by rw [hl]; exact hi)⟩
      have := (hel i hi).trans hy
      rw [cells67, Option.bind_eq_some_iff] at this
      obtain ⟨c, hc, ht⟩ := this
      obtain ⟨i, rfl⟩ := read_ins ht
      obtain ⟨_, hg⟩ := cellsq hc
      exact ⟨i, hg 0 _ rfl, hg 1 _ rfl, hg 2 _ rfl⟩
    subst hxl
    exact ⟨some a, cap, xs, rfl, rfl, Nat.le_trans hlc hm, fun i x hi => ⟨a, rfl, hx i x hi⟩⟩
theorem read_fnc {cs : List Value} {x : DataW H × List MemPlace} (h : DataW.trod enc Tryz.prog w base spare held fuel 63 cs = some x) :
    ∃ (f : Fnc) (A : Option Addr) (c : Nat), cs = [.int .i64 f.params, .int .i64 f.locals, .int .i64 f.refs, .slice A f.code.length c] ∧ CodeAt w A f.code.length f.code := by
  obtain ⟨xs, n, _, _, hl, hx, hf⟩ := DataW.trod_struct Tryz.underlying63 h
  rw [cells63] at hl
  match cs, hl with
  | [a, b, c, d], _ =>
    have get : ∀ i (hi : i < 4), ∃ y, xs[i]? = some y := fun i hi => ⟨_, List.getElem?_eq_getElem (by rw [hx]; exact hi)⟩
    obtain ⟨y0, h0⟩ := get 0 (by omega)
    obtain ⟨y1, h1⟩ := get 1 (by omega)
    obtain ⟨y2, h2⟩ := get 2 (by omega)
    obtain ⟨y3, h3⟩ := get 3 (by omega)
    have f0 := (hf 0 _ rfl).trans h0
    have f1 := (hf 1 _ rfl).trans h1
    have f2 := (hf 2 _ rfl).trans h2
    have f3 := (hf 3 _ rfl).trans h3
    obtain ⟨n0, e0, _⟩ := DataW.trod_int Tryz.underlying3 f0
    obtain ⟨n1, e1, _⟩ := DataW.trod_int Tryz.underlying3 f1
    obtain ⟨n2, e2, _⟩ := DataW.trod_int Tryz.underlying3 f2
    obtain ⟨A, cc, code, e3, hc⟩ := read_code f3
    replace e0 : List.take (Tryz.prog.cellsOf 3) (List.drop 0 [a, b, c, d]) = [.int .i64 n0] := e0
    replace e1 : List.take (Tryz.prog.cellsOf 3) (List.drop 1 [a, b, c, d]) = [.int .i64 n1] := e1
    replace e2 : List.take (Tryz.prog.cellsOf 3) (List.drop 2 [a, b, c, d]) = [.int .i64 n2] := e2
    replace e3 : List.take (Tryz.prog.cellsOf 61) (List.drop 3 [a, b, c, d]) = [.slice A code.length cc] := e3
    rw [cells3] at e0 e1 e2
    rw [cells61] at e3
    cases e0
    cases e1
    cases e2
    cases e3
    exact ⟨⟨n0, n1, n2, code⟩, A, cc, rfl, hc⟩
theorem read_prog {cs : List Value} {x : DataW H × List MemPlace} (h : DataW.trod enc Tryz.prog w base spare held fuel 24 cs = some x) : ∃ A c p, cs = [.slice A p.length c] ∧ ProgAt w A p.length p := by
  obtain ⟨xs, n, _, _, hl, hx, hf⟩ := DataW.trod_struct Tryz.underlying24 h
  have c24 : Tryz.prog.cellsOf 24 = 1 := by kernel_rfl
  rw [c24] at hl
  match cs, hl with
  | [a], _ =>
    obtain ⟨y0, h0⟩ : ∃ y, xs[0]? = some y := ⟨_, List.getElem?_eq_getElem (by rw [hx]; decide)⟩
    have f0 := (hf 0 _ rfl).trans h0
    rcases DataW.trod_slice (by kernel_rfl) f0 with ⟨e, _⟩ | ⟨a', len, cap, elems, rest, m, _, e, _, _, hlc, hm, hl, hel, _⟩
    · replace e : [a] = [.slice none 0 0] := e
      cases e
      exact ⟨none, 0, [], rfl, rfl, Nat.zero_le _, fun i x h => by simp at h⟩
    · replace e : [a] = [.slice (some a') len cap] := e
      cases e
      obtain ⟨p, hpl, hp⟩ := choose_list (n := len) (R := fun i (f : Fnc) => FncE w (a'.add (i * 4)) f) fun i hi => by
        obtain ⟨y, hy⟩ : ∃ y, elems[i]? = some y := ⟨_, List.getElem?_eq_getElem (by rw [hl]; exact hi)⟩
        have := (hel i hi).trans hy
        rw [cells63, Option.bind_eq_some_iff] at this
        obtain ⟨c, hc, ht⟩ := this
        obtain ⟨f, A, cc, rfl, hcode⟩ := read_fnc ht
        obtain ⟨_, hg⟩ := cellsq hc
        exact ⟨f, hg 0 _ rfl, hg 1 _ rfl, hg 2 _ rfl, A, _, cc, hg 3 _ rfl, hcode⟩
      subst hpl
      exact ⟨some a', cap, p, rfl, rfl, Nat.le_trans hlc hm, fun i x hi => ⟨a', rfl, hp i x hi⟩⟩
end
theorem byte_bd {n : Int} (h : (Lit.int .u8 n).wf = true) : 0 ≤ n ∧ n < 256 := by
  simp [Lit.wf, IntKind.min, IntKind.max, IntKind.bits, IntKind.signed] at h
  omega
end Go.Proofs.YtidcpndlloppdaaGreatDoor

/-
  Layer 29: what the arguments' memory says, read as marks.
  Conditions: none.
-/
set_option linter.unusedVariables false
set_option linter.unusedSimpArgs false
set_option maxRecDepth 100000
namespace Go.Proofs.YtidcpndlloppdaaGreatDoor
open Go.ChangeShapes Go.WideShapes Go.ChangeAt Go.RowKit
theorem u16_bd {n : Int} (h : (Lit.int .u16 n).wf = true) : 0 ≤ n ∧ n < 65536 := by
  simp [Lit.wf, IntKind.min, IntKind.max, IntKind.bits, IntKind.signed] at h
  omega
section
variable {H : Type} {enc : TypeId × Value → H} {w : World} {base : Nat} {spare : Nat → Bool} {held : Bool} {fuel : Nat}
theorem read_markY {cs : List Value} {x : DataW H × List MemPlace} (h : DataW.trod enc Tryz.prog w base spare held fuel 41 cs = some x) : ∃ m : Mk, cs = [.int .i64 m.k, .int .u64 (m.w : Int)] ∧ m.w < 18446744073709551616 := by
  have c3 : Tryz.prog.cellsOf 3 = 1 := by kernel_rfl
  have c39 : Tryz.prog.cellsOf 39 = 1 := by kernel_rfl
  have c41 : Tryz.prog.cellsOf 41 = 2 := by kernel_rfl
  obtain ⟨xs, n, _, _, hl, hx, hf⟩ := DataW.trod_struct Tryz.underlying41 h
  rw [c41] at hl
  match cs, hl with
  | [a, b], _ =>
    have get : ∀ i (hi : i < 2), ∃ y, xs[i]? = some y := fun i hi => ⟨_, List.getElem?_eq_getElem (by rw [hx]; exact hi)⟩
    obtain ⟨y0, h0⟩ := get 0 (by omega)
    obtain ⟨y1, h1⟩ := get 1 (by omega)
    have f0 := (hf 0 _ rfl).trans h0
    have f1 := (hf 1 _ rfl).trans h1
    obtain ⟨n0, e0, _⟩ := DataW.trod_int Tryz.underlying3 f0
    obtain ⟨n1, e1, _, w1⟩ := DataW.trod_int Tryz.underlying39 f1
    replace e0 : List.take (Tryz.prog.cellsOf 3) (List.drop 0 [a, b]) = [.int .i64 n0] := e0
    replace e1 : List.take (Tryz.prog.cellsOf 39) (List.drop 1 [a, b]) = [.int .u64 n1] := e1
    rw [c3] at e0
    rw [c39] at e1
    cases e0
    cases e1
    have hn : 0 ≤ n1 ∧ n1 < 18446744073709551616 := by
      simp [Lit.wf, IntKind.min, IntKind.max, IntKind.bits, IntKind.signed] at w1
      omega
    refine ⟨⟨n0, n1.toNat⟩, ?_, by show n1.toNat < _; omega⟩
    show _ = [_, Value.int .u64 ((n1.toNat : Nat) : Int)]
    rw [Int.toNat_of_nonneg hn.1]
theorem read_marks {cs : List Value} {x : DataW H × List MemPlace} (h : DataW.trod enc Tryz.prog w base spare held fuel 27 cs = some x) : ∃ A c ms, cs = [.slice A ms.length c] ∧ Marks w A ms.length ms ∧ (ms.length ≤ c ∧ (A = none → c = 0)) := by
  have c41 : Tryz.prog.cellsOf 41 = 2 := by kernel_rfl
  rcases DataW.trod_slice (e := 41) (by kernel_rfl) h with ⟨rfl, _⟩ | ⟨a, len, cap, elems, rest, n, _, rfl, _, _, hlc, hm, hl, hel, _⟩
  · exact ⟨none, 0, [], rfl, ⟨rfl, Nat.zero_le _, fun i x h => by simp at h⟩, Nat.le_refl _, fun _ => rfl⟩
  · obtain ⟨xs, hxl, hx⟩ := choose_list (n := len) (R := fun i (x : Mk) => MarkE w (a.add (i * 2)) x) fun i hi => by
      obtain ⟨y, hy⟩ : ∃ y, elems[i]? = some y := ⟨_, List.getElem?_eq_getElem (by rw [hl]; exact hi)⟩
      have := (hel i hi).trans hy
      rw [c41, Option.bind_eq_some_iff] at this
      obtain ⟨c, hc, ht⟩ := this
      obtain ⟨m, rfl, hm⟩ := read_markY ht
      obtain ⟨_, hg⟩ := cellsq hc
      exact ⟨m, hg 0 _ rfl, hg 1 _ rfl⟩
    subst hxl
    exact ⟨some a, cap, xs, rfl, ⟨rfl, Nat.le_trans hlc hm, fun i x hi => ⟨a, rfl, hx i x hi⟩⟩, hlc, fun e => by cases e⟩
end
end Go.Proofs.YtidcpndlloppdaaGreatDoor

/-
 What the engine makes of the loaded functions 90: conditions under which a call returns as told, and proofs of that.
 Conditions: none. Printed by a program of this project.
-/
set_option linter.unusedVariables false
set_option maxRecDepth 100000
namespace Go.Proofs.YtidcpndlloppdaaGreatDoor
def V90.vc (B : Nat) (R : Value → World → Prop) (a : Option Addr) (c d : Nat) (w : World) : Prop :=
 if (Option.isNone a) = true
 then (Ret B w (R (.slice none 0 0)))
 else (Expo B w [] fun f => 
 let g := f.alloc (.cells ⟨[]⟩ 39);
 RunK Tryz.prog (Builtin.append_ #[88, 88] 88 ⟨[.slice (some ⟨f.heap.size, 0, none⟩) 0 0, .slice a c d]⟩) B g [] fun v i => 
 ∃ (j : Option Addr) (l m : Nat), v = .slice j l m ∧
 Ret B i (R (.slice j l m)))
noncomputable def V90.cfg (B : Nat) : Cfg := ⟨Tryz.prog, ⟨8, B⟩, [], hasN [], hasN [], look []⟩
noncomputable def V90.code : Code := (Tryz.f90.body).getD .skip
noncomputable def V90.cuts (B : Nat) (R : Value → World → Prop) : Nat → Cut := nthC []
noncomputable def V90.h : H := .s (.z) (.s (.s (.z) (.c (.s (.z) (.z)) (.z))) (.s (.z) (.z)))
theorem V90.vc_eq (B : Nat) (R : Value → World → Prop) (a : Option Addr) (c d : Nat) (w : World) : wpf (V90.cfg B) (V90.cuts B R) V90.code V90.h [] (postOf Tryz.prog B (Tryz.f90.results.toList) R) (argE 0 [.slice a c d]) [] w = V90.vc B R a c d w := by kernel_rfl
theorem V90.obl (B : Nat) (R : Value → World → Prop) : oblP (V90.cfg B) (V90.cuts B R) V90.code V90.h [] (postOf Tryz.prog B (Tryz.f90.results.toList) R) := by
 have e : oblP (V90.cfg B) (V90.cuts B R) V90.code V90.h [] (postOf Tryz.prog B (Tryz.f90.results.toList) R) = (True ∧ ((True ∧ ((True ∧ True) ∧ True)) ∧ (True ∧ True))) := by kernel_rfl
 exact e.mpr (⟨trivial, ⟨⟨trivial, ⟨⟨trivial, trivial⟩, trivial⟩⟩, ⟨trivial, trivial⟩⟩⟩)
theorem V90.cfgOk (B : Nat) : CfgOk (V90.cfg B) := cfgOk_of (by kernel_rfl) (by kernel_rfl) extNil
theorem V90.sound {a : Option Addr} {d f : Nat} {w : World} {R : Value → World → Prop} (h : V90.vc w.heap.size R a d f w) : Calls Tryz.prog 90 ⟨[.slice a d f]⟩ w fun e w' => ∃ v, e = .returned v ∧ R v w' :=
 calls_wpfP (c := V90.cfg w.heap.size) (fn := Tryz.f90) (x := V90.code) (V90.cuts w.heap.size R) V90.h (V90.cfgOk _) mixed Tryz.func90 (by kernel_rfl) (by kernel_rfl) (by kernel_rfl) rfl (V90.obl _ _) ((V90.vc_eq _ _ a d f _).symm ▸ h)
end Go.Proofs.YtidcpndlloppdaaGreatDoor

/-
 What the engine makes of the loaded functions : conditions under which a call returns as told, and proofs of that.
 Conditions: none. Printed by a program of this project.
-/
set_option linter.unusedVariables false
set_option maxRecDepth 100000
namespace Go.Proofs.YtidcpndlloppdaaGreatDoor
end Go.Proofs.YtidcpndlloppdaaGreatDoor

/-
  The arena's functions: what their calls return and leave.
  Conditions: the arena lies in memory as told.
-/
set_option linter.unusedVariables false
set_option linter.unusedSimpArgs false
namespace Go.Proofs.YtidcpndlloppdaaGreatDoor
open Go.RowKit
def Wd (xs : List Int) : Prop := ∀ x ∈ xs, 0 ≤ x ∧ x < 18446744073709551616
section
variable {w w' : World} {g b : Nat} {mem : List Int}
end
section
variable {w : World} {g b : Nat} {mem : List Int}
def sub (mem : List Int) (at_ k : Int) : List Int := (mem.drop at_.toNat).take k.toNat
end
end Go.Proofs.YtidcpndlloppdaaGreatDoor
set_option linter.unusedVariables false
set_option linter.unusedSimpArgs false
namespace Go.Proofs.YtidcpndlloppdaaGreatDoor
open Go.RowKit
theorem owns_base {w : World} {B B' : Nat} {e : TypeId} {size : Nat} {v : Value} {n : Nat} {xs : List Value} (h : w.ownsRow B e size v n xs) (hB : B' ≤ B) : w.ownsRow B' e size v n xs := by
  refine ⟨h.1, ?_⟩
  rcases h.2 with hn | ⟨g, cap, cur, rfl, hb, rest⟩
  · exact .inl hn
  · exact .inr ⟨g, cap, cur, rfl, Nat.le_trans hB hb, rest⟩
section
variable {w : World} {g b : Nat} {mem : List Int}
end
end Go.Proofs.YtidcpndlloppdaaGreatDoor
set_option linter.unusedVariables false
set_option linter.unusedSimpArgs false
namespace Go.Proofs.YtidcpndlloppdaaGreatDoor
open Go.RowKit
theorem zeros_cells (n : Nat) : madeCells (Value.int .u64 0).cells (n * 1) = ((List.replicate n (0 : Int)).map (Value.int .u64)).toArray := by
  apply Array.toList_inj.1
  rw [Nat.mul_one]
  simp only [madeCells, Array.toList_map, Array.toList_range, List.map_replicate]
  rw [List.eq_replicate_iff]
  refine ⟨by simp, fun x hx => ?_⟩
  obtain ⟨j, _, rfl⟩ := List.mem_map.1 hx
  simp [Value.cells, Nat.mod_one]
section
variable {w : World} {g b : Nat} {mem : List Int}
end
end Go.Proofs.YtidcpndlloppdaaGreatDoor
set_option linter.unusedVariables false
set_option linter.unusedSimpArgs false
namespace Go.Proofs.YtidcpndlloppdaaGreatDoor
open Go.RowKit
structure Dfr where
  f : Int
  args : List Int
structure Frm where
  f : Int
  pc : Int
  mode : Int
  dfd : Bool
  value : Int
  dfs : List Dfr
  locals : List Int
  ops : List Int
def DfrE (w : World) (p : Addr) (d : Dfr) : Prop := w.cell? (p.add 0) = some (.int .i64 d.f) ∧ ∃ A c, w.cell? (p.add 1) = some (.slice A d.args.length c) ∧ Nums .u64 w A d.args.length d.args
theorem DfrE.kept : Kept1 DfrE := fun _ _ _ _ hw h => by
  obtain ⟨h1, A, c, h2, h3⟩ := h
  exact ⟨hw _ _ h1, A, c, hw _ _ h2, RowAt.keep (NumE.kept _) h3 hw⟩
abbrev Dfrs (w : World) (A : Option Addr) (l : Nat) (xs : List Dfr) : Prop := RowAt DfrE 2 w A l xs
structure Sls where
  D : Option Addr
  dc : Nat
  L : Option Addr
  lc : Nat
  O : Option Addr
  oc : Nat
def frmV (x : Frm) (s : Sls) : Value := .agg ⟨[.int .i64 x.f, .int .i64 x.pc, .int .i64 x.mode, .bool x.dfd, .int .u64 x.value, .slice s.D x.dfs.length s.dc, .slice s.L x.locals.length s.lc, .slice s.O x.ops.length s.oc]⟩
structure FrmAt (w : World) (x : Frm) (s : Sls) : Prop where
  dfs : Dfrs w s.D x.dfs.length x.dfs
  locals : Nums .u64 w s.L x.locals.length x.locals
  ops : Nums .u64 w s.O x.ops.length x.ops
theorem FrmAt.keep {w w' : World} {x : Frm} {s : Sls} (h : FrmAt w x s) (hw : ∀ q v, w.cell? q = some v → w'.cell? q = some v) : FrmAt w' x s :=
  ⟨RowAt.keep DfrE.kept h.dfs hw, RowAt.keep (NumE.kept _) h.locals hw, RowAt.keep (NumE.kept _) h.ops hw⟩
def roomM (x : Fnc) : Nat := if hasDefer x.code then 4 else 0
def Sized (p : List Fnc) : Prop := ∀ f ∈ p, sizedF f = true
theorem sized_bd {x : Fnc} (h : sizedF x = true) : 0 ≤ x.params ∧ x.params ≤ 3 ∧ x.params ≤ x.locals ∧ x.locals ≤ 8 ∧ 0 ≤ x.refs ∧ x.refs ≤ x.locals - x.params ∧ 1 ≤ x.code.length ∧ x.code.length ≤ 64 := of_decide_eq_true h
section
variable {w : World} {q : Addr} {l cap : Nat} {f : Nat} {x : Fnc} {C : Option Addr} {c : Nat}
end
def fnAt (p : List Fnc) (f : Int) : Option Fnc := if f < 0 then none else p[f.toNat]?
def dfrM (p : List Fnc) (d : Dfr) : Bool := match fnAt p d.f with
  | some h => (d.args.length : Int) == h.params
  | none => false
def mayM (p : List Fnc) (x : Frm) : Bool := match fnAt p x.f with
  | some g => decide (0 ≤ x.pc ∧ x.pc ≤ g.code.length ∧ 0 ≤ x.mode ∧ x.mode ≤ 2 ∧ (x.locals.length : Int) = g.locals ∧ x.ops.length ≤ 8 ∧ x.dfs.length ≤ roomM g) && x.dfs.all (dfrM p)
  | none => false
section
variable {w0 : World} {p : List Fnc} {A : Option Addr} {cap : Nat}
end
end Go.Proofs.YtidcpndlloppdaaGreatDoor
set_option linter.unusedVariables false
set_option linter.unusedSimpArgs false
namespace Go.Proofs.YtidcpndlloppdaaGreatDoor
open Go.RowKit
structure Hd where
  below : Int
  f : Int
  pc : Int
  mode : Int
  dfd : Bool
  value : Int
  dfs : Int
  ops : Int
def hd0 : Hd := ⟨0, 0, 0, 0, false, 0, 0, 0⟩
section
variable {w : World} {g b : Nat} {mem : List Int}
end
end Go.Proofs.YtidcpndlloppdaaGreatDoor
set_option linter.unusedVariables false
set_option linter.unusedSimpArgs false
namespace Go.Proofs.YtidcpndlloppdaaGreatDoor
open Go.RowKit
section
variable {w : World} {g b : Nat} {mem : List Int}
end
end Go.Proofs.YtidcpndlloppdaaGreatDoor

/-
  Layer 18: frames written by the program, by one plain rule.
  Conditions: the arena, the program, and the frame, lie in memory as told; the program's functions are sized.
-/
set_option linter.unusedVariables false
set_option linter.unusedSimpArgs false
namespace Go.Proofs.YtidcpndlloppdaaGreatDoor
open Go.RowKit
structure FrmWd (x : Frm) : Prop where
  value : 0 ≤ x.value ∧ x.value < 18446744073709551616
  locals : Wd x.locals
  ops : Wd x.ops
  args : ∀ d ∈ x.dfs, Wd d.args
section
variable {w : World} {g b : Nat} {mem : List Int}
end
end Go.Proofs.YtidcpndlloppdaaGreatDoor
set_option linter.unusedVariables false
set_option linter.unusedSimpArgs false
namespace Go.Proofs.YtidcpndlloppdaaGreatDoor
open Go.RowKit
section
variable {w0 : World} {Q : Value → World → Prop} {n cap g5 q9 : Nat} {x : Frm} {s : Sls}
end
end Go.Proofs.YtidcpndlloppdaaGreatDoor
set_option linter.unusedVariables false
set_option linter.unusedSimpArgs false
namespace Go.Proofs.YtidcpndlloppdaaGreatDoor
open Go.RowKit
end Go.Proofs.YtidcpndlloppdaaGreatDoor
set_option linter.unusedVariables false
set_option linter.unusedSimpArgs false
namespace Go.Proofs.YtidcpndlloppdaaGreatDoor
open Go.RowKit
end Go.Proofs.YtidcpndlloppdaaGreatDoor
set_option linter.unusedVariables false
set_option linter.unusedSimpArgs false
namespace Go.Proofs.YtidcpndlloppdaaGreatDoor
open Go.RowKit
end Go.Proofs.YtidcpndlloppdaaGreatDoor

/-
 What the engine makes of the loaded functions 14, 25, 26, 43, 44, 45, 74, 75: conditions under which a call returns as told, and proofs of that.
 Conditions: none. Printed by a program of this project.
-/
set_option linter.unusedVariables false
set_option maxRecDepth 100000
namespace Go.Proofs.YtidcpndlloppdaaGreatDoor
end Go.Proofs.YtidcpndlloppdaaGreatDoor

/-
  The maker of programs by numbers, as a plain rule; how it lies in memory; calls of its functions.
  Conditions: none.
-/
set_option linter.unusedVariables false
set_option linter.unusedSimpArgs false
namespace Go.Proofs.YtidcpndlloppdaaGreatDoor
open Go.RowKit
structure MSt where
  ns : List Int
  p : List Fnc
  f : Nat
  depth : List Int
  now : Int
section
variable {B g : Nat} {w : World} {s : MSt} {A : Option Addr} {ln cn : Nat} {vF vD : Value} {cs : List Value}
end
section
variable {B g : Nat} {S : Nat → Prop} {w0 w : World} {s : MSt} {A : Option Addr} {ln cn : Nat} {vF vD : Value} {cs : List Value}
end
end Go.Proofs.YtidcpndlloppdaaGreatDoor
set_option linter.unusedVariables false
set_option linter.unusedSimpArgs false
namespace Go.Proofs.YtidcpndlloppdaaGreatDoor
open Go.RowKit
structure Run (P : Int → Int → Int) (xs : List Ins) (D E : List Int) : Prop where
  len : D.length = xs.length
  low : ∀ d ∈ D, 0 ≤ d
  ok : ∀ j x d, xs[j]? = some x → D[j]? = some d → P x.op x.a ≤ d ∧ d - P x.op x.a + pushesI x.op ≤ 8 ∧
    ∀ t ∈ nextM j x.op x.a, 0 ≤ t ∧ (D ++ E)[t.toNat]? = some (d - P x.op x.a + pushesI x.op)
def HeadOk (x : Fnc) : Prop := 0 ≤ x.params ∧ x.params ≤ 3 ∧ x.params ≤ x.locals ∧ x.locals ≤ x.params + 4 ∧ 0 ≤ x.refs ∧ x.refs ≤ x.locals - x.params
def FormOk (np : Nat) (x : Fnc) (i : Ins) : Prop := ∀ n : Nat, (i.op = 15 ∨ i.op = 16 → 0 ≤ i.a ∧ i.a < n) → shapedM np x.locals x.refs n i.op i.a i.b = true
def DoneF (np : Nat) (P : Int → Int → Int) (x : Fnc) : Prop := 1 ≤ x.code.length ∧ x.code.length ≤ 62 ∧ (∀ i ∈ x.code, FormOk np x i) ∧ ∃ D, Run P x.code D [] ∧ D[0]? = some 0
theorem firstNot_none {α : Type} {f : α → Bool} : ∀ {l : List α} {i : Nat}, (∀ x ∈ l, f x = true) → firstNot f l i = none
  | [], i, h => rfl
  | y :: r, i, h => by
    unfold firstNot
    rw [if_pos (h y List.mem_cons_self)]
    exact firstNot_none fun x hx => h x (List.mem_cons_of_mem _ hx)
theorem shapesM_none {np : Nat} : ∀ {l : List Fnc} {i : Nat}, (∀ f ∈ l, ∀ x ∈ f.code, shapedI np f x = true) → shapesM np l i = none
  | [], i, h => rfl
  | y :: r, i, h => by
    unfold shapesM
    rw [firstNot_none (h y List.mem_cons_self)]
    exact shapesM_none fun f hf => h f (List.mem_cons_of_mem _ hf)
theorem flowsM_none {p : List Fnc} : ∀ {l : List Fnc} {i : Nat}, (∀ f ∈ l, ∃ d, depthsM p f.code = .inr d) → flowsM p l i = none
  | [], i, h => rfl
  | y :: r, i, h => by
    unfold flowsM
    obtain ⟨d, hd⟩ := h y List.mem_cons_self
    rw [hd]
    exact flowsM_none fun f hf => h f (List.mem_cons_of_mem _ hf)
theorem check_zero {p : List Fnc} (h1 : 1 ≤ p.length) (h8 : p.length ≤ 8) (hs : ∀ x ∈ p, sizedF x = true) (hf : ∀ f ∈ p, ∀ x ∈ f.code, shapedI p.length f x = true) (hd : ∀ f ∈ p, ∃ d, depthsM p f.code = .inr d) : checkM p = (0, 0, 0) := by
  unfold checkM
  rw [if_neg (by omega), firstNot_none hs]
  simp only
  rw [shapesM_none hf]
  simp only
  rw [flowsM_none hd]
end Go.Proofs.YtidcpndlloppdaaGreatDoor
set_option linter.unusedVariables false
set_option linter.unusedSimpArgs false
namespace Go.Proofs.YtidcpndlloppdaaGreatDoor
open Go.RowKit
structure Cur (s : MSt) (E : List Int) : Prop where
  pos : 1 ≤ s.p.length
  few : s.p.length ≤ 5
  f : s.f < s.p.length
  heads : ∀ x ∈ s.p, HeadOk x
  zero : ∀ x, s.p[0]? = some x → x.params = 0
  done : ∀ i x, i < s.f → s.p[i]? = some x → DoneF s.p.length (popsM s.p) x
  todo : ∀ i x, s.f < i → s.p[i]? = some x → x.code = []
  run : ∀ x, s.p[s.f]? = some x → Run (popsM s.p) x.code s.depth (s.now :: E) ∧ ∀ i ∈ x.code, FormOk s.p.length x i
  start : (s.depth ++ [s.now])[0]? = some 0
  now : 0 ≤ s.now ∧ s.now ≤ 8
end Go.Proofs.YtidcpndlloppdaaGreatDoor
set_option linter.unusedVariables false
set_option linter.unusedSimpArgs false
namespace Go.Proofs.YtidcpndlloppdaaGreatDoor
open Go.RowKit
end Go.Proofs.YtidcpndlloppdaaGreatDoor
set_option linter.unusedVariables false
set_option linter.unusedSimpArgs false
namespace Go.Proofs.YtidcpndlloppdaaGreatDoor
open Go.RowKit
section
variable {B g : Nat} {w : World} {s : MSt} {A : Option Addr} {ln cn : Nat} {vF vD : Value} {cs : List Value}
end
end Go.Proofs.YtidcpndlloppdaaGreatDoor
set_option linter.unusedVariables false
set_option linter.unusedSimpArgs false
namespace Go.Proofs.YtidcpndlloppdaaGreatDoor
open Go.RowKit
end Go.Proofs.YtidcpndlloppdaaGreatDoor
set_option linter.unusedVariables false
set_option linter.unusedSimpArgs false
namespace Go.Proofs.YtidcpndlloppdaaGreatDoor
open Go.RowKit
structure Step (n : Nat) (s s' : MSt) : Prop where
  cur : Cur s' []
  f : s'.f = s.f
  p : s'.p.length = s.p.length
  pops : popsM s'.p = popsM s.p
  dep : s'.depth.length ≤ s.depth.length + n
section
variable {B g : Nat} {S : Nat → Prop} {w0 w : World} {s : MSt} {A : Option Addr} {ln cn : Nat} {vF vD : Value} {cs : List Value}
end
end Go.Proofs.YtidcpndlloppdaaGreatDoor
set_option linter.unusedVariables false
set_option linter.unusedSimpArgs false
namespace Go.Proofs.YtidcpndlloppdaaGreatDoor
open Go.RowKit
end Go.Proofs.YtidcpndlloppdaaGreatDoor
set_option linter.unusedVariables false
set_option linter.unusedSimpArgs false
namespace Go.Proofs.YtidcpndlloppdaaGreatDoor
open Go.RowKit
end Go.Proofs.YtidcpndlloppdaaGreatDoor
set_option linter.unusedVariables false
set_option linter.unusedSimpArgs false
namespace Go.Proofs.YtidcpndlloppdaaGreatDoor
open Go.RowKit
section
variable {B g : Nat} {w0 : World} {vF0 vD0 : Value} {cs0 : List Value}
end
end Go.Proofs.YtidcpndlloppdaaGreatDoor
set_option linter.unusedVariables false
set_option linter.unusedSimpArgs false
namespace Go.Proofs.YtidcpndlloppdaaGreatDoor
open Go.RowKit
section
variable {w0 : World} {g : Nat} {q2 : Nat}
end
end Go.Proofs.YtidcpndlloppdaaGreatDoor
