import Derived.Test.YtidcpndlloppdaaGreatDoorRows
import Derived.Test.YtidcpndlloppdaaGreatDoorTie
import Derived.Test.YtidcpndlloppdaaGreatDoorZN29
import Derived.Test.YtidcpndlloppdaaGreatDoorZK17
import Derived.Test.YtidcpndlloppdaaGreatDoorZEngD
import Derived.WalkKit
import Derived.ProofKit
import Derived.OpenShut
import Derived.ChangeOld
import Derived.Below
import Derived.SizedLaws
import Derived.LaidMore
import Derived.Lay
import Derived.SevenTiedAt
import Derived.Stop.Joined
import Derived.Test.YtidcpndlloppdaaGreatDoorZFE
import Derived.Test.YtidcpndlloppdaaGreatDoorZEngC
import Derived.Test.YtidcpndlloppdaaGreatDoorProg
/-
  Layer 29: what the arguments' memory says, read; the tables of the host's library.
  Conditions: none.
-/
set_option linter.unusedVariables false
set_option linter.unusedSimpArgs false
set_option maxRecDepth 100000
namespace Go.Proofs.YtidcpndlloppdaaGreatDoor
open Go.ChangeShapes Go.WideShapes Go.ChangeAt Go.RowKit
theorem own2 : ownKnob Tryz.prog.godebug = none := by kernel_rfl
theorem tab_vars {P : Program} {W : World} {name : String} {k : IntKind} {zs : List Int} {rest : List (String × DataW Unit)} {ps : List MemPlace} {g : Nat} {t e : TypeId} {n : Nat}
    (hg : P.globalNamed name = some g) (hty : (P.globals[g]?).map (·.type) = some t) (ht : P.underlying t = some (.array n e)) (he : P.underlying e = some (.int k)) (hce : P.cellsOf e = 1) (hct : P.cellsOf t = n)
    (h : DataW.LaidVars P W ((name, Lib.tabData k zs) :: rest) ps) : Lib.TabIs P W name k zs ∧ ∃ q, DataW.LaidVars P W rest q := by
  obtain ⟨g', t', cs, fuel, p, q, hg', ht', hvar, hd, hr, _⟩ := h
  obtain rfl := Option.some.inj (hg.symm.trans hg')
  obtain rfl := Option.some.inj (hty.symm.trans ht')
  refine ⟨?_, q, hr⟩
  unfold Lib.TabIs
  rw [hvar, ← Lib.cells_of_tab ht he hce hct hd]
def db32 : List Int := [0, 1, 28, 2, 29, 14, 24, 3, 30, 22, 20, 15, 25, 17, 4, 8, 31, 27, 13, 23, 21, 19, 16, 7, 26, 12, 18, 6, 11, 5, 10, 9]
theorem tabs_of {W : World} (h : laidMetH Tryz.prog Rows.traceMoreRow.laid W) : Tabs W := by
  rw [MakeChecks.laidMetH_plain _ _ _ (by kernel_rfl)] at h
  obtain ⟨ps, hv, _, _⟩ := h
  have hv1 : DataW.LaidVars Tryz.prog W (("math/bits.deBruijn32tab", Lib.tabData .u8 db32) :: ("math/bits.deBruijn64tab", Lib.tabData .u8 db64) :: ("internal/strconv.uint64pow10", Lib.tabData .u64 Lib.pow10Tab) :: []) ps := hv
  obtain ⟨_, q, hv2⟩ := tab_vars (g := 2) (t := 157) (e := 5) (n := 32) (by kernel_rfl) (by kernel_rfl) (by kernel_rfl) (by kernel_rfl) (by kernel_rfl) (by kernel_rfl) hv1
  obtain ⟨h64, q, hv3⟩ := tab_vars (g := 3) (t := 158) (e := 5) (n := 64) (by kernel_rfl) (by kernel_rfl) (by kernel_rfl) (by kernel_rfl) (by kernel_rfl) (by kernel_rfl) hv2
  obtain ⟨h10, q, _⟩ := tab_vars (g := 1) (t := 148) (e := 39) (n := 20) (by kernel_rfl) (by kernel_rfl) (by kernel_rfl) (by kernel_rfl) (by kernel_rfl) (by kernel_rfl) hv3
  exact ⟨h10, h64⟩
theorem laidOut2 : laidOutB Tryz.prog = true := by kernel_rfl
section
variable {H : Type} {enc : TypeId × Value → H} {w : World} {base : Nat} {spare : Nat → Bool} {held : Bool} {fuel : Nat}
theorem choose_list {α : Type} {n : Nat} {R : Nat → α → Prop} (h : ∀ i, i < n → ∃ x, R i x) : ∃ xs : List α, xs.length = n ∧ ∀ i x, xs[i]? = some x → R i x := by
  induction n with
  | zero => exact ⟨[], rfl, fun i x hx => by simp at hx⟩
  | succ n ih =>
    obtain ⟨xs, hl, hx⟩ := ih fun i hi => h i (by omega)
    obtain ⟨y, hy⟩ := h n (by omega)
    refine ⟨xs ++ [y], by simp [hl], fun i x hi => ?_⟩
    by_cases hin : i < n
    · exact hx i x (by rw [List.getElem?_append_left (by omega)] at hi; exact hi)
    · have := (List.getElem?_eq_some_iff.1 hi).1
      simp [hl] at this
      have hin : i = n := by omega
      subst hin
      rw [List.getElem?_append_right (by omega), hl] at hi
      simp at hi
      subst hi
      exact hy
end
theorem read_bytes {H : Type} {enc : TypeId × Value → H} {w : World} {base : Nat} {spare : Nat → Bool} {held : Bool} {fuel : Nat} {cs : List Value} {x : DataW H × List MemPlace} (h : DataW.trod enc Tryz.prog w base spare held fuel 36 cs = some x) :
    ∃ A l c ns, cs = [.slice A l c] ∧ BytesAt w A l c ns := by
  have c5 : Tryz.prog.cellsOf 5 = 1 := by kernel_rfl
  rcases DataW.trod_slice (e := 5) (by kernel_rfl) h with ⟨rfl, _⟩ | ⟨a, len, cap, elems, rest, n, _, rfl, _, _, hlc, hm, hl, hel, _⟩
  · exact ⟨none, 0, 0, [], rfl, ⟨rfl, Nat.zero_le _, fun i x h => by simp at h⟩, fun n h => by (cases h), Nat.le_refl _⟩
  · obtain ⟨xs, hxl, hx⟩ := choose_list (n := len) (R := fun i (x : Int) => NumE .u8 w (a.add (i * 1)) x ∧ 0 ≤ x ∧ x < 256) fun i hi => by
      obtain ⟨y, hy⟩ : ∃ y, elems[i]? = some y := ⟨_, List.getElem?_eq_getElem (by rw [hl]; exact hi)⟩
      have := (hel i hi).trans hy
      rw [c5, Option.bind_eq_some_iff] at this
      obtain ⟨c, hc, ht⟩ := this
      obtain ⟨n, rfl, _, wn⟩ := DataW.trod_int Tryz.underlying5 ht
      have hn : 0 ≤ n ∧ n < 256 := by
        simp [Lit.wf, IntKind.min, IntKind.max, IntKind.bits, IntKind.signed] at wn
        omega
      exact ⟨n, cell_of_cells?_one hc, hn⟩
    refine ⟨some a, len, cap, xs, rfl, ⟨hxl, Nat.le_trans hlc hm, fun i x hi => ⟨a, rfl, (hx i x hi).1⟩⟩, fun n hn => ?_, hlc⟩
    obtain ⟨i, hi⟩ := List.mem_iff_getElem?.1 hn
    exact (hx i n hi).2
theorem byte_bd {n : Int} (h : (Lit.int .u8 n).wf = true) : 0 ≤ n ∧ n < 256 := by
  simp [Lit.wf, IntKind.min, IntKind.max, IntKind.bits, IntKind.signed] at h
  omega
end Go.Proofs.YtidcpndlloppdaaGreatDoor

/-
  What the engine makes of the loaded functions 90: conditions under which a call returns as told, and proofs of that.
  Conditions: none. Printed by a program of this project.
-/
set_option linter.unusedVariables false
set_option maxRecDepth 100000
namespace Go.Proofs.YtidcpndlloppdaaGreatDoor
def V90.vc (B : Nat) (R : Value → World → Prop) (a : Option Addr) (c d : Nat) (w : World) : Prop :=
  if (Option.isNone a) = true
  then (Ret B w (R (.slice none 0 0)))
  else (Expo B w [] fun f => 
   let g := f.alloc (.cells ⟨[]⟩ 39);
   RunK Tryz.prog (Builtin.append_ #[88, 88] 88 ⟨[.slice (some ⟨f.heap.size, 0, none⟩) 0 0, .slice a c d]⟩) B g [] fun v i => 
   ∃ (j : Option Addr) (l m : Nat), v = .slice j l m ∧
   Ret B i (R (.slice j l m)))
noncomputable def V90.cfg (B : Nat) : Cfg := ⟨Tryz.prog, ⟨8, B⟩, [], hasN [], hasN [], look []⟩
noncomputable def V90.code : Code := (Tryz.f90.body).getD .skip
noncomputable def V90.cuts (B : Nat) (R : Value → World → Prop) : Nat → Cut := nthC []
noncomputable def V90.h : H := .s (.z) (.s (.s (.z) (.c (.s (.z) (.z)) (.z))) (.s (.z) (.z)))
theorem V90.vc_eq (B : Nat) (R : Value → World → Prop) (a : Option Addr) (c d : Nat) (w : World) : wpf (V90.cfg B) (V90.cuts B R) V90.code V90.h [] (postOf Tryz.prog B (Tryz.f90.results.toList) R) (argE 0 [.slice a c d]) [] w = V90.vc B R a c d w := by kernel_rfl
theorem V90.obl (B : Nat) (R : Value → World → Prop) : oblP (V90.cfg B) (V90.cuts B R) V90.code V90.h [] (postOf Tryz.prog B (Tryz.f90.results.toList) R) := by
  have e : oblP (V90.cfg B) (V90.cuts B R) V90.code V90.h [] (postOf Tryz.prog B (Tryz.f90.results.toList) R) = (True ∧ ((True ∧ ((True ∧ True) ∧ True)) ∧ (True ∧ True))) := by kernel_rfl
  exact e.mpr (⟨trivial, ⟨⟨trivial, ⟨⟨trivial, trivial⟩, trivial⟩⟩, ⟨trivial, trivial⟩⟩⟩)
theorem V90.cfgOk (B : Nat) : CfgOk (V90.cfg B) := cfgOk_of (by kernel_rfl) (by kernel_rfl) extNil
theorem V90.sound {a : Option Addr} {d f : Nat} {w : World} {R : Value → World → Prop} (h : V90.vc w.heap.size R a d f w) : Calls Tryz.prog 90 ⟨[.slice a d f]⟩ w fun e w' => ∃ v, e = .returned v ∧ R v w' :=
  calls_wpfP (c := V90.cfg w.heap.size) (fn := Tryz.f90) (x := V90.code) (V90.cuts w.heap.size R) V90.h (V90.cfgOk _) mixed Tryz.func90 (by kernel_rfl) (by kernel_rfl) (by kernel_rfl) rfl (V90.obl _ _) ((V90.vc_eq _ _ a d f _).symm ▸ h)
end Go.Proofs.YtidcpndlloppdaaGreatDoor

/-
  What the engine makes of the loaded functions : conditions under which a call returns as told, and proofs of that.
  Conditions: none. Printed by a program of this project.
-/
set_option linter.unusedVariables false
set_option maxRecDepth 100000
namespace Go.Proofs.YtidcpndlloppdaaGreatDoor
end Go.Proofs.YtidcpndlloppdaaGreatDoor

/-
  The arena's functions: what their calls return and leave.
  Conditions: the arena lies in memory as told.
-/
set_option linter.unusedVariables false
set_option linter.unusedSimpArgs false
namespace Go.Proofs.YtidcpndlloppdaaGreatDoor
open Go.RowKit
def Wd (xs : List Int) : Prop := ∀ x ∈ xs, 0 ≤ x ∧ x < 18446744073709551616
theorem Wd.at {xs : List Int} (h : Wd xs) {i : Nat} {x : Int} (hx : xs[i]? = some x) : 0 ≤ x ∧ x < 18446744073709551616 := h x (List.mem_of_getElem? hx)
section
variable {w w' : World} {g b : Nat} {mem : List Int}
end
section
variable {w : World} {g b : Nat} {mem : List Int}
def sub (mem : List Int) (at_ k : Int) : List Int := (mem.drop at_.toNat).take k.toNat
theorem Wd.set {xs : List Int} (h : Wd xs) (i : Nat) {x : Int} (hx : 0 ≤ x ∧ x < 18446744073709551616) : Wd (xs.set i x) := fun y hy => by
  rcases List.mem_or_eq_of_mem_set hy with hy | rfl
  · exact h y hy
  · exact hx
end
end Go.Proofs.YtidcpndlloppdaaGreatDoor
set_option linter.unusedVariables false
set_option linter.unusedSimpArgs false
namespace Go.Proofs.YtidcpndlloppdaaGreatDoor
open Go.RowKit
theorem owns_base {w : World} {B B' : Nat} {e : TypeId} {size : Nat} {v : Value} {n : Nat} {xs : List Value} (h : w.ownsRow B e size v n xs) (hB : B' ≤ B) : w.ownsRow B' e size v n xs := by
  refine ⟨h.1, ?_⟩
  rcases h.2 with hn | ⟨g, cap, cur, rfl, hb, rest⟩
  · exact .inl hn
  · exact .inr ⟨g, cap, cur, rfl, Nat.le_trans hB hb, rest⟩
abbrev OwnWs (w : World) (B : Nat) (v : Value) (xs : List Int) : Prop := w.ownsRow B 39 1 v xs.length (xs.map (.int .u64))
theorem ownws_nums {w : World} {B : Nat} {v : Value} {xs : List Int} (h : OwnWs w B v xs) (hl : xs.length ≤ 17592186044416) : ∃ A c, v = .slice A xs.length c ∧ Nums .u64 w A xs.length xs ∧ ∀ p, A = some p → B ≤ p.block := by
  obtain ⟨A, c, hv, hn, hb⟩ := owns_nums h (by simp only [maxLen]; omega)
  exact ⟨A, c, hv, hn, fun p hp => (h.lt _ (hb p hp)).1⟩
section
variable {w : World} {g b : Nat} {mem : List Int}
end
end Go.Proofs.YtidcpndlloppdaaGreatDoor
set_option linter.unusedVariables false
set_option linter.unusedSimpArgs false
namespace Go.Proofs.YtidcpndlloppdaaGreatDoor
open Go.RowKit
theorem zeros_cells (n : Nat) : madeCells (Value.int .u64 0).cells (n * 1) = ((List.replicate n (0 : Int)).map (Value.int .u64)).toArray := by
  apply Array.toList_inj.1
  rw [Nat.mul_one]
  simp only [madeCells, Array.toList_map, Array.toList_range, List.map_replicate]
  rw [List.eq_replicate_iff]
  refine ⟨by simp, fun x hx => ?_⟩
  obtain ⟨j, _, rfl⟩ := List.mem_map.1 hx
  simp [Value.cells, Nat.mod_one]
section
variable {w : World} {g b : Nat} {mem : List Int}
end
end Go.Proofs.YtidcpndlloppdaaGreatDoor
set_option linter.unusedVariables false
set_option linter.unusedSimpArgs false
namespace Go.Proofs.YtidcpndlloppdaaGreatDoor
open Go.RowKit
structure Dfr where
  f : Int
  args : List Int
structure Frm where
  f : Int
  pc : Int
  mode : Int
  dfd : Bool
  value : Int
  dfs : List Dfr
  locals : List Int
  ops : List Int
def DfrE (w : World) (p : Addr) (d : Dfr) : Prop := w.cell? (p.add 0) = some (.int .i64 d.f) ∧ ∃ A c, w.cell? (p.add 1) = some (.slice A d.args.length c) ∧ Nums .u64 w A d.args.length d.args
theorem DfrE.kept : Kept1 DfrE := fun _ _ _ _ hw h => by
  obtain ⟨h1, A, c, h2, h3⟩ := h
  exact ⟨hw _ _ h1, A, c, hw _ _ h2, RowAt.keep (NumE.kept _) h3 hw⟩
abbrev Dfrs (w : World) (A : Option Addr) (l : Nat) (xs : List Dfr) : Prop := RowAt DfrE 2 w A l xs
structure Sls where
  D : Option Addr
  dc : Nat
  L : Option Addr
  lc : Nat
  O : Option Addr
  oc : Nat
structure FrmAt (w : World) (x : Frm) (s : Sls) : Prop where
  dfs : Dfrs w s.D x.dfs.length x.dfs
  locals : Nums .u64 w s.L x.locals.length x.locals
  ops : Nums .u64 w s.O x.ops.length x.ops
theorem FrmAt.keep {w w' : World} {x : Frm} {s : Sls} (h : FrmAt w x s) (hw : ∀ q v, w.cell? q = some v → w'.cell? q = some v) : FrmAt w' x s :=
  ⟨RowAt.keep DfrE.kept h.dfs hw, RowAt.keep (NumE.kept _) h.locals hw, RowAt.keep (NumE.kept _) h.ops hw⟩
def roomM (x : Fnc) : Nat := if hasDefer x.code then 4 else 0
def Sized (p : List Fnc) : Prop := ∀ f ∈ p, sizedF f = true
theorem sized_bd {x : Fnc} (h : sizedF x = true) : 0 ≤ x.params ∧ x.params ≤ 3 ∧ x.params ≤ x.locals ∧ x.locals ≤ 8 ∧ 0 ≤ x.refs ∧ x.refs ≤ x.locals - x.params ∧ 1 ≤ x.code.length ∧ x.code.length ≤ 64 := of_decide_eq_true h
section
variable {w : World} {q : Addr} {l cap : Nat} {f : Nat} {x : Fnc} {C : Option Addr} {c : Nat}
end
def fnAt (p : List Fnc) (f : Int) : Option Fnc := if f < 0 then none else p[f.toNat]?
def dfrM (p : List Fnc) (d : Dfr) : Bool := match fnAt p d.f with
  | some h => (d.args.length : Int) == h.params
  | none => false
def mayM (p : List Fnc) (x : Frm) : Bool := match fnAt p x.f with
  | some g => decide (0 ≤ x.pc ∧ x.pc ≤ g.code.length ∧ 0 ≤ x.mode ∧ x.mode ≤ 2 ∧ (x.locals.length : Int) = g.locals ∧ x.ops.length ≤ 8 ∧ x.dfs.length ≤ roomM g) && x.dfs.all (dfrM p)
  | none => false
section
variable {w0 : World} {p : List Fnc} {A : Option Addr} {cap : Nat}
end
end Go.Proofs.YtidcpndlloppdaaGreatDoor
set_option linter.unusedVariables false
set_option linter.unusedSimpArgs false
namespace Go.Proofs.YtidcpndlloppdaaGreatDoor
open Go.RowKit
structure Hd where
  below : Int
  f : Int
  pc : Int
  mode : Int
  dfd : Bool
  value : Int
  dfs : Int
  ops : Int
def hd0 : Hd := ⟨0, 0, 0, 0, false, 0, 0, 0⟩
structure WordsAt (w : World) (A : Option Addr) (l c : Nat) (xs : List Int) : Prop where
  nums : Nums .u64 w A l xs
  wd : Wd xs
  cap : l ≤ c
  small : l ≤ 1000000000
theorem WordsAt.keep {w w' : World} {A : Option Addr} {l c : Nat} {xs : List Int} (h : WordsAt w A l c xs) (hw : ∀ q v, w.cell? q = some v → w'.cell? q = some v) : WordsAt w' A l c xs := ⟨RowAt.keep (NumE.kept _) h.nums hw, h.wd, h.cap, h.small⟩
section
variable {w : World} {g b : Nat} {mem : List Int}
end
end Go.Proofs.YtidcpndlloppdaaGreatDoor
set_option linter.unusedVariables false
set_option linter.unusedSimpArgs false
namespace Go.Proofs.YtidcpndlloppdaaGreatDoor
open Go.RowKit
section
variable {w : World} {g b : Nat} {mem : List Int}
end
end Go.Proofs.YtidcpndlloppdaaGreatDoor

/-
  Layer 18: frames written by the program, by one plain rule.
  Conditions: the arena, the program, and the frame, lie in memory as told; the program's functions are sized.
-/
set_option linter.unusedVariables false
set_option linter.unusedSimpArgs false
namespace Go.Proofs.YtidcpndlloppdaaGreatDoor
open Go.RowKit
structure FrmWd (x : Frm) : Prop where
  value : 0 ≤ x.value ∧ x.value < 18446744073709551616
  locals : Wd x.locals
  ops : Wd x.ops
  args : ∀ d ∈ x.dfs, Wd d.args
section
variable {w : World} {g b : Nat} {mem : List Int}
end
end Go.Proofs.YtidcpndlloppdaaGreatDoor
set_option linter.unusedVariables false
set_option linter.unusedSimpArgs false
namespace Go.Proofs.YtidcpndlloppdaaGreatDoor
open Go.RowKit
section
variable {w0 : World} {Q : Value → World → Prop} {n cap g5 q9 : Nat} {x : Frm} {s : Sls}
end
end Go.Proofs.YtidcpndlloppdaaGreatDoor
set_option linter.unusedVariables false
set_option linter.unusedSimpArgs false
namespace Go.Proofs.YtidcpndlloppdaaGreatDoor
open Go.RowKit
def dfsV : List Dfr → List Value → List Value
  | d :: ds, v :: vs => .int .i64 d.f :: v :: dfsV ds vs
  | _, _ => []
theorem dfs_get : ∀ {ds : List Dfr} {vs : List Value} {i : Nat} {d : Dfr} {v : Value}, ds[i]? = some d → vs[i]? = some v → (dfsV ds vs)[i * 2]? = some (.int .i64 d.f) ∧ (dfsV ds vs)[i * 2 + 1]? = some v
  | [], vs, i, d, v, h, _ => by simp at h
  | y :: ds, [], i, d, v, _, h => by simp at h
  | y :: ds, u :: vs, 0, d, v, h, hv => by
    simp at h hv; subst h; subst hv
    exact ⟨rfl, rfl⟩
  | y :: ds, u :: vs, i + 1, d, v, h, hv => by
    obtain ⟨h1, h2⟩ := dfs_get (ds := ds) (vs := vs) (i := i) (by simpa using h) (by simpa using hv)
    rw [show (i + 1) * 2 = i * 2 + 2 by omega, show i * 2 + 2 + 1 = i * 2 + 1 + 2 by omega]
    exact ⟨h1, h2⟩
structure OwnDs (w : World) (B : Nat) (v : Value) (ds : List Dfr) (vs : List Value) : Prop where
  row : w.ownsRow B 112 2 v ds.length (dfsV ds vs)
  len : vs.length = ds.length
  args : ∀ (i : Nat) (d : Dfr) (u : Value), ds[i]? = some d → vs[i]? = some u → OwnWs w B u d.args
theorem OwnDs.ext {B B' : Nat} {w w' : World} {v : Value} {ds : List Dfr} {vs : List Value} (h : OwnDs w B v ds vs) (he : Ext B' w w') : OwnDs w' B v ds vs :=
  ⟨he.owns h.row, h.len, fun i d u hd hu => he.owns (h.args i d u hd hu)⟩
theorem OwnDs.nil (w : World) (B : Nat) : OwnDs w B (.slice none 0 0) [] [] := ⟨World.ownsRow_nil _ _ _ _, rfl, fun i d u h => by simp at h⟩
theorem OwnDs.dfs {w : World} {B : Nat} {v : Value} {ds : List Dfr} {vs : List Value} (h : OwnDs w B v ds vs) (hl : ds.length ≤ 1000000) (ha : ∀ d ∈ ds, d.args.length ≤ 1000000) : ∃ A c, v = .slice A ds.length c ∧ Dfrs (newW B w) A ds.length ds := by
  rcases h.row.2 with ⟨rfl, h0⟩ | ⟨g, cap, cur, rfl, hb, _⟩
  · have : ds = [] := List.eq_nil_of_length_eq_zero h0
    subst this
    exact ⟨none, 0, rfl, rfl, Nat.zero_le _, fun i x h => by simp at h⟩
  · refine ⟨_, cap, rfl, rfl, by simp only [maxLen]; omega, fun i d hd => ⟨_, rfl, ?_⟩⟩
    have hi := (List.getElem?_eq_some_iff.1 hd).1
    have hv : vs[i]? = some (vs[i]'(by rw [h.len]; exact hi)) := List.getElem?_eq_getElem _
    obtain ⟨k1, k2⟩ := dfs_get hd hv
    have c1 := owns_cell h.row k1
    have c2 := owns_cell h.row k2
    have harg := h.args i d _ hd hv
    obtain ⟨A, c, hvv, hn, hbl⟩ := ownws_nums harg (by have := ha d (List.mem_of_getElem? hd); omega)
    rw [hvv] at c2
    unfold DfrE
    simp only [own_add, bx_add, Nat.add_zero, Nat.zero_add]
    refine ⟨newW_cell.2 ⟨c1, hb⟩, A, c, newW_cell.2 ⟨c2, hb⟩, hn.len, hn.small, fun j y hj => ?_⟩
    obtain ⟨p, hp, he⟩ := hn.get j y hj
    refine ⟨p, hp, ?_⟩
    unfold NumE at he ⊢
    exact newW_cell.2 ⟨he, by rw [add_block]; exact hbl p hp⟩
end Go.Proofs.YtidcpndlloppdaaGreatDoor
set_option linter.unusedVariables false
set_option linter.unusedSimpArgs false
namespace Go.Proofs.YtidcpndlloppdaaGreatDoor
open Go.RowKit
end Go.Proofs.YtidcpndlloppdaaGreatDoor
set_option linter.unusedVariables false
set_option linter.unusedSimpArgs false
namespace Go.Proofs.YtidcpndlloppdaaGreatDoor
open Go.RowKit
end Go.Proofs.YtidcpndlloppdaaGreatDoor
