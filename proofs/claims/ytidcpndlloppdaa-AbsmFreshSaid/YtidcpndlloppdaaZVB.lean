import Derived.Test.YtidcpndlloppdaaRows
import Derived.Test.YtidcpndlloppdaaZK17
import Derived.Test.YtidcpndlloppdaaZEngD
import Derived.WalkKit
import Derived.ProofKit
import Derived.OpenShut
import Derived.ChangeOld
import Derived.Below
import Derived.SizedLaws
import Derived.Test.YtidcpndlloppdaaZVA
import Derived.Test.YtidcpndlloppdaaZEngC
import Derived.Test.YtidcpndlloppdaaProg
/-
  Layer 21: what the arguments' memory says, read as programs.
  Conditions: none.
-/
set_option linter.unusedVariables false
set_option linter.unusedSimpArgs false
set_option maxRecDepth 100000
namespace Go.Proofs.Ytidcpndlloppdaa
open Go.ChangeShapes Go.WideShapes Go.ChangeAt Go.RowKit
theorem own17 : ownKnob Try.prog.godebug = none := by kernel_rfl
theorem laidOut17 : laidOutB Try.prog = true := by kernel_rfl
section
variable {H : Type} {enc : TypeId × Value → H} {w : World} {base : Nat} {spare : Nat → Bool} {held : Bool} {fuel : Nat}
theorem choose_list {α : Type} {n : Nat} {R : Nat → α → Prop} (h : ∀ i, i < n → ∃ x, R i x) : ∃ xs : List α, xs.length = n ∧ ∀ i x, xs[i]? = some x → R i x := by
  induction n with
  | zero => exact ⟨[], rfl, fun i x hx => by simp at hx⟩
  | succ n ih =>
    obtain ⟨xs, hl, hx⟩ := ih fun i hi => h i (by omega)
    obtain ⟨y, hy⟩ := h n (by omega)
    refine ⟨xs ++ [y], by simp [hl], fun i x hi => ?_⟩
    by_cases hin : i < n
    · exact hx i x (by rw [List.getElem?_append_left (by omega)] at hi; exact hi)
    · have := (List.getElem?_eq_some_iff.1 hi).1
      simp [hl] at this
      have hin : i = n := by omega
      subst hin
      rw [List.getElem?_append_right (by omega), hl] at hi
      simp at hi
      subst hi
      exact hy
end
theorem read_bytes {H : Type} {enc : TypeId × Value → H} {w : World} {base : Nat} {spare : Nat → Bool} {held : Bool} {fuel : Nat} {cs : List Value} {x : DataW H × List MemPlace} (h : DataW.trod enc Try.prog w base spare held fuel 47 cs = some x) :
    ∃ A l c ns, cs = [.slice A l c] ∧ BytesAt w A l c ns := by
  have c5 : Try.prog.cellsOf 5 = 1 := by kernel_rfl
  rcases DataW.trod_slice (e := 5) (by kernel_rfl) h with ⟨rfl, _⟩ | ⟨a, len, cap, elems, rest, n, _, rfl, _, _, hlc, hm, hl, hel, _⟩
  · exact ⟨none, 0, 0, [], rfl, ⟨rfl, Nat.zero_le _, fun i x h => by simp at h⟩, fun n h => by (cases h), Nat.le_refl _⟩
  · obtain ⟨xs, hxl, hx⟩ := choose_list (n := len) (R := fun i (x : Int) => NumE .u8 w (a.add (i * 1)) x ∧ 0 ≤ x ∧ x < 256) fun i hi => by
      obtain ⟨y, hy⟩ : ∃ y, elems[i]? = some y := ⟨_, List.getElem?_eq_getElem (by rw [hl]; exact hi)⟩
      have := (hel i hi).trans hy
      rw [c5, Option.bind_eq_some_iff] at this
      obtain ⟨c, hc, ht⟩ := this
      obtain ⟨n, rfl, _, wn⟩ := DataW.trod_int Try.underlying5 ht
      have hn : 0 ≤ n ∧ n < 256 := by
        simp [Lit.wf, IntKind.min, IntKind.max, IntKind.bits, IntKind.signed] at wn
        omega
      exact ⟨n, cell_of_cells?_one hc, hn⟩
    refine ⟨some a, len, cap, xs, rfl, ⟨hxl, Nat.le_trans hlc hm, fun i x hi => ⟨a, rfl, (hx i x hi).1⟩⟩, fun n hn => ?_, hlc⟩
    obtain ⟨i, hi⟩ := List.mem_iff_getElem?.1 hn
    exact (hx i n hi).2
end Go.Proofs.Ytidcpndlloppdaa

/-
 What the engine makes of the loaded functions 18, 38: conditions under which a call returns as told, and proofs of that.
 Conditions: none. Printed by a program of this project.
-/
set_option linter.unusedVariables false
set_option maxRecDepth 100000
namespace Go.Proofs.Ytidcpndlloppdaa
def V18.l0 (B : Nat) (R : Value → World → Prop) : Nat → Option Addr → Nat → Nat → Option Addr → Nat → Nat → Int → World → Prop
 | 0 => fun _ _ _ _ _ _ _ _ => False
 | k + 1 => fun a c d f g i j w =>
 if (decide (j < (c : Int))) = true
 then (∃ l : Addr, a = some l ∧ (0 : Int) ≤ j ∧ j < (c : Int) ∧
 ∃ m : Int, w.cell? (l.add j.toNat) = some (.int .u64 m) ∧
 ∃ n : Addr, f = some n ∧ (0 : Int) ≤ j ∧ j < (g : Int) ∧
 ∃ o : Int, w.cell? (n.add j.toNat) = some (.int .u64 o) ∧
 if (m != o) = true
 then (Ret B w (R (.bool false)))
 else ((V18.l0 B R k) a c d f g i (IntKind.wrap .i64 (j + 1)) w))
 else (Ret B w (R (.bool true)))
def V18.vc (B : Nat) (R : Value → World → Prop) (a : Option Addr) (c d : Nat) (f : Option Addr) (g i : Nat) (w : World) : Prop :=
 if ((c : Int) != (g : Int)) = true
 then (Ret B w (R (.bool false)))
 else (∃ j, V18.l0 B R j a c d f g i 0 w)
noncomputable def V18.cfg (B : Nat) : Cfg := ⟨Try.prog, ⟨26, B⟩, [], hasN [], hasN [], look []⟩
noncomputable def V18.code : Code := (Try.f18.body).getD .skip
noncomputable def V18.cuts (B : Nat) (R : Value → World → Prop) : Nat → Cut := nthC [⟨[(0, .one (.slice)), (1, .one (.slice)), (5, .one (.int .i64))], [], fun fs vs bs w => V18.l0 B R (nthN fs 0) (slA (nthV vs 0)) (slL (nthV vs 0)) (slC (nthV vs 0)) (slA (nthV vs 1)) (slL (nthV vs 1)) (slC (nthV vs 1)) (iV (nthV vs 2)) w⟩]
noncomputable def V18.h : H := .s (.z) (.s (.s (.z) (.c (.s (.z) (.z)) (.z))) (.s (.s (.z) (.b (.l 0 (.s (.s (.z) (.c (.z) (.z))) (.s (.b (.s (.r [[0, 1, 2, 3, 4, 5, 6, 7, 8]]) (.c (.s (.z) (.z)) (.z)))) (.z)))))) (.s (.z) (.z))))
theorem V18.vc_eq (B : Nat) (R : Value → World → Prop) (a : Option Addr) (c d : Nat) (f : Option Addr) (g i : Nat) (w : World) : wpf (V18.cfg B) (V18.cuts B R) V18.code V18.h [] (postOf Try.prog B (Try.f18.results.toList) R) (argE 0 [.slice a c d, .slice f g i]) [] w = V18.vc B R a c d f g i w := by kernel_rfl
theorem V18.obl (B : Nat) (R : Value → World → Prop) : oblP (V18.cfg B) (V18.cuts B R) V18.code V18.h [] (postOf Try.prog B (Try.f18.results.toList) R) := by
 have e : oblP (V18.cfg B) (V18.cuts B R) V18.code V18.h [] (postOf Try.prog B (Try.f18.results.toList) R) = (True ∧ ((True ∧ ((True ∧ True) ∧ True)) ∧ ((True ∧ ((∀ (a : Option Addr) (c d : Nat) (f : Option Addr) (g i : Nat) (j : Int) (w : World), ¬ V18.l0 B R 0 a c d f g i j w) ∧ (∀ l, ∀ (a : Option Addr) (c d : Nat) (f : Option Addr) (g i : Nat) (j : Int) (w : World), V18.l0 B R (l + 1) a c d f g i j w → V18.l0 B R (l + 1) a c d f g i j w) ∧ ∀ l : Nat, ((True ∧ (True ∧ True)) ∧ (((true = true) ∧ ((True ∧ True) ∧ True)) ∧ True)))) ∧ (True ∧ True)))) := by kernel_rfl
 exact e.mpr (⟨trivial, ⟨⟨trivial, ⟨⟨trivial, trivial⟩, trivial⟩⟩, ⟨⟨trivial, ⟨fun a c d f g i j w h => h, fun _ a c d f g i j w h => h, fun l => ⟨⟨trivial, ⟨trivial, trivial⟩⟩, ⟨⟨rfl, ⟨⟨trivial, trivial⟩, trivial⟩⟩, trivial⟩⟩⟩⟩, ⟨trivial, trivial⟩⟩⟩⟩)
theorem V18.cfgOk (B : Nat) : CfgOk (V18.cfg B) := cfgOk_of (by kernel_rfl) (by kernel_rfl) extNil
theorem V18.sound {a : Option Addr} {d f : Nat} {g : Option Addr} {i j : Nat} {w : World} {R : Value → World → Prop} (h : V18.vc w.heap.size R a d f g i j w) : Calls Try.prog 18 ⟨[.slice a d f, .slice g i j]⟩ w fun e w' => ∃ v, e = .returned v ∧ R v w' :=
 calls_wpfP (c := V18.cfg w.heap.size) (fn := Try.f18) (x := V18.code) (V18.cuts w.heap.size R) V18.h (V18.cfgOk _) mixed Try.func18 (by kernel_rfl) (by kernel_rfl) (by kernel_rfl) rfl (V18.obl _ _) ((V18.vc_eq _ _ a d f g i j _).symm ▸ h)
def V38.vc (B : Nat) (R : Value → World → Prop) (a : Option Addr) (c d : Nat) (w : World) : Prop :=
 if (Option.isNone a) = true
 then (Ret B w (R (.slice none 0 0)))
 else (Expo B w [] fun f => 
 let g := f.alloc (.cells ⟨[]⟩ 28);
 RunK Try.prog (Builtin.append_ #[49, 49] 49 ⟨[.slice (some ⟨f.heap.size, 0, none⟩) 0 0, .slice a c d]⟩) B g [] fun v i => 
 ∃ (j : Option Addr) (l m : Nat), v = .slice j l m ∧
 Ret B i (R (.slice j l m)))
noncomputable def V38.cfg (B : Nat) : Cfg := ⟨Try.prog, ⟨8, B⟩, [], hasN [], hasN [], look []⟩
noncomputable def V38.code : Code := (Try.f38.body).getD .skip
noncomputable def V38.cuts (B : Nat) (R : Value → World → Prop) : Nat → Cut := nthC []
noncomputable def V38.h : H := .s (.z) (.s (.s (.z) (.c (.s (.z) (.z)) (.z))) (.s (.z) (.z)))
theorem V38.vc_eq (B : Nat) (R : Value → World → Prop) (a : Option Addr) (c d : Nat) (w : World) : wpf (V38.cfg B) (V38.cuts B R) V38.code V38.h [] (postOf Try.prog B (Try.f38.results.toList) R) (argE 0 [.slice a c d]) [] w = V38.vc B R a c d w := by kernel_rfl
theorem V38.obl (B : Nat) (R : Value → World → Prop) : oblP (V38.cfg B) (V38.cuts B R) V38.code V38.h [] (postOf Try.prog B (Try.f38.results.toList) R) := by
 have e : oblP (V38.cfg B) (V38.cuts B R) V38.code V38.h [] (postOf Try.prog B (Try.f38.results.toList) R) = (True ∧ ((True ∧ ((True ∧ True) ∧ True)) ∧ (True ∧ True))) := by kernel_rfl
 exact e.mpr (⟨trivial, ⟨⟨trivial, ⟨⟨trivial, trivial⟩, trivial⟩⟩, ⟨trivial, trivial⟩⟩⟩)
theorem V38.cfgOk (B : Nat) : CfgOk (V38.cfg B) := cfgOk_of (by kernel_rfl) (by kernel_rfl) extNil
theorem V38.sound {a : Option Addr} {d f : Nat} {w : World} {R : Value → World → Prop} (h : V38.vc w.heap.size R a d f w) : Calls Try.prog 38 ⟨[.slice a d f]⟩ w fun e w' => ∃ v, e = .returned v ∧ R v w' :=
 calls_wpfP (c := V38.cfg w.heap.size) (fn := Try.f38) (x := V38.code) (V38.cuts w.heap.size R) V38.h (V38.cfgOk _) mixed Try.func38 (by kernel_rfl) (by kernel_rfl) (by kernel_rfl) rfl (V38.obl _ _) ((V38.vc_eq _ _ a d f _).symm ▸ h)
end Go.Proofs.Ytidcpndlloppdaa

/-
 What the engine makes of the loaded functions 29, 47, 48: conditions under which a call returns as told, and proofs of that.
 Conditions: none. Printed by a program of this project.
-/
set_option linter.unusedVariables false
set_option maxRecDepth 100000
namespace Go.Proofs.Ytidcpndlloppdaa
end Go.Proofs.Ytidcpndlloppdaa

/-
  The arena's functions: what their calls return and leave.
  Conditions: the arena lies in memory as told.
-/
set_option linter.unusedVariables false
set_option linter.unusedSimpArgs false
namespace Go.Proofs.Ytidcpndlloppdaa
open Go.RowKit
def Wd (xs : List Int) : Prop := ∀ x ∈ xs, 0 ≤ x ∧ x < 18446744073709551616
section
variable {w w' : World} {g b : Nat} {mem : List Int}
end
section
variable {w : World} {g b : Nat} {mem : List Int}
def sub (mem : List Int) (at_ k : Int) : List Int := (mem.drop at_.toNat).take k.toNat
end
end Go.Proofs.Ytidcpndlloppdaa
set_option linter.unusedVariables false
set_option linter.unusedSimpArgs false
namespace Go.Proofs.Ytidcpndlloppdaa
open Go.RowKit
theorem owns_base {w : World} {B B' : Nat} {e : TypeId} {size : Nat} {v : Value} {n : Nat} {xs : List Value} (h : w.ownsRow B e size v n xs) (hB : B' ≤ B) : w.ownsRow B' e size v n xs := by
  refine ⟨h.1, ?_⟩
  rcases h.2 with hn | ⟨g, cap, cur, rfl, hb, rest⟩
  · exact .inl hn
  · exact .inr ⟨g, cap, cur, rfl, Nat.le_trans hB hb, rest⟩
section
variable {w : World} {g b : Nat} {mem : List Int}
theorem l68 {w0 : World} {A A' : Option Addr} {l c l' c' : Nat} {xs ys : List Int} (hx : Nums .u64 w0 A l xs) (hy : Nums .u64 w0 A' l' ys) (hl : l = l') (w : World) (hw : Below w0.heap.size w0 w) :
    ∀ (k i : Nat), l < i + k → i ≤ l → (∀ j, j < i → xs[j]? = ys[j]?) → V18.l0 w0.heap.size (IsV w0 (.bool (xs == ys))) k A l c A' l' c' i w
  | 0, i, hk, hi, _ => by omega
  | k + 1, i, hk, hi, hall => by
    dsimp -zeta only [V18.l0]
    by_cases h : i < l
    · rw [if_pos (by simpa using h)]
      obtain ⟨n, p, hn, hp, hc⟩ := hx.at h
      obtain ⟨m, q, hm, hq, hd⟩ := hy.at (hl ▸ h)
      have hc' := (hw.cell (cell_lt hc)).trans hc
      have hd' := (hw.cell (cell_lt hd)).trans hd
      refine ⟨p, hp, by omega, by omega, n, by simpa using hc', q, hq, by omega, by omega, m, by simpa using hd', ?_⟩
      by_cases hnm : n = m
      · rw [if_neg (by simp [hnm]), wrap_succ h hx.small]
        refine l68 hx hy hl w hw k (i + 1) (by omega) (by omega) fun j hj => ?_
        rcases Nat.lt_succ_iff_lt_or_eq.1 hj with h1 | h1
        · exact hall j h1
        · subst h1; rw [hn, hm, hnm]
      · rw [if_pos (by simpa using hnm)]
        refine ret_is hw ?_
        have : xs ≠ ys := fun e => by subst e; rw [hn] at hm; cases hm; exact hnm rfl
        simp [this]
    · rw [if_neg (by simpa using h)]
      refine ret_is hw ?_
      have : xs = ys := by
        apply List.ext_getElem?
        intro j
        by_cases hj : j < i
        · exact hall j hj
        · rw [List.getElem?_eq_none (by have := hx.len; omega), List.getElem?_eq_none (by have := hy.len; omega)]
      simp [this]
theorem gives18 {A A' : Option Addr} {l c l' c' : Nat} {xs ys : List Int} (hx : Nums .u64 w A l xs) (hy : Nums .u64 w A' l' ys) : Gives Try.prog 18 [.slice A l c, .slice A' l' c'] w (.bool (xs == ys)) := by
  refine gives_of (V18.sound ?_)
  unfold V18.vc
  by_cases h : l = l'
  · rw [if_neg (by simp [h])]
    exact ⟨l + 1, l68 hx hy h w (Below.refl _ _) (l + 1) 0 (by omega) (by omega) (fun j hj => by omega)⟩
  · rw [if_pos (by simp; omega)]
    refine ret_is (Below.refl _ _) ?_
    have : xs ≠ ys := fun e => h (by rw [← hx.len, ← hy.len, e])
    simp [this]
end
end Go.Proofs.Ytidcpndlloppdaa
set_option linter.unusedVariables false
set_option linter.unusedSimpArgs false
namespace Go.Proofs.Ytidcpndlloppdaa
open Go.RowKit
theorem zeros_cells (n : Nat) : madeCells (Value.int .u64 0).cells (n * 1) = ((List.replicate n (0 : Int)).map (Value.int .u64)).toArray := by
  apply Array.toList_inj.1
  rw [Nat.mul_one]
  simp only [madeCells, Array.toList_map, Array.toList_range, List.map_replicate]
  rw [List.eq_replicate_iff]
  refine ⟨by simp, fun x hx => ?_⟩
  obtain ⟨j, _, rfl⟩ := List.mem_map.1 hx
  simp [Value.cells, Nat.mod_one]
section
variable {w : World} {g b : Nat} {mem : List Int}
end
end Go.Proofs.Ytidcpndlloppdaa
set_option linter.unusedVariables false
set_option linter.unusedSimpArgs false
namespace Go.Proofs.Ytidcpndlloppdaa
open Go.RowKit
structure Dfr where
  f : Int
  args : List Int
structure Frm where
  f : Int
  pc : Int
  mode : Int
  dfd : Bool
  value : Int
  dfs : List Dfr
  locals : List Int
  ops : List Int
structure Sls where
  D : Option Addr
  dc : Nat
  L : Option Addr
  lc : Nat
  O : Option Addr
  oc : Nat
def roomM (x : Fnc) : Nat := if hasDefer x.code then 4 else 0
def Sized (p : List Fnc) : Prop := ∀ f ∈ p, sizedF f = true
theorem sized_bd {x : Fnc} (h : sizedF x = true) : 0 ≤ x.params ∧ x.params ≤ 3 ∧ x.params ≤ x.locals ∧ x.locals ≤ 8 ∧ 0 ≤ x.refs ∧ x.refs ≤ x.locals - x.params ∧ 1 ≤ x.code.length ∧ x.code.length ≤ 64 := of_decide_eq_true h
section
variable {w : World} {q : Addr} {l cap : Nat} {f : Nat} {x : Fnc} {C : Option Addr} {c : Nat}
end
def fnAt (p : List Fnc) (f : Int) : Option Fnc := if f < 0 then none else p[f.toNat]?
def dfrM (p : List Fnc) (d : Dfr) : Bool := match fnAt p d.f with
  | some h => (d.args.length : Int) == h.params
  | none => false
def mayM (p : List Fnc) (x : Frm) : Bool := match fnAt p x.f with
  | some g => decide (0 ≤ x.pc ∧ x.pc ≤ g.code.length ∧ 0 ≤ x.mode ∧ x.mode ≤ 2 ∧ (x.locals.length : Int) = g.locals ∧ x.ops.length ≤ 8 ∧ x.dfs.length ≤ roomM g) && x.dfs.all (dfrM p)
  | none => false
section
variable {w0 : World} {p : List Fnc} {A : Option Addr} {cap : Nat}
end
end Go.Proofs.Ytidcpndlloppdaa
set_option linter.unusedVariables false
set_option linter.unusedSimpArgs false
namespace Go.Proofs.Ytidcpndlloppdaa
open Go.RowKit
structure Hd where
  below : Int
  f : Int
  pc : Int
  mode : Int
  dfd : Bool
  value : Int
  dfs : Int
  ops : Int
def hd0 : Hd := ⟨0, 0, 0, 0, false, 0, 0, 0⟩
theorem wrap_u64 {n : Int} (h0 : 0 ≤ n) (h1 : n < 18446744073709551616) : IntKind.wrap .u64 n = n := by
  simp only [IntKind.wrap, IntKind.bits, IntKind.signed]
  simp
  omega
section
variable {w : World} {g b : Nat} {mem : List Int}
end
end Go.Proofs.Ytidcpndlloppdaa
set_option linter.unusedVariables false
set_option linter.unusedSimpArgs false
namespace Go.Proofs.Ytidcpndlloppdaa
open Go.RowKit
section
variable {w : World} {g b : Nat} {mem : List Int}
end
end Go.Proofs.Ytidcpndlloppdaa

/-
  Layer 18: frames written by the program, by one plain rule.
  Conditions: the arena, the program, and the frame, lie in memory as told; the program's functions are sized.
-/
set_option linter.unusedVariables false
set_option linter.unusedSimpArgs false
namespace Go.Proofs.Ytidcpndlloppdaa
open Go.RowKit
structure FrmWd (x : Frm) : Prop where
  value : 0 ≤ x.value ∧ x.value < 18446744073709551616
  locals : Wd x.locals
  ops : Wd x.ops
  args : ∀ d ∈ x.dfs, Wd d.args
section
variable {w : World} {g b : Nat} {mem : List Int}
end
end Go.Proofs.Ytidcpndlloppdaa
set_option linter.unusedVariables false
set_option linter.unusedSimpArgs false
namespace Go.Proofs.Ytidcpndlloppdaa
open Go.RowKit
section
variable {w0 : World} {Q : Value → World → Prop} {n cap g5 q9 : Nat} {x : Frm} {s : Sls}
end
end Go.Proofs.Ytidcpndlloppdaa
set_option linter.unusedVariables false
set_option linter.unusedSimpArgs false
namespace Go.Proofs.Ytidcpndlloppdaa
open Go.RowKit
end Go.Proofs.Ytidcpndlloppdaa
set_option linter.unusedVariables false
set_option linter.unusedSimpArgs false
namespace Go.Proofs.Ytidcpndlloppdaa
open Go.RowKit
end Go.Proofs.Ytidcpndlloppdaa
set_option linter.unusedVariables false
set_option linter.unusedSimpArgs false
namespace Go.Proofs.Ytidcpndlloppdaa
open Go.RowKit
end Go.Proofs.Ytidcpndlloppdaa

/-
 What the engine makes of the loaded functions 21, 39, 40, 57, 58, 59, 82, 83: conditions under which a call returns as told, and proofs of that.
 Conditions: none. Printed by a program of this project.
-/
set_option linter.unusedVariables false
set_option maxRecDepth 100000
namespace Go.Proofs.Ytidcpndlloppdaa
end Go.Proofs.Ytidcpndlloppdaa
