import Derived.Test.YtidcpndlloppdaaZEngD
import Derived.Test.YtidcpndlloppdaaZWB
import Derived.Test.YtidcpndlloppdaaZK17
/-
  The arena's functions: what their calls return and leave.
  Conditions: the arena lies in memory as told.
-/
set_option linter.unusedVariables false
set_option linter.unusedSimpArgs false
namespace Go.Proofs.Ytidcpndlloppdaa
open Go.RowKit
def Wd (xs : List Int) : Prop := ∀ x ∈ xs, 0 ≤ x ∧ x < 18446744073709551616
theorem Wd.at {xs : List Int} (h : Wd xs) {i : Nat} {x : Int} (hx : xs[i]? = some x) : 0 ≤ x ∧ x < 18446744073709551616 := h x (List.mem_of_getElem? hx)
section
variable {w w' : World} {g b : Nat} {mem : List Int}
end
section
variable {w : World} {g b : Nat} {mem : List Int}
def sub (mem : List Int) (at_ k : Int) : List Int := (mem.drop at_.toNat).take k.toNat
theorem Wd.set {xs : List Int} (h : Wd xs) (i : Nat) {x : Int} (hx : 0 ≤ x ∧ x < 18446744073709551616) : Wd (xs.set i x) := fun y hy => by
  rcases List.mem_or_eq_of_mem_set hy with hy | rfl
  · exact h y hy
  · exact hx
end
end Go.Proofs.Ytidcpndlloppdaa
set_option linter.unusedVariables false
set_option linter.unusedSimpArgs false
namespace Go.Proofs.Ytidcpndlloppdaa
open Go.RowKit
theorem owns_base {w : World} {B B' : Nat} {e : TypeId} {size : Nat} {v : Value} {n : Nat} {xs : List Value} (h : w.ownsRow B e size v n xs) (hB : B' ≤ B) : w.ownsRow B' e size v n xs := by
  refine ⟨h.1, ?_⟩
  rcases h.2 with hn | ⟨g, cap, cur, rfl, hb, rest⟩
  · exact .inl hn
  · exact .inr ⟨g, cap, cur, rfl, Nat.le_trans hB hb, rest⟩
abbrev OwnWs (w : World) (B : Nat) (v : Value) (xs : List Int) : Prop := w.ownsRow B 28 1 v xs.length (xs.map (.int .u64))
theorem ownws_nums {w : World} {B : Nat} {v : Value} {xs : List Int} (h : OwnWs w B v xs) (hl : xs.length ≤ 17592186044416) : ∃ A c, v = .slice A xs.length c ∧ Nums .u64 w A xs.length xs ∧ ∀ p, A = some p → B ≤ p.block := by
  obtain ⟨A, c, hv, hn, hb⟩ := owns_nums h (by simp only [maxLen]; omega)
  exact ⟨A, c, hv, hn, fun p hp => (h.lt _ (hb p hp)).1⟩
section
variable {w : World} {g b : Nat} {mem : List Int}
end
end Go.Proofs.Ytidcpndlloppdaa
set_option linter.unusedVariables false
set_option linter.unusedSimpArgs false
namespace Go.Proofs.Ytidcpndlloppdaa
open Go.RowKit
theorem zeros_cells (n : Nat) : madeCells (Value.int .u64 0).cells (n * 1) = ((List.replicate n (0 : Int)).map (Value.int .u64)).toArray := by
  apply Array.toList_inj.1
  rw [Nat.mul_one]
  simp only [madeCells, Array.toList_map, Array.toList_range, List.map_replicate]
  rw [List.eq_replicate_iff]
  refine ⟨by simp, fun x hx => ?_⟩
  obtain ⟨j, _, rfl⟩ := List.mem_map.1 hx
  simp [Value.cells, Nat.mod_one]
section
variable {w : World} {g b : Nat} {mem : List Int}
end
end Go.Proofs.Ytidcpndlloppdaa
set_option linter.unusedVariables false
set_option linter.unusedSimpArgs false
namespace Go.Proofs.Ytidcpndlloppdaa
open Go.RowKit
structure Dfr where
  f : Int
  args : List Int
structure Frm where
  f : Int
  pc : Int
  mode : Int
  dfd : Bool
  value : Int
  dfs : List Dfr
  locals : List Int
  ops : List Int
def DfrE (w : World) (p : Addr) (d : Dfr) : Prop := w.cell? (p.add 0) = some (.int .i64 d.f) ∧ ∃ A c, w.cell? (p.add 1) = some (.slice A d.args.length c) ∧ Nums .u64 w A d.args.length d.args
theorem DfrE.kept : Kept1 DfrE := fun _ _ _ _ hw h => by
  obtain ⟨h1, A, c, h2, h3⟩ := h
  exact ⟨hw _ _ h1, A, c, hw _ _ h2, RowAt.keep (NumE.kept _) h3 hw⟩
abbrev Dfrs (w : World) (A : Option Addr) (l : Nat) (xs : List Dfr) : Prop := RowAt DfrE 2 w A l xs
structure Sls where
  D : Option Addr
  dc : Nat
  L : Option Addr
  lc : Nat
  O : Option Addr
  oc : Nat
structure FrmAt (w : World) (x : Frm) (s : Sls) : Prop where
  dfs : Dfrs w s.D x.dfs.length x.dfs
  locals : Nums .u64 w s.L x.locals.length x.locals
  ops : Nums .u64 w s.O x.ops.length x.ops
theorem FrmAt.keep {w w' : World} {x : Frm} {s : Sls} (h : FrmAt w x s) (hw : ∀ q v, w.cell? q = some v → w'.cell? q = some v) : FrmAt w' x s :=
  ⟨RowAt.keep DfrE.kept h.dfs hw, RowAt.keep (NumE.kept _) h.locals hw, RowAt.keep (NumE.kept _) h.ops hw⟩
def roomM (x : Fnc) : Nat := if hasDefer x.code then 4 else 0
def Sized (p : List Fnc) : Prop := ∀ f ∈ p, sizedF f = true
theorem sized_bd {x : Fnc} (h : sizedF x = true) : 0 ≤ x.params ∧ x.params ≤ 3 ∧ x.params ≤ x.locals ∧ x.locals ≤ 8 ∧ 0 ≤ x.refs ∧ x.refs ≤ x.locals - x.params ∧ 1 ≤ x.code.length ∧ x.code.length ≤ 64 := of_decide_eq_true h
section
variable {w : World} {q : Addr} {l cap : Nat} {f : Nat} {x : Fnc} {C : Option Addr} {c : Nat}
end
def fnAt (p : List Fnc) (f : Int) : Option Fnc := if f < 0 then none else p[f.toNat]?
def dfrM (p : List Fnc) (d : Dfr) : Bool := match fnAt p d.f with
  | some h => (d.args.length : Int) == h.params
  | none => false
def mayM (p : List Fnc) (x : Frm) : Bool := match fnAt p x.f with
  | some g => decide (0 ≤ x.pc ∧ x.pc ≤ g.code.length ∧ 0 ≤ x.mode ∧ x.mode ≤ 2 ∧ (x.locals.length : Int) = g.locals ∧ x.ops.length ≤ 8 ∧ x.dfs.length ≤ roomM g) && x.dfs.all (dfrM p)
  | none => false
section
variable {w0 : World} {p : List Fnc} {A : Option Addr} {cap : Nat}
end
end Go.Proofs.Ytidcpndlloppdaa
set_option linter.unusedVariables false
set_option linter.unusedSimpArgs false
namespace Go.Proofs.Ytidcpndlloppdaa
open Go.RowKit
structure Hd where
  below : Int
  f : Int
  pc : Int
  mode : Int
  dfd : Bool
  value : Int
  dfs : Int
  ops : Int
def hd0 : Hd := ⟨0, 0, 0, 0, false, 0, 0, 0⟩
structure WordsAt (w : World) (A : Option Addr) (l c : Nat) (xs : List Int) : Prop where
  nums : Nums .u64 w A l xs
  wd : Wd xs
  cap : l ≤ c
  small : l ≤ 1000000000
theorem WordsAt.keep {w w' : World} {A : Option Addr} {l c : Nat} {xs : List Int} (h : WordsAt w A l c xs) (hw : ∀ q v, w.cell? q = some v → w'.cell? q = some v) : WordsAt w' A l c xs := ⟨RowAt.keep (NumE.kept _) h.nums hw, h.wd, h.cap, h.small⟩
section
variable {w : World} {g b : Nat} {mem : List Int}
end
end Go.Proofs.Ytidcpndlloppdaa
set_option linter.unusedVariables false
set_option linter.unusedSimpArgs false
namespace Go.Proofs.Ytidcpndlloppdaa
open Go.RowKit
section
variable {w : World} {g b : Nat} {mem : List Int}
end
end Go.Proofs.Ytidcpndlloppdaa

/-
  Layer 18: frames written by the program, by one plain rule.
  Conditions: the arena, the program, and the frame, lie in memory as told; the program's functions are sized.
-/
set_option linter.unusedVariables false
set_option linter.unusedSimpArgs false
namespace Go.Proofs.Ytidcpndlloppdaa
open Go.RowKit
structure FrmWd (x : Frm) : Prop where
  value : 0 ≤ x.value ∧ x.value < 18446744073709551616
  locals : Wd x.locals
  ops : Wd x.ops
  args : ∀ d ∈ x.dfs, Wd d.args
section
variable {w : World} {g b : Nat} {mem : List Int}
end
end Go.Proofs.Ytidcpndlloppdaa
set_option linter.unusedVariables false
set_option linter.unusedSimpArgs false
namespace Go.Proofs.Ytidcpndlloppdaa
open Go.RowKit
section
variable {w0 : World} {Q : Value → World → Prop} {n cap g5 q9 : Nat} {x : Frm} {s : Sls}
end
end Go.Proofs.Ytidcpndlloppdaa
set_option linter.unusedVariables false
set_option linter.unusedSimpArgs false
namespace Go.Proofs.Ytidcpndlloppdaa
open Go.RowKit
def dfsV : List Dfr → List Value → List Value
  | d :: ds, v :: vs => .int .i64 d.f :: v :: dfsV ds vs
  | _, _ => []
theorem dfs_get : ∀ {ds : List Dfr} {vs : List Value} {i : Nat} {d : Dfr} {v : Value}, ds[i]? = some d → vs[i]? = some v → (dfsV ds vs)[i * 2]? = some (.int .i64 d.f) ∧ (dfsV ds vs)[i * 2 + 1]? = some v
  | [], vs, i, d, v, h, _ => by simp at h
  | y :: ds, [], i, d, v, _, h => by simp at h
  | y :: ds, u :: vs, 0, d, v, h, hv => by
    simp at h hv; subst h; subst hv
    exact ⟨rfl, rfl⟩
  | y :: ds, u :: vs, i + 1, d, v, h, hv => by
    obtain ⟨h1, h2⟩ := dfs_get (ds := ds) (vs := vs) (i := i) (by simpa using h) (by simpa using hv)
    rw [show (i + 1) * 2 = i * 2 + 2 by omega, show i * 2 + 2 + 1 = i * 2 + 1 + 2 by omega]
    exact ⟨h1, h2⟩
structure OwnDs (w : World) (B : Nat) (v : Value) (ds : List Dfr) (vs : List Value) : Prop where
  row : w.ownsRow B 85 2 v ds.length (dfsV ds vs)
  len : vs.length = ds.length
  args : ∀ (i : Nat) (d : Dfr) (u : Value), ds[i]? = some d → vs[i]? = some u → OwnWs w B u d.args
theorem OwnDs.ext {B B' : Nat} {w w' : World} {v : Value} {ds : List Dfr} {vs : List Value} (h : OwnDs w B v ds vs) (he : Ext B' w w') : OwnDs w' B v ds vs :=
  ⟨he.owns h.row, h.len, fun i d u hd hu => he.owns (h.args i d u hd hu)⟩
theorem OwnDs.nil (w : World) (B : Nat) : OwnDs w B (.slice none 0 0) [] [] := ⟨World.ownsRow_nil _ _ _ _, rfl, fun i d u h => by simp at h⟩
theorem OwnDs.dfs {w : World} {B : Nat} {v : Value} {ds : List Dfr} {vs : List Value} (h : OwnDs w B v ds vs) (hl : ds.length ≤ 1000000) (ha : ∀ d ∈ ds, d.args.length ≤ 1000000) : ∃ A c, v = .slice A ds.length c ∧ Dfrs (newW B w) A ds.length ds := by
  rcases h.row.2 with ⟨rfl, h0⟩ | ⟨g, cap, cur, rfl, hb, _⟩
  · have : ds = [] := List.eq_nil_of_length_eq_zero h0
    subst this
    exact ⟨none, 0, rfl, rfl, Nat.zero_le _, fun i x h => by simp at h⟩
  · refine ⟨_, cap, rfl, rfl, by simp only [maxLen]; omega, fun i d hd => ⟨_, rfl, ?_⟩⟩
    have hi := (List.getElem?_eq_some_iff.1 hd).1
    have hv : vs[i]? = some (vs[i]'(by rw [h.len]; exact hi)) := List.getElem?_eq_getElem _
    obtain ⟨k1, k2⟩ := dfs_get hd hv
    have c1 := owns_cell h.row k1
    have c2 := owns_cell h.row k2
    have harg := h.args i d _ hd hv
    obtain ⟨A, c, hvv, hn, hbl⟩ := ownws_nums harg (by have := ha d (List.mem_of_getElem? hd); omega)
    rw [hvv] at c2
    unfold DfrE
    simp only [own_add, bx_add, Nat.add_zero, Nat.zero_add]
    refine ⟨newW_cell.2 ⟨c1, hb⟩, A, c, newW_cell.2 ⟨c2, hb⟩, hn.len, hn.small, fun j y hj => ?_⟩
    obtain ⟨p, hp, he⟩ := hn.get j y hj
    refine ⟨p, hp, ?_⟩
    unfold NumE at he ⊢
    exact newW_cell.2 ⟨he, by rw [add_block]; exact hbl p hp⟩
end Go.Proofs.Ytidcpndlloppdaa
set_option linter.unusedVariables false
set_option linter.unusedSimpArgs false
namespace Go.Proofs.Ytidcpndlloppdaa
open Go.RowKit
end Go.Proofs.Ytidcpndlloppdaa
set_option linter.unusedVariables false
set_option linter.unusedSimpArgs false
namespace Go.Proofs.Ytidcpndlloppdaa
open Go.RowKit
end Go.Proofs.Ytidcpndlloppdaa
