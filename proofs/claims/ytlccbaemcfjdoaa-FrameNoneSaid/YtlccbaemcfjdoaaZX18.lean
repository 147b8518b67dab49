/-
  Layer 18: frames are walked: the program's answer and the document's, by one plain rule.
  Conditions: the arena, the words, and the program, lie in memory as told; the program's functions are sized.
-/
import Derived.Test.YtlccbaemcfjdoaaZRW18
import Derived.Test.YtlccbaemcfjdoaaZWD
set_option linter.unusedVariables false
set_option linter.unusedSimpArgs false
namespace Go.Proofs.Ytlccbaemcfjdoaa
open Go.RowKit
theorem owns_newk {w : World} {B : Nat} {e : TypeId} {k : IntKind} {A : Option Addr} {c : Nat} {xs : List Int} (h : w.ownsRow B e 1 (.slice A xs.length c) xs.length (xs.map (.int k))) (hl : xs.length ≤ 1000000000) : Nums k (newW B w) A xs.length xs := by
  obtain ⟨A', c', hv, hn, hb⟩ := owns_nums h (by simp only [maxLen]; omega)
  cases hv
  refine ⟨hn.len, hn.small, fun i x hx => ?_⟩
  obtain ⟨p, hp, he⟩ := hn.get i x hx
  refine ⟨p, hp, ?_⟩
  unfold NumE at he ⊢
  exact newW_cell.2 ⟨he, by rw [add_block]; exact (h.lt _ (hb p hp)).1⟩
def sizeX (p : List Fnc) (x : Frm) : Int := match fnAt p x.f with
  | some g => sizeF g
  | none => 0
theorem sizeX_eq {p : List Fnc} {x : Frm} {g : Fnc} (h : fnAt p x.f = some g) : sizeX p x = sizeF g := by unfold sizeX; rw [h]
section
variable {w0 : World} {g b : Nat} {mem : List Int} {p : List Fnc} {P : Option Addr} {cap : Nat}
end
end Go.Proofs.Ytlccbaemcfjdoaa
set_option linter.unusedVariables false
set_option linter.unusedSimpArgs false
namespace Go.Proofs.Ytlccbaemcfjdoaa
open Go.RowKit
def frmC (x : Frm) (s : Sls) : List Value := [.int .i64 x.f, .int .i64 x.pc, .int .i64 x.mode, .bool x.dfd, .int .u64 x.value, .slice s.D x.dfs.length s.dc, .slice s.L x.locals.length s.lc, .slice s.O x.ops.length s.oc]
def frmsC : List Frm → List Sls → List Value
  | x :: xs, s :: ss => frmC x s ++ frmsC xs ss
  | _, _ => []
structure OwnFs (w : World) (B : Nat) (v : Value) (xs : List Frm) (ss : List Sls) : Prop where
  row : w.ownsRow B 67 8 v xs.length (frmsC xs ss)
  len : ss.length = xs.length
  each : ∀ (i : Nat) (x : Frm) (s : Sls), xs[i]? = some x → ss[i]? = some s → FrmOwn w B x s
theorem OwnFs.ext {w w' : World} {B B' : Nat} {v : Value} {xs : List Frm} {ss : List Sls} (h : OwnFs w B v xs ss) (he : Ext B' w w') : OwnFs w' B v xs ss := ⟨he.owns h.row, h.len, fun i x s hx hs => (h.each i x s hx hs).ext he⟩
def FrmE (w : World) (p : Addr) (x : Frm) : Prop := ∃ s, (∀ j u, (frmC x s)[j]? = some u → w.cell? (p.add j) = some u) ∧ FrmAt w x s
theorem FrmE.kept : Kept1 FrmE := fun _ _ _ _ hw h => by
  obtain ⟨s, h1, h2⟩ := h
  exact ⟨s, fun j u hj => hw _ _ (h1 j u hj), h2.keep hw⟩
theorem size_may {p : List Fnc} (hs : Sized p) {x : Frm} (h : mayM p x = true) : ∃ g, fnAt p x.f = some g ∧ ¬ x.f < 0 ∧ p[x.f.toNat]? = some g ∧ sizeX p x = sizeF g ∧ 15 ≤ sizeF g ∧ sizeF g ≤ 39 ∧ sizedF g = true := by
  obtain ⟨g, h0, hg, hfn, _⟩ := may_some h
  have hgs := hs g (List.mem_of_getElem? hg)
  have hbd := sized_bd hgs
  have hsF := sizeF_eq hgs
  have hah : 7 ≤ aheadM g ∧ aheadM g ≤ 23 := by unfold aheadM; split <;> omega
  exact ⟨g, hfn, h0, hg, sizeX_eq hfn, by omega, by omega, hgs⟩
end Go.Proofs.Ytlccbaemcfjdoaa
set_option linter.unusedVariables false
set_option linter.unusedSimpArgs false
namespace Go.Proofs.Ytlccbaemcfjdoaa
open Go.RowKit
section
variable {p : List Fnc} {M M' mem : List Int} {at_ below : Int} {x : Frm}
end
end Go.Proofs.Ytlccbaemcfjdoaa
