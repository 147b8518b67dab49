/-
  Layer 18: numbers that are used up, words by numbers: what their calls return and leave.
  Conditions: the numbers lie in memory as told.
-/
import Derived.Test.YtlccbaemcfjdoaaZD18
import Derived.Test.YtlccbaemcfjdoaaZWE
set_option linter.unusedVariables false
set_option linter.unusedSimpArgs false
namespace Go.Proofs.Ytlccbaemcfjdoaa
open Go.RowKit
def NumsIn (wb w : World) (g : Nat) : Prop := ∃ A ln cn ns, w.heap[g]? = some (.cells ⟨[.slice A ln cn]⟩ 70 (0, 0)) ∧ BytesAt wb A ln cn ns
theorem NumsIn.same {wb w w' : World} {g : Nat} (h : NumsIn wb w g) (hg : w'.heap[g]? = w.heap[g]?) : NumsIn wb w' g := by
  obtain ⟨A, ln, cn, ns, h1, h2⟩ := h
  exact ⟨A, ln, cn, ns, by rw [hg]; exact h1, h2⟩
theorem NumsIn.has {wb w : World} {g : Nat} (h : NumsIn wb w g) : ∃ c t f, w.heap[g]? = some (Obj.cells c t f) := by
  obtain ⟨A, ln, cn, ns, h1, _⟩ := h
  exact ⟨_, _, _, h1⟩
theorem NumsIn.ext {wb w w' : World} {g B : Nat} (h : NumsIn wb w g) (he : Ext B w w') : NumsIn wb w' g := by
  obtain ⟨c, t, f, hc⟩ := h.has
  exact h.same (by rw [he.row _ _ _ _ hc, hc])
theorem NumsIn.other {wb w w' : World} {g B : Nat} {S : Nat → Prop} (h : NumsIn wb w g) (he : ExtS B S w w') (hS : ¬ S g) : NumsIn wb w' g := by
  obtain ⟨c, t, f, hc⟩ := h.has
  exact h.same (by rw [he.row _ _ _ _ hS hc, hc])
end Go.Proofs.Ytlccbaemcfjdoaa
set_option linter.unusedVariables false
set_option linter.unusedSimpArgs false
namespace Go.Proofs.Ytlccbaemcfjdoaa
open Go.RowKit
theorem ExtS.refl (B : Nat) (S : Nat → Prop) (w : World) : ExtS B S w w := ⟨rfl, rfl, rfl, Nat.le_refl _, fun _ _ _ _ _ h => h, fun _ _ _ => rfl⟩
structure FrmOwn (w : World) (B : Nat) (x : Frm) (s : Sls) : Prop where
  dfs : ∃ vs, OwnDs w B (.slice s.D x.dfs.length s.dc) x.dfs vs ∧ ∀ (i : Nat) (u : Value), vs[i]? = some u → ∀ k, u.ownBlock = some k → (Value.slice s.L x.locals.length s.lc).ownBlock ≠ some k ∧ (Value.slice s.O x.ops.length s.oc).ownBlock ≠ some k
  apart : ∀ k, (Value.slice s.L x.locals.length s.lc).ownBlock = some k → (Value.slice s.O x.ops.length s.oc).ownBlock ≠ some k
  locals : OwnWs w B (.slice s.L x.locals.length s.lc) x.locals
  ops : OwnWs w B (.slice s.O x.ops.length s.oc) x.ops
theorem FrmOwn.ext {w w' : World} {B B' : Nat} {x : Frm} {s : Sls} (h : FrmOwn w B x s) (he : Ext B' w w') : FrmOwn w' B x s := by
  obtain ⟨vs, hv, ha⟩ := h.dfs
  exact ⟨⟨vs, hv.ext he, ha⟩, h.apart, he.owns h.locals, he.owns h.ops⟩
theorem FrmOwn.at {w : World} {B : Nat} {x : Frm} {s : Sls} (h : FrmOwn w B x s) (h1 : x.dfs.length ≤ 1000000) (h2 : ∀ d ∈ x.dfs, d.args.length ≤ 1000000) (h3 : x.locals.length ≤ 1000000) (h4 : x.ops.length ≤ 1000000) : FrmAt (newW B w) x s := by
  obtain ⟨vs, hv, _⟩ := h.dfs
  obtain ⟨A, c, e1, k1⟩ := hv.dfs h1 h2
  obtain ⟨A', c', e2, k2⟩ := ownws_new h.locals (by omega)
  obtain ⟨A'', c'', e3, k3⟩ := ownws_new h.ops (by omega)
  cases e1; cases e2; cases e3
  exact ⟨k1, k2, k3⟩
theorem FrmOwn.base {w : World} {B B' : Nat} {x : Frm} {s : Sls} (h : FrmOwn w B x s) (hB : B' ≤ B) : FrmOwn w B' x s := by
  obtain ⟨vs, hv, ha⟩ := h.dfs
  exact ⟨⟨vs, ⟨owns_base hv.row hB, hv.len, fun i d u hd hu => owns_base (hv.args i d u hd hu) hB⟩, ha⟩, h.apart, owns_base h.locals hB, owns_base h.ops hB⟩
section
variable {w0 wb : World} {g : Nat} {p : List Fnc} {F : Fnc} {f pc mode value : Int} {dfd : Bool}
end
end Go.Proofs.Ytlccbaemcfjdoaa
