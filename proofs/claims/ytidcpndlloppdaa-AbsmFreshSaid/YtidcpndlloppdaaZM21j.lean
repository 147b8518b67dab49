import Derived.Test.YtidcpndlloppdaaZM21i
/-
  Layer 21: run: the top frame's next instruction.
  Conditions: the machine lies in memory as told.
-/
set_option linter.unusedVariables false
set_option linter.unusedSimpArgs false
set_option maxRecDepth 20000
namespace Go.Proofs.Ytidcpndlloppdaa
open Go.RowKit
structure RunAt (w0 : World) (S : Nat → Prop) (w : World) (B g : Nat) (C : Option Addr) (c : Nat) (p : List Fnc) (m : Mach) (T : Value) (x : Frm) (r : List Frm) (s : Sl) (t : List Sl) (G cap : Nat) (bx bm : Addr) (LA : Option Addr) (n lc : Nat) (l : List Int) : Prop where
  top : TopAt w B g C c p m T x r s t G cap bx
  bmc : w.cell? bm = some (.pointer (some ⟨g, 0, none⟩))
  bmo : ¬ FootT g G cap r T (s :: t) bm.block
  chg : Chg S w0 w
  foot : ∀ k, FootT g G cap r T (s :: t) k → S k ∨ w0.heap.size ≤ k
  low : B ≤ w0.heap.size
  row : w.ownsRow w0.heap.size 28 1 (.slice LA n lc) n (u64s l)
  out : ∀ k, (Value.slice LA n lc).ownBlock = some k → ¬ FootT g G cap r T (s :: t) k
  few : n ≤ 8
def R42 (w0 : World) (S : Nat → Prop) (B g : Nat) (C : Option Addr) (c : Nat) (p : List Fnc) (F0 T0 : Value) (ss0 : List Sl) (m' : Mach) : Value → World → Prop := IsT w0 S (fun u w' => u = .tuple ⟨[]⟩ ∧ MachQ w0 B g C c p F0 T0 ss0 m' w')
section
variable {w0 w : World} {B g : Nat} {C : Option Addr} {c : Nat} {p : List Fnc} {m : Mach} {T : Value} {x : Frm} {r : List Frm} {s : Sl} {t : List Sl} {G cap : Nat} {bx bm : Addr} {LA : Option Addr} {n lc : Nat} {l : List Int} {F0 T0 : Value} {ss0 : List Sl}
theorem RunAt.ret (h : RunAt w0 (Foot g F0 T0 ss0) w B g C c p m T x r s t G cap bx bm LA n lc l) {m' : Mach} (hm : m = m') : Ret w0.heap.size w (R42 w0 (Foot g F0 T0 ss0) B g C c p F0 T0 ss0 m' (.tuple ⟨[]⟩)) := by
  subst hm
  exact mach_ret h.chg h.top.at_ h.foot
theorem RunAt.ext {S : Nat → Prop} (h : RunAt w0 S w B g C c p m T x r s t G cap bx bm LA n lc l) {w' : World} (he : Ext w0.heap.size w w') : RunAt w0 S w' B g C c p m T x r s t G cap bx bm LA n lc l :=
  ⟨h.top.ext he, he.cell h.bmc, h.bmo, ext_chg h.chg he, h.foot, h.low, he.owns h.row, h.out, h.few⟩
theorem RunAt.size {S : Nat → Prop} (h : RunAt w0 S w B g C c p m T x r s t G cap bx bm LA n lc l) : w0.heap.size ≤ w.heap.size := h.chg.size
theorem RunAt.nums {S : Nat → Prop} (h : RunAt w0 S w B g C c p m T x r s t G cap bx bm LA n lc l) : Nums .u64 w LA n l := ownsU_nums h.row (by have := h.few; omega)
theorem RunAt.chgSet {S : Nat → Prop} (h : RunAt w0 S w B g C c p m T x r s t G cap bx bm LA n lc l) {b i : Nat} {v : Value} (hb : FootT g G cap r T (s :: t) b) : Chg S w0 (w.setCell ⟨b, i, none⟩ v) :=
  h.chg.setCell _ fun hlt => (h.foot b hb).elim id fun h => absurd hlt (by show ¬ b < _; omega)
theorem RunAt.setNum {S : Nat → Prop} (h : RunAt w0 S w B g C c p m T x r s t G cap bx bm LA n lc l) {x' : Frm} (hx : FrmM w B x' s) {j : Nat} {v : Value} (hj : j < 8) (hset : (frmC x s).set j v = frmC x' s) :
    RunAt w0 S (w.setCell ⟨G, r.length * 8 + j, none⟩ v) B g C c p (topM m (x' :: r)) T x' r s t G cap bx bm LA n lc l :=
  ⟨h.top.setNum hx hj hset, keepsOff_set (S := FootT g G cap r T (s :: t)) (.inr (.inl rfl)) _ _ h.bmc h.bmo, h.bmo, h.chgSet (.inr (.inl rfl)), h.foot, h.low, owns_other h.row fun k hk => at_other (fun e => h.out k hk (e ▸ .inr (.inl rfl))), h.out, h.few⟩
theorem RunAt.setLoc {S : Nat → Prop} (h : RunAt w0 S w B g C c p m T x r s t G cap bx bm LA n lc l) {Lb n' lc' i : Nat} {u : Int} (hL : s.L = .slice (some ⟨Lb, 0, none⟩) n' lc') (hi : i < x.locals.length) :
    RunAt w0 S (w.setCell ⟨Lb, i, none⟩ (.int .u64 u)) B g C c p (topM m ({ x with locals := x.locals.set i u } :: r)) T { x with locals := x.locals.set i u } r s t G cap bx bm LA n lc l := by
  have hin : FootT g G cap r T (s :: t) Lb := .inr (.inr (.inr ⟨s, List.mem_cons_self, .inr (.inl (by rw [hL]; rfl))⟩))
  exact ⟨h.top.setLoc hL hi, keepsOff_set (S := FootT g G cap r T (s :: t)) hin _ _ h.bmc h.bmo, h.bmo, h.chgSet hin, h.foot, h.low, owns_other h.row fun k hk => at_other (fun e => h.out k hk (e ▸ hin)), h.out, h.few⟩
theorem RunAt.num {S : Nat → Prop} (h : RunAt w0 S w B g C c p m T x r s t G cap bx bm LA n lc l) {x' : Frm} (h1 : x'.dfs = x.dfs) (h2 : x'.locals = x.locals) (h3 : x'.ops = x.ops) : FrmM w B x' s := by
  have hF := h.top.pcs.each.1
  exact ⟨by rw [h1]; exact hF.D, by rw [h1]; exact hF.args, by rw [h2]; exact hF.L, by rw [h3]; exact hF.O⟩
theorem RunAt.push {bs : List Nat} (h : RunAt w0 (Foot g F0 T0 ss0) w B g C c p m T x r s t G cap bx bm LA n lc l) {A : Option Addr} {k ac : Nat} {ws : List Int} (hw : Nums .u64 w A k ws) (hk : 1 ≤ k ∧ k ≤ 8) (hops : x.ops.length ≤ 100) {m' : Mach} (hm : topM m (pushF x ws :: r) = m') :
    CallK Try.prog 61 [.slice A k ac, .pointer (some bx)] w0.heap.size w bs fun a0 a1 => a0 = .tuple ⟨[]⟩ ∧ Ret w0.heap.size a1 (R42 w0 (Foot g F0 T0 ss0) B g C c p F0 T0 ss0 m' (.tuple ⟨[]⟩)) := by
  subst hm
  refine call61 h.size h.top hw hk hops fun s' w' hT he hf => ⟨rfl, ?_⟩
  refine mach_ret (he.chg h.chg fun k hk hk' => (h.foot k hk').elim id fun h => absurd hk (by omega)) hT.at_ fun k hk => ?_
  rcases hf k hk with h1 | h1
  · exact h.foot k h1
  · exact .inr (Nat.le_trans h.size h1)
theorem RunAt.push1 {bs : List Nat} (h : RunAt w0 (Foot g F0 T0 ss0) w B g C c p m T x r s t G cap bx bm LA n lc l) {u : Int} (hops : x.ops.length ≤ 100) {m' : Mach} (hm : topM m (pushF x [u] :: r) = m') :
    Expo w0.heap.size w bs fun Y => Hide bs (Y.alloc (.cells ⟨[.int .u64 u]⟩ 28)) fun Z =>
      CallK Try.prog 61 [.slice (some ⟨Y.heap.size, 0, none⟩) 1 1, .pointer (some bx)] w0.heap.size Z bs fun a0 a1 => a0 = .tuple ⟨[]⟩ ∧ Ret w0.heap.size a1 (R42 w0 (Foot g F0 T0 ss0) B g C c p F0 T0 ss0 m' (.tuple ⟨[]⟩)) := by
  refine expo_alloc h.size fun w1 w2 hs e2 _ ho2 => ?_
  have hone : Nums .u64 w2 (some ⟨w1.heap.size, 0, none⟩) 1 [u] := OwnI.nums (xs := [u]) (e := 28) ho2 (by simp only [List.length_cons, List.length_nil, maxLen]; omega)
  exact (h.ext e2).push hone (by omega) hops hm
theorem RunAt.arg {S : Nat → Prop} (h : RunAt w0 S w B g C c p m T x r s t G cap bx bm LA n lc l) {i : Nat} (hi : i < n) : ∃ q, LA = some q ∧ w.cell? (q.add i) = some (.int .u64 (l.getD i 0)) := by
  obtain ⟨v, q, hv, hq, hc⟩ := h.nums.at hi
  refine ⟨q, hq, ?_⟩
  rw [List.getD, hv]
  exact hc
theorem RunAt.setHead {S : Nat → Prop} (h : RunAt w0 S w B g C c p m T x r s t G cap bx bm LA n lc l) {i : Nat} {v : Value} {m' : Mach} (hH : (headC (.slice C p.length c) (.slice (some ⟨G, 0, none⟩) (r.length + 1) cap) T m).set i v = headC (.slice C p.length c) (.slice (some ⟨G, 0, none⟩) (r.length + 1) cap) T m') (hfr : m'.frames = m.frames) (htr : m'.trace = m.trace) :
    RunAt w0 S (w.setCell ⟨g, i, none⟩ v) B g C c p m' T x r s t G cap bx bm LA n lc l := by
  have hp := h.top.at_.pcs
  have hing : FootT g G cap r T (s :: t) g := .inl rfl
  refine ⟨⟨mach_set (m := m') h.top.at_.head hH (by rw [hfr, htr]; exact hp) h.top.at_.base h.top.at_.prog, by rw [hfr]; exact h.top.fs, keepsOff_set (S := FootT g G cap r T (s :: t)) hing _ _ h.top.box h.top.out, h.top.out⟩, keepsOff_set (S := FootT g G cap r T (s :: t)) hing _ _ h.bmc h.bmo, h.bmo, h.chgSet hing, h.foot, h.low, owns_other h.row fun k hk => at_other (fun e => h.out k hk (e ▸ hing)), h.out, h.few⟩
end
end Go.Proofs.Ytidcpndlloppdaa
