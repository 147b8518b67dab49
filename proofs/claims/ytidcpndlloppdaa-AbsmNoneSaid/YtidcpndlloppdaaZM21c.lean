import Derived.Test.YtidcpndlloppdaaZM21b
/-
  Layer 21: what is read of a machine in memory: its top frame, its next instruction, the frame that its next act makes.
  Conditions: the machine lies in memory as told.
-/
set_option linter.unusedVariables false
set_option linter.unusedSimpArgs false
set_option maxRecDepth 20000
namespace Go.Proofs.Ytidcpndlloppdaa
open Go.RowKit
section
variable {w w' : World} {B g : Nat} {C : Option Addr} {c : Nat} {p : List Fnc} {m : Mach} {F T : Value} {ss : List Sl}
structure SlIs (s : Sl) (x : Frm) (D L O : Option Addr) (dc lc oc : Nat) : Prop where
  D : s.D = .slice D x.dfs.length dc
  L : s.L = .slice L x.locals.length lc
  O : s.O = .slice O x.ops.length oc
theorem FrmM.sl {x : Frm} {s : Sl} (h : FrmM w B x s) : ∃ D L O dc lc oc, SlIs s x D L O dc lc oc := by
  obtain ⟨D, dc, h1⟩ := owns_slice0 h.D
  obtain ⟨L, lc, h2⟩ := owns_slice0 h.L
  obtain ⟨O, oc, h3⟩ := owns_slice0 h.O
  exact ⟨D, L, O, dc, lc, oc, h1, h2, h3⟩
theorem MachAt.open (h : MachAt w B g C c p m F T ss) {x : Frm} {r : List Frm} (hm : m.frames = x :: r) : ∃ G cap s t, F = .slice (some ⟨G, 0, none⟩) (r.length + 1) cap ∧ ss = s :: t ∧ t.length = r.length ∧ B ≤ G ∧
    (∀ j v, (frmC x s)[j]? = some v → w.cell? ⟨G, r.length * 8 + j, none⟩ = some v) ∧ (∀ i, w.frozen? ⟨G, i, none⟩ = false) ∧ Pcs w B (.slice (some ⟨G, 0, none⟩) (r.length + 1) cap) T (x :: r) m.trace (s :: t) := by
  have hp := h.pcs
  rw [hm] at hp
  obtain ⟨G, cap, hF, hB⟩ := hp.own (A := none) (n := 0) (cap := 0)
  have hl := hp.len
  cases ss with
  | nil => simp at hl
  | cons s t =>
    have hl' : t.length = r.length := by simpa using hl
    subst hF
    exact ⟨G, cap, s, t, rfl, rfl, hl', hB, fun j v hv => owns_cell hp.frames (stackC_top hl' hv), fun i => owns_frozen hp.frames i, hp⟩
theorem top_ix {n : Nat} (h : n ≤ 1000000000) : IntKind.wrap .i64 (((n + 1 : Nat) : Int) - 1) = (n : Int) := by rw [wrap_id (by omega) (by omega)]; omega
theorem gives60 (h : MachAt w B g C c p m F T ss) {x : Frm} {r : List Frm} (hm : m.frames = x :: r) (hr : r.length ≤ 1000000000) {f : Fnc} (hx : FrIn p x f) (hpc : x.pc < (f.code.length : Int)) :
    Gives Try.prog 60 [.pointer (some ⟨g, 0, none⟩)] w (.agg ⟨[.int .i64 (insAt f x.pc).op, .int .i64 (insAt f x.pc).a, .int .i64 (insAt f x.pc).b]⟩) := by
  obtain ⟨G, cap, s, t, rfl, rfl, hl, hB, cell, fr, hp⟩ := h.open hm
  obtain ⟨D, L, O, dc, lc, oc, hs⟩ := hp.each.1.sl
  have hF := h.cell (i := 6) rfl
  refine gives_of (V60.sound ?_)
  intro q1 _
  simp only [own_add]
  refine ⟨_, _, _, hF, _, _, _, hF, _, rfl, ?_⟩
  rw [top_ix hr]
  simp only [Int.toNat_natCast, own_add, bx_add, Nat.add_zero, Nat.zero_add]
  obtain ⟨hf, h0, hpf, hfl⟩ := fnAt_mem hx.fn
  have d0 := cell 0 _ rfl
  have d1 := cell 1 _ rfl
  have d2 := cell 2 _ rfl
  have d3 := cell 3 _ rfl
  have d4 := cell 4 _ rfl
  have d5 : w.cell? ⟨G, r.length * 8 + 5, none⟩ = some (.slice D x.dfs.length dc) := cell 5 _ (by show some s.D = _; rw [hs.D])
  have d6 : w.cell? ⟨G, r.length * 8 + 6, none⟩ = some (.slice L x.locals.length lc) := cell 6 _ (by show some s.L = _; rw [hs.L])
  have d7 : w.cell? ⟨G, r.length * 8 + 7, none⟩ = some (.slice O x.ops.length oc) := cell 7 _ (by show some s.O = _; rw [hs.O])
  refine ⟨by omega, by omega, x.f, d0, x.pc, d1, x.mode, d2, x.dfd, d3, x.value, d4, D, _, dc, d5, L, _, lc, d6, O, _, oc, d7, fun q2 _ => ⟨d0, d1, d2, d3, d4, d5, d6, d7, hF, hF, ?_⟩⟩
  obtain ⟨f', q, C', c', hf', hq, c0, c1, c2, c3, hcode⟩ := prog_at h.prog.prog (i := x.f.toNat) (by omega)
  rw [hpf] at hf'; cases hf'
  subst hq
  have hpc0 := hx.pc.1
  obtain ⟨y, a, hy, ha, i0, i1, i2⟩ := RowAt.at hcode (i := x.pc.toNat) (by omega)
  have hyi : insAt f x.pc = y := by unfold insAt; rw [hy]; rfl
  rw [hyi]
  refine ⟨_, _, _, h.cell (i := 0) rfl, q, rfl, by omega, by omega, C', _, c', c3, a, ha, by omega, by omega, y.op, i0, y.a, i1, y.b, i2, ret_is (Below.refl _ _) rfl⟩
theorem dfrsC_get : ∀ {ds : List Dfr} {vs : List Value} {i : Nat} {d : Dfr} {a : Value}, ds[i]? = some d → vs[i]? = some a → (dfrsC ds vs)[i * 2]? = some (.int .i64 d.f) ∧ (dfrsC ds vs)[i * 2 + 1]? = some a
  | [], vs, i, d, a, h, _ => by simp at h
  | y :: r, [], i, d, a, _, h => by simp at h
  | y :: r, b :: u, 0, d, a, h, h2 => by simp at h h2; subst h; subst h2; exact ⟨rfl, rfl⟩
  | y :: r, b :: u, i + 1, d, a, h, h2 => by
    obtain ⟨h3, h4⟩ := dfrsC_get (ds := r) (vs := u) (i := i) (by simpa using h) (by simpa using h2)
    have e : dfrsC (y :: r) (b :: u) = .int .i64 y.f :: b :: dfrsC r u := rfl
    rw [e, show (i + 1) * 2 = i * 2 + 2 by omega, show i * 2 + 2 + 1 = i * 2 + 1 + 2 by omega]
    exact ⟨h3, h4⟩
theorem getLast_ix {α : Type} {l : List α} {d : α} (h : l.getLast? = some d) : l[l.length - 1]? = some d ∧ 0 < l.length := by
  rw [List.getLast?_eq_getElem?] at h
  exact ⟨h, by have := (List.getElem?_eq_some_iff.1 h).1; omega⟩
end
end Go.Proofs.Ytidcpndlloppdaa
