import Derived.Test.YtidcpndlloppdaaZM21b
/-
  Layer 21: what is read of a machine in memory: its top frame, its next instruction, the frame that its next act makes.
  Conditions: the machine lies in memory as told.
-/
set_option linter.unusedVariables false
set_option linter.unusedSimpArgs false
set_option maxRecDepth 20000
namespace Go.Proofs.Ytidcpndlloppdaa
open Go.RowKit
section
variable {w w' : World} {B g : Nat} {C : Option Addr} {c : Nat} {p : List Fnc} {m : Mach} {F T : Value} {ss : List Sl}
structure SlIs (s : Sl) (x : Frm) (D L O : Option Addr) (dc lc oc : Nat) : Prop where
  D : s.D = .slice D x.dfs.length dc
  L : s.L = .slice L x.locals.length lc
  O : s.O = .slice O x.ops.length oc
theorem FrmM.sl {x : Frm} {s : Sl} (h : FrmM w B x s) : ∃ D L O dc lc oc, SlIs s x D L O dc lc oc := by
  obtain ⟨D, dc, h1⟩ := owns_slice0 h.D
  obtain ⟨L, lc, h2⟩ := owns_slice0 h.L
  obtain ⟨O, oc, h3⟩ := owns_slice0 h.O
  exact ⟨D, L, O, dc, lc, oc, h1, h2, h3⟩
theorem MachAt.open (h : MachAt w B g C c p m F T ss) {x : Frm} {r : List Frm} (hm : m.frames = x :: r) : ∃ G cap s t, F = .slice (some ⟨G, 0, none⟩) (r.length + 1) cap ∧ ss = s :: t ∧ t.length = r.length ∧ B ≤ G ∧
    (∀ j v, (frmC x s)[j]? = some v → w.cell? ⟨G, r.length * 8 + j, none⟩ = some v) ∧ (∀ i, w.frozen? ⟨G, i, none⟩ = false) ∧ Pcs w B (.slice (some ⟨G, 0, none⟩) (r.length + 1) cap) T (x :: r) m.trace (s :: t) := by
  have hp := h.pcs
  rw [hm] at hp
  obtain ⟨G, cap, hF, hB⟩ := hp.own (A := none) (n := 0) (cap := 0)
  have hl := hp.len
  cases ss with
  | nil => simp at hl
  | cons s t =>
    have hl' : t.length = r.length := by simpa using hl
    subst hF
    exact ⟨G, cap, s, t, rfl, rfl, hl', hB, fun j v hv => owns_cell hp.frames (stackC_top hl' hv), fun i => owns_frozen hp.frames i, hp⟩
theorem top_ix {n : Nat} (h : n ≤ 1000000000) : IntKind.wrap .i64 (((n + 1 : Nat) : Int) - 1) = (n : Int) := by rw [wrap_id (by omega) (by omega)]; omega
theorem gives60 (h : MachAt w B g C c p m F T ss) {x : Frm} {r : List Frm} (hm : m.frames = x :: r) (hr : r.length ≤ 1000000000) {f : Fnc} (hx : FrIn p x f) (hpc : x.pc < (f.code.length : Int)) :
    Gives Try.prog 60 [.pointer (some ⟨g, 0, none⟩)] w (.agg ⟨[.int .i64 (insAt f x.pc).op, .int .i64 (insAt f x.pc).a, .int .i64 (insAt f x.pc).b]⟩) := by
  obtain ⟨G, cap, s, t, rfl, rfl, hl, hB, cell, fr, hp⟩ := h.open hm
  obtain ⟨D, L, O, dc, lc, oc, hs⟩ := hp.each.1.sl
  have hF := h.cell (i := 6) rfl
  refine gives_of (V60.sound ?_)
  intro q1 _
  simp only [own_add]
  refine ⟨_, _, _, hF, _, _, _, hF, _, rfl, ?_⟩
  rw [top_ix hr]
  simp only [Int.toNat_natCast, own_add, bx_add, Nat.add_zero, Nat.zero_add]
  obtain ⟨hf, h0, hpf, hfl⟩ := fnAt_mem hx.fn
  have d0 := cell 0 _ rfl
  have d1 := cell 1 _ rfl
  have d2 := cell 2 _ rfl
  have d3 := cell 3 _ rfl
  have d4 := cell 4 _ rfl
  have d5 : w.cell? ⟨G, r.length * 8 + 5, none⟩ = some (.slice D x.dfs.length dc) := cell 5 _ (by show some s.D = _; rw [hs.D])
  have d6 : w.cell? ⟨G, r.length * 8 + 6, none⟩ = some (.slice L x.locals.length lc) := cell 6 _ (by show some s.L = _; rw [hs.L])
  have d7 : w.cell? ⟨G, r.length * 8 + 7, none⟩ = some (.slice O x.ops.length oc) := cell 7 _ (by show some s.O = _; rw [hs.O])
  refine ⟨by omega, by omega, x.f, d0, x.pc, d1, x.mode, d2, x.dfd, d3, x.value, d4, D, _, dc, d5, L, _, lc, d6, O, _, oc, d7, fun q2 _ => ⟨d0, d1, d2, d3, d4, d5, d6, d7, hF, hF, ?_⟩⟩
  obtain ⟨f', q, C', c', hf', hq, c0, c1, c2, c3, hcode⟩ := prog_at h.prog.prog (i := x.f.toNat) (by omega)
  rw [hpf] at hf'; cases hf'
  subst hq
  have hpc0 := hx.pc.1
  obtain ⟨y, a, hy, ha, i0, i1, i2⟩ := RowAt.at hcode (i := x.pc.toNat) (by omega)
  have hyi : insAt f x.pc = y := by unfold insAt; rw [hy]; rfl
  rw [hyi]
  refine ⟨_, _, _, h.cell (i := 0) rfl, q, rfl, by omega, by omega, C', _, c', c3, a, ha, by omega, by omega, y.op, i0, y.a, i1, y.b, i2, ret_is (Below.refl _ _) rfl⟩
def callV (p : List Fnc) (m : Mach) : Value := match callM p m with
  | some f => .tuple ⟨[.int .i64 f, .bool true]⟩
  | none => .tuple ⟨[.int .i64 (if m.begun = true ∧ m.ended = false ∧ m.parked = false then (match m.frames with
    | x :: _ => if x.mode = 0 then (insAt (fnD p x.f) x.pc).a else 0
    | [] => 0) else 0), .bool false]⟩
theorem dfrsC_get : ∀ {ds : List Dfr} {vs : List Value} {i : Nat} {d : Dfr} {a : Value}, ds[i]? = some d → vs[i]? = some a → (dfrsC ds vs)[i * 2]? = some (.int .i64 d.f) ∧ (dfrsC ds vs)[i * 2 + 1]? = some a
  | [], vs, i, d, a, h, _ => by simp at h
  | y :: r, [], i, d, a, _, h => by simp at h
  | y :: r, b :: u, 0, d, a, h, h2 => by simp at h h2; subst h; subst h2; exact ⟨rfl, rfl⟩
  | y :: r, b :: u, i + 1, d, a, h, h2 => by
    obtain ⟨h3, h4⟩ := dfrsC_get (ds := r) (vs := u) (i := i) (by simpa using h) (by simpa using h2)
    have e : dfrsC (y :: r) (b :: u) = .int .i64 y.f :: b :: dfrsC r u := rfl
    rw [e, show (i + 1) * 2 = i * 2 + 2 by omega, show i * 2 + 2 + 1 = i * 2 + 1 + 2 by omega]
    exact ⟨h3, h4⟩
theorem getLast_ix {α : Type} {l : List α} {d : α} (h : l.getLast? = some d) : l[l.length - 1]? = some d ∧ 0 < l.length := by
  rw [List.getLast?_eq_getElem?] at h
  exact ⟨h, by have := (List.getElem?_eq_some_iff.1 h).1; omega⟩
theorem gives44 (hr : Rt p) (h : MachAt w B g C c p m F T ss) (ho : MOk p m) (hlen : m.frames.length ≤ 1000000000) : Gives Try.prog 44 [.pointer (some ⟨g, 0, none⟩)] w (callV p m) := by
  refine gives_of (V44.sound ?_)
  unfold V44.vc
  simp only [own_add]
  refine ⟨_, h.cell (i := 3) rfl, ?_⟩
  have no : ∀ {b : Bool}, b = true → (m.ended = true ∨ m.parked = true) → V44.b0 w.heap.size (IsV w (callV p m)) ⟨g, 0, none⟩ b w := fun {b} hb he => by
    unfold V44.b0
    rw [if_pos hb]
    refine ret_is (Below.refl _ _) ?_
    unfold callV callM
    rw [if_pos he]
    simp only
    rw [if_neg (by rintro ⟨_, a, b⟩; rcases he with he | he <;> simp_all)]
  cases he : m.ended with
  | true => rw [if_neg (by simp)]; exact no rfl (.inl he)
  | false =>
    rw [if_pos rfl]
    refine ⟨_, h.cell (i := 4) rfl, ?_⟩
    cases hpk : m.parked with
    | true => exact no rfl (.inr hpk)
    | false =>
      unfold V44.b0
      simp only [own_add]
      rw [if_neg (by simp)]
      refine ⟨_, h.cell (i := 2) rfl, ?_⟩
      cases hbg : m.begun with
      | false =>
        rw [if_pos (show (!false) = true from rfl)]
        refine ⟨_, h.cell (i := 1) rfl, ret_is (Below.refl _ _) ?_⟩
        unfold callV callM
        rw [if_neg (by rw [he, hpk]; simp), if_pos hbg]
      | true =>
        rw [if_neg (by simp)]
        obtain ⟨x, r, hm⟩ : ∃ x r, m.frames = x :: r := by
          cases hm : m.frames with
          | nil => have := (ho.gone hbg).2 hm; rw [he] at this; cases this
          | cons x r => exact ⟨x, r, rfl⟩
        have hrl : r.length ≤ 1000000000 := by rw [hm] at hlen; simp at hlen; omega
        obtain ⟨f, hx⟩ := (ho.frames x (by rw [hm]; exact List.mem_cons_self)).inn
        obtain ⟨G, cap, s, t, rfl, rfl, hl, hB, cell, fr, hp⟩ := h.open hm
        obtain ⟨D, L, O, dc, lc, oc, hs⟩ := hp.each.1.sl
        have hF := h.cell (i := 6) rfl
        refine ⟨_, _, _, hF, _, _, _, hF, _, rfl, ?_⟩
        rw [top_ix hrl]
        simp only [Int.toNat_natCast, own_add, bx_add, Nat.add_zero, Nat.zero_add]
        have d0 := cell 0 _ rfl
        have d1 := cell 1 _ rfl
        have d2 := cell 2 _ rfl
        have d3 := cell 3 _ rfl
        have d4 := cell 4 _ rfl
        have d5 : w.cell? ⟨G, r.length * 8 + 5, none⟩ = some (.slice D x.dfs.length dc) := cell 5 _ (by show some s.D = _; rw [hs.D])
        have d6 : w.cell? ⟨G, r.length * 8 + 6, none⟩ = some (.slice L x.locals.length lc) := cell 6 _ (by show some s.L = _; rw [hs.L])
        have d7 : w.cell? ⟨G, r.length * 8 + 7, none⟩ = some (.slice O x.ops.length oc) := cell 7 _ (by show some s.O = _; rw [hs.O])
        refine ⟨by omega, by omega, x.f, d0, x.pc, d1, x.mode, d2, x.dfd, d3, x.value, d4, D, _, dc, d5, L, _, lc, d6, O, _, oc, d7, fun q2 _ => ⟨d0, d1, d2, d3, d4, d5, d6, d7, hF, hF, ?_⟩⟩
        have hcm : callM p m = if x.mode = 0 then (if (insAt (fnD p x.f) x.pc).op = 17 then some (insAt (fnD p x.f) x.pc).a else none) else x.dfs.getLast?.map Dfr.f := by
          unfold callM
          rw [if_neg (by rw [he, hpk]; simp), if_neg (by rw [hbg]; simp), hm]
        by_cases h0 : x.mode = 0
        · rw [if_neg (by simpa using h0)]
          rw [if_pos h0] at hcm
          have ht := ho.top x r hm h0
          have hpc := At.lt hx ht
          refine call_gives (Below.refl _ _) (fun w1 e1 _ => gives60 (h.ext e1) hm hrl hx hpc) fun w1 _ hw1 => ⟨_, _, _, rfl, fun q3 _ => ret_is hw1 ?_⟩
          unfold callV
          rw [hcm, fnD_eq hx.fn, hm]
          simp only
          by_cases h17 : (insAt f x.pc).op = 17
          · rw [if_pos h17, h17]; rfl
          · rw [if_neg h17]
            simp only
            rw [if_pos ⟨hbg, he, hpk⟩, if_pos h0, fnD_eq hx.fn, show ((insAt f x.pc).op == 17) = false by simpa using h17]
        · rw [if_pos (by simpa using h0)]
          rw [if_neg h0] at hcm
          have hd8 : x.dfs.length ≤ 8 := by have := hx.room; unfold roomM at this; split at this <;> omega
          cases hgl : x.dfs.getLast? with
          | none =>
            have hnil : x.dfs = [] := List.getLast?_eq_none_iff.1 hgl
            rw [if_neg (by rw [hnil]; simp)]
            refine ret_is (Below.refl _ _) ?_
            unfold callV
            rw [hcm, hgl, hm]
            simp only [Option.map_none]
            rw [if_pos ⟨hbg, he, hpk⟩, if_neg h0]
          | some d =>
            obtain ⟨hix, hpos⟩ := getLast_ix hgl
            rw [if_pos (by simpa using hpos), wrap_id (n := ((x.dfs.length : Nat) : Int) - 1) (by omega) (by omega)]
            have hD := hp.each.1.D
            rw [hs.D] at hD
            obtain ⟨gd, cd, hDv, _, _⟩ := owns_some hD hpos
            cases hDv
            obtain ⟨a, ha, _⟩ := hp.each.1.args.get hix
            obtain ⟨e1, e2⟩ := dfrsC_get hix ha
            have hc := owns_cell hD e1
            refine ⟨_, rfl, by omega, by omega, d.f, ?_, ret_is (Below.refl _ _) ?_⟩
            · simp only [own_add, bx_add, Nat.add_zero, Nat.zero_add]
              rw [show (((x.dfs.length : Nat) : Int) - 1).toNat = x.dfs.length - 1 by omega]
              exact hc
            · unfold callV
              rw [hcm, hgl]
              rfl
theorem gives24 (hr : Rt p) (h : MachAt w B g C c p m F T ss) (ho : MOk p m) (hlen : m.frames.length ≤ 1000000000) (hcall : ∀ f, callM p m = some f → ∃ x, fnAt p f = some x) : Gives Try.prog 24 [.pointer (some ⟨g, 0, none⟩)] w (.int .i64 (needM p m)) := by
  refine gives_of (V24.sound ?_)
  unfold V24.vc
  refine call_gives (Below.refl _ _) (fun w1 e1 _ => gives44 hr (h.ext e1) ho hlen) fun w1 e1 hw1 => ?_
  have h1 := h.ext e1
  unfold callV needM
  cases hc : callM p m with
  | none =>
    simp only
    refine ⟨_, _, rfl, ?_⟩
    rw [if_pos (by rfl)]
    exact ret_is hw1 rfl
  | some f =>
    simp only
    refine ⟨_, _, rfl, ?_⟩
    rw [if_neg (by simp)]
    obtain ⟨x, hx⟩ := hcall f hc
    obtain ⟨hf, h0, hpf, hfl⟩ := fnAt_mem hx
    obtain ⟨f', q, C', c', hf', hq, c0, c1, c2, c3, hcode⟩ := prog_at h1.prog.prog (i := f.toNat) (by omega)
    rw [hpf] at hf'; cases hf'
    subst hq
    simp only [own_add, bx_add, Nat.add_zero, Nat.zero_add]
    refine ⟨_, _, _, h1.cell (i := 0) rfl, q, rfl, by omega, by omega, x.params, c0, x.locals, c1, x.refs, c2, C', _, c', c3, ?_⟩
    refine call_gives hw1 (fun w2 e2 _ => gives31 (RowAt.keep InsE.kept hcode (ext_keeps e2)) _ _ _) fun w2 _ hw2 => ⟨_, rfl, ret_is hw2 ?_⟩
    unfold sizeF'
    rw [fnD_eq hx]
end
end Go.Proofs.Ytidcpndlloppdaa
