import Derived.Test.YtidcpndlloppdaaZM21e
/-
  Layer 21: the three functions within run: what is pushed, what is popped, a ref's place.
  Conditions: the machine lies in memory as told.
-/
set_option linter.unusedVariables false
set_option linter.unusedSimpArgs false
set_option maxRecDepth 20000
namespace Go.Proofs.Ytidcpndlloppdaa
open Go.RowKit
section
variable {w w1 : World} {B g : Nat} {C : Option Addr} {c : Nat} {p : List Fnc} {m : Mach} {T : Value} {x x' : Frm} {r : List Frm} {s s' : Sl} {t : List Sl} {G cap : Nat} {bx : Addr}
abbrev FootT (g G cap : Nat) (r : List Frm) (T : Value) (ss : List Sl) : Nat → Prop := Foot g (.slice (some ⟨G, 0, none⟩) (r.length + 1) cap) T ss
theorem TopAt.box_set (h : TopAt w B g C c p m T x r s t G cap bx) (h1 : KeepsOff (FootT g G cap r T (s :: t)) w w1) {i : Nat} {v : Value} : (w1.setCell ⟨G, i, none⟩ v).cell? bx = some (.pointer (some ⟨G, r.length * 8, none⟩)) :=
  keepsOff_set (S := FootT g G cap r T (s :: t)) (.inr (.inl rfl)) _ _ (h1 _ _ h.box h.out) h.out
theorem TopAt.setTop (h : TopAt w B g C c p m T x r s t G cap bx) {b : Option Nat} {ty : TypeId} (hc : Chg1 b ty w w1) (hb : ∀ k, b = some k → InSl s k) (h1 : 66 ≠ ty) (h2 : 31 ≠ ty) (h3 : 76 ≠ ty)
    (hk : KeepsOff (FootT g G cap r T (s :: t)) w w1) (hx : FrmM w1 B x' s') (hnew : ∀ k, InSl s' k → InSl s k ∨ w.heap.size ≤ k) (hap : ApSl s') {j : Nat} {v : Value} (hj : j < 8) (hset : (frmC x s).set j v = frmC x' s') :
    TopAt (w1.setCell ⟨G, r.length * 8 + j, none⟩ v) B g C c p (topM m (x' :: r)) T x' r s' t G cap bx :=
  ⟨h.at_.setTop h.fs hc hb h1 h2 h3 hk hx hnew hap hj hset, rfl, h.box_set hk, fun hf => by
    rcases foot_top hnew hf with hf | hf
    · exact h.out hf
    · have := cell_lt h.box; omega⟩
theorem TopAt.setNum (h : TopAt w B g C c p m T x r s t G cap bx) (hx : FrmM w B x' s) {j : Nat} {v : Value} (hj : j < 8) (hset : (frmC x s).set j v = frmC x' s) :
    TopAt (w.setCell ⟨G, r.length * 8 + j, none⟩ v) B g C c p (topM m (x' :: r)) T x' r s t G cap bx :=
  h.setTop (Chg1.refl 0 w) (fun k hk => by cases hk) (by decide) (by decide) (by decide) (fun q v hq _ => hq) hx (fun k hk => .inl hk) h.pcs.apart.1 hj hset
theorem TopAt.setLoc (h : TopAt w B g C c p m T x r s t G cap bx) {Lb n lc i : Nat} {u : Int} (hL : s.L = .slice (some ⟨Lb, 0, none⟩) n lc) (hi : i < x.locals.length) :
    TopAt (w.setCell ⟨Lb, i, none⟩ (.int .u64 u)) B g C c p (topM m ({ x with locals := x.locals.set i u } :: r)) T { x with locals := x.locals.set i u } r s t G cap bx :=
  ⟨(h.at_.setLoc h.fs hL hi).1, rfl, keepsOff_set (S := FootT g G cap r T (s :: t)) (.inr (.inr (.inr ⟨s, List.mem_cons_self, .inr (.inl (by rw [hL]; rfl))⟩))) _ _ h.box h.out, h.out⟩
theorem TopAt.lt (h : TopAt w B g C c p m T x r s t G cap bx) {k : Nat} (hk : InSl s k) : k < w.heap.size := (h.at_.ty (.inr (.inr (.inr ⟨s, List.mem_cons_self, hk⟩)))).2.1
theorem turns61 (h : TopAt w B g C c p m T x r s t G cap bx) {A : Option Addr} {n ac : Nat} {ws : List Int} (hw : Nums .u64 w A n ws) (hn : 1 ≤ n ∧ n ≤ 8) (hlen : x.ops.length ≤ 100) :
    Turns Try.prog 61 [.slice A n ac, .pointer (some bx)] w (FootT g G cap r T (s :: t)) fun u w' => u = .tuple ⟨[]⟩ ∧ TopQ w B g C c p (topM m (pushF x ws :: r)) T (pushF x ws) r s t G cap bx w' := by
  refine turns_of (V61.sound ?_)
  unfold V61.vc
  obtain ⟨D, L, O, dc, lc, oc, hs⟩ := h.pcs.each.1.sl
  have d7 : w.cell? ⟨G, r.length * 8 + 7, none⟩ = some (.slice O x.ops.length oc) := h.cells (j := 7) (by show some s.O = _; rw [hs.O])
  refine ⟨_, h.box, _, h.box, ?_⟩
  simp only [caseP, bx_add, Nat.add_zero]
  refine ⟨O, _, oc, d7, ?_⟩
  obtain ⟨_, a, _, hA, _⟩ := hw.at (i := 0) (by omega)
  subst hA
  have hO := h.pcs.each.1.O
  rw [hs.O] at hO
  have hB : B ≤ w.heap.size := Nat.le_trans h.at_.base (Nat.le_of_lt (h.at_.ty (.inl rfl)).2.1)
  refine append_nums (bs := []) (t := 49) (e := 28) (i := Try.t28) (k := .u64) (bytes := 8) (by kernel_rfl) (by kernel_rfl) (by kernel_rfl) (by kernel_rfl) (by kernel_rfl) (Nat.le_refl _) hO hw (by omega) (Nat.le_refl _) hB fun v w2 he ho' hnw => ?_
  obtain ⟨O', oc', hv⟩ := owns_slice0 ho'
  subst hv
  have hc := chg1_exts he hO
  have hinO : ∀ k, (Value.slice O x.ops.length oc).ownBlock = some k → InSl s k := fun k hk => .inr (.inr (.inl (by rw [hs.O]; exact hk)))
  have hk : KeepsOff (FootT g G cap r T (s :: t)) w w2 := (keepsOff_exts he).mono fun k hk => .inr (.inr (.inr ⟨s, List.mem_cons_self, hinO k hk⟩))
  have hF := h.pcs.each.1
  have hap := h.pcs.apart.1
  have hnew : ∀ k, InSl { s with O := .slice O' (x.ops.length + n) oc' } k → InSl s k ∨ w.heap.size ≤ k := fun k hk => by
    rcases hk with hk | hk | hk | hk
    · exact .inl (.inl hk)
    · exact .inl (.inr (.inl hk))
    · rcases hnw k hk with hk | hk
      · exact .inl (hinO k hk)
      · exact .inr hk
    · exact .inl (.inr (.inr (.inr hk)))
  have hO' : ∀ k, (Value.slice O' (x.ops.length + n) oc').ownBlock = some k → s.O.ownBlock = some k ∨ w.heap.size ≤ k := fun k hk => by rw [hs.O]; exact hnw k hk
  have hx' : FrmM w2 B (pushF x ws) { s with O := .slice O' (x.ops.length + n) oc' } := by
    refine ⟨hc.ownT hF.D (by decide), hF.args.same fun a ha k hk => ?_, hc.own hF.L fun k hk => ?_, ?_⟩
    · obtain ⟨_, cc, ff, hh⟩ := hF.args.ty a ha k hk
      exact hc.same (fun e => hap.OA a ha k hk (by rw [hs.O]; exact e)) hh
    · rw [← hs.O]; exact hap.LO k hk
    · have := ho'
      rw [← hw.len] at this
      show w2.ownsRow B 28 1 _ (x.ops ++ ws).length (u64s (x.ops ++ ws))
      rw [List.length_append, hw.len]
      rw [hw.len] at this
      exact this
  have hap' : ApSl { s with O := .slice O' (x.ops.length + n) oc' } := ⟨fun k hk e => by
    rcases hO' k e with e | e
    · exact hap.LO k hk e
    · have := h.lt (k := k) (.inr (.inl hk)); omega, hap.LA, fun a ha k hk e => by
    rcases hO' k e with e | e
    · exact hap.OA a ha k hk e
    · have := h.lt (k := k) (.inr (.inr (.inr ⟨a, ha, hk⟩))); omega⟩
  have hT := h.setTop hc hinO (by decide) (by decide) (by decide) hk hx' hnew hap' (j := 7) (v := .slice O' (x.ops.length + n) oc') (by omega) rfl
  refine ⟨O', _, oc', rfl, hk _ _ h.box h.out, ⟨.slice O x.ops.length oc, ?_⟩, ?_, ?_⟩
  · exact owns_cell (hc.ownT h.pcs.frames (by decide)) (stackC_top (by have := h.pcs.len; simpa using this) (j := 7) (by show some s.O = _; rw [hs.O]))
  · exact owns_frozen (hc.ownT h.pcs.frames (by decide)) _
  · exact ret_t ((he.chg (Chg.refl _ _) fun k _ hk => .inr (.inr (.inr ⟨s, List.mem_cons_self, hinO k hk⟩))).setCell _ fun _ => .inr (.inl rfl)) fun w3 e3 => ⟨rfl, _, hT.ext e3, hnew⟩
theorem call61 {w0 : World} {bs : List Nat} {K : Value → World → Prop} (hB : w0.heap.size ≤ w.heap.size) (h : TopAt w B g C c p m T x r s t G cap bx) {A : Option Addr} {n ac : Nat} {ws : List Int} (hw : Nums .u64 w A n ws) (hn : 1 ≤ n ∧ n ≤ 8) (hlen : x.ops.length ≤ 100)
    (hk : ∀ s' w', TopAt w' B g C c p (topM m (pushF x ws :: r)) T (pushF x ws) r s' t G cap bx → ExtS w0.heap.size (FootT g G cap r T (s :: t)) w w' → (∀ k, FootT g G cap r T (s' :: t) k → FootT g G cap r T (s :: t) k ∨ w.heap.size ≤ k) → K (.tuple ⟨[]⟩) w') :
    CallK Try.prog 61 [.slice A n ac, .pointer (some bx)] w0.heap.size w bs K := by
  refine call_turnsS (Q := fun w1 u w' => u = .tuple ⟨[]⟩ ∧ TopQ w1 B g C c p (topM m (pushF x ws :: r)) T (pushF x ws) r s t G cap bx w') hB (fun k hk => (h.at_.ty hk).2.2) (fun w1 e1 => turns61 (h.ext e1) (RowAt.keep (NumE.kept .u64) hw (ext_keeps e1)) hn hlen) fun w1 u w2 w' hs hQ hsame he => ?_
  obtain ⟨rfl, s', hT, hnew⟩ := hQ
  have hf : ∀ k, FootT g G cap r T (s' :: t) k → FootT g G cap r T (s :: t) k ∨ w1.heap.size ≤ k := fun k hk => foot_top hnew hk
  have hf' : ∀ k, FootT g G cap r T (s' :: t) k → FootT g G cap r T (s :: t) k ∨ w.heap.size ≤ k := fun k hk => (hf k hk).imp id fun h => Nat.le_trans hs h
  have hs' : ∀ k, FootT g G cap r T (s' :: t) k → w'.heap[k]? = w2.heap[k]? := fun k hk => hsame k (hf k hk)
  refine hk s' w' ⟨⟨hT.at_.base, by rw [hs' g (.inl rfl)]; exact hT.at_.head, hT.at_.pcs.same fun k hk => hs' k (.inr hk), h.at_.prog.keep (keepsOff_exts he) hf'⟩, hT.fs, he.cell h.box h.out, hT.out⟩ he hf'
theorem sub_wrap {n k : Nat} (hk : k ≤ n) (hn : n ≤ 1000) : IntKind.wrap .i64 ((n : Int) - (k : Int)) = ((n - k : Nat) : Int) := by rw [wrap_id (by omega) (by omega)]; omega
theorem turns62 (h : TopAt w B g C c p m T x r s t G cap bx) {k : Nat} (hk : k ≤ x.ops.length) (hlen : x.ops.length ≤ 100) :
    Turns Try.prog 62 [.int .i64 (k : Int), .pointer (some bx)] w (FootT g G cap r T (s :: t)) fun u w' => (∃ A ac, u = .slice A k ac ∧ w'.ownsRow w.heap.size 28 1 (.slice A k ac) k (u64s (x.ops.drop (x.ops.length - k)))) ∧
      ∃ s', TopAt w' B g C c p (topM m ({ x with ops := x.ops.take (x.ops.length - k) } :: r)) T { x with ops := x.ops.take (x.ops.length - k) } r s' t G cap bx ∧ ∀ k, InSl s' k → InSl s k := by
  refine turns_of (V62.sound ?_)
  unfold V62.vc
  obtain ⟨D, L, O, dc, lc, oc, hs⟩ := h.pcs.each.1.sl
  have d7 : w.cell? ⟨G, r.length * 8 + 7, none⟩ = some (.slice O x.ops.length oc) := h.cells (j := 7) (by show some s.O = _; rw [hs.O])
  refine ⟨_, h.box, ?_⟩
  simp only [caseP, bx_add, Nat.add_zero]
  refine ⟨O, _, oc, d7, _, h.box, O, _, oc, d7, ?_⟩
  have hO := h.pcs.each.1.O
  rw [hs.O] at hO
  rw [sub_wrap hk (by omega)]
  simp only [Int.toNat_natCast]
  obtain ⟨hcut, hcap⟩ := owns_cut hO (k := x.ops.length - k) (by omega)
  refine ⟨by omega, by omega, ?_⟩
  have hnums := nums_from (ownsU_nums hO (by omega)) (k := x.ops.length - k) (cap := oc) (by omega) hcap
  rw [show x.ops.length - (x.ops.length - k) = k by omega] at hnums ⊢
  refine cloned (Nat.le_refl _) hnums (by omega) fun A ac w2 e2 ho2 => ⟨A, _, ac, rfl, ?_⟩
  have h2 := h.ext e2
  have d72 := e2.cell d7
  refine ⟨_, h2.box, ?_⟩
  simp only [caseP, bx_add, Nat.add_zero]
  refine ⟨_, h2.box, O, _, oc, d72, by omega, by omega, ⟨_, d72⟩, h2.fr _, ?_⟩
  rw [slice_cut, Nat.sub_zero, Nat.sub_zero]
  have hF := h2.pcs.each.1
  have hap := h2.pcs.apart.1
  have hO2 := hF.O
  rw [hs.O] at hO2
  obtain ⟨hcut2, _⟩ := owns_cut hO2 (k := x.ops.length - k) (by omega)
  have hown : ∀ j, (Value.slice O (x.ops.length - k) oc).ownBlock = some j ↔ s.O.ownBlock = some j := fun j => by rw [hs.O]; cases O <;> exact Iff.rfl
  have hx' : FrmM w2 B { x with ops := x.ops.take (x.ops.length - k) } { s with O := .slice O (x.ops.length - k) oc } := by
    refine ⟨hF.D, hF.args, hF.L, ?_⟩
    show w2.ownsRow B 28 1 _ (x.ops.take (x.ops.length - k)).length (u64s (x.ops.take (x.ops.length - k)))
    rw [List.length_take, Nat.min_eq_left (by omega)]
    have : (u64s x.ops).take ((x.ops.length - k) * 1) = u64s (x.ops.take (x.ops.length - k)) := by unfold u64s; rw [Nat.mul_one, List.map_take]
    rw [← this]; exact hcut2
  have hnew : ∀ j, InSl { s with O := .slice O (x.ops.length - k) oc } j → InSl s j := fun j hj => by
    rcases hj with hj | hj | hj | hj
    · exact .inl hj
    · exact .inr (.inl hj)
    · exact .inr (.inr (.inl ((hown j).1 hj)))
    · exact .inr (.inr (.inr hj))
  have hT := h2.setTop (Chg1.refl 0 w2) (fun k hk => by cases hk) (by decide) (by decide) (by decide) (fun q v hq _ => hq) hx' (fun j hj => .inl (hnew j hj)) ⟨fun j hj e => hap.LO j hj ((hown j).1 e), hap.LA, fun a ha j hj e => hap.OA a ha j hj ((hown j).1 e)⟩ (j := 7) (v := .slice O (x.ops.length - k) oc) (by omega) rfl
  have hchg : Chg (FootT g G cap r T (s :: t)) w (w2.setCell ⟨G, r.length * 8 + 7, none⟩ (.slice O (x.ops.length - k) oc)) := ((e2.toS (S := fun _ => False)).chg (Chg.refl _ _) (fun _ _ h => h.elim)).setCell _ fun _ => .inr (.inl rfl)
  have hsame : ∀ j, (Value.slice A k ac).ownBlock = some j → (w2.setCell ⟨G, r.length * 8 + 7, none⟩ (.slice O (x.ops.length - k) oc)).heap[j]? = w2.heap[j]? := fun j hj => at_other (fun e => by
    have h1 := (ho2.lt j hj).1
    have h2 := (h.at_.ty h.inG).2.1
    omega)
  exact ret_t hchg fun w3 e3 => ⟨⟨A, ac, rfl, e3.owns (owns_other ho2 hsame)⟩, _, hT.ext e3, hnew⟩
theorem call62 {w0 : World} {bs : List Nat} {K : Value → World → Prop} (hB : w0.heap.size ≤ w.heap.size) (h : TopAt w B g C c p m T x r s t G cap bx) {k : Nat} (hk : k ≤ x.ops.length) (hlen : x.ops.length ≤ 100)
    (hK : ∀ A ac s' w', TopAt w' B g C c p (topM m ({ x with ops := x.ops.take (x.ops.length - k) } :: r)) T { x with ops := x.ops.take (x.ops.length - k) } r s' t G cap bx → ExtS w0.heap.size (FootT g G cap r T (s :: t)) w w' → (∀ k, FootT g G cap r T (s' :: t) k → FootT g G cap r T (s :: t) k) →
      w'.ownsRow w.heap.size 28 1 (.slice A k ac) k (u64s (x.ops.drop (x.ops.length - k))) → K (.slice A k ac) w') :
    CallK Try.prog 62 [.int .i64 (k : Int), .pointer (some bx)] w0.heap.size w bs K := by
  refine call_turnsS (Q := fun w1 u w' => (∃ A ac, u = .slice A k ac ∧ w'.ownsRow w1.heap.size 28 1 (.slice A k ac) k (u64s (x.ops.drop (x.ops.length - k)))) ∧
      ∃ s', TopAt w' B g C c p (topM m ({ x with ops := x.ops.take (x.ops.length - k) } :: r)) T { x with ops := x.ops.take (x.ops.length - k) } r s' t G cap bx ∧ ∀ k, InSl s' k → InSl s k) hB (fun k hk => (h.at_.ty hk).2.2) (fun w1 e1 => turns62 (h.ext e1) hk hlen) fun w1 u w2 w' hs hQ hsame he => ?_
  obtain ⟨⟨A, ac, rfl, ho⟩, s', hT, hnew⟩ := hQ
  have hf : ∀ k, FootT g G cap r T (s' :: t) k → FootT g G cap r T (s :: t) k := fun k hk => (foot_top (n := k + 1) (fun j hj => .inl (hnew j hj)) hk).elim id fun h => absurd h (by omega)
  have hs' : ∀ k, FootT g G cap r T (s' :: t) k → w'.heap[k]? = w2.heap[k]? := fun k hk => hsame k (.inl (hf k hk))
  exact hK A ac s' w' ⟨⟨hT.at_.base, by rw [hs' g (.inl rfl)]; exact hT.at_.head, hT.at_.pcs.same fun k hk => hs' k (.inr hk), h.at_.prog.keep (keepsOff_exts he) fun k hk => .inl (hf k hk)⟩, hT.fs, he.cell h.box h.out, hT.out⟩ he hf (owns_down (owns_other ho fun j hj => hsame j (.inr (ho.lt j hj).1)) hs)
theorem gives64 (h : TopAt w B g C c p m T x r s t G cap bx) {bm : Addr} (hbm : w.cell? bm = some (.pointer (some ⟨g, 0, none⟩))) {f : Fnc} (hx : FrIn p x f) (hsz : sizedF f = true) {k : Int} (hk : 0 ≤ k ∧ k < f.refs) :
    ∃ Lb lc, s.L = .slice (some ⟨Lb, 0, none⟩) x.locals.length lc ∧ Gives Try.prog 64 [.int .i64 k, .pointer (some bx), .pointer (some bm)] w (.pointer (some ⟨Lb, refAt f x k, none⟩)) := by
  obtain ⟨hr1, hr2⟩ := refAt_bd (y := x) hsz hx.locals hk
  have hsb := sized_bd hsz
  have hL := h.pcs.each.1.L
  obtain ⟨Lb, lc, hLv, _, _⟩ := owns_some hL (by omega)
  refine ⟨Lb, lc, hLv, gives_of (V64.sound ?_)⟩
  unfold V64.vc
  have d6 : w.cell? ⟨G, r.length * 8 + 6, none⟩ = some (.slice (some ⟨Lb, 0, none⟩) x.locals.length lc) := h.cells (j := 6) (by show some s.L = _; rw [hLv])
  have d0 : w.cell? ⟨G, r.length * 8 + 0, none⟩ = some (.int .i64 x.f) := h.cells (j := 0) rfl
  refine ⟨_, h.box, ?_⟩
  simp only [caseP, bx_add, Nat.add_zero, own_add]
  refine ⟨_, _, _, d6, _, h.box, _, _, _, d6, _, hbm, ?_⟩
  simp only [caseP, bx_add, Nat.add_zero, own_add]
  obtain ⟨hf, h0, hpf, hfl⟩ := fnAt_mem hx.fn
  obtain ⟨f', q, C', c', hf', hq, c0, c1, c2, c3, hcode⟩ := prog_at h.at_.prog.prog (i := x.f.toNat) (by omega)
  rw [hpf] at hf'; cases hf'
  refine ⟨_, _, _, h.at_.cell (i := 0) rfl, _, h.box, ?_⟩
  simp only [caseP, bx_add, Nat.add_zero, own_add]
  refine ⟨x.f, d0, q, hq, by omega, by omega, f.refs, c2, _, rfl, ?_⟩
  have hloc := hx.locals
  rw [wrap_id (n := ((x.locals.length : Nat) : Int) - f.refs) (by omega) (by omega), wrap_id (n := ((x.locals.length : Nat) : Int) - f.refs + k) (by omega) (by omega), ← hr2, Int.toNat_natCast]
  exact ⟨by omega, by omega, ret_is (Below.refl _ _) (by rw [own_add])⟩
end
end Go.Proofs.Ytidcpndlloppdaa
