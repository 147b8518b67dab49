import Derived.Test.YtidcpndlloppdaaZN21c
/-
  Layer 21: AbsmFits's function returns true.
  Conditions: the arguments' memory says what their values are.
-/
set_option linter.unusedVariables false
set_option linter.unusedSimpArgs false
set_option maxRecDepth 20000
namespace Go.Proofs.Ytidcpndlloppdaa
open Go.RowKit
def FrE (w : World) (a : Addr) (x : Frm) : Prop := ∃ s : Sls, w.cell? (a.add 0) = some (.int .i64 x.f) ∧ w.cell? (a.add 1) = some (.int .i64 x.pc) ∧ w.cell? (a.add 2) = some (.int .i64 x.mode) ∧ w.cell? (a.add 3) = some (.bool x.dfd) ∧ w.cell? (a.add 4) = some (.int .u64 x.value) ∧
  w.cell? (a.add 5) = some (.slice s.D x.dfs.length s.dc) ∧ w.cell? (a.add 6) = some (.slice s.L x.locals.length s.lc) ∧ w.cell? (a.add 7) = some (.slice s.O x.ops.length s.oc) ∧ FrmAt w x s
theorem FrE.kept : Kept1 FrE := fun _ _ _ _ hw h => by
  obtain ⟨s, h0, h1, h2, h3, h4, h5, h6, h7, h8⟩ := h
  exact ⟨s, hw _ _ h0, hw _ _ h1, hw _ _ h2, hw _ _ h3, hw _ _ h4, hw _ _ h5, hw _ _ h6, hw _ _ h7, h8.keep hw⟩
theorem frmAt_of {w : World} {B : Nat} {x : Frm} {s : Sl} (h : FrmM w B x s) (hx : SmallF x) {D L O : Option Addr} {dc lc oc : Nat} (hs : SlIs s x D L O dc lc oc) : FrmAt w x ⟨D, dc, L, lc, O, oc⟩ := by
  obtain ⟨h1, h2, h3, h4⟩ := hx
  have hD := h.D
  have hL := h.L
  have hO := h.O
  rw [hs.D] at hD
  rw [hs.L] at hL
  rw [hs.O] at hO
  refine ⟨⟨rfl, by simp only [maxLen]; omega, fun i d hd => ?_⟩, ownsU_nums hL (by omega), ownsU_nums hO (by omega)⟩
  have hi := (List.getElem?_eq_some_iff.1 hd).1
  obtain ⟨gd, cd, hv, _, _⟩ := owns_some hD (by omega)
  cases hv
  obtain ⟨a, ha, hao⟩ := h.args.get hd
  obtain ⟨k1, k2⟩ := dfrsC_get hd ha
  obtain ⟨A, ac, hav⟩ := owns_slice0 hao
  subst hav
  refine ⟨_, rfl, ?_, A, ac, ?_, ownsU_nums hao (by have := h4 d (List.mem_of_getElem? hd); omega)⟩
  · simp only [own_add, bx_add, Nat.add_zero, Nat.zero_add]; exact owns_cell hD k1
  · simp only [own_add, bx_add, Nat.zero_add]; exact owns_cell hD k2
theorem frames_row {w : World} {B : Nat} {A : Option Addr} {cap : Nat} {fs : List Frm} {ss : List Sl} (ho : w.ownsRow B 66 8 (.slice A fs.length cap) fs.length (stackC fs ss)) (hfs : FrmsM w B fs ss) (hsm : ∀ x ∈ fs, SmallF x) (hn : fs.length ≤ 100000) : RowAt FrE 8 w A fs.length fs.reverse := by
  refine ⟨by simp, by simp only [maxLen]; omega, fun i x hx => ?_⟩
  have hi := (List.getElem?_eq_some_iff.1 hx).1
  rw [List.length_reverse] at hi
  rw [List.getElem?_reverse hi] at hx
  have hsplit : fs = fs.take (fs.length - 1 - i) ++ x :: fs.drop (fs.length - i) := by
    have : fs.drop (fs.length - 1 - i) = x :: fs.drop (fs.length - i) := by rw [drop_at hx, show fs.length - 1 - i + 1 = fs.length - i by omega]
    rw [← this, List.take_append_drop]
  have hbl : (fs.drop (fs.length - i)).length = i := by rw [List.length_drop]; omega
  have hxs := hsm x (List.mem_of_getElem? hx)
  have hsl := hfs.len
  generalize fs.drop (fs.length - i) = b at *
  generalize fs.take (fs.length - 1 - i) = a at *
  have hF := hfs
  rw [hsplit] at hsl hF
  obtain ⟨s, hs1, hs2⟩ := stackC_at (x := x) (b := b) (a := a) hsl
  have hfx := hs2 _ _ hF
  obtain ⟨D, L, O, dc, lc, oc, hs⟩ := hfx.sl
  obtain ⟨G, cap', hv, _, _⟩ := owns_some ho (by omega)
  cases hv
  have cell : ∀ {j v}, (frmC x s)[j]? = some v → w.cell? (((⟨G, 0, none⟩ : Addr).add (i * 8)).add j) = some v := fun {j v} hv => by
    simp only [own_add, bx_add, Nat.zero_add]
    have := hs1 j v hv
    rw [← hsplit, hbl] at this
    exact owns_cell ho this
  exact ⟨_, rfl, ⟨D, dc, L, lc, O, oc⟩, cell rfl, cell rfl, cell rfl, cell rfl, cell rfl, cell (by show some s.D = _; rw [hs.D]), cell (by show some s.L = _; rw [hs.L]), cell (by show some s.O = _; rw [hs.O]), frmAt_of hfx hxs hs⟩
structure FitAt (w0 w : World) (p : List Fnc) (P : Option Addr) (g : Nat) (m : Mach) (C : Option Addr) (c : Nat) (F T : Value) (ss : List Sl) : Prop where
  mach : MachAt w w0.heap.size g C c p m F T ss
  prog : POff (Foot g F T ss) w P p
  below : Below w0.heap.size w0 w
section
variable {w0 w w' : World} {p : List Fnc} {P : Option Addr} {g : Nat} {m m' : Mach} {C : Option Addr} {c : Nat} {F T : Value} {ss : List Sl}
theorem FitAt.ext (h : FitAt w0 w p P g m C c F T ss) (he : Ext w0.heap.size w w') : FitAt w0 w' p P g m C c F T ss := ⟨h.mach.ext he, h.prog.keep (keepsOff_ext he) fun k hk => .inl hk, he.after h.below⟩
theorem FitAt.turn (h : FitAt w0 w p P g m C c F T ss) {F' T' : Value} {ss' : List Sl} (h' : MachAt w' w0.heap.size g C c p m' F' T' ss') (he : ExtS w0.heap.size (Foot g F T ss) w w') (hf : ∀ k, Foot g F' T' ss' k → Foot g F T ss k ∨ w.heap.size ≤ k) : FitAt w0 w' p P g m' C c F' T' ss' :=
  ⟨h', h.prog.keep (keepsOff_exts he) hf, he.after (fun j hj => (h.mach.ty hj).1) h.below⟩
end
theorem need_some {p : List Fnc} {m : Mach} {f : Int} (h : callM p m = some f) : needM p m = sizeF' (fnD p f) := by unfold needM; rw [h]
theorem need_none {p : List Fnc} {m : Mach} (h : callM p m = none) : needM p m = 0 := by unfold needM; rw [h]
theorem depths_at {p : List Fnc} (hr : Rt p) {x : Frm} {g : Fnc} (hx : FrIn p x g) (ht : At p x 0) : x.pc < ((depthsOf p x.f).length : Int) ∧ (depthsOf p x.f)[x.pc.toNat]? = some (x.ops.length : Int) := by
  obtain ⟨hm, hf0, hpf, hfl⟩ := fnAt_mem hx.fn
  obtain ⟨d, hd⟩ := hr.flow g hm
  have hdo : depthsOf p x.f = d := by unfold depthsOf; rw [if_pos ⟨by rw [hr.check], by omega⟩, hpf]; simp only [hd]
  obtain ⟨h2, h3, h4⟩ := depths_still hr.fewP (hr.jmp g hm) hd
  have hpc := ht.pc
  rw [fnD_eq hx.fn] at hpc
  have h0 := hx.pc.1
  have hdl := h3.1
  rw [hdo]
  refine ⟨by omega, ?_⟩
  have hdep := ht.dep
  unfold depM at hdep
  rw [fnD_eq hx.fn, hd] at hdep
  simp only [Int.add_zero] at hdep
  have hlt : x.pc.toNat < d.length := by omega
  rw [List.getD, List.getElem?_eq_getElem hlt] at hdep
  rw [List.getElem?_eq_getElem hlt]
  simpa using hdep
section
variable {p : List Fnc} {fn : Fnc} (hr : Rt p) (hf : fnAt p 0 = some fn) (h0 : fn.params = 0)
include hr hf h0
theorem b4_9 {w0 : World} {n : Int} {g q : Nat} {P : Option Addr} {cap : Nat} {i : Nat} (hi : i ≤ 300) {L : Int → Addr → Int → Nat → Option Addr → Nat → Nat → World → Prop} {A : Option Addr} {cA : Nat} {w : World} {C : Option Addr} {c : Nat} {F T : Value} {ss : List Sl}
    (h : FitAt w0 w p P g (wakeM (playM p (newM 0) i)) C c F T ss)
    (hk : ∀ w1 F' T' ss', FitAt w0 w1 p P g (playM p (newM 0) (i + 1)) C c F' T' ss' → L n ⟨g, 0, none⟩ ((i + 1 : Nat) : Int) q P p.length cap w1) :
    V9.b4 w0.heap.size (IsV w0 (.bool true)) L n ⟨g, 0, none⟩ (i : Int) A (playM p (newM 0) i).frames.length cA (needM p (wakeM (playM p (newM 0) i))) q P p.length cap w := by
  unfold V9.b4
  obtain ⟨o0, l0⟩ := played_ok hr hf h0 i (by omega)
  obtain ⟨o1, l1⟩ := played_ok hr hf h0 (i + 1) (by omega)
  have lf := l1.frames
  have lf0 := l0.frames
  have hcode := step_code (p := p) (m := wakeM (playM p (newM 0) i)) rfl
  obtain ⟨hs1, hs2⟩ := step_call hr (wake_ok o0) rfl
  have hst : (stepM p (wakeM (playM p (newM 0) i))).1 = playM p (newM 0) (i + 1) := rfl
  have hwf : (wakeM (playM p (newM 0) i)).frames = (playM p (newM 0) i).frames := rfl
  rw [hst, hwf] at hs1 hs2
  refine call_step h.below.size hr h.mach (wake_ok o0) (wake_lim l0) (by omega) fun w1 F1 T1 ss1 h1 e1 hf1 => ⟨_, rfl, ?_⟩
  have hF1 := h.turn h1 e1 hf1
  rw [hst] at hF1
  have hsm : ∀ x ∈ (playM p (newM 0) (i + 1)).frames, SmallF x := fun x hx => smallF_of hr (o1.frames x hx)
  refine call_frames hF1.below.size hF1.mach hsm (by omega) fun A2 c2 w2 ss2 e2 ho2 hfs2 => ⟨_, _, _, rfl, ?_⟩
  have hF2 := hF1.ext e2
  have next := hk w2 F1 T1 ss1 hF2
  have hrow := frames_row ho2 hfs2 hsm (by omega)
  rw [wrap_id (n := (i : Int) + 1) (by omega) (by omega), wrap_id (n := (((playM p (newM 0) i).frames.length : Nat) : Int) + 1) (by omega) (by omega)]
  cases hc : callM p (wakeM (playM p (newM 0) i)) with
  | none =>
    have hN := need_none hc
    have hle := hs2 hc
    rw [hN]
    by_cases he : (wakeM (playM p (newM 0) i)).ended = true
    · rw [hcode, if_pos he, if_neg (by simp), if_neg (by simp)]
      exact next
    · rw [hcode, if_neg he, if_pos (by simp), if_pos (by
        have : (((playM p (newM 0) (i + 1)).frames.length : Int) == ((playM p (newM 0) i).frames.length : Int) + 1) = false := by simp; omega
        rw [this]; simp), if_neg (by simp)]
      exact next
  | some f =>
    obtain ⟨he, x, r, hfr, hxf, hrl⟩ := hs1 f hc
    have hN := need_some hc
    obtain ⟨gf, hgf⟩ := call_in hr (wake_ok o0) hc
    have hpos := sizeF_pos gf
    rw [fnD_eq hgf] at hN
    have hlen : (playM p (newM 0) (i + 1)).frames.length = (playM p (newM 0) i).frames.length + 1 := by rw [hfr, List.length_cons, hrl]
    have hcd : (stepM p (wakeM (playM p (newM 0) i))).2 = 0 := by rw [hcode, if_neg (by simp [he])]
    rw [hcd, if_pos (by simp), hN]
    rw [if_pos (by
      have e1 : (((playM p (newM 0) (i + 1)).frames.length : Int) == ((playM p (newM 0) i).frames.length : Int) + 1) = true := by rw [hlen]; simp
      have e2 : decide (sizeF' gf > 0) = true := by simpa using hpos
      rw [e1, e2]; rfl), if_pos (by simpa using hpos), if_pos (beq_eq_false_iff_ne.2 (by rw [hlen]; omega))]
    have hrev : (playM p (newM 0) (i + 1)).frames.reverse[(playM p (newM 0) i).frames.length]? = some x := by
      rw [List.getElem?_reverse (by omega), hlen, hfr]
      simp
    obtain ⟨a, ha, s, d0, _⟩ := hrow.get _ x hrev
    have hix : IntKind.wrap .i64 ((((playM p (newM 0) (i + 1)).frames.length : Nat) : Int) - 1) = (((playM p (newM 0) i).frames.length : Nat) : Int) := by rw [hlen, wrap_id (by omega) (by omega)]; omega
    rw [hix]
    obtain ⟨hgm, hg0, hgp, hgl⟩ := fnAt_mem hgf
    obtain ⟨f', Q, C', c', hf', hQ, c0, c1, c2, c3, hcd'⟩ := prog_at hF2.prog.prog (i := f.toNat) (by omega)
    rw [hgp] at hf'; cases hf'
    rw [hxf] at d0
    refine ⟨a, ha, by omega, by omega, f, by rw [Int.toNat_natCast]; exact d0, Q, hQ, hg0, hgl, _, c0, _, c1, _, c2, C', _, c', c3, ?_⟩
    refine call_givesX hF2.below.size (fun w3 e3 => gives31 (RowAt.keep InsE.kept hcd' (ext_keeps e3)) _ _ _) fun w3 e3 => ⟨_, rfl, ?_⟩
    rw [if_neg (by unfold sizeF'; simp)]
    exact hk w3 F1 T1 ss1 (hF2.ext e3)
theorem b3_9 {w0 : World} {n : Int} {g q : Nat} {P : Option Addr} {cap : Nat} {i : Nat} (hi : i ≤ 300) {L : Int → Addr → Int → Nat → Option Addr → Nat → Nat → World → Prop} {A : Option Addr} {cA : Nat} {w : World} {C : Option Addr} {c : Nat} {F T : Value} {ss : List Sl}
    (h : FitAt w0 w p P g (playM p (newM 0) i) C c F T ss)
    (hk : ∀ w1 F' T' ss', FitAt w0 w1 p P g (playM p (newM 0) (i + 1)) C c F' T' ss' → L n ⟨g, 0, none⟩ ((i + 1 : Nat) : Int) q P p.length cap w1) :
    V9.b3 w0.heap.size (IsV w0 (.bool true)) L n ⟨g, 0, none⟩ (i : Int) A (playM p (newM 0) i).frames.length cA q P p.length cap w := by
  unfold V9.b3
  obtain ⟨o0, l0⟩ := played_ok hr hf h0 i (by omega)
  have lf0 := l0.frames
  refine call_givesX h.below.size (fun w1 e1 => gives24 hr (h.mach.ext e1) o0 (by omega) fun f hc => call_in hr o0 hc) fun w1 e1 => ⟨_, rfl, ?_⟩
  have h1 := h.ext e1
  refine call_wake h1.below.size h1.mach fun w2 F2 T2 ss2 h2 e2 hf2 => ⟨rfl, ?_⟩
  have hF2 := h1.turn h2 e2 hf2
  by_cases hz : needM p (playM p (newM 0) i) = 0
  · rw [if_pos (by simpa using hz)]
    refine call_givesX hF2.below.size (fun w3 e3 => gives24 hr (hF2.mach.ext e3) (wake_ok o0) (by show (playM p (newM 0) i).frames.length ≤ _; omega) fun f hc => call_in hr (wake_ok o0) hc) fun w3 e3 => ⟨_, rfl, ?_⟩
    exact b4_9 hr hf h0 hi (hF2.ext e3) hk
  · rw [if_neg (by simpa using hz)]
    have hpk : (playM p (newM 0) i).parked = false := by
      cases hpk : (playM p (newM 0) i).parked with
      | false => rfl
      | true => exact absurd (need_wait (.inl hpk)) hz
    have e : needM p (playM p (newM 0) i) = needM p (wakeM (playM p (newM 0) i)) := by rw [wake_same hpk]
    rw [e]
    exact b4_9 hr hf h0 hi hF2 hk
theorem l2_9 {w0 : World} {n : Int} {g q : Nat} {P : Option Addr} {cap : Nat} {i : Nat} (hi : i ≤ 300) {L : Int → Addr → Int → Nat → Option Addr → Nat → Nat → World → Prop} {A : Option Addr} {cA : Nat} {C : Option Addr} {c : Nat} {F T : Value} {ss : List Sl}
    (hk : ∀ w1 F' T' ss', FitAt w0 w1 p P g (playM p (newM 0) (i + 1)) C c F' T' ss' → L n ⟨g, 0, none⟩ ((i + 1 : Nat) : Int) q P p.length cap w1) :
    ∀ (k j : Nat) (w : World), (playM p (newM 0) i).frames.length < j + k → j ≤ (playM p (newM 0) i).frames.length → FitAt w0 w p P g (playM p (newM 0) i) C c F T ss → RowAt FrE 8 w A (playM p (newM 0) i).frames.length (playM p (newM 0) i).frames.reverse →
    V9.l2 w0.heap.size (IsV w0 (.bool true)) L k n ⟨g, 0, none⟩ (i : Int) A (playM p (newM 0) i).frames.length cA (j : Int) q P p.length cap w
  | 0, j, w, hk', hj, _, _ => by omega
  | k + 1, j, w, hk', hj, h, hrow => by
    dsimp -zeta only [V9.l2]
    obtain ⟨o0, l0⟩ := played_ok hr hf h0 i (by omega)
    have lf0 := l0.frames
    by_cases hlt : j < (playM p (newM 0) i).frames.length
    · rw [if_pos (by simp; omega)]
      obtain ⟨x, a, hx, ha, s, d0, d1, d2, d3, d4, d5, d6, d7, hfa⟩ := hrow.at hlt
      have hmem : x ∈ (playM p (newM 0) i).frames := List.mem_reverse.1 (List.mem_of_getElem? hx)
      refine ⟨a, ha, by omega, by omega, x.f, by rw [Int.toNat_natCast]; exact d0, x.pc, by rw [Int.toNat_natCast]; exact d1, x.mode, by rw [Int.toNat_natCast]; exact d2, x.dfd, by rw [Int.toNat_natCast]; exact d3, x.value, by rw [Int.toNat_natCast]; exact d4, s.D, _, s.dc, by rw [Int.toNat_natCast]; exact d5, s.L, _, s.lc, by rw [Int.toNat_natCast]; exact d6, s.O, _, s.oc, by rw [Int.toNat_natCast]; exact d7, ?_⟩
      refine call_givesX h.below.size (fun w1 e1 => gives29 (RowAt.keep FncE.kept h.prog.prog (ext_keeps e1)) hr.sized (x := x) (s := s) (hfa.keep (ext_keeps e1))) fun w1 e1 => ⟨_, rfl, ?_⟩
      rw [(o0.frames x hmem).may, if_neg (by simp), wrap_id (n := (j : Int) + 1) (by omega) (by omega)]
      exact l2_9 hi hk k (j + 1) w1 (by omega) (by omega) (h.ext e1) (RowAt.keep FrE.kept hrow (ext_keeps e1))
    · have : j = (playM p (newM 0) i).frames.length := by omega
      subst this
      rw [if_neg (by simp)]
      by_cases h40 : 40 < (playM p (newM 0) i).frames.length
      · rw [if_pos (by simp; omega)]
        exact call_gives h.below (fun _ _ _ => gives16) fun w1 _ h1 => ⟨_, rfl, ret_is h1 rfl⟩
      · rw [if_neg (by simp; omega)]
        cases hm : (playM p (newM 0) i).frames with
        | nil =>
          rw [if_neg (by simp)]
          have := b3_9 (n := n) (q := q) (cap := cap) (A := A) (cA := cA) hr hf h0 hi h hk
          rw [hm] at this
          exact this
        | cons x r =>
          have hlen : (playM p (newM 0) i).frames.length = r.length + 1 := by rw [hm]; rfl
          rw [hlen] at lf0
          rw [if_pos (by simp)]
          have hb3 : ∀ w1, Ext w0.heap.size w w1 → V9.b3 w0.heap.size (IsV w0 (.bool true)) L n ⟨g, 0, none⟩ (i : Int) A (x :: r).length cA q P p.length cap w1 := fun w1 e1 => by
            have := b3_9 (n := n) (q := q) (cap := cap) (A := A) (cA := cA) hr hf h0 hi (h.ext e1) hk
            rw [hm] at this
            exact this
          have hrev : (playM p (newM 0) i).frames.reverse[r.length]? = some x := by
            rw [List.getElem?_reverse (by omega), hlen, hm]
            simp
          obtain ⟨a, ha, s, d0, d1, d2, d3, d4, d5, d6, d7, hfa⟩ := hrow.get _ x hrev
          have hix : IntKind.wrap .i64 ((((x :: r).length : Nat) : Int) - 1) = ((r.length : Nat) : Int) := by rw [List.length_cons]; exact top_ix (by omega)
          rw [hix]
          simp only [Int.toNat_natCast]
          refine ⟨a, ha, by omega, by simp only [List.length_cons]; omega, x.f, d0, x.pc, d1, x.mode, d2, x.dfd, d3, x.value, d4, s.D, _, s.dc, d5, s.L, _, s.lc, d6, s.O, _, s.oc, d7, fun q1 _ => ?_⟩
          have hxo := o0.frames x (by rw [hm]; exact List.mem_cons_self)
          obtain ⟨gx, hx⟩ := hxo.inn
          refine call_yieldsX (Q := fun w1 => FreshNums (depthsOf p x.f) w1) h.below.size (fun w1 e1 => yields30 (RowAt.keep FncE.kept h.prog.prog (ext_keeps e1)) x.f) fun w1 v w2 w' hs hQ hnew he => ?_
          obtain ⟨A5, l5, c5, rfl, hn5, hb5⟩ := hQ
          refine ⟨A5, l5, c5, rfl, ?_⟩
          by_cases hm0 : x.mode = 0
          · rw [if_pos (by simpa using hm0)]
            obtain ⟨hd1, hd2⟩ := depths_at hr hx (o0.top x r hm hm0)
            have hpc0 := hx.pc.1
            have hl5 := hn5.len
            rw [if_pos (by simp; omega)]
            obtain ⟨q5, hq5, hc5⟩ := hn5.get _ _ hd2
            have hc5 : w2.cell? (q5.add x.pc.toNat) = some (.int .i64 (x.ops.length : Int)) := by unfold NumE at hc5; rwa [Nat.mul_one] at hc5
            refine ⟨q5, hq5, hpc0, by omega, _, (cell_same (hnew _ (by rw [add_block]; exact hb5 q5 hq5))).trans hc5, ?_⟩
            rw [if_neg (by simp)]
            exact hb3 w' he
          · rw [if_neg (by simpa using hm0)]
            exact hb3 w' he
theorem l1_9 {w0 : World} {n : Nat} (hn : n ≤ 300) {g q : Nat} {P : Option Addr} {cap : Nat} {C : Option Addr} {c : Nat} : ∀ (k i : Nat) (w : World) (F T : Value) (ss : List Sl), n < i + k → i ≤ n → FitAt w0 w p P g (playM p (newM 0) i) C c F T ss →
    V9.l1 w0.heap.size (IsV w0 (.bool true)) k (n : Int) ⟨g, 0, none⟩ (i : Int) q P p.length cap w
  | 0, i, w, F, T, ss, hk, hi, _ => by omega
  | k + 1, i, w, F, T, ss, hk, hi, h => by
    dsimp -zeta only [V9.l1]
    obtain ⟨o0, l0⟩ := played_ok hr hf h0 i (by omega)
    have lf0 := l0.frames
    rw [wrap_id (n := (n : Int)) (by omega) (by omega)]
    by_cases hlt : i < n
    · rw [if_pos (by simp; omega)]
      have hsm : ∀ x ∈ (playM p (newM 0) i).frames, SmallF x := fun x hx => smallF_of hr (o0.frames x hx)
      refine call_frames h.below.size h.mach hsm (by omega) fun A2 c2 w2 ss2 e2 ho2 hfs2 => ⟨_, _, _, rfl, (playM p (newM 0) i).frames.length + 1, ?_⟩
      exact l2_9 hr hf h0 (by omega) (fun w1 F' T' ss' h1 => l1_9 hn k (i + 1) w1 F' T' ss' (by omega) (by omega) h1) _ 0 w2 (by omega) (by omega) (h.ext e2) (frames_row ho2 hfs2 hsm (by omega))
    · rw [if_neg (by simp; omega)]
      exact call_gives h.below (fun _ _ _ => gives16) fun w1 _ h1 => ⟨_, rfl, ret_is h1 rfl⟩
end
theorem gives9 {w : World} {A : Option Addr} {l c : Nat} {ns : List Int} (hns : BytesAt w A l c ns) {n : Int} (hn : 0 ≤ n ∧ n < 256) : Gives Try.prog 9 [.slice A l c, .int .u8 n] w (.bool true) := by
  refine gives_of (V9.sound ?_)
  unfold V9.vc
  refine call_made (Below.refl _ _) hns fun p P cap w1 hmade hp hcap hq e1 hw1 => ⟨_, _, _, rfl, fun o _ => ?_⟩
  obtain ⟨fn, hfn, hf0⟩ := made_first hmade
  have hr := made_rt hmade
  refine call_newO hw1.size hp hr hfn hf0 fun g C c1 w2 h2 e2 => ⟨_, rfl, ?_⟩
  have hw2 := e2.after hw1
  simp only [caseP]
  unfold V9.b0
  rw [show n = ((n.toNat : Nat) : Int) by omega]
  refine ⟨n.toNat + 1, l1_9 hr hfn hf0 (by omega) (n.toNat + 1) 0 w2 _ _ _ (by omega) (by omega) ⟨h2.mach, ?_, hw2⟩⟩
  have hP : POff (fun k => w1.heap.size ≤ k) w1 P p := POff.new hp fun k hk => hk
  exact hP.keep (keepsOff_ext e2) fun k hk => .inl (h2.foot k hk)
end Go.Proofs.Ytidcpndlloppdaa
