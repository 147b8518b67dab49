import Derived.Test.YtidcpndlloppdaaZM21
import Derived.Test.YtidcpndlloppdaaZMB
/-
  Layer 21: the machine in memory: what each kind of change makes of it; calls that turn it.
  Conditions: none.
-/
set_option linter.unusedVariables false
set_option linter.unusedSimpArgs false
set_option maxRecDepth 20000
namespace Go.Proofs.Ytidcpndlloppdaa
open Go.RowKit
section
variable {w w' : World} {B g : Nat} {C : Option Addr} {c : Nat} {p : List Fnc} {m : Mach} {F T : Value} {ss : List Sl} {fs : List Frm} {tr : List Mk}
theorem Chg1.refl (t : TypeId) (w : World) : Chg1 none t w w := ⟨fun _ _ _ _ _ h => h, fun k h => by cases h⟩
theorem Pcs.chgT {b : Option Nat} {t : TypeId} (h : Pcs w B F T fs tr ss) (hc : Chg1 b t w w') (h1 : 66 ≠ t) (h2 : 31 ≠ t) (h3 : t ≠ 28) (h4 : t ≠ 85) : Pcs w' B F T fs tr ss :=
  ⟨hc.ownT h.frames h1, hc.ownT h.trace h2, h.each.chgT hc h3 h4, h.apart⟩
theorem mach_set {H : List Value} {i : Nat} {v : Value} (hg : w.heap[g]? = some (.cells ⟨H⟩ 76 (0, 0))) (hH : H.set i v = headC (.slice C p.length c) F T m) (hp : Pcs w B F T m.frames m.trace ss) (hb : B ≤ g) (hP : POff (Foot g F T ss) w C p) : MachAt (w.setCell ⟨g, i, none⟩ v) B g C c p m F T ss :=
  ⟨hb, by rw [← hH]; exact at_set hg i v, hp.chgT (chg1_set hg) (by decide) (by decide) (by decide) (by decide), hP.keep (keepsOff_set (.inl rfl)) fun k hk => .inl hk⟩
theorem Pcs.trace' {tr' : List Mk} {T' : Value} (h : Pcs w B F T fs tr ss) (hc : Chg1 T.ownBlock 31 w w') (ht : w'.ownsRow B 31 2 T' tr'.length (mcs tr')) : Pcs w' B F T' fs tr' ss :=
  ⟨hc.ownT h.frames (by decide), ht, h.each.chgT hc (by decide) (by decide), h.apart⟩
theorem Pcs.len (h : Pcs w B F T fs tr ss) : ss.length = fs.length := h.each.len
theorem Pcs.push {x : Frm} {s : Sl} {F' : Value} (h : Pcs w B F T fs tr ss) (hc : Chg1 F.ownBlock 66 w w') (hf : w'.ownsRow B 66 8 F' (fs.length + 1) (stackC fs ss ++ frmC x s)) (hx : FrmM w B x s) (hap : ApSl s) (hne : ∀ k, InSl s k → ¬ InSls ss k) : Pcs w' B F' T (x :: fs) tr (s :: ss) :=
  ⟨hf, hc.ownT h.trace (by decide), ⟨hx.chgT hc (by decide) (by decide), h.each.chgT hc (by decide) (by decide)⟩, hap, hne, h.apart⟩
theorem Pcs.pop {x : Frm} {s : Sl} {A : Option Addr} {n cap : Nat} (h : Pcs w B (.slice A n cap) T (x :: fs) tr (s :: ss)) : Pcs w B (.slice A fs.length cap) T fs tr ss ∧ n = fs.length + 1 ∧ n ≤ cap := by
  have hl : ss.length = fs.length := by simpa using h.len
  have hn : n = fs.length + 1 := by
    obtain ⟨A', c', hv⟩ := owns_slice0 h.frames
    cases hv; rfl
  subst hn
  obtain ⟨h1, h2⟩ := owns_cut h.frames (k := fs.length) (by simp)
  rw [stackC_pop hl] at h1
  exact ⟨⟨h1, h.trace, h.each.2, h.apart.2.2⟩, rfl, by simpa using h2⟩
theorem Pcs.top {w1 : World} {b : Option Nat} {t : TypeId} {x x' : Frm} {s s' : Sl} {G n cap j : Nat} {v : Value} (h : Pcs w B (.slice (some ⟨G, 0, none⟩) n cap) T (x :: fs) tr (s :: ss)) (hc : Chg1 b t w w1) (hb : ∀ k, b = some k → InSl s k) (h1 : 66 ≠ t) (h2 : 31 ≠ t) (hx : FrmM w1 B x' s')
    (hnew : ∀ k, InSl s' k → InSl s k ∨ w.heap.size ≤ k) (hap : ApSl s') (hj : j < 8) (hset : (frmC x s).set j v = frmC x' s') : Pcs (w1.setCell ⟨G, fs.length * 8 + j, none⟩ v) B (.slice (some ⟨G, 0, none⟩) n cap) T (x' :: fs) tr (s' :: ss) := by
  have hl : ss.length = fs.length := by simpa using h.len
  have hf := hc.ownT h.frames h1
  have ht := hc.ownT h.trace h2
  have hr : FrmsM w1 B fs ss := h.each.2.chg hc fun k hk e => h.apart.2.1 k (hb k e) hk
  obtain ⟨_, cc, ff, hG⟩ := owns_ty hf (k := G) rfl
  have hc2 := chg1_set (i := fs.length * 8 + j) (v := v) hG
  have hfl : n = (x :: fs).length := by
    obtain ⟨A', c', hv⟩ := owns_slice0 hf
    cases hv; rfl
  subst hfl
  have hset' := owns_set hf (fs.length * 8 + j) v (by simp only [List.length_cons]; omega)
  rw [stackC_set hl hj hset] at hset'
  refine ⟨hset', hc2.ownT ht (by decide), ⟨hx.chgT hc2 (by decide) (by decide), hr.chgT hc2 (by decide) (by decide)⟩, hap, fun k hk hk' => ?_, h.apart.2.2⟩
  rcases hnew k hk with hk1 | hk1
  · exact h.apart.2.1 k hk1 hk'
  · obtain ⟨_, e, c, f, hcell, _⟩ := h.each.2.ty k hk'
    have := lt_of_some hcell
    omega
theorem Pcs.und {x u u' : Frm} {s su : Sl} {G n cap j : Nat} {v : Value} (h : Pcs w B (.slice (some ⟨G, 0, none⟩) n cap) T (x :: u :: fs) tr (s :: su :: ss)) (hx : FrmM w B u' su) (hj : j < 8) (hset : (frmC u su).set j v = frmC u' su) : Pcs (w.setCell ⟨G, fs.length * 8 + j, none⟩ v) B (.slice (some ⟨G, 0, none⟩) n cap) T (x :: u' :: fs) tr (s :: su :: ss) := by
  have hl : ss.length = fs.length := by simpa using h.len
  obtain ⟨_, cc, ff, hG⟩ := owns_ty h.frames (k := G) rfl
  have hc2 := chg1_set (i := fs.length * 8 + j) (v := v) hG
  have hfl : n = (x :: u :: fs).length := by
    obtain ⟨A', c', hv⟩ := owns_slice0 h.frames
    cases hv; rfl
  subst hfl
  have hset' := owns_set h.frames (fs.length * 8 + j) v (by simp only [List.length_cons]; omega)
  rw [stackC_setU hl hj hset] at hset'
  exact ⟨hset', hc2.ownT h.trace (by decide), ⟨h.each.1.chgT hc2 (by decide) (by decide), hx.chgT hc2 (by decide) (by decide), h.each.2.2.chgT hc2 (by decide) (by decide)⟩, h.apart⟩
def MachQ (w : World) (B g : Nat) (C : Option Addr) (c : Nat) (p : List Fnc) (F T : Value) (ss : List Sl) (m' : Mach) (w' : World) : Prop :=
  ∃ F' T' ss', MachAt w' B g C c p m' F' T' ss' ∧ ∀ k, Foot g F' T' ss' k → Foot g F T ss k ∨ w.heap.size ≤ k
def MachT (f : Nat) (args : List Value) (w : World) (B g : Nat) (C : Option Addr) (c : Nat) (p : List Fnc) (F T : Value) (ss : List Sl) (v : Value) (m' : Mach) : Prop :=
  Turns Try.prog f args w (Foot g F T ss) fun u w' => u = v ∧ MachQ w B g C c p F T ss m' w'
theorem call_mach {f : Nat} {args : List Value} {B0 : Nat} {bs : List Nat} {v : Value} {m' : Mach} {K : Value → World → Prop} (hB : B0 ≤ w.heap.size) (h : MachAt w B g C c p m F T ss)
    (hc : ∀ w1, Ext B0 w w1 → MachAt w1 B g C c p m F T ss → MachT f args w1 B g C c p F T ss v m')
    (hk : ∀ w' F' T' ss', MachAt w' B g C c p m' F' T' ss' → ExtS B0 (Foot g F T ss) w w' → (∀ k, Foot g F' T' ss' k → Foot g F T ss k ∨ w.heap.size ≤ k) → K v w') : CallK Try.prog f args B0 w bs K := by
  refine call_turnsS (Q := fun w1 u w' => u = v ∧ MachQ w1 B g C c p F T ss m' w') hB (fun k hk => (h.ty hk).2.2) (fun w1 e1 => hc w1 e1 (h.ext e1)) fun w1 u w2 w' hs hQ hsame he => ?_
  obtain ⟨rfl, F', T', ss', hm, hf⟩ := hQ
  have hs' : ∀ k, Foot g F' T' ss' k → w'.heap[k]? = w2.heap[k]? := fun k hk => hsame k (hf k hk)
  have hf' : ∀ k, Foot g F' T' ss' k → Foot g F T ss k ∨ w.heap.size ≤ k := fun k hk => (hf k hk).imp id fun h => Nat.le_trans hs h
  exact hk w' F' T' ss' ⟨hm.base, by rw [hs' g (.inl rfl)]; exact hm.head, hm.pcs.same fun k hk => hs' k (.inr hk), h.prog.keep (keepsOff_exts he) hf'⟩ he hf'
theorem mach_ret {w0 : World} {v : Value} {m' : Mach} {F0 T0 : Value} {ss0 : List Sl} (hc : Chg (Foot g F0 T0 ss0) w0 w) (h : MachAt w B g C c p m' F T ss) (hf : ∀ k, Foot g F T ss k → Foot g F0 T0 ss0 k ∨ w0.heap.size ≤ k) :
    Ret w0.heap.size w (IsT w0 (Foot g F0 T0 ss0) (fun u w' => u = v ∧ MachQ w0 B g C c p F0 T0 ss0 m' w') v) :=
  ret_t hc fun w1 e1 => ⟨rfl, F, T, ss, h.ext e1, hf⟩
def MachTQ (w : World) (B g : Nat) (C : Option Addr) (c : Nat) (p : List Fnc) (F T : Value) (ss : List Sl) (m' : Mach) (w' : World) : Prop :=
  ∃ T', MachAt w' B g C c p m' F T' ss ∧ ∀ k, Foot g F T' ss k → Foot g F T ss k ∨ w.heap.size ≤ k
theorem call_machT {f : Nat} {args : List Value} {B0 : Nat} {bs : List Nat} {v : Value} {m' : Mach} {K : Value → World → Prop} (hB : B0 ≤ w.heap.size) (h : MachAt w B g C c p m F T ss)
    (hc : ∀ w1, Ext B0 w w1 → MachAt w1 B g C c p m F T ss → Turns Try.prog f args w1 (Foot g F T ss) fun u w' => u = v ∧ MachTQ w1 B g C c p F T ss m' w')
    (hk : ∀ w' T', MachAt w' B g C c p m' F T' ss → ExtS B0 (Foot g F T ss) w w' → (∀ k, Foot g F T' ss k → Foot g F T ss k ∨ w.heap.size ≤ k) → K v w') : CallK Try.prog f args B0 w bs K := by
  refine call_turnsS (Q := fun w1 u w' => u = v ∧ MachTQ w1 B g C c p F T ss m' w') hB (fun k hk => (h.ty hk).2.2) (fun w1 e1 => hc w1 e1 (h.ext e1)) fun w1 u w2 w' hs hQ hsame he => ?_
  obtain ⟨rfl, T', hm, hf⟩ := hQ
  have hs' : ∀ k, Foot g F T' ss k → w'.heap[k]? = w2.heap[k]? := fun k hk => hsame k (hf k hk)
  have hf' : ∀ k, Foot g F T' ss k → Foot g F T ss k ∨ w.heap.size ≤ k := fun k hk => (hf k hk).imp id fun h => Nat.le_trans hs h
  exact hk w' T' ⟨hm.base, by rw [hs' g (.inl rfl)]; exact hm.head, hm.pcs.same fun k hk => hs' k (.inr hk), h.prog.keep (keepsOff_exts he) hf'⟩ he hf'
theorem Pcs.own {A : Option Addr} {n cap : Nat} {x : Frm} (h : Pcs w B F T (x :: fs) tr ss) : ∃ G cap, F = .slice (some ⟨G, 0, none⟩) (fs.length + 1) cap ∧ B ≤ G := by
  obtain ⟨G, cap, h1, _, h2⟩ := owns_some h.frames (by simp)
  exact ⟨G, cap, by simpa using h1, h2⟩
end
section
variable {w : World} {B g : Nat} {C : Option Addr} {c : Nat} {p : List Fnc} {m : Mach} {F T : Value} {ss : List Sl}
theorem gives13 (h : MachAt w B g C c p m F T ss) : Gives Try.prog 13 [.pointer (some ⟨g, 0, none⟩)] w (.bool m.ended) := by
  refine gives_of (V13.sound ?_)
  unfold V13.vc
  rw [own_add]
  exact ⟨_, h.cell (i := 3) rfl, ret_is (Below.refl _ _) rfl⟩
theorem turns22 (h : MachAt w B g C c p m F T ss) : MachT 22 [.pointer (some ⟨g, 0, none⟩)] w B g C c p F T ss (.tuple ⟨[]⟩) (wakeM m) := by
  refine turns_of (V22.sound ?_)
  unfold V22.vc
  simp only [own_add, bx_add, Nat.add_zero]
  refine ⟨⟨_, h.cell (i := 4) rfl⟩, h.frozen 4, ?_⟩
  exact mach_ret (m' := wakeM m) ((Chg.refl _ _).setCell _ fun _ => .inl rfl) (mach_set (m := wakeM m) h.head rfl h.pcs h.base h.prog) fun k hk => .inl hk
def markM (m : Mach) (k : Int) (u : Nat) : Mach := { m with trace := m.trace ++ [⟨k, u⟩] }
theorem turns70 (h : MachAt w B g C c p m F T ss) (k : Int) (u : Nat) (hlen : m.trace.length ≤ 1000000000) : Turns Try.prog 70 [.pointer (some ⟨g, 0, none⟩), .int .i64 k, .int .u64 (u : Int)] w (Foot g F T ss) fun v w' => v = .tuple ⟨[]⟩ ∧ MachTQ w B g C c p F T ss (markM m k u) w' := by
  refine turns_of (V70.sound ?_)
  unfold V70.vc
  simp only [own_add, bx_add, Nat.add_zero]
  obtain ⟨A, cap, hT⟩ := owns_slice0 h.pcs.trace
  subst hT
  refine ⟨A, _, cap, h.cell (i := 7) rfl, ?_⟩
  intro w1 e1 _
  obtain ⟨e2, ho2⟩ := alloc1 (.cells ⟨[.int .i64 k, .int .u64 (u : Int)]⟩ 31) e1 (Nat.le_refl _)
  have hlt := lt_of_some ho2
  generalize w1.alloc (.cells ⟨[.int .i64 k, .int .u64 (u : Int)]⟩ 31) = w2 at *
  have h2 := h.ext e2
  have hBg : B ≤ w2.heap.size := Nat.le_trans h2.base (Nat.le_of_lt (h2.ty (.inl rfl)).2.1)
  have hb : Try.t31.bytes = 16 := by kernel_rfl
  refine append_own (bs := []) (t := 27) (e := 31) (i := Try.t31) (z := .agg ⟨[.int .i64 0, .int .u64 0]⟩) (size := 2) (bytes := 16) (by kernel_rfl) (by kernel_rfl) (by kernel_rfl) (by kernel_rfl) hb rfl (by omega) h2.pcs.trace (news := mcs [⟨k, u⟩]) rfl (fun j v hj => ?_) (fun v hv => ?_) (by simp only [maxLen]; omega) (by omega) e2.size hBg fun T' w3 he ho' hn => ?_
  · rw [own_add]; exact at_cell (L := mcs [⟨k, u⟩]) ho2 hj
  · simp only [mcs, List.mem_cons, List.not_mem_nil, or_false] at hv
    rcases hv with rfl | rfl <;> rfl
  rw [← mcs_app] at ho'
  obtain ⟨A', cap', hT'⟩ := owns_slice0 ho'
  subst hT'
  have hc1 := chg1_exts he h2.pcs.trace
  have hg3 : w3.heap[g]? = some (.cells ⟨headC (.slice C p.length c) F (.slice A m.trace.length cap) m⟩ 76 (0, 0)) := he.row _ _ _ _ (fun e => by
    obtain ⟨_, cc, f, hh⟩ := owns_ty h2.pcs.trace e
    rw [h2.head] at hh; cases hh) h2.head
  have hp3 := h2.pcs.trace' (tr' := m.trace ++ [⟨k, u⟩]) hc1 (by simpa using ho')
  have hf : ∀ j, Foot g F (.slice A' (m.trace.length + 1) cap') ss j → Foot g F (.slice A m.trace.length cap) ss j ∨ w.heap.size ≤ j := fun j hj => by
    rcases hj with hj | hj | hj | hj
    · exact .inl (.inl hj)
    · exact .inl (.inr (.inl hj))
    · rcases hn j hj with hj | hj
      · exact .inl (.inr (.inr (.inl hj)))
      · exact .inr (Nat.le_trans e2.size hj)
    · exact .inl (.inr (.inr (.inr hj)))
  have hf2 : ∀ j, Foot g F (.slice A' (m.trace.length + 1) cap') ss j → Foot g F (.slice A m.trace.length cap) ss j ∨ w2.heap.size ≤ j := fun j hj => by
    rcases hj with hj | hj | hj | hj
    · exact .inl (.inl hj)
    · exact .inl (.inr (.inl hj))
    · rcases hn j hj with hj | hj
      · exact .inl (.inr (.inr (.inl hj)))
      · exact .inr hj
    · exact .inl (.inr (.inr (.inr hj)))
  refine ⟨A', _, cap', rfl, ⟨_, at_cell (i := 7) hg3 rfl⟩, at_frozen hg3 7, ?_⟩
  have hP : POff (Foot g F (.slice A' (m.trace.length + 1) cap') ss) w3 C p := h2.prog.keep ((keepsOff_exts he).mono fun j hj => .inr (.inr (.inl hj))) hf2
  refine ret_t ((he.chg ((e2.toS (S := fun _ => False)).chg (Chg.refl _ _) (fun _ _ h => h.elim)) fun j _ hj => .inr (.inr (.inl hj))).setCell _ fun _ => .inl rfl) fun w4 e4 => ⟨rfl, _, (mach_set (m := markM m k u) hg3 rfl hp3 h.base hP).ext e4, hf⟩
end
end Go.Proofs.Ytidcpndlloppdaa
