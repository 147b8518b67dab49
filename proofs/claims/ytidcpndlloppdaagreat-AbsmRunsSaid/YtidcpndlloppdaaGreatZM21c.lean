import Derived.Test.YtidcpndlloppdaaGreatZM21
import Derived.Test.YtidcpndlloppdaaGreatZMB
/-
 Layer 21: the machine in memory: what each kind of change makes of it; calls that turn it.
 Conditions: none.
-/
set_option linter.unusedVariables false
set_option linter.unusedSimpArgs false
set_option maxRecDepth 20000
namespace Go.Proofs.YtidcpndlloppdaaGreat
open Go.RowKit
section
variable {w w' : World} {B g : Nat} {C : Option Addr} {c : Nat} {p : List Fnc} {m : Mach} {F T : Value} {ss : List Sl} {fs : List Frm} {tr : List Mk}
theorem Chg1.refl (t : TypeId) (w : World) : Chg1 none t w w := ⟨fun _ _ _ _ _ h => h,fun k h => by cases h⟩
theorem Pcs.chgT {b : Option Nat} {t : TypeId} (h : Pcs w B F T fs tr ss) (hc : Chg1 b t w w') (h1 : 99 ≠ t) (h2 : 57 ≠ t) (h3 : t ≠ 55) (h4 : t ≠ 149) : Pcs w' B F T fs tr ss :=
 ⟨hc.ownT h.frames h1,hc.ownT h.trace h2,h.each.chgT hc h3 h4,h.apart⟩
theorem mach_set {H : List Value} {i : Nat} {v : Value} (hg : w.heap[g]? = some (.cells ⟨H⟩ 130 (0,0))) (hH : H.set i v = headC (.slice C p.length c) F T m) (hp : Pcs w B F T m.frames m.trace ss) (hb : B ≤ g) (hP : POff (Foot g F T ss) w C p) : MachAt (w.setCell ⟨g,i,none⟩ v) B g C c p m F T ss :=
 ⟨hb,by rw [← hH]; exact at_set hg i v,hp.chgT (chg1_set hg) (by decide) (by decide) (by decide) (by decide),hP.keep (keepsOff_set (.inl rfl)) fun k hk => .inl hk⟩
theorem Pcs.trace' {tr' : List Mk} {T' : Value} (h : Pcs w B F T fs tr ss) (hc : Chg1 T.ownBlock 57 w w') (ht : w'.ownsRow B 57 2 T' tr'.length (mcs tr')) : Pcs w' B F T' fs tr' ss :=
 ⟨hc.ownT h.frames (by decide),ht,h.each.chgT hc (by decide) (by decide),h.apart⟩
theorem Pcs.len (h : Pcs w B F T fs tr ss) : ss.length = fs.length := h.each.len
theorem Pcs.push {x : Frm} {s : Sl} {F' : Value} (h : Pcs w B F T fs tr ss) (hc : Chg1 F.ownBlock 99 w w') (hf : w'.ownsRow B 99 8 F' (fs.length + 1) (stackC fs ss ++ frmC x s)) (hx : FrmM w B x s) (hap : ApSl s) (hne : ∀ k,InSl s k → ¬ InSls ss k) : Pcs w' B F' T (x :: fs) tr (s :: ss) :=
 ⟨hf,hc.ownT h.trace (by decide),⟨hx.chgT hc (by decide) (by decide),h.each.chgT hc (by decide) (by decide)⟩,hap,hne,h.apart⟩
theorem Pcs.pop {x : Frm} {s : Sl} {A : Option Addr} {n cap : Nat} (h : Pcs w B (.slice A n cap) T (x :: fs) tr (s :: ss)) : Pcs w B (.slice A fs.length cap) T fs tr ss ∧ n = fs.length + 1 ∧ n ≤ cap := by
 have hl : ss.length = fs.length := by simpa using h.len
 have hn : n = fs.length + 1 := by
   obtain ⟨A',c',hv⟩ := owns_slice0 h.frames
   cases hv; rfl
 subst hn
 obtain ⟨h1,h2⟩ := owns_cut h.frames (k := fs.length) (by simp)
 rw [stackC_pop hl] at h1
 exact ⟨⟨h1,h.trace,h.each.2,h.apart.2.2⟩,rfl,by simpa using h2⟩
theorem Pcs.top {w1 : World} {b : Option Nat} {t : TypeId} {x x' : Frm} {s s' : Sl} {G n cap j : Nat} {v : Value} (h : Pcs w B (.slice (some ⟨G,0,none⟩) n cap) T (x :: fs) tr (s :: ss)) (hc : Chg1 b t w w1) (hb : ∀ k,b = some k → InSl s k) (h1 : 99 ≠ t) (h2 : 57 ≠ t) (hx : FrmM w1 B x' s')
   (hnew : ∀ k,InSl s' k → InSl s k ∨ w.heap.size ≤ k) (hap : ApSl s') (hj : j < 8) (hset : (frmC x s).set j v = frmC x' s') : Pcs (w1.setCell ⟨G,fs.length * 8 + j,none⟩ v) B (.slice (some ⟨G,0,none⟩) n cap) T (x' :: fs) tr (s' :: ss) := by
 have hl : ss.length = fs.length := by simpa using h.len
 have hf := hc.ownT h.frames h1
 have ht := hc.ownT h.trace h2
 have hr : FrmsM w1 B fs ss := h.each.2.chg hc fun k hk e => h.apart.2.1 k (hb k e) hk
 obtain ⟨_,cc,ff,hG⟩ := owns_ty hf (k := G) rfl
 have hc2 := chg1_set (i := fs.length * 8 + j) (v := v) hG
 have hfl : n = (x :: fs).length := by
   obtain ⟨A',c',hv⟩ := owns_slice0 hf
   cases hv; rfl
 subst hfl
 have hset' := owns_set hf (fs.length * 8 + j) v (by simp only [List.length_cons]; omega)
 rw [stackC_set hl hj hset] at hset'
 refine ⟨hset',hc2.ownT ht (by decide),⟨hx.chgT hc2 (by decide) (by decide),hr.chgT hc2 (by decide) (by decide)⟩,hap,fun k hk hk' => ?_,h.apart.2.2⟩
 rcases hnew k hk with hk1 | hk1
 · exact h.apart.2.1 k hk1 hk'
 · obtain ⟨_,e,c,f,hcell,_⟩ := h.each.2.ty k hk'
   have := lt_of_some hcell
   omega
theorem Pcs.und {x u u' : Frm} {s su : Sl} {G n cap j : Nat} {v : Value} (h : Pcs w B (.slice (some ⟨G,0,none⟩) n cap) T (x :: u :: fs) tr (s :: su :: ss)) (hx : FrmM w B u' su) (hj : j < 8) (hset : (frmC u su).set j v = frmC u' su) : Pcs (w.setCell ⟨G,fs.length * 8 + j,none⟩ v) B (.slice (some ⟨G,0,none⟩) n cap) T (x :: u' :: fs) tr (s :: su :: ss) := by
 have hl : ss.length = fs.length := by simpa using h.len
 obtain ⟨_,cc,ff,hG⟩ := owns_ty h.frames (k := G) rfl
 have hc2 := chg1_set (i := fs.length * 8 + j) (v := v) hG
 have hfl : n = (x :: u :: fs).length := by
   obtain ⟨A',c',hv⟩ := owns_slice0 h.frames
   cases hv; rfl
 subst hfl
 have hset' := owns_set h.frames (fs.length * 8 + j) v (by simp only [List.length_cons]; omega)
 rw [stackC_setU hl hj hset] at hset'
 exact ⟨hset',hc2.ownT h.trace (by decide),⟨h.each.1.chgT hc2 (by decide) (by decide),hx.chgT hc2 (by decide) (by decide),h.each.2.2.chgT hc2 (by decide) (by decide)⟩,h.apart⟩
def MachQ (w : World) (B g : Nat) (C : Option Addr) (c : Nat) (p : List Fnc) (F T : Value) (ss : List Sl) (m' : Mach) (w' : World) : Prop :=
 ∃ F' T' ss',MachAt w' B g C c p m' F' T' ss' ∧ ∀ k,Foot g F' T' ss' k → Foot g F T ss k ∨ w.heap.size ≤ k
def MachT (f : Nat) (args : List Value) (w : World) (B g : Nat) (C : Option Addr) (c : Nat) (p : List Fnc) (F T : Value) (ss : List Sl) (v : Value) (m' : Mach) : Prop :=
 Turns Tryz.prog f args w (Foot g F T ss) fun u w' => u = v ∧ MachQ w B g C c p F T ss m' w'
theorem call_mach {f : Nat} {args : List Value} {B0 : Nat} {bs : List Nat} {v : Value} {m' : Mach} {K : Value → World → Prop} (hB : B0 ≤ w.heap.size) (h : MachAt w B g C c p m F T ss)
   (hc : ∀ w1,Ext B0 w w1 → MachAt w1 B g C c p m F T ss → MachT f args w1 B g C c p F T ss v m')
   (hk : ∀ w' F' T' ss',MachAt w' B g C c p m' F' T' ss' → ExtS B0 (Foot g F T ss) w w' → (∀ k,Foot g F' T' ss' k → Foot g F T ss k ∨ w.heap.size ≤ k) → K v w') : CallK Tryz.prog f args B0 w bs K := by
 refine call_turnsS (Q := fun w1 u w' => u = v ∧ MachQ w1 B g C c p F T ss m' w') hB (fun k hk => (h.ty hk).2.2) (fun w1 e1 => hc w1 e1 (h.ext e1)) fun w1 u w2 w' hs hQ hsame he => ?_
 obtain ⟨rfl,F',T',ss',hm,hf⟩ := hQ
 have hs' : ∀ k,Foot g F' T' ss' k → w'.heap[k]? = w2.heap[k]? := fun k hk => hsame k (hf k hk)
 have hf' : ∀ k,Foot g F' T' ss' k → Foot g F T ss k ∨ w.heap.size ≤ k := fun k hk => (hf k hk).imp id fun h => Nat.le_trans hs h
 exact hk w' F' T' ss' ⟨hm.base,by rw [hs' g (.inl rfl)]; exact hm.head,hm.pcs.same fun k hk => hs' k (.inr hk),h.prog.keep (keepsOff_exts he) hf'⟩ he hf'
theorem mach_ret {w0 : World} {v : Value} {m' : Mach} {F0 T0 : Value} {ss0 : List Sl} (hc : Chg (Foot g F0 T0 ss0) w0 w) (h : MachAt w B g C c p m' F T ss) (hf : ∀ k,Foot g F T ss k → Foot g F0 T0 ss0 k ∨ w0.heap.size ≤ k) :
   Ret w0.heap.size w (IsT w0 (Foot g F0 T0 ss0) (fun u w' => u = v ∧ MachQ w0 B g C c p F0 T0 ss0 m' w') v) :=
 ret_t hc fun w1 e1 => ⟨rfl,F,T,ss,h.ext e1,hf⟩
def MachTQ (w : World) (B g : Nat) (C : Option Addr) (c : Nat) (p : List Fnc) (F T : Value) (ss : List Sl) (m' : Mach) (w' : World) : Prop :=
 ∃ T',MachAt w' B g C c p m' F T' ss ∧ ∀ k,Foot g F T' ss k → Foot g F T ss k ∨ w.heap.size ≤ k
theorem call_machT {f : Nat} {args : List Value} {B0 : Nat} {bs : List Nat} {v : Value} {m' : Mach} {K : Value → World → Prop} (hB : B0 ≤ w.heap.size) (h : MachAt w B g C c p m F T ss)
   (hc : ∀ w1,Ext B0 w w1 → MachAt w1 B g C c p m F T ss → Turns Tryz.prog f args w1 (Foot g F T ss) fun u w' => u = v ∧ MachTQ w1 B g C c p F T ss m' w')
   (hk : ∀ w' T',MachAt w' B g C c p m' F T' ss → ExtS B0 (Foot g F T ss) w w' → (∀ k,Foot g F T' ss k → Foot g F T ss k ∨ w.heap.size ≤ k) → K v w') : CallK Tryz.prog f args B0 w bs K := by
 refine call_turnsS (Q := fun w1 u w' => u = v ∧ MachTQ w1 B g C c p F T ss m' w') hB (fun k hk => (h.ty hk).2.2) (fun w1 e1 => hc w1 e1 (h.ext e1)) fun w1 u w2 w' hs hQ hsame he => ?_
 obtain ⟨rfl,T',hm,hf⟩ := hQ
 have hs' : ∀ k,Foot g F T' ss k → w'.heap[k]? = w2.heap[k]? := fun k hk => hsame k (hf k hk)
 have hf' : ∀ k,Foot g F T' ss k → Foot g F T ss k ∨ w.heap.size ≤ k := fun k hk => (hf k hk).imp id fun h => Nat.le_trans hs h
 exact hk w' T' ⟨hm.base,by rw [hs' g (.inl rfl)]; exact hm.head,hm.pcs.same fun k hk => hs' k (.inr hk),h.prog.keep (keepsOff_exts he) hf'⟩ he hf'
theorem Pcs.own {A : Option Addr} {n cap : Nat} {x : Frm} (h : Pcs w B F T (x :: fs) tr ss) : ∃ G cap,F = .slice (some ⟨G,0,none⟩) (fs.length + 1) cap ∧ B ≤ G := by
 obtain ⟨G,cap,h1,_,h2⟩ := owns_some h.frames (by simp)
 exact ⟨G,cap,by simpa using h1,h2⟩
end
section
variable {w : World} {B g : Nat} {C : Option Addr} {c : Nat} {p : List Fnc} {m : Mach} {F T : Value} {ss : List Sl}
theorem gives40 (h : MachAt w B g C c p m F T ss) : Gives Tryz.prog 40 [.pointer (some ⟨g,0,none⟩)] w (.bool m.ended) := by
 refine gives_of (V40.sound ?_)
 unfold V40.vc
 rw [own_add]
 exact ⟨_,h.cell (i := 3) rfl,ret_is (Below.refl _ _) rfl⟩
theorem gives81 (h : MachAt w B g C c p m F T ss) : Gives Tryz.prog 81 [.pointer (some ⟨g,0,none⟩)] w (.bool m.parked) := by
 refine gives_of (V81.sound ?_)
 unfold V81.vc
 rw [own_add]
 exact ⟨_,h.cell (i := 4) rfl,ret_is (Below.refl _ _) rfl⟩
theorem turns46 (h : MachAt w B g C c p m F T ss) : MachT 46 [.pointer (some ⟨g,0,none⟩)] w B g C c p F T ss (.tuple ⟨[]⟩) (wakeM m) := by
 refine turns_of (V46.sound ?_)
 unfold V46.vc
 simp only [own_add,bx_add,Nat.add_zero]
 refine ⟨⟨_,h.cell (i := 4) rfl⟩,h.frozen 4, ?_⟩
 exact mach_ret (m' := wakeM m) ((Chg.refl _ _).setCell _ fun _ => .inl rfl) (mach_set (m := wakeM m) h.head rfl h.pcs h.base h.prog) fun k hk => .inl hk
def markM (m : Mach) (k : Int) (u : Nat) : Mach := { m with trace := m.trace ++ [⟨k,u⟩] }
theorem turns124 (h : MachAt w B g C c p m F T ss) (k : Int) (u : Nat) (hlen : m.trace.length ≤ 1000000000) : Turns Tryz.prog 124 [.pointer (some ⟨g,0,none⟩),.int .i64 k,.int .u64 (u : Int)] w (Foot g F T ss) fun v w' => v = .tuple ⟨[]⟩ ∧ MachTQ w B g C c p F T ss (markM m k u) w' := by
 refine turns_of (V124.sound ?_)
 unfold V124.vc
 simp only [own_add,bx_add,Nat.add_zero]
 obtain ⟨A,cap,hT⟩ := owns_slice0 h.pcs.trace
 subst hT
 refine ⟨A,_,cap,h.cell (i := 7) rfl, ?_⟩
 intro w1 e1 _
 obtain ⟨e2,ho2⟩ := alloc1 (.cells ⟨[.int .i64 k,.int .u64 (u : Int)]⟩ 57) e1 (Nat.le_refl _)
 have hlt := lt_of_some ho2
 generalize w1.alloc (.cells ⟨[.int .i64 k,.int .u64 (u : Int)]⟩ 57) = w2 at *
 have h2 := h.ext e2
 have hBg : B ≤ w2.heap.size := Nat.le_trans h2.base (Nat.le_of_lt (h2.ty (.inl rfl)).2.1)
 have hb : Tryz.t57.bytes = 16 := by kernel_rfl
 refine append_own (bs := []) (t := 45) (e := 57) (i := Tryz.t57) (z := .agg ⟨[.int .i64 0,.int .u64 0]⟩) (size := 2) (bytes := 16) (by kernel_rfl) (by kernel_rfl) (by kernel_rfl) (by kernel_rfl) hb rfl (by omega) h2.pcs.trace (news := mcs [⟨k,u⟩]) rfl (fun j v hj => ?_) (fun v hv => ?_) (by simp only [maxLen]; omega) (by omega) e2.size hBg fun T' w3 he ho' hn => ?_
 · rw [own_add]; exact at_cell (L := mcs [⟨k,u⟩]) ho2 hj
 · simp only [mcs,List.mem_cons,List.not_mem_nil,or_false] at hv
   rcases hv with rfl | rfl <;> rfl
 rw [← mcs_app] at ho'
 obtain ⟨A',cap',hT'⟩ := owns_slice0 ho'
 subst hT'
 have hc1 := chg1_exts he h2.pcs.trace
 have hg3 : w3.heap[g]? = some (.cells ⟨headC (.slice C p.length c) F (.slice A m.trace.length cap) m⟩ 130 (0,0)) := he.row _ _ _ _ (fun e => by
   obtain ⟨_,cc,f,hh⟩ := owns_ty h2.pcs.trace e
   rw [h2.head] at hh; cases hh) h2.head
 have hp3 := h2.pcs.trace' (tr' := m.trace ++ [⟨k,u⟩]) hc1 (by simpa using ho')
 have hf : ∀ j,Foot g F (.slice A' (m.trace.length + 1) cap') ss j → Foot g F (.slice A m.trace.length cap) ss j ∨ w.heap.size ≤ j := fun j hj => by
   rcases hj with hj | hj | hj | hj
   · exact .inl (.inl hj)
   · exact .inl (.inr (.inl hj))
   · rcases hn j hj with hj | hj
     · exact .inl (.inr (.inr (.inl hj)))
     · exact .inr (Nat.le_trans e2.size hj)
   · exact .inl (.inr (.inr (.inr hj)))
 have hf2 : ∀ j,Foot g F (.slice A' (m.trace.length + 1) cap') ss j → Foot g F (.slice A m.trace.length cap) ss j ∨ w2.heap.size ≤ j := fun j hj => by
   rcases hj with hj | hj | hj | hj
   · exact .inl (.inl hj)
   · exact .inl (.inr (.inl hj))
   · rcases hn j hj with hj | hj
     · exact .inl (.inr (.inr (.inl hj)))
     · exact .inr hj
   · exact .inl (.inr (.inr (.inr hj)))
 refine ⟨A',_,cap',rfl,⟨_,at_cell (i := 7) hg3 rfl⟩,at_frozen hg3 7, ?_⟩
 have hP : POff (Foot g F (.slice A' (m.trace.length + 1) cap') ss) w3 C p := h2.prog.keep ((keepsOff_exts he).mono fun j hj => .inr (.inr (.inl hj))) hf2
 refine ret_t ((he.chg ((e2.toS (S := fun _ => False)).chg (Chg.refl _ _) (fun _ _ h => h.elim)) fun j _ hj => .inr (.inr (.inl hj))).setCell _ fun _ => .inl rfl) fun w4 e4 => ⟨rfl,_,(mach_set (m := markM m k u) hg3 rfl hp3 h.base hP).ext e4,hf⟩
end
end Go.Proofs.YtidcpndlloppdaaGreat

/-
 Layer 21: what is read of a machine in memory: its top frame,its next instruction,the frame that its next act makes.
 Conditions: the machine lies in memory as told.
-/
set_option linter.unusedVariables false
set_option linter.unusedSimpArgs false
set_option maxRecDepth 20000
namespace Go.Proofs.YtidcpndlloppdaaGreat
open Go.RowKit
section
variable {w w' : World} {B g : Nat} {C : Option Addr} {c : Nat} {p : List Fnc} {m : Mach} {F T : Value} {ss : List Sl}
structure SlIs (s : Sl) (x : Frm) (D L O : Option Addr) (dc lc oc : Nat) : Prop where
 D : s.D = .slice D x.dfs.length dc
 L : s.L = .slice L x.locals.length lc
 O : s.O = .slice O x.ops.length oc
theorem FrmM.sl {x : Frm} {s : Sl} (h : FrmM w B x s) : ∃ D L O dc lc oc,SlIs s x D L O dc lc oc := by
 obtain ⟨D,dc,h1⟩ := owns_slice0 h.D
 obtain ⟨L,lc,h2⟩ := owns_slice0 h.L
 obtain ⟨O,oc,h3⟩ := owns_slice0 h.O
 exact ⟨D,L,O,dc,lc,oc,h1,h2,h3⟩
theorem MachAt.open (h : MachAt w B g C c p m F T ss) {x : Frm} {r : List Frm} (hm : m.frames = x :: r) : ∃ G cap s t,F = .slice (some ⟨G,0,none⟩) (r.length + 1) cap ∧ ss = s :: t ∧ t.length = r.length ∧ B ≤ G ∧
   (∀ j v,(frmC x s)[j]? = some v → w.cell? ⟨G,r.length * 8 + j,none⟩ = some v) ∧ (∀ i,w.frozen? ⟨G,i,none⟩ = false) ∧ Pcs w B (.slice (some ⟨G,0,none⟩) (r.length + 1) cap) T (x :: r) m.trace (s :: t) := by
 have hp := h.pcs
 rw [hm] at hp
 obtain ⟨G,cap,hF,hB⟩ := hp.own (A := none) (n := 0) (cap := 0)
 have hl := hp.len
 cases ss with
 | nil => simp at hl
 | cons s t =>
   have hl' : t.length = r.length := by simpa using hl
   subst hF
   exact ⟨G,cap,s,t,rfl,rfl,hl',hB,fun j v hv => owns_cell hp.frames (stackC_top hl' hv),fun i => owns_frozen hp.frames i,hp⟩
theorem top_ix {n : Nat} (h : n ≤ 1000000000) : IntKind.wrap .i64 (((n + 1 : Nat) : Int) - 1) = (n : Int) := by rw [wrap_id (by omega) (by omega)]; omega
theorem gives119 (h : MachAt w B g C c p m F T ss) {x : Frm} {r : List Frm} (hm : m.frames = x :: r) (hr : r.length ≤ 1000000000) {f : Fnc} (hx : FrIn p x f) (hpc : x.pc < (f.code.length : Int)) :
   Gives Tryz.prog 119 [.pointer (some ⟨g,0,none⟩)] w (.agg ⟨[.int .i64 (insAt f x.pc).op,.int .i64 (insAt f x.pc).a,.int .i64 (insAt f x.pc).b]⟩) := by
 obtain ⟨G,cap,s,t,rfl,rfl,hl,hB,cell,fr,hp⟩ := h.open hm
 obtain ⟨D,L,O,dc,lc,oc,hs⟩ := hp.each.1.sl
 have hF := h.cell (i := 6) rfl
 refine gives_of (V119.sound ?_)
 intro q1 _
 simp only [own_add]
 refine ⟨_,_,_,hF,_,_,_,hF,_,rfl, ?_⟩
 rw [top_ix hr]
 simp only [Int.toNat_natCast,own_add,bx_add,Nat.add_zero,Nat.zero_add]
 obtain ⟨hf,h0,hpf,hfl⟩ := fnAt_mem hx.fn
 have d0 := cell 0 _ rfl
 have d1 := cell 1 _ rfl
 have d2 := cell 2 _ rfl
 have d3 := cell 3 _ rfl
 have d4 := cell 4 _ rfl
 have d5 : w.cell? ⟨G,r.length * 8 + 5,none⟩ = some (.slice D x.dfs.length dc) := cell 5 _ (by show some s.D = _; rw [hs.D])
 have d6 : w.cell? ⟨G,r.length * 8 + 6,none⟩ = some (.slice L x.locals.length lc) := cell 6 _ (by show some s.L = _; rw [hs.L])
 have d7 : w.cell? ⟨G,r.length * 8 + 7,none⟩ = some (.slice O x.ops.length oc) := cell 7 _ (by show some s.O = _; rw [hs.O])
 refine ⟨by omega,by omega,x.f,d0,x.pc,d1,x.mode,d2,x.dfd,d3,x.value,d4,D,_,dc,d5,L,_,lc,d6,O,_,oc,d7,fun q2 _ => ⟨d0,d1,d2,d3,d4,d5,d6,d7,hF,hF, ?_⟩⟩
 obtain ⟨f',q,C',c',hf',hq,c0,c1,c2,c3,hcode⟩ := prog_at h.prog.prog (i := x.f.toNat) (by omega)
 rw [hpf] at hf'; cases hf'
 subst hq
 have hpc0 := hx.pc.1
 obtain ⟨y,a,hy,ha,i0,i1,i2⟩ := RowAt.at hcode (i := x.pc.toNat) (by omega)
 have hyi : insAt f x.pc = y := by unfold insAt; rw [hy]; rfl
 rw [hyi]
 refine ⟨_,_,_,h.cell (i := 0) rfl,q,rfl,by omega,by omega,C',_,c',c3,a,ha,by omega,by omega,y.op,i0,y.a,i1,y.b,i2,ret_is (Below.refl _ _) rfl⟩
def callV (p : List Fnc) (m : Mach) : Value := match callM p m with
 | some f => .tuple ⟨[.int .i64 f,.bool true]⟩
 | none => .tuple ⟨[.int .i64 (if m.begun = true ∧ m.ended = false ∧ m.parked = false then (match m.frames with
   | x :: _ => if x.mode = 0 then (insAt (fnD p x.f) x.pc).a else 0
   | [] => 0) else 0),.bool false]⟩
theorem dfrsC_get : ∀ {ds : List Dfr} {vs : List Value} {i : Nat} {d : Dfr} {a : Value},ds[i]? = some d → vs[i]? = some a → (dfrsC ds vs)[i * 2]? = some (.int .i64 d.f) ∧ (dfrsC ds vs)[i * 2 + 1]? = some a
 | [],vs,i,d,a,h,_ => by simp at h
 | y :: r,[],i,d,a,_,h => by simp at h
 | y :: r,b :: u,0,d,a,h,h2 => by simp at h h2; subst h; subst h2; exact ⟨rfl,rfl⟩
 | y :: r,b :: u,i + 1,d,a,h,h2 => by
   obtain ⟨h3,h4⟩ := dfrsC_get (ds := r) (vs := u) (i := i) (by simpa using h) (by simpa using h2)
   have e : dfrsC (y :: r) (b :: u) = .int .i64 y.f :: b :: dfrsC r u := rfl
   rw [e,show (i + 1) * 2 = i * 2 + 2 by omega,show i * 2 + 2 + 1 = i * 2 + 1 + 2 by omega]
   exact ⟨h3,h4⟩
theorem getLast_ix {α : Type} {l : List α} {d : α} (h : l.getLast? = some d) : l[l.length - 1]? = some d ∧ 0 < l.length := by
 rw [List.getLast?_eq_getElem?] at h
 exact ⟨h,by have := (List.getElem?_eq_some_iff.1 h).1; omega⟩
theorem gives127 (hr : Rt p) (h : MachAt w B g C c p m F T ss) (ho : MOk p m) (hlen : m.frames.length ≤ 1000000000) : Gives Tryz.prog 127 [.pointer (some ⟨g,0,none⟩)] w (callV p m) := by
 refine gives_of (V127.sound ?_)
 unfold V127.vc
 simp only [own_add]
 refine ⟨_,h.cell (i := 3) rfl, ?_⟩
 have no : ∀ {b : Bool},b = true → (m.ended = true ∨ m.parked = true) → V127.b0 w.heap.size (IsV w (callV p m)) ⟨g,0,none⟩ b w := fun {b} hb he => by
   unfold V127.b0
   rw [if_pos hb]
   refine ret_is (Below.refl _ _) ?_
   unfold callV callM
   rw [if_pos he]
   simp only
   rw [if_neg (by rintro ⟨_,a,b⟩; rcases he with he | he <;> simp_all)]
 cases he : m.ended with
 | true => rw [if_neg (by simp)]; exact no rfl (.inl he)
 | false =>
   rw [if_pos rfl]
   refine ⟨_,h.cell (i := 4) rfl, ?_⟩
   cases hpk : m.parked with
   | true => exact no rfl (.inr hpk)
   | false =>
     unfold V127.b0
     simp only [own_add]
     rw [if_neg (by simp)]
     refine ⟨_,h.cell (i := 2) rfl, ?_⟩
     cases hbg : m.begun with
     | false =>
       rw [if_pos (show (!false) = true from rfl)]
       refine ⟨_,h.cell (i := 1) rfl,ret_is (Below.refl _ _) ?_⟩
       unfold callV callM
       rw [if_neg (by rw [he,hpk]; simp),if_pos hbg]
     | true =>
       rw [if_neg (by simp)]
       obtain ⟨x,r,hm⟩ : ∃ x r,m.frames = x :: r := by
         cases hm : m.frames with
         | nil => have := (ho.gone hbg).2 hm; rw [he] at this; cases this
         | cons x r => exact ⟨x,r,rfl⟩
       have hrl : r.length ≤ 1000000000 := by rw [hm] at hlen; simp at hlen; omega
       obtain ⟨f,hx⟩ := (ho.frames x (by rw [hm]; exact List.mem_cons_self)).inn
       obtain ⟨G,cap,s,t,rfl,rfl,hl,hB,cell,fr,hp⟩ := h.open hm
       obtain ⟨D,L,O,dc,lc,oc,hs⟩ := hp.each.1.sl
       have hF := h.cell (i := 6) rfl
       refine ⟨_,_,_,hF,_,_,_,hF,_,rfl, ?_⟩
       rw [top_ix hrl]
       simp only [Int.toNat_natCast,own_add,bx_add,Nat.add_zero,Nat.zero_add]
       have d0 := cell 0 _ rfl
       have d1 := cell 1 _ rfl
       have d2 := cell 2 _ rfl
       have d3 := cell 3 _ rfl
       have d4 := cell 4 _ rfl
       have d5 : w.cell? ⟨G,r.length * 8 + 5,none⟩ = some (.slice D x.dfs.length dc) := cell 5 _ (by show some s.D = _; rw [hs.D])
       have d6 : w.cell? ⟨G,r.length * 8 + 6,none⟩ = some (.slice L x.locals.length lc) := cell 6 _ (by show some s.L = _; rw [hs.L])
       have d7 : w.cell? ⟨G,r.length * 8 + 7,none⟩ = some (.slice O x.ops.length oc) := cell 7 _ (by show some s.O = _; rw [hs.O])
       refine ⟨by omega,by omega,x.f,d0,x.pc,d1,x.mode,d2,x.dfd,d3,x.value,d4,D,_,dc,d5,L,_,lc,d6,O,_,oc,d7,fun q2 _ => ⟨d0,d1,d2,d3,d4,d5,d6,d7,hF,hF, ?_⟩⟩
       have hcm : callM p m = if x.mode = 0 then (if (insAt (fnD p x.f) x.pc).op = 17 then some (insAt (fnD p x.f) x.pc).a else none) else x.dfs.getLast?.map Dfr.f := by
         unfold callM
         rw [if_neg (by rw [he,hpk]; simp),if_neg (by rw [hbg]; simp),hm]
       by_cases h0 : x.mode = 0
       · rw [if_neg (by simpa using h0)]
         rw [if_pos h0] at hcm
         have ht := ho.top x r hm h0
         have hpc := At.lt hx ht
         refine call_gives (Below.refl _ _) (fun w1 e1 _ => gives119 (h.ext e1) hm hrl hx hpc) fun w1 _ hw1 => ⟨_,_,_,rfl,fun q3 _ => ret_is hw1 ?_⟩
         unfold callV
         rw [hcm,fnD_eq hx.fn,hm]
         simp only
         by_cases h17 : (insAt f x.pc).op = 17
         · rw [if_pos h17,h17]; rfl
         · rw [if_neg h17]
           simp only
           rw [if_pos ⟨hbg,he,hpk⟩,if_pos h0,fnD_eq hx.fn,show ((insAt f x.pc).op == 17) = false by simpa using h17]
       · rw [if_pos (by simpa using h0)]
         rw [if_neg h0] at hcm
         have hd8 : x.dfs.length ≤ 8 := by have := hx.room; unfold roomM at this; split at this <;> omega
         cases hgl : x.dfs.getLast? with
         | none =>
           have hnil : x.dfs = [] := List.getLast?_eq_none_iff.1 hgl
           rw [if_neg (by rw [hnil]; simp)]
           refine ret_is (Below.refl _ _) ?_
           unfold callV
           rw [hcm,hgl,hm]
           simp only [Option.map_none]
           rw [if_pos ⟨hbg,he,hpk⟩,if_neg h0]
         | some d =>
           obtain ⟨hix,hpos⟩ := getLast_ix hgl
           rw [if_pos (by simpa using hpos),wrap_id (n := ((x.dfs.length : Nat) : Int) - 1) (by omega) (by omega)]
           have hD := hp.each.1.D
           rw [hs.D] at hD
           obtain ⟨gd,cd,hDv,_,_⟩ := owns_some hD hpos
           cases hDv
           obtain ⟨a,ha,_⟩ := hp.each.1.args.get hix
           obtain ⟨e1,e2⟩ := dfrsC_get hix ha
           have hc := owns_cell hD e1
           refine ⟨_,rfl,by omega,by omega,d.f, ?_,ret_is (Below.refl _ _) ?_⟩
           · simp only [own_add,bx_add,Nat.add_zero,Nat.zero_add]
             rw [show (((x.dfs.length : Nat) : Int) - 1).toNat = x.dfs.length - 1 by omega]
             exact hc
           · unfold callV
             rw [hcm,hgl]
             rfl
theorem gives82 (hr : Rt p) (h : MachAt w B g C c p m F T ss) (ho : MOk p m) (hlen : m.frames.length ≤ 1000000000) (hcall : ∀ f,callM p m = some f → ∃ x,fnAt p f = some x) : Gives Tryz.prog 82 [.pointer (some ⟨g,0,none⟩)] w (.int .i64 (needM p m)) := by
 refine gives_of (V82.sound ?_)
 unfold V82.vc
 refine call_gives (Below.refl _ _) (fun w1 e1 _ => gives127 hr (h.ext e1) ho hlen) fun w1 e1 hw1 => ?_
 have h1 := h.ext e1
 unfold callV needM
 cases hc : callM p m with
 | none =>
   simp only
   refine ⟨_,_,rfl, ?_⟩
   rw [if_pos (by rfl)]
   exact ret_is hw1 rfl
 | some f =>
   simp only
   refine ⟨_,_,rfl, ?_⟩
   rw [if_neg (by simp)]
   obtain ⟨x,hx⟩ := hcall f hc
   obtain ⟨hf,h0,hpf,hfl⟩ := fnAt_mem hx
   obtain ⟨f',q,C',c',hf',hq,c0,c1,c2,c3,hcode⟩ := prog_at h1.prog.prog (i := f.toNat) (by omega)
   rw [hpf] at hf'; cases hf'
   subst hq
   simp only [own_add,bx_add,Nat.add_zero,Nat.zero_add]
   refine ⟨_,_,_,h1.cell (i := 0) rfl,q,rfl,by omega,by omega,x.params,c0,x.locals,c1,x.refs,c2,C',_,c',c3, ?_⟩
   refine call_gives hw1 (fun w2 e2 _ => gives61 (RowAt.keep InsE.kept hcode (ext_keeps e2)) _ _ _) fun w2 _ hw2 => ⟨_,rfl,ret_is hw2 ?_⟩
   unfold sizeF'
   rw [fnD_eq hx]
end
end Go.Proofs.YtidcpndlloppdaaGreat
