import Derived.Test.YtidcpndlloppdaaGreatZM21e
/-
 Layer 21: the three functions within run: what is pushed,what is popped,a ref's place.
 Conditions: the machine lies in memory as told.
-/
set_option linter.unusedVariables false
set_option linter.unusedSimpArgs false
set_option maxRecDepth 20000
namespace Go.Proofs.YtidcpndlloppdaaGreat
open Go.RowKit
section
variable {w w1 : World} {B g : Nat} {C : Option Addr} {c : Nat} {p : List Fnc} {m : Mach} {T : Value} {x x' : Frm} {r : List Frm} {s s' : Sl} {t : List Sl} {G cap : Nat} {bx : Addr}
abbrev FootT (g G cap : Nat) (r : List Frm) (T : Value) (ss : List Sl) : Nat → Prop := Foot g (.slice (some ⟨G,0,none⟩) (r.length + 1) cap) T ss
theorem TopAt.box_set (h : TopAt w B g C c p m T x r s t G cap bx) (h1 : KeepsOff (FootT g G cap r T (s :: t)) w w1) {i : Nat} {v : Value} : (w1.setCell ⟨G,i,none⟩ v).cell? bx = some (.pointer (some ⟨G,r.length * 8,none⟩)) :=
 keepsOff_set (S := FootT g G cap r T (s :: t)) (.inr (.inl rfl)) _ _ (h1 _ _ h.box h.out) h.out
theorem TopAt.setTop (h : TopAt w B g C c p m T x r s t G cap bx) {b : Option Nat} {ty : TypeId} (hc : Chg1 b ty w w1) (hb : ∀ k,b = some k → InSl s k) (h1 : 99 ≠ ty) (h2 : 57 ≠ ty) (h3 : 130 ≠ ty)
   (hk : KeepsOff (FootT g G cap r T (s :: t)) w w1) (hx : FrmM w1 B x' s') (hnew : ∀ k,InSl s' k → InSl s k ∨ w.heap.size ≤ k) (hap : ApSl s') {j : Nat} {v : Value} (hj : j < 8) (hset : (frmC x s).set j v = frmC x' s') :
   TopAt (w1.setCell ⟨G,r.length * 8 + j,none⟩ v) B g C c p (topM m (x' :: r)) T x' r s' t G cap bx :=
 ⟨h.at_.setTop h.fs hc hb h1 h2 h3 hk hx hnew hap hj hset,rfl,h.box_set hk,fun hf => by
   rcases foot_top hnew hf with hf | hf
   · exact h.out hf
   · have := cell_lt h.box; omega⟩
theorem TopAt.setNum (h : TopAt w B g C c p m T x r s t G cap bx) (hx : FrmM w B x' s) {j : Nat} {v : Value} (hj : j < 8) (hset : (frmC x s).set j v = frmC x' s) :
   TopAt (w.setCell ⟨G,r.length * 8 + j,none⟩ v) B g C c p (topM m (x' :: r)) T x' r s t G cap bx :=
 h.setTop (Chg1.refl 0 w) (fun k hk => by cases hk) (by decide) (by decide) (by decide) (fun q v hq _ => hq) hx (fun k hk => .inl hk) h.pcs.apart.1 hj hset
theorem TopAt.setLoc (h : TopAt w B g C c p m T x r s t G cap bx) {Lb n lc i : Nat} {u : Int} (hL : s.L = .slice (some ⟨Lb,0,none⟩) n lc) (hi : i < x.locals.length) :
   TopAt (w.setCell ⟨Lb,i,none⟩ (.int .u64 u)) B g C c p (topM m ({ x with locals := x.locals.set i u } :: r)) T { x with locals := x.locals.set i u } r s t G cap bx :=
 ⟨(h.at_.setLoc h.fs hL hi).1,rfl,keepsOff_set (S := FootT g G cap r T (s :: t)) (.inr (.inr (.inr ⟨s,List.mem_cons_self,.inr (.inl (by rw [hL]; rfl))⟩))) _ _ h.box h.out,h.out⟩
theorem TopAt.lt (h : TopAt w B g C c p m T x r s t G cap bx) {k : Nat} (hk : InSl s k) : k < w.heap.size := (h.at_.ty (.inr (.inr (.inr ⟨s,List.mem_cons_self,hk⟩)))).2.1
theorem turns120 (h : TopAt w B g C c p m T x r s t G cap bx) {A : Option Addr} {n ac : Nat} {ws : List Int} (hw : Nums .u64 w A n ws) (hn : 1 ≤ n ∧ n ≤ 8) (hlen : x.ops.length ≤ 100) :
   Turns Tryz.prog 120 [.slice A n ac,.pointer (some bx)] w (FootT g G cap r T (s :: t)) fun u w' => u = .tuple ⟨[]⟩ ∧ TopQ w B g C c p (topM m (pushF x ws :: r)) T (pushF x ws) r s t G cap bx w' := by
 refine turns_of (V120.sound ?_)
 unfold V120.vc
 obtain ⟨D,L,O,dc,lc,oc,hs⟩ := h.pcs.each.1.sl
 have d7 : w.cell? ⟨G,r.length * 8 + 7,none⟩ = some (.slice O x.ops.length oc) := h.cells (j := 7) (by show some s.O = _; rw [hs.O])
 refine ⟨_,h.box,_,h.box, ?_⟩
 simp only [caseP,bx_add,Nat.add_zero]
 refine ⟨O,_,oc,d7, ?_⟩
 obtain ⟨_,a,_,hA,_⟩ := hw.at (i := 0) (by omega)
 subst hA
 have hO := h.pcs.each.1.O
 rw [hs.O] at hO
 have hB : B ≤ w.heap.size := Nat.le_trans h.at_.base (Nat.le_of_lt (h.at_.ty (.inl rfl)).2.1)
 refine append_nums (bs := []) (t := 31) (e := 55) (i := Tryz.t55) (k := .u64) (bytes := 8) (by kernel_rfl) (by kernel_rfl) (by kernel_rfl) (by kernel_rfl) (by kernel_rfl) (Nat.le_refl _) hO hw (by omega) (Nat.le_refl _) hB fun v w2 he ho' hnw => ?_
 obtain ⟨O',oc',hv⟩ := owns_slice0 ho'
 subst hv
 have hc := chg1_exts he hO
 have hinO : ∀ k,(Value.slice O x.ops.length oc).ownBlock = some k → InSl s k := fun k hk => .inr (.inr (.inl (by rw [hs.O]; exact hk)))
 have hk : KeepsOff (FootT g G cap r T (s :: t)) w w2 := (keepsOff_exts he).mono fun k hk => .inr (.inr (.inr ⟨s,List.mem_cons_self,hinO k hk⟩))
 have hF := h.pcs.each.1
 have hap := h.pcs.apart.1
 have hnew : ∀ k,InSl { s with O := .slice O' (x.ops.length + n) oc' } k → InSl s k ∨ w.heap.size ≤ k := fun k hk => by
   rcases hk with hk | hk | hk | hk
   · exact .inl (.inl hk)
   · exact .inl (.inr (.inl hk))
   · rcases hnw k hk with hk | hk
     · exact .inl (hinO k hk)
     · exact .inr hk
   · exact .inl (.inr (.inr (.inr hk)))
 have hO' : ∀ k,(Value.slice O' (x.ops.length + n) oc').ownBlock = some k → s.O.ownBlock = some k ∨ w.heap.size ≤ k := fun k hk => by rw [hs.O]; exact hnw k hk
 have hx' : FrmM w2 B (pushF x ws) { s with O := .slice O' (x.ops.length + n) oc' } := by
   refine ⟨hc.ownT hF.D (by decide),hF.args.same fun a ha k hk => ?_,hc.own hF.L fun k hk => ?_, ?_⟩
   · obtain ⟨_,cc,ff,hh⟩ := hF.args.ty a ha k hk
     exact hc.same (fun e => hap.OA a ha k hk (by rw [hs.O]; exact e)) hh
   · rw [← hs.O]; exact hap.LO k hk
   · have := ho'
     rw [← hw.len] at this
     show w2.ownsRow B 55 1 _ (x.ops ++ ws).length (u64s (x.ops ++ ws))
     rw [List.length_append,hw.len]
     rw [hw.len] at this
     exact this
 have hap' : ApSl { s with O := .slice O' (x.ops.length + n) oc' } := ⟨fun k hk e => by
   rcases hO' k e with e | e
   · exact hap.LO k hk e
   · have := h.lt (k := k) (.inr (.inl hk)); omega,hap.LA,fun a ha k hk e => by
   rcases hO' k e with e | e
   · exact hap.OA a ha k hk e
   · have := h.lt (k := k) (.inr (.inr (.inr ⟨a,ha,hk⟩))); omega⟩
 have hT := h.setTop hc hinO (by decide) (by decide) (by decide) hk hx' hnew hap' (j := 7) (v := .slice O' (x.ops.length + n) oc') (by omega) rfl
 refine ⟨O',_,oc',rfl,hk _ _ h.box h.out,⟨.slice O x.ops.length oc, ?_⟩, ?_, ?_⟩
 · exact owns_cell (hc.ownT h.pcs.frames (by decide)) (stackC_top (by have := h.pcs.len; simpa using this) (j := 7) (by show some s.O = _; rw [hs.O]))
 · exact owns_frozen (hc.ownT h.pcs.frames (by decide)) _
 · exact ret_t ((he.chg (Chg.refl _ _) fun k _ hk => .inr (.inr (.inr ⟨s,List.mem_cons_self,hinO k hk⟩))).setCell _ fun _ => .inr (.inl rfl)) fun w3 e3 => ⟨rfl,_,hT.ext e3,hnew⟩
theorem call61 {w0 : World} {bs : List Nat} {K : Value → World → Prop} (hB : w0.heap.size ≤ w.heap.size) (h : TopAt w B g C c p m T x r s t G cap bx) {A : Option Addr} {n ac : Nat} {ws : List Int} (hw : Nums .u64 w A n ws) (hn : 1 ≤ n ∧ n ≤ 8) (hlen : x.ops.length ≤ 100)
   (hk : ∀ s' w',TopAt w' B g C c p (topM m (pushF x ws :: r)) T (pushF x ws) r s' t G cap bx → ExtS w0.heap.size (FootT g G cap r T (s :: t)) w w' → (∀ k,FootT g G cap r T (s' :: t) k → FootT g G cap r T (s :: t) k ∨ w.heap.size ≤ k) → K (.tuple ⟨[]⟩) w') :
   CallK Tryz.prog 120 [.slice A n ac,.pointer (some bx)] w0.heap.size w bs K := by
 refine call_turnsS (Q := fun w1 u w' => u = .tuple ⟨[]⟩ ∧ TopQ w1 B g C c p (topM m (pushF x ws :: r)) T (pushF x ws) r s t G cap bx w') hB (fun k hk => (h.at_.ty hk).2.2) (fun w1 e1 => turns120 (h.ext e1) (RowAt.keep (NumE.kept .u64) hw (ext_keeps e1)) hn hlen) fun w1 u w2 w' hs hQ hsame he => ?_
 obtain ⟨rfl,s',hT,hnew⟩ := hQ
 have hf : ∀ k,FootT g G cap r T (s' :: t) k → FootT g G cap r T (s :: t) k ∨ w1.heap.size ≤ k := fun k hk => foot_top hnew hk
 have hf' : ∀ k,FootT g G cap r T (s' :: t) k → FootT g G cap r T (s :: t) k ∨ w.heap.size ≤ k := fun k hk => (hf k hk).imp id fun h => Nat.le_trans hs h
 have hs' : ∀ k,FootT g G cap r T (s' :: t) k → w'.heap[k]? = w2.heap[k]? := fun k hk => hsame k (hf k hk)
 refine hk s' w' ⟨⟨hT.at_.base,by rw [hs' g (.inl rfl)]; exact hT.at_.head,hT.at_.pcs.same fun k hk => hs' k (.inr hk),h.at_.prog.keep (keepsOff_exts he) hf'⟩,hT.fs,he.cell h.box h.out,hT.out⟩ he hf'
theorem sub_wrap {n k : Nat} (hk : k ≤ n) (hn : n ≤ 1000) : IntKind.wrap .i64 ((n : Int) - (k : Int)) = ((n - k : Nat) : Int) := by rw [wrap_id (by omega) (by omega)]; omega
theorem turns121 (h : TopAt w B g C c p m T x r s t G cap bx) {k : Nat} (hk : k ≤ x.ops.length) (hlen : x.ops.length ≤ 100) :
   Turns Tryz.prog 121 [.int .i64 (k : Int),.pointer (some bx)] w (FootT g G cap r T (s :: t)) fun u w' => (∃ A ac,u = .slice A k ac ∧ w'.ownsRow w.heap.size 55 1 (.slice A k ac) k (u64s (x.ops.drop (x.ops.length - k)))) ∧
     ∃ s',TopAt w' B g C c p (topM m ({ x with ops := x.ops.take (x.ops.length - k) } :: r)) T { x with ops := x.ops.take (x.ops.length - k) } r s' t G cap bx ∧ ∀ k,InSl s' k → InSl s k := by
 refine turns_of (V121.sound ?_)
 unfold V121.vc
 obtain ⟨D,L,O,dc,lc,oc,hs⟩ := h.pcs.each.1.sl
 have d7 : w.cell? ⟨G,r.length * 8 + 7,none⟩ = some (.slice O x.ops.length oc) := h.cells (j := 7) (by show some s.O = _; rw [hs.O])
 refine ⟨_,h.box, ?_⟩
 simp only [caseP,bx_add,Nat.add_zero]
 refine ⟨O,_,oc,d7,_,h.box,O,_,oc,d7, ?_⟩
 have hO := h.pcs.each.1.O
 rw [hs.O] at hO
 rw [sub_wrap hk (by omega)]
 simp only [Int.toNat_natCast]
 obtain ⟨hcut,hcap⟩ := owns_cut hO (k := x.ops.length - k) (by omega)
 refine ⟨by omega,by omega, ?_⟩
 have hnums := nums_from (ownsU_nums hO (by omega)) (k := x.ops.length - k) (cap := oc) (by omega) hcap
 rw [show x.ops.length - (x.ops.length - k) = k by omega] at hnums ⊢
 refine cloned (Nat.le_refl _) hnums (by omega) fun A ac w2 e2 ho2 => ⟨A,_,ac,rfl, ?_⟩
 have h2 := h.ext e2
 have d72 := e2.cell d7
 refine ⟨_,h2.box, ?_⟩
 simp only [caseP,bx_add,Nat.add_zero]
 refine ⟨_,h2.box,O,_,oc,d72,by omega,by omega,⟨_,d72⟩,h2.fr _, ?_⟩
 rw [slice_cut,Nat.sub_zero,Nat.sub_zero]
 have hF := h2.pcs.each.1
 have hap := h2.pcs.apart.1
 have hO2 := hF.O
 rw [hs.O] at hO2
 obtain ⟨hcut2,_⟩ := owns_cut hO2 (k := x.ops.length - k) (by omega)
 have hown : ∀ j,(Value.slice O (x.ops.length - k) oc).ownBlock = some j ↔ s.O.ownBlock = some j := fun j => by rw [hs.O]; cases O <;> exact Iff.rfl
 have hx' : FrmM w2 B { x with ops := x.ops.take (x.ops.length - k) } { s with O := .slice O (x.ops.length - k) oc } := by
   refine ⟨hF.D,hF.args,hF.L, ?_⟩
   show w2.ownsRow B 55 1 _ (x.ops.take (x.ops.length - k)).length (u64s (x.ops.take (x.ops.length - k)))
   rw [List.length_take,Nat.min_eq_left (by omega)]
   have : (u64s x.ops).take ((x.ops.length - k) * 1) = u64s (x.ops.take (x.ops.length - k)) := by unfold u64s; rw [Nat.mul_one,List.map_take]
   rw [← this]; exact hcut2
 have hnew : ∀ j,InSl { s with O := .slice O (x.ops.length - k) oc } j → InSl s j := fun j hj => by
   rcases hj with hj | hj | hj | hj
   · exact .inl hj
   · exact .inr (.inl hj)
   · exact .inr (.inr (.inl ((hown j).1 hj)))
   · exact .inr (.inr (.inr hj))
 have hT := h2.setTop (Chg1.refl 0 w2) (fun k hk => by cases hk) (by decide) (by decide) (by decide) (fun q v hq _ => hq) hx' (fun j hj => .inl (hnew j hj)) ⟨fun j hj e => hap.LO j hj ((hown j).1 e),hap.LA,fun a ha j hj e => hap.OA a ha j hj ((hown j).1 e)⟩ (j := 7) (v := .slice O (x.ops.length - k) oc) (by omega) rfl
 have hchg : Chg (FootT g G cap r T (s :: t)) w (w2.setCell ⟨G,r.length * 8 + 7,none⟩ (.slice O (x.ops.length - k) oc)) := ((e2.toS (S := fun _ => False)).chg (Chg.refl _ _) (fun _ _ h => h.elim)).setCell _ fun _ => .inr (.inl rfl)
 have hsame : ∀ j,(Value.slice A k ac).ownBlock = some j → (w2.setCell ⟨G,r.length * 8 + 7,none⟩ (.slice O (x.ops.length - k) oc)).heap[j]? = w2.heap[j]? := fun j hj => at_other (fun e => by
   have h1 := (ho2.lt j hj).1
   have h2 := (h.at_.ty h.inG).2.1
   omega)
 exact ret_t hchg fun w3 e3 => ⟨⟨A,ac,rfl,e3.owns (owns_other ho2 hsame)⟩,_,hT.ext e3,hnew⟩
theorem call62 {w0 : World} {bs : List Nat} {K : Value → World → Prop} (hB : w0.heap.size ≤ w.heap.size) (h : TopAt w B g C c p m T x r s t G cap bx) {k : Nat} (hk : k ≤ x.ops.length) (hlen : x.ops.length ≤ 100)
   (hK : ∀ A ac s' w',TopAt w' B g C c p (topM m ({ x with ops := x.ops.take (x.ops.length - k) } :: r)) T { x with ops := x.ops.take (x.ops.length - k) } r s' t G cap bx → ExtS w0.heap.size (FootT g G cap r T (s :: t)) w w' → (∀ k,FootT g G cap r T (s' :: t) k → FootT g G cap r T (s :: t) k) →
     w'.ownsRow w.heap.size 55 1 (.slice A k ac) k (u64s (x.ops.drop (x.ops.length - k))) → K (.slice A k ac) w') :
   CallK Tryz.prog 121 [.int .i64 (k : Int),.pointer (some bx)] w0.heap.size w bs K := by
 refine call_turnsS (Q := fun w1 u w' => (∃ A ac,u = .slice A k ac ∧ w'.ownsRow w1.heap.size 55 1 (.slice A k ac) k (u64s (x.ops.drop (x.ops.length - k)))) ∧
     ∃ s',TopAt w' B g C c p (topM m ({ x with ops := x.ops.take (x.ops.length - k) } :: r)) T { x with ops := x.ops.take (x.ops.length - k) } r s' t G cap bx ∧ ∀ k,InSl s' k → InSl s k) hB (fun k hk => (h.at_.ty hk).2.2) (fun w1 e1 => turns121 (h.ext e1) hk hlen) fun w1 u w2 w' hs hQ hsame he => ?_
 obtain ⟨⟨A,ac,rfl,ho⟩,s',hT,hnew⟩ := hQ
 have hf : ∀ k,FootT g G cap r T (s' :: t) k → FootT g G cap r T (s :: t) k := fun k hk => (foot_top (n := k + 1) (fun j hj => .inl (hnew j hj)) hk).elim id fun h => absurd h (by omega)
 have hs' : ∀ k,FootT g G cap r T (s' :: t) k → w'.heap[k]? = w2.heap[k]? := fun k hk => hsame k (.inl (hf k hk))
 exact hK A ac s' w' ⟨⟨hT.at_.base,by rw [hs' g (.inl rfl)]; exact hT.at_.head,hT.at_.pcs.same fun k hk => hs' k (.inr hk),h.at_.prog.keep (keepsOff_exts he) fun k hk => .inl (hf k hk)⟩,hT.fs,he.cell h.box h.out,hT.out⟩ he hf (owns_down (owns_other ho fun j hj => hsame j (.inr (ho.lt j hj).1)) hs)
theorem gives122 (h : TopAt w B g C c p m T x r s t G cap bx) {bm : Addr} (hbm : w.cell? bm = some (.pointer (some ⟨g,0,none⟩))) {f : Fnc} (hx : FrIn p x f) (hsz : sizedF f = true) {k : Int} (hk : 0 ≤ k ∧ k < f.refs) :
   ∃ Lb lc,s.L = .slice (some ⟨Lb,0,none⟩) x.locals.length lc ∧ Gives Tryz.prog 122 [.int .i64 k,.pointer (some bx),.pointer (some bm)] w (.pointer (some ⟨Lb,refAt f x k,none⟩)) := by
 obtain ⟨hr1,hr2⟩ := refAt_bd (y := x) hsz hx.locals hk
 have hsb := sized_bd hsz
 have hL := h.pcs.each.1.L
 obtain ⟨Lb,lc,hLv,_,_⟩ := owns_some hL (by omega)
 refine ⟨Lb,lc,hLv,gives_of (V122.sound ?_)⟩
 unfold V122.vc
 have d6 : w.cell? ⟨G,r.length * 8 + 6,none⟩ = some (.slice (some ⟨Lb,0,none⟩) x.locals.length lc) := h.cells (j := 6) (by show some s.L = _; rw [hLv])
 have d0 : w.cell? ⟨G,r.length * 8 + 0,none⟩ = some (.int .i64 x.f) := h.cells (j := 0) rfl
 refine ⟨_,h.box, ?_⟩
 simp only [caseP,bx_add,Nat.add_zero,own_add]
 refine ⟨_,_,_,d6,_,h.box,_,_,_,d6,_,hbm, ?_⟩
 simp only [caseP,bx_add,Nat.add_zero,own_add]
 obtain ⟨hf,h0,hpf,hfl⟩ := fnAt_mem hx.fn
 obtain ⟨f',q,C',c',hf',hq,c0,c1,c2,c3,hcode⟩ := prog_at h.at_.prog.prog (i := x.f.toNat) (by omega)
 rw [hpf] at hf'; cases hf'
 refine ⟨_,_,_,h.at_.cell (i := 0) rfl,_,h.box, ?_⟩
 simp only [caseP,bx_add,Nat.add_zero,own_add]
 refine ⟨x.f,d0,q,hq,by omega,by omega,f.refs,c2,_,rfl, ?_⟩
 have hloc := hx.locals
 rw [wrap_id (n := ((x.locals.length : Nat) : Int) - f.refs) (by omega) (by omega),wrap_id (n := ((x.locals.length : Nat) : Int) - f.refs + k) (by omega) (by omega), ← hr2,Int.toNat_natCast]
 exact ⟨by omega,by omega,ret_is (Below.refl _ _) (by rw [own_add])⟩
end
end Go.Proofs.YtidcpndlloppdaaGreat

/-
 Layer 21: what recovers,what leaves; words of two.
 Conditions: the machine lies in memory as told.
-/
set_option linter.unusedVariables false
set_option linter.unusedSimpArgs false
set_option maxRecDepth 20000
namespace Go.Proofs.YtidcpndlloppdaaGreat
open Go.RowKit
section
variable {w : World}
theorem gives154 (b : Bool) : Gives Tryz.prog 154 [.bool b] w (.int .u64 (bW b : Nat)) := by
 refine gives_of (V154.sound ?_)
 unfold V154.vc bW
 split
 · exact call_gives (Below.refl _ _) (fun _ _ _ => gives42 1) fun w1 _ h1 => ⟨_,rfl,ret_is h1 rfl⟩
 · exact call_gives (Below.refl _ _) (fun _ _ _ => gives42 0) fun w1 _ h1 => ⟨_,rfl,ret_is h1 rfl⟩
theorem gives107 {op : Int} {a b : Nat} (ha : a < 2 * SW) (hb : b < 2 * SW) : Gives Tryz.prog 107 [.int .i64 op,.int .u64 (a : Int),.int .u64 (b : Int)] w (.int .u64 (twoN op a b : Nat)) := by
 refine gives_of (V107.sound ?_)
 unfold V107.vc twoN
 by_cases h5 : op = 5
 · rw [if_pos (by simpa using h5),if_pos h5]; exact call_gives (Below.refl _ _) (fun _ _ _ => gives148 a b) fun w1 _ h1 => ⟨_,rfl,ret_is h1 rfl⟩
 rw [if_neg (by simpa using h5),if_neg h5]
 by_cases h6 : op = 6
 · rw [if_pos (by simpa using h6),if_pos h6]; exact call_gives (Below.refl _ _) (fun _ _ _ => gives149 a b) fun w1 _ h1 => ⟨_,rfl,ret_is h1 rfl⟩
 rw [if_neg (by simpa using h6),if_neg h6]
 by_cases h7 : op = 7
 · rw [if_pos (by simpa using h7),if_pos h7]; exact call_gives (Below.refl _ _) (fun _ _ _ => gives150 a b) fun w1 _ h1 => ⟨_,rfl,ret_is h1 rfl⟩
 rw [if_neg (by simpa using h7),if_neg h7]
 by_cases h8 : op = 8
 · rw [if_pos (by simpa using h8),if_pos h8]; exact call_gives (Below.refl _ _) (fun _ _ _ => gives151 a b) fun w1 _ h1 => ⟨_,rfl,ret_is h1 rfl⟩
 rw [if_neg (by simpa using h8),if_neg h8]
 by_cases h11 : op = 11
 · rw [if_pos (by simpa using h11),if_pos h11]; exact call_gives (Below.refl _ _) (fun _ _ _ => gives152 ha hb) fun w1 _ h1 => ⟨_,rfl,ret_is h1 rfl⟩
 rw [if_neg (by simpa using h11),if_neg h11]
 by_cases h12 : op = 12
 · rw [if_pos (by simpa using h12),if_pos h12]; exact call_gives (Below.refl _ _) (fun _ _ _ => gives153 ha hb) fun w1 _ h1 => ⟨_,rfl,ret_is h1 rfl⟩
 rw [if_neg (by simpa using h12),if_neg h12]
 by_cases h13 : op = 13
 · rw [if_pos (by simpa using h13),if_pos h13]
   exact call_gives (Below.refl _ _) (fun _ _ _ => gives155 a b) fun w1 _ h1 => ⟨_,rfl,call_gives h1 (fun _ _ _ => gives154 _) fun w2 _ h2 => ⟨_,rfl,ret_is h2 rfl⟩⟩
 · rw [if_neg (by simpa using h13),if_neg h13]
   exact call_gives (Below.refl _ _) (fun _ _ _ => gives156 a b) fun w1 _ h1 => ⟨_,rfl,call_gives h1 (fun _ _ _ => gives154 _) fun w2 _ h2 => ⟨_,rfl,ret_is h2 rfl⟩⟩
theorem gives143 : Gives Tryz.prog 143 [] w (.float .f64 9221120237041090561) := by
 refine gives_of (V143.sound ?_)
 unfold V143.vc
 exact run_lone (Nat.le_refl _) (lone_from 9221120237041090561) fun v w' he hv => ⟨_,hv,ret_is he.below rfl⟩
theorem gives144 (a : Int) : Gives Tryz.prog 144 [.int .i64 a] w (.float .f64 (if a ≥ 0 then 9218868437227405312 else 18442240474082181120)) := by
 refine gives_of (V144.sound ?_)
 unfold V144.vc
 by_cases h : a ≥ 0
 · rw [if_pos (by simpa using h),if_pos h]
   exact run_lone (Nat.le_refl _) (lone_from 9218868437227405312) fun v w' he hv => ⟨_,hv,ret_is he.below rfl⟩
 · rw [if_neg (by simpa using h),if_neg h]
   exact run_lone (Nat.le_refl _) (lone_from 18442240474082181120) fun v w' he hv => ⟨_,hv,ret_is he.below rfl⟩
theorem copysign_bits : IntKind.wrap .u64 (((BitVec.ofInt 64 (IntKind.wrap .u64 (((BitVec.ofInt 64 ((0 : Nat) : Int) &&& ~~~ BitVec.ofInt 64 9223372036854775808).toNat : Nat) : Int)) ||| BitVec.ofInt 64 (IntKind.wrap .u64 (((BitVec.ofInt 64 ((13830554455654793216 : Nat) : Int) &&& BitVec.ofInt 64 9223372036854775808).toNat : Nat) : Int))).toNat : Nat) : Int) = ((9223372036854775808 : Nat) : Int) := by decide
theorem gives145 : Gives Tryz.prog 145 [.float .f64 0,.float .f64 13830554455654793216] w (.float .f64 9223372036854775808) := by
 refine gives_of (V145.sound ?_)
 unfold V145.vc
 refine run_lone (Nat.le_refl _) (lone_bits 0) fun v w1 h1 hv => ⟨_,hv, ?_⟩
 refine run_lone h1.size (lone_bits 13830554455654793216) fun v w2 h2 hv => ⟨_,hv, ?_⟩
 rw [copysign_bits]
 exact run_lone (Nat.le_trans h1.size h2.size) (lone_from _) fun v w3 h3 hv => ⟨_,hv,ret_is (h3.after (h2.after h1.below)) rfl⟩
theorem odd_word : ∀ n : Fin 6,cn (([9221120237041090561,9218868437227405312,18442240474082181120,9223372036854775808,9218868437227405311,1] : List Nat).getD n.val 0) = oddN (n.val : Int) := by decide
theorem gives102 {n : Int} (h : 0 ≤ n ∧ n < 6) : Gives Tryz.prog 102 [.int .i64 n] w (.int .u64 (oddN n : Nat)) := by
 refine gives_of (V102.sound ?_)
 unfold V102.vc
 refine call_gives (Below.refl _ _) (fun _ _ _ => gives143) fun w1 _ h1 => ⟨_,rfl, ?_⟩
 refine call_gives h1 (fun _ _ _ => gives144 1) fun w2 _ h2 => ⟨_,rfl, ?_⟩
 refine call_gives h2 (fun _ _ _ => gives144 (-1)) fun w3 _ h3 => ⟨_,rfl, ?_⟩
 refine call_gives h3 (fun _ _ _ => gives145) fun w4 _ h4 => ⟨_,rfl,h.1,h.2, ?_⟩
 refine call_gives h4 (fun _ _ _ => gives80 _) fun w5 _ h5 => ⟨_,rfl,ret_is h5 ?_⟩
 have := odd_word ⟨n.toNat,by omega⟩
 simp only at this
 rw [show ((n.toNat : Nat) : Int) = n by omega] at this
 rw [← this]
 rfl
end
end Go.Proofs.YtidcpndlloppdaaGreat

/-
 Layer 21: recover,leave.
 Conditions: the machine lies in memory as told.
-/
set_option linter.unusedVariables false
set_option linter.unusedSimpArgs false
set_option maxRecDepth 20000
namespace Go.Proofs.YtidcpndlloppdaaGreat
open Go.RowKit
def recW (x : Frm) (r : List Frm) : List Int := match r with
 | u :: _ => if x.dfd = true ∧ u.mode = 2 then [u.value,(nw 1 : Nat)] else [(nw 0 : Nat),(nw 0 : Nat)]
 | [] => [(nw 0 : Nat),(nw 0 : Nat)]
def recMach (m : Mach) (x : Frm) (r : List Frm) : Mach := match r with
 | u :: r' => if x.dfd = true ∧ u.mode = 2 then { m with frames := x :: { u with mode := 1,value := (nw 0 : Nat) } :: r',trace := m.trace ++ [⟨2,u.value.toNat⟩] } else m
 | [] => m
def recR (x : Frm) (r : List Frm) : List Frm := match r with
 | u :: r' => if x.dfd = true ∧ u.mode = 2 then { u with mode := 1,value := (nw 0 : Nat) } :: r' else u :: r'
 | [] => []
section
variable {w : World} {B g : Nat} {C : Option Addr} {c : Nat} {p : List Fnc} {m : Mach} {T : Value} {x : Frm} {r : List Frm} {s : Sl} {t : List Sl} {G cap : Nat}
def RecQ (w : World) (B g : Nat) (C : Option Addr) (c : Nat) (p : List Fnc) (F T : Value) (ss : List Sl) (m' : Mach) (ws : List Int) (u : Value) (w' : World) : Prop :=
 (∃ A,u = .slice A 2 2 ∧ w'.ownsRow w.heap.size 55 1 (.slice A 2 2) 2 (u64s ws)) ∧ MachTQ w B g C c p F T ss m' w'
theorem two_row {w0 w : World} {g : Nat} {F0 T0 : Value} {ss0 : List Sl} {F' T' : Value} {m' : Mach} {ss : List Sl} {a b : Nat} {u : Value} {P : World → Prop} (hchg : Chg (Foot g F0 T0 ss0) w0 w)
   (hQ : ∀ w2,Ext w0.heap.size w w2 → P w2) : Expo w0.heap.size w [] fun A =>
     let C' := A.alloc (.cells ⟨[.int .u64 (a : Int),.int .u64 (b : Int)]⟩ 55)
     Ret w0.heap.size C' (IsT w0 (Foot g F0 T0 ss0) (fun u w' => (∃ A,u = .slice A 2 2 ∧ w'.ownsRow w0.heap.size 55 1 (.slice A 2 2) 2 (u64s [(a : Int),(b : Int)])) ∧ P w') (.slice (some ⟨A.heap.size,0,none⟩) 2 2)) := by
 intro w1 e1 _
 obtain ⟨e2,ho2⟩ := alloc1 (.cells ⟨[.int .u64 (a : Int),.int .u64 (b : Int)]⟩ 55) e1 hchg.size
 have hs : w0.heap.size ≤ w1.heap.size := Nat.le_trans hchg.size e1.size
 simp only
 generalize w1.alloc (.cells ⟨[.int .u64 (a : Int),.int .u64 (b : Int)]⟩ 55) = w2 at *
 have ho : OwnI w2 w1.heap.size .u64 55 [(a : Int),(b : Int)] := ho2
 exact ret_t (ext_chg hchg e2) fun w3 e3 => ⟨⟨_,rfl,own_row (ho.ext e3) hs (by simp)⟩,hQ w3 (e2.trans e3)⟩
theorem turns123 (h : MachAt w B g C c p m (.slice (some ⟨G,0,none⟩) (r.length + 1) cap) T (s :: t)) (hm : m.frames = x :: r) (hch : Chn p (x :: r)) (hval : ∀ u ∈ r,0 ≤ u.value) (hlen : r.length ≤ 1000000000) (htr : m.trace.length ≤ 1000000000) :
   Turns Tryz.prog 123 [.pointer (some ⟨g,0,none⟩)] w (FootT g G cap r T (s :: t)) (RecQ w B g C c p (.slice (some ⟨G,0,none⟩) (r.length + 1) cap) T (s :: t) (recMach m x r) (recW x r)) := by
 refine turns_of (V123.sound ?_)
 unfold V123.vc
 have hF := h.cell (i := 6) rfl
 have hp := h.pcs
 rw [hm] at hp
 have hl : t.length = r.length := by have := hp.len; simpa using this
 have cell : ∀ {j v},(frmC x s)[j]? = some v → w.cell? ⟨G,r.length * 8 + j,none⟩ = some v := fun hv => owns_cell hp.frames (stackC_top hl hv)
 simp only [own_add]
 refine ⟨_,_,_,hF,_,_,_,hF,_,rfl, ?_⟩
 rw [top_ix hlen]
 simp only [Int.toNat_natCast,own_add,bx_add,Nat.add_zero,Nat.zero_add]
 refine ⟨by omega,by omega,x.dfd,cell (j := 3) rfl, ?_⟩
 -- nothing is recovered
 have zero : recW x r = [((nw 0 : Nat) : Int),((nw 0 : Nat) : Int)] → recMach m x r = m → CallK Tryz.prog 42 [.int .i64 0] w.heap.size w [] fun v s_1 => ∃ t_1 : Int,v = .int .u64 t_1 ∧
     CallK Tryz.prog 42 [.int .i64 0] w.heap.size s_1 [] fun x_1 y => ∃ z : Int,x_1 = .int .u64 z ∧
     Expo w.heap.size y [] fun A =>
     let C_1 := A.alloc (.cells ⟨[.int .u64 t_1,.int .u64 z]⟩ 55);
     Ret w.heap.size C_1 (IsT w (FootT g G cap r T (s :: t)) (RecQ w B g C c p (.slice (some ⟨G,0,none⟩) (r.length + 1) cap) T (s :: t) (recMach m x r) (recW x r)) (.slice (some ⟨A.heap.size,0,none⟩) 2 2)) := fun e1 e2 => by
   rw [e1,e2]
   refine call_gives (Below.refl _ _) (fun _ _ _ => gives42 0) fun w1 e1 h1 => ⟨_,rfl, ?_⟩
   refine call_gives h1 (fun _ _ _ => gives42 0) fun w2 e2 h2 => ⟨_,rfl, ?_⟩
   refine two_row (m' := m) (ss := []) (u := .bool true) (F' := T) (T' := T) (((e1.trans e2).toS (S := fun _ => False)).chg (Chg.refl _ _) fun _ _ h => h.elim) fun w3 e3 => ⟨T,(((h.ext e1).ext e2).ext e3),fun k hk => .inl hk⟩
 cases hd : x.dfd with
 | false =>
   rw [if_neg (by simp)]
   refine zero ?_ ?_
   · cases r with
     | nil => rfl
     | cons u r' => simp only [recW]; rw [if_neg (by rw [hd]; simp)]
   · cases r with
     | nil => rfl
     | cons u r' => simp only [recMach]; rw [if_neg (by rw [hd]; simp)]
 | true =>
   rw [if_pos (show (!true) = false from rfl)]
   cases r with
   | nil => have : x.dfd = false := hch; rw [hd] at this; cases this
   | cons u r' =>
     cases t with
     | nil => simp at hl
     | cons su t' =>
       have hl' : t'.length = r'.length := by simpa using hl
       have ucell : ∀ {j v},j < 8 → (frmC u su)[j]? = some v → w.cell? ⟨G,r'.length * 8 + j,none⟩ = some v := fun hj hv => owns_cell hp.frames (stackC_und hl' hj hv)
       have hix : IntKind.wrap .i64 ((((u :: r').length + 1 : Nat) : Int) - 2) = (r'.length : Int) := by
         simp only [List.length_cons] at hlen ⊢
         rw [wrap_id (by omega) (by omega)]; omega
       refine ⟨_,_,_,hF,_,rfl, ?_⟩
       rw [hix]
       simp only [Int.toNat_natCast,own_add,bx_add,Nat.add_zero,Nat.zero_add]
       refine ⟨by omega,by simp only [List.length_cons]; omega,u.mode,ucell (j := 2) (by omega) rfl, ?_⟩
       by_cases h2 : u.mode = 2
       · rw [if_neg (by simpa using h2)]
         have ew : recW x (u :: r') = [u.value,(nw 1 : Nat)] := by simp only [recW]; rw [if_pos ⟨hd,h2⟩]
         have em : recMach m x (u :: r') = { m with frames := x :: { u with mode := 1,value := (nw 0 : Nat) } :: r',trace := m.trace ++ [⟨2,u.value.toNat⟩] } := by simp only [recMach]; rw [if_pos ⟨hd,h2⟩]
         refine ⟨_,_,_,hF,_,rfl, ?_⟩
         have hv0 := hval u List.mem_cons_self
         have hv : ((u.value.toNat : Nat) : Int) = u.value := by omega
         simp only [Int.toNat_natCast,own_add,bx_add,Nat.add_zero,Nat.zero_add]
         refine ⟨by omega,by simp only [List.length_cons]; omega,u.value,ucell (j := 4) (by omega) rfl, ?_⟩
         rw [← hv]
         refine call_machT (m' := markM m 2 u.value.toNat) (Nat.le_refl _) h (fun w1 e1 h1 => turns124 h1 2 u.value.toNat htr) fun w1 T1 h1 e1 hf1 => ⟨rfl, ?_⟩
         refine call_givesX (Nat.le_trans (Nat.le_refl _) e1.size) (fun _ _ => gives42 0) fun w2 e2 => ⟨_,rfl, ?_⟩
         have h2' := h1.ext e2
         have hm2 : (markM m 2 u.value.toNat).frames = x :: u :: r' := hm
         have hp2 := h2'.pcs
         rw [hm2] at hp2
         have ucell2 : ∀ {j v},j < 8 → (frmC u su)[j]? = some v → w2.cell? ⟨G,r'.length * 8 + j,none⟩ = some v := fun hj hv => owns_cell hp2.frames (stackC_und hl' hj hv)
         have hu2 := hp2.each.2.1
         have h3 := h2'.setUnd (u' := { u with mode := 1 }) hm2 ⟨hu2.D,hu2.args,hu2.L,hu2.O⟩ (j := 2) (v := .int .i64 1) (by omega) rfl
         refine ⟨⟨_,ucell2 (j := 2) (by omega) rfl⟩,owns_frozen hp2.frames _, ?_⟩
         have hp3 := h3.pcs
         have hu3 : FrmM _ B { u with mode := 1 } su := hp3.each.2.1
         have h4 := h3.setUnd (u' := { u with mode := 1,value := (nw 0 : Nat) }) rfl ⟨hu3.D,hu3.args,hu3.L,hu3.O⟩ (j := 4) (v := .int .u64 (nw 0 : Nat)) (by omega) rfl
         refine ⟨⟨_,owns_cell hp3.frames (stackC_und (x := x) (u := { u with mode := 1 }) (s := s) (su := su) hl' (j := 4) (by omega) rfl)⟩,owns_frozen hp3.frames _, ?_⟩
         have hsz : w.heap.size ≤ ((w2.setCell ⟨G,r'.length * 8 + 2,none⟩ (.int .i64 1)).setCell ⟨G,r'.length * 8 + 4,none⟩ (.int .u64 (nw 0 : Nat))).heap.size := by
           simp only [World.size_setCell]; exact Nat.le_trans e1.size e2.size
         refine call_givesX hsz (fun _ _ => gives42 1) fun w5 e5 => ⟨_,rfl, ?_⟩
         have h5 := h4.ext e5
         rw [ew,em]
         have inG : FootT g G cap (u :: r') T (s :: su :: t') G := .inr (.inl rfl)
         have hchg : Chg (FootT g G cap (u :: r') T (s :: su :: t')) w w5 := ext_chg ((((e2.toS (S := fun _ => False)).chg (e1.chg (Chg.refl _ _) fun _ _ h => h) (fun _ _ h => h.elim)).setCell _ fun _ => inG).setCell _ fun _ => inG) e5
         rw [← hv]
         exact two_row (m' := m) (ss := []) (u := .bool true) (F' := T) (T' := T) hchg fun w6 e6 => ⟨T1,h5.ext e6,hf1⟩
       · rw [if_pos (by simpa using h2)]
         refine zero ?_ ?_
         · simp only [recW]; rw [if_neg (by rintro ⟨_,e⟩; exact h2 e)]
         · simp only [recMach]; rw [if_neg (by rintro ⟨_,e⟩; exact h2 e)]
end
end Go.Proofs.YtidcpndlloppdaaGreat
