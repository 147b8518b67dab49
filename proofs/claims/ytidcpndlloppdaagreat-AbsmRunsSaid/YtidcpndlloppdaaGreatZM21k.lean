import Derived.Test.YtidcpndlloppdaaGreatZM21j
/-
 Layer 21: run does what the plain rule tells.
 Conditions: the machine lies in memory as told.
-/
set_option linter.unusedVariables false
set_option linter.unusedSimpArgs false
set_option maxRecDepth 20000
namespace Go.Proofs.YtidcpndlloppdaaGreat
open Go.RowKit
section
variable {w : World} {B g : Nat} {C : Option Addr} {c : Nat} {p : List Fnc} {m : Mach} {T : Value} {x : Frm} {r : List Frm} {s : Sl} {t : List Sl} {G cap : Nat}
theorem dfrsC_app {d : Dfr} {a : Value} : ∀ {ds : List Dfr} {vs : List Value},vs.length = ds.length → dfrsC (ds ++ [d]) (vs ++ [a]) = dfrsC ds vs ++ [.int .i64 d.f,a]
 | [],[],_ => rfl
 | e :: r,b :: u,h => by
   have := dfrsC_app (d := d) (a := a) (ds := r) (vs := u) (by simpa using h)
   show [Value.int .i64 e.f,b] ++ dfrsC (r ++ [d]) (u ++ [a]) = _
   rw [this]; rfl
 | [],_ :: _,h => by simp at h
 | _ :: _,[],h => by simp at h
theorem ArgsM.app {w : World} {B : Nat} {d : Dfr} {a : Value} (ha : w.ownsRow B 55 1 a d.args.length (u64s d.args)) : ∀ {ds : List Dfr} {vs : List Value},ArgsM w B ds vs → ArgsM w B (ds ++ [d]) (vs ++ [a])
 | [],[],_ => ⟨ha,trivial⟩
 | e :: r,b :: u,h => ⟨h.1,ArgsM.app ha h.2⟩
 | [],_ :: _,h => h.elim
 | _ :: _,[],h => h.elim
theorem Pcs.topX {w1 : World} {x' : Frm} {s' : Sl} {fs : List Frm} {tr : List Mk} {ss : List Sl} {b : Option Nat} {ty : TypeId} {n j : Nat} {v : Value} (h : Pcs w B (.slice (some ⟨G,0,none⟩) n cap) T (x :: fs) tr (s :: ss)) (hc : Chg1 b ty w w1) (hb : ∀ k,b = some k → InSl s k) (h1 : 99 ≠ ty) (h2 : 57 ≠ ty) (hx : FrmM w1 B x' s')
   (hnew : ∀ k,InSl s' k → InSl s k ∨ ¬ InSls ss k) (hap : ApSl s') (hj : j < 8) (hset : (frmC x s).set j v = frmC x' s') : Pcs (w1.setCell ⟨G,fs.length * 8 + j,none⟩ v) B (.slice (some ⟨G,0,none⟩) n cap) T (x' :: fs) tr (s' :: ss) := by
 have hl : ss.length = fs.length := by simpa using h.len
 have hf := hc.ownT h.frames h1
 have ht := hc.ownT h.trace h2
 have hr : FrmsM w1 B fs ss := h.each.2.chg hc fun k hk e => h.apart.2.1 k (hb k e) hk
 obtain ⟨_,cc,ff,hG⟩ := owns_ty hf (k := G) rfl
 have hc2 := chg1_set (i := fs.length * 8 + j) (v := v) hG
 have hfl : n = (x :: fs).length := by
   obtain ⟨A',c',hv⟩ := owns_slice0 hf
   cases hv; rfl
 subst hfl
 have hset' := owns_set hf (fs.length * 8 + j) v (by simp only [List.length_cons]; omega)
 rw [stackC_set hl hj hset] at hset'
 refine ⟨hset',hc2.ownT ht (by decide),⟨hx.chgT hc2 (by decide) (by decide),hr.chgT hc2 (by decide) (by decide)⟩,hap,fun k hk hk' => ?_,h.apart.2.2⟩
 rcases hnew k hk with hk1 | hk1
 · exact h.apart.2.1 k hk1 hk'
 · exact hk1 hk'
theorem MachAt.setTopX {w1 : World} {x' : Frm} {s' : Sl} (h : MachAt w B g C c p m (.slice (some ⟨G,0,none⟩) (r.length + 1) cap) T (s :: t)) (hm : m.frames = x :: r) {b : Option Nat} {ty : TypeId} (hc : Chg1 b ty w w1) (hb : ∀ k,b = some k → InSl s k) (h1 : 99 ≠ ty) (h2 : 57 ≠ ty) (h3 : 130 ≠ ty)
   (hx : FrmM w1 B x' s') (hnew : ∀ k,InSl s' k → InSl s k ∨ ¬ InSls t k) (hap : ApSl s') (hP : POff (Foot g (.slice (some ⟨G,0,none⟩) (r.length + 1) cap) T (s' :: t)) w1 C p) {j : Nat} {v : Value} (hj : j < 8) (hset : (frmC x s).set j v = frmC x' s') :
   MachAt (w1.setCell ⟨G,r.length * 8 + j,none⟩ v) B g C c p (topM m (x' :: r)) (.slice (some ⟨G,0,none⟩) (r.length + 1) cap) T (s' :: t) := by
 have hp := h.pcs
 rw [hm] at hp
 have hh := h.headKept hc h3
 obtain ⟨_,cc,ff,hG⟩ := owns_ty (hc.ownT hp.frames h1) (k := G) rfl
 have hne : g ≠ G := fun e => by rw [e,hG] at hh; cases hh
 exact ⟨h.base,by rw [at_other hne]; exact hh,hp.topX hc hb h1 h2 hx hnew hap hj hset,hP.keep (keepsOff_set (.inr (.inl rfl))) fun k hk => .inl hk⟩
theorem nat_word {xs : List Int} (h : Wd xs) (i : Nat) : (((xs.getD i 0).toNat : Nat) : Int) = xs.getD i 0 := by have := getD_wdM h i; omega
set_option maxHeartbeats 20000000 in
theorem turns78 (hr : Rt p) (h : MachAt w B g C c p m (.slice (some ⟨G,0,none⟩) (r.length + 1) cap) T (s :: t)) (hm : m.frames = x :: r) (ho : MOk p m) (hb : m.begun = true) (h0 : x.mode = 0) (hlen : r.length ≤ 100000000) (htr : m.trace.length ≤ 1000000000) (hrf : m.refs < 1000000000000) :
   MachT 78 [.pointer (some ⟨g,0,none⟩)] w B g C c p (.slice (some ⟨G,0,none⟩) (r.length + 1) cap) T (s :: t) (.tuple ⟨[]⟩) (runMach p m x r) := by
 have hxo := ho.frames x (by rw [hm]; exact List.mem_cons_self)
 obtain ⟨f,hx⟩ := hxo.inn
 have hw := hxo.wd
 have ht := ho.top x r hm h0
 obtain ⟨hi,hmem⟩ := ins_in hr hx ht
 obtain ⟨hgp,hsz⟩ := hx.wrap hr
 have hsh := shape_a hi.shape hsz
 have hsb := sized_bd hsz
 have hpc := At.lt hx ht
 have hpc0 := hx.pc.1
 have h8 := hx.ops
 have hen := hi.enough
 have hpl := popL_len hi.enough
 have hlw := popL_wd (p := p) (i := insAt f x.pc) hw
 have hbd := popsM_bd hr.fewP (insAt f x.pc).op (insAt f x.pc).a
 have hpn : ((popN p (insAt f x.pc) : Nat) : Int) = popsM p (insAt f x.pc).op (insAt f x.pc).a := by unfold popN; omega
 have hd4 : x.dfs.length ≤ 4 := by have := hx.room; unfold roomM at this; split at this <;> omega
 refine turns_of (V78.sound ?_)
 unfold V78.vc
 intro w1 e1 _
 obtain ⟨e2,ho2⟩ := alloc1 (.cells ⟨[.pointer (some ⟨g,0,none⟩)]⟩ 75) e1 (Nat.le_refl _)
 have hlt2 := lt_of_some ho2
 have hs1 := e1.size
 simp only
 generalize hbm : w1.heap.size = bm at *
 generalize w1.alloc (.cells ⟨[.pointer (some ⟨g,0,none⟩)]⟩ 75) = w2 at *
 have h2 := h.ext e2
 have bmc : w2.cell? ⟨bm,0,none⟩ = some (.pointer (some ⟨g,0,none⟩)) := at_cell ho2 rfl
 refine ⟨_,bmc, ?_⟩
 simp only [caseP]
 refine call_givesX e2.size (fun w3 e3 => gives119 (h2.ext e3) hm (by omega) hx hpc) fun w3 e3 => ⟨_,_,_,rfl,fun q1 _ => ?_⟩
 have h3 := h2.ext e3
 have bmc3 := e3.cell bmc
 have hF3 := h3.cell (i := 6) rfl
 have hbmo : ¬ FootT g G cap r T (s :: t) bm := fun hk => by have := (h.ty hk).2.1; omega
 unfold V78.b0
 refine ⟨_,bmc3, ?_⟩
 simp only [caseP,own_add]
 refine ⟨_,_,_,hF3,_,bmc3, ?_⟩
 simp only [caseP,own_add]
 refine ⟨_,_,_,hF3,_,rfl, ?_⟩
 rw [top_ix (by omega)]
 simp only [Int.toNat_natCast,own_add,bx_add,Nat.add_zero,Nat.zero_add]
 refine ⟨by omega,by omega, ?_⟩
 have hs3 : w.heap.size ≤ w3.heap.size := Nat.le_trans e2.size e3.size
 refine expo_alloc hs3 fun w4 w5 hs4 e5 hlt5 ho5 => ?_
 have hF5 := e5.cell hF3
 have bmc5 := e5.cell bmc3
 refine ⟨hF5,bmc5,hF5,bmc5,⟨_,at_cell (L := [.pointer none]) (i := 0) ho5 rfl⟩,at_frozen ho5 0, ?_⟩
 -- the variable that has the top frame's address
 generalize hbx : w4.heap.size = bx at *
 have zset := at_set (L := [.pointer none]) ho5 0 (.pointer (some ⟨G,r.length * 8,none⟩))
 have zother : ∀ k,k ≠ bx → (w5.setCell ⟨bx,0,none⟩ (.pointer (some ⟨G,r.length * 8,none⟩))).heap[k]? = w5.heap[k]? := fun k hk => at_other hk
 have zsize : (w5.setCell ⟨bx,0,none⟩ (.pointer (some ⟨G,r.length * 8,none⟩))).heap.size = w5.heap.size := by simp
 have chg0 : Chg (FootT g G cap r T (s :: t)) w w3 := ((e2.trans e3).toS (S := fun _ => False)).chg (Chg.refl _ _) (fun _ _ h => h.elim)
 have chg1 : Chg (FootT g G cap r T (s :: t)) w (w5.setCell ⟨bx,0,none⟩ (.pointer (some ⟨G,r.length * 8,none⟩))) := (ext_chg chg0 e5).setCell _ fun hlt => absurd hlt (by show ¬ bx < _; omega)
 have hfoot3 : ∀ k,FootT g G cap r T (s :: t) k → k ≠ bx := fun k hk e => by have := (h3.ty hk).2.1; omega
 generalize w5.setCell ⟨bx,0,none⟩ (.pointer (some ⟨G,r.length * 8,none⟩)) = z at *
 have hz : MachAt z B g C c p m (.slice (some ⟨G,0,none⟩) (r.length + 1) cap) T (s :: t) := h3.same (fun k hk => by
   obtain ⟨_,_,cc,e,ff,hh⟩ := h3.ty hk
   rw [zother k (hfoot3 k hk),hh]; exact e5.row _ _ _ _ hh) fun q v hq _ => by
     have hne : q.block ≠ bx := fun e => by have := cell_lt hq; omega
     exact (cell_same (zother _ hne)).trans (e5.cell hq)
 have bmcz : z.cell? ⟨bm,0,none⟩ = some (.pointer (some ⟨g,0,none⟩)) := (cell_same (zother bm (fun e => by have := cell_lt bmc3; simp only at this; omega))).trans bmc5
 have hT0 : TopAt z B g C c p m T x r s t G cap ⟨bx,0,none⟩ := ⟨hz,hm,at_cell zset rfl,fun hk => hfoot3 _ hk rfl⟩
 have ropen : ∀ {s' : Sl} {x' : Frm} {m' : Mach} {w' : World},TopAt w' B g C c p m' T x' r s' t G cap ⟨bx,0,none⟩ → w'.cell? ⟨bx,0,none⟩ = some (.pointer (some ⟨G,r.length * 8,none⟩)) := fun h => h.box
 refine ⟨_,hT0.box, ?_⟩
 simp only [caseP,bx_add,Nat.add_zero]
 refine ⟨x.pc,hT0.cells (j := 1) rfl,⟨_,hT0.cells (j := 1) rfl⟩,hT0.fr _, ?_⟩
 rw [wrap_id (n := x.pc + 1) (by omega) (by omega)]
 have hF0 := hT0.pcs.each.1
 have hT1 := hT0.setNum (x' := { x with pc := x.pc + 1 }) ⟨hF0.D,hF0.args,hF0.L,hF0.O⟩ (j := 1) (v := .int .i64 (x.pc + 1)) (by omega) rfl
 have inG : FootT g G cap r T (s :: t) G := .inr (.inl rfl)
 have bmc1 : (z.setCell ⟨G,r.length * 8 + 1,none⟩ (.int .i64 (x.pc + 1))).cell? ⟨bm,0,none⟩ = some (.pointer (some ⟨g,0,none⟩)) := keepsOff_set (S := FootT g G cap r T (s :: t)) inG _ _ bmcz hbmo
 have chg2 : Chg (FootT g G cap r T (s :: t)) w (z.setCell ⟨G,r.length * 8 + 1,none⟩ (.int .i64 (x.pc + 1))) := Chg.setCell (a := ⟨G,r.length * 8 + 1,none⟩) chg1 _ fun _ => inG
 generalize z.setCell ⟨G,r.length * 8 + 1,none⟩ (.int .i64 (x.pc + 1)) = z1 at *
 refine ⟨_,bmc1, ?_⟩
 simp only [caseP,own_add,bx_add,Nat.add_zero]
 refine ⟨_,_,_,hT1.at_.cell (i := 0) rfl, ?_⟩
 refine call_givesX chg2.size (fun w6 e6 => gives99 (RowAt.keep FncE.kept hT1.at_.prog.prog (ext_keeps e6)) _ _ _) fun w6 e6 => ⟨_,rfl, ?_⟩
 have hT6 := hT1.ext e6
 have bmc6 := e6.cell bmc1
 have chg6 := ext_chg chg2 e6
 rw [← hpn]
 refine call62 chg6.size hT6 (k := popN p (insAt f x.pc)) hen (by show x.ops.length ≤ 100; omega) fun LA lc s' w7 hT7 e7 hf7 hrow => ⟨LA,_,lc,rfl, ?_⟩
 have hRun : RunAt w (FootT g G cap r T (s :: t)) w7 B g C c p (topM m (popF p (insAt f x.pc) x :: r)) T (popF p (insAt f x.pc) x) r s' t G cap ⟨bx,0,none⟩ ⟨bm,0,none⟩ LA (popN p (insAt f x.pc)) lc (popL p (insAt f x.pc) x) :=
   ⟨hT7,e7.cell bmc6 hbmo,fun hk => hbmo (hf7 _ hk),e7.chg chg6 fun k _ hk => hk,fun k hk => .inl (hf7 k hk),Nat.le_trans h.base (Nat.le_of_lt (h.ty (.inl rfl)).2.1),owns_down hrow chg6.size,fun k hk hk' => by
     have h1 := (hrow.lt k hk).1
     have h2 := (hT6.at_.ty (hf7 k hk')).2.1
     omega,by omega⟩
 have hops : (popF p (insAt f x.pc) x).ops.length ≤ 100 := by rw [popF_len hen]; omega
 have hrunM : runMach p m x r = actM p m f (insAt f x.pc) (popL p (insAt f x.pc) x) (popF p (insAt f x.pc) x) r := by unfold runMach; rw [fnD_eq hx.fn]
 rw [hrunM]
 have hylocals : (popF p (insAt f x.pc) x).locals = x.locals := rfl
 have hydfs : (popF p (insAt f x.pc) x).dfs = x.dfs := rfl
 have hyd : (popF p (insAt f x.pc) x).dfd = x.dfd := rfl
 have hlt := At.lt hx ht
 have hyin : FrIn p (popF p (insAt f x.pc) x) f := ⟨hx.fn,⟨by show 0 ≤ x.pc + 1; omega,by show x.pc + 1 ≤ _; omega⟩,hx.mode,hx.locals,by rw [popF_len hen]; omega,hx.room,hx.dfs⟩
 have hyf : (popF p (insAt f x.pc) x).f = x.f := rfl
 have hymode : (popF p (insAt f x.pc) x).mode = x.mode := rfl
 have hywd := pop_wd (p := p) (i := insAt f x.pc) hw
 have hPO : POff (fun k => FootT g G cap r T (s' :: t) k ∨ (Value.slice LA (popN p (insAt f x.pc)) lc).ownBlock = some k) w7 C p := hT6.at_.prog.keep (keepsOff_exts e7) fun k hk => hk.elim (fun hk => .inl (hf7 k hk)) fun hk => .inr (hrow.lt k hk).1
 clear hrow hT7 e7 hT6 bmc6 chg6 bmc1 chg2 hT1 hF0 hT0 hz chg1 chg0 e5 ho5 zset zother
 have hpops : popN p (insAt f x.pc) = (popsM p (insAt f x.pc).op (insAt f x.pc).a).toNat := rfl
 generalize popF p (insAt f x.pc) x = y at *
 generalize popL p (insAt f x.pc) x = l at *
 generalize popN p (insAt f x.pc) = n at *
 generalize insAt f x.pc = ii at *
 obtain ⟨op,ia,ib⟩ := ii
 simp only at hsh hi hpn hbd hpops ⊢
 have hsz7 := hRun.size
 have hbox := hRun.top.box
 have hbmc := hRun.bmc
 have hl0 := toNat_lt hlw 0
 have hl1 := toNat_lt hlw 1
 have h64 := sw2
 by_cases c1 : op = 1
 · subst c1
   rw [if_pos (by decide)]
   exact call_givesX hsz7 (fun _ _ => gives42 ia) fun w8 e8 => ⟨_,rfl,(hRun.ext e8).push1 hops rfl⟩
 rw [if_neg (by simpa using c1)]
 by_cases c2 : op = 2
 · subst c2
   rw [if_pos (by decide)]
   exact call_givesX hsz7 (fun _ _ => gives102 (hsh.1 rfl)) fun w8 e8 => ⟨_,rfl,(hRun.ext e8).push1 hops rfl⟩
 rw [if_neg (by simpa using c2)]
 have hL := hRun.top.pcs.each.1.L
 by_cases c3 : op = 3
 · subst c3
   rw [if_pos (by decide)]
   have hk := hsh.2.1 rfl
   have hll := hyin.locals
   obtain ⟨Lb,Lc,hLv,_,_⟩ := owns_some hL (by omega)
   refine ⟨_,hbox, ?_⟩
   simp only [caseP,bx_add]
   refine ⟨_,_,_,hRun.top.cells (j := 6) (by show some s'.L = _; rw [hLv]),_,rfl,by omega,by omega,y.locals.getD ia.toNat 0, ?_,hRun.push1 hops rfl⟩
   rw [own_add]
   rw [hLv] at hL
   refine owns_cell hL ?_
   unfold u64s
   rw [List.getElem?_map,List.getElem?_eq_getElem (show ia.toNat < y.locals.length by omega),List.getD,List.getElem?_eq_getElem (show ia.toNat < y.locals.length by omega)]
   rfl
 rw [if_neg (by simpa using c3)]
 by_cases c4 : op = 4
 · subst c4
   rw [if_pos (by decide)]
   have hn1 : n = 1 := hpops
   subst hn1
   have hk := hsh.2.1 rfl
   have hll := hyin.locals
   obtain ⟨Lb,Lc,hLv,_,_⟩ := owns_some hL (by omega)
   obtain ⟨q,hq,hc⟩ := hRun.arg (i := 0) (by omega)
   refine ⟨_,hbox, ?_⟩
   simp only [caseP,bx_add]
   refine ⟨_,_,_,hRun.top.cells (j := 6) (by show some s'.L = _; rw [hLv]),q,hq,by omega,by omega,_,hc,_,rfl,by omega,by omega, ?_⟩
   have hset := hRun.setLoc (i := ia.toNat) (u := l.getD 0 0) hLv (by omega)
   rw [hLv] at hL
   simp only [own_add,bx_add,Nat.add_zero,Nat.zero_add]
   refine ⟨⟨_,owns_cell hL (i := ia.toNat) (by unfold u64s; rw [List.getElem?_map,List.getElem?_eq_getElem (show ia.toNat < y.locals.length by omega)]; rfl)⟩,owns_frozen hL _,hset.ret rfl⟩
 rw [if_neg (by simpa using c4)]
 by_cases c9 : op = 9
 · subst c9
   rw [if_pos (by decide)]
   have hn1 : n = 1 := hpops
   subst hn1
   obtain ⟨q,hq,hc⟩ := hRun.arg (i := 0) (by omega)
   refine ⟨q,hq,by omega,by omega,_,hc, ?_⟩
   rw [← nat_word hlw 0]
   exact call_givesX hsz7 (fun _ _ => gives103 (by omega)) fun w8 e8 => ⟨_,rfl,(hRun.ext e8).push1 hops rfl⟩
 rw [if_neg (by simpa using c9)]
 by_cases c10 : op = 10
 · subst c10
   rw [if_pos (by decide)]
   have hn1 : n = 1 := hpops
   subst hn1
   obtain ⟨q,hq,hc⟩ := hRun.arg (i := 0) (by omega)
   refine ⟨q,hq,by omega,by omega,_,hc, ?_⟩
   rw [← nat_word hlw 0]
   exact call_givesX hsz7 (fun _ _ => gives104 (by omega)) fun w8 e8 => ⟨_,rfl,(hRun.ext e8).push1 hops rfl⟩
 rw [if_neg (by simpa using c10)]
 by_cases c15 : op = 15
 · subst c15
   rw [if_pos (by decide)]
   refine ⟨_,hbox, ?_⟩
   simp only [caseP,bx_add,Nat.add_zero]
   exact ⟨⟨_,hRun.top.cells (j := 1) rfl⟩,hRun.top.fr _,(hRun.setNum (x' := { y with pc := ia }) (hRun.num rfl rfl rfl) (j := 1) (v := .int .i64 ia) (by omega) rfl).ret rfl⟩
 rw [if_neg (by simpa using c15)]
 by_cases c16 : op = 16
 · subst c16
   rw [if_pos (by decide)]
   have hn1 : n = 1 := hpops
   subst hn1
   obtain ⟨q,hq,hc⟩ := hRun.arg (i := 0) (by omega)
   refine ⟨q,hq,by omega,by omega,_,hc, ?_⟩
   have hact : actM p m f ⟨16,ia,ib⟩ l y r = { m with frames := (if trF (l.getD 0 0).toNat = true then { y with pc := ia } else y) :: r } := rfl
   rw [hact, ← nat_word hlw 0]
   refine call_givesX hsz7 (fun _ _ => gives105 (l.getD 0 0).toNat) fun w8 e8 => ⟨_,rfl, ?_⟩
   have h8' := hRun.ext e8
   rw [Int.toNat_natCast]
   cases htf : trF (l.getD 0 0).toNat with
   | true =>
     rw [if_pos rfl,if_pos rfl]
     refine ⟨_,h8'.top.box, ?_⟩
     simp only [caseP,bx_add,Nat.add_zero]
     exact ⟨⟨_,h8'.top.cells (j := 1) rfl⟩,h8'.top.fr _,(h8'.setNum (x' := { y with pc := ia }) (h8'.num rfl rfl rfl) (j := 1) (v := .int .i64 ia) (by omega) rfl).ret rfl⟩
   | false =>
     rw [if_neg (by simp),if_neg (by simp)]
     exact h8'.ret rfl
 rw [if_neg (by simpa using c16)]
 by_cases c17 : op = 17
 · subst c17
   rw [if_pos (by decide)]
   have ha := hsh.2.2.2.1 rfl
   obtain ⟨gd,hgd⟩ := fnAt_in ha.1 ha.2
   have hgs := sized_bd (hr.sized gd (fnAt_mem hgd).1)
   have hpar : ((n : Nat) : Int) ≤ gd.locals := by
     have e : popsM p 17 ia = gd.params := by
       unfold popsM
       rw [show (rowT 17).2.1 = -1 by rfl,if_pos (by omega),paramsM_in (by omega) (fnAt_mem hgd).2.2.1,if_neg (by omega)]
     omega
   refine ⟨_,hbmc, ?_⟩
   simp only [caseP]
   refine call_mach (m' := enterM p (topM m (y :: r)) ia l false) hsz7 hRun.top.at_ (fun w8 e8 h8' => turns77 hr h8' (by show (_ :: r).length ≤ _; simp only [List.length_cons]; omega) hgd (RowAt.keep (NumE.kept .u64) hRun.nums (ext_keeps e8)) hpar false) fun w8 F' T' ss' h8' e8 hf8 => ⟨rfl, ?_⟩
   refine mach_ret (m' := actM p m f ⟨17,ia,ib⟩ l y r) (e8.chg hRun.chg fun k hk hk' => (hRun.foot k hk').elim id fun h => absurd hk (by omega)) h8' fun k hk => ?_
   rcases hf8 k hk with h1 | h1
   · exact hRun.foot k h1
   · exact .inr (Nat.le_trans hsz7 h1)
 rw [if_neg (by simpa using c17)]
 have stop : ∀ {k : Int} {v : Int} {w8 : World} {m8 : Mach} {y8 : Frm} {s8 : Sl} {T8 : Value},RunAt w (FootT g G cap r T (s :: t)) w8 B g C c p m8 T8 y8 r s8 t G cap ⟨bx,0,none⟩ ⟨bm,0,none⟩ LA n lc l → ∀ {m' : Mach},topM m8 ({ y8 with value := v,mode := k } :: r) = m' →
     (∃ u,w8.cell? ⟨G,r.length * 8 + 4,none⟩ = some u) ∧ w8.frozen? ⟨G,r.length * 8 + 4,none⟩ = false ∧
     (w8.setCell ⟨G,r.length * 8 + 4,none⟩ (.int .u64 v)).cell? ⟨bx,0,none⟩ = some (.pointer (some ⟨G,r.length * 8,none⟩)) ∧
     (∃ u,(w8.setCell ⟨G,r.length * 8 + 4,none⟩ (.int .u64 v)).cell? ⟨G,r.length * 8 + 2,none⟩ = some u) ∧ (w8.setCell ⟨G,r.length * 8 + 4,none⟩ (.int .u64 v)).frozen? ⟨G,r.length * 8 + 2,none⟩ = false ∧
     Ret w.heap.size ((w8.setCell ⟨G,r.length * 8 + 4,none⟩ (.int .u64 v)).setCell ⟨G,r.length * 8 + 2,none⟩ (.int .i64 k)) (R42 w (FootT g G cap r T (s :: t)) B g C c p (.slice (some ⟨G,0,none⟩) (r.length + 1) cap) T (s :: t) m' (.tuple ⟨[]⟩)) := fun {k v w8 m8 y8 s8 T8} h8 {m'} hm' => by
   have a1 := h8.setNum (x' := { y8 with value := v }) (h8.num rfl rfl rfl) (j := 4) (v := .int .u64 v) (by omega) rfl
   have a2 := a1.setNum (x' := { y8 with value := v,mode := k }) (a1.num rfl rfl rfl) (j := 2) (v := .int .i64 k) (by omega) rfl
   exact ⟨⟨_,h8.top.cells (j := 4) rfl⟩,h8.top.fr _,a1.top.box,⟨_,a1.top.cells (j := 2) rfl⟩,a1.top.fr _,a2.ret hm'⟩
 by_cases c18 : op = 18
 · subst c18
   rw [if_pos (by decide)]
   have hn1 : n = 1 := hpops
   subst hn1
   obtain ⟨q,hq,hc⟩ := hRun.arg (i := 0) (by omega)
   refine ⟨_,hbox, ?_⟩
   simp only [caseP]
   refine ⟨_,hbox, ?_⟩
   simp only [caseP,bx_add,Nat.add_zero]
   exact ⟨q,hq,by omega,by omega,_,hc,stop hRun rfl⟩
 rw [if_neg (by simpa using c18)]
 by_cases c20 : op = 20
 · subst c20
   rw [if_pos (by decide)]
   have hn1 : n = 1 := hpops
   subst hn1
   obtain ⟨q,hq,hc⟩ := hRun.arg (i := 0) (by omega)
   refine ⟨_,hbox, ?_⟩
   simp only [caseP]
   refine ⟨_,hbox, ?_⟩
   simp only [caseP,bx_add,Nat.add_zero]
   exact ⟨q,hq,by omega,by omega,_,hc,stop hRun rfl⟩
 rw [if_neg (by simpa using c20)]
 by_cases c19 : op = 19
 · subst c19
   rw [if_pos (by decide)]
   have hln : l.length = n := hpl
   have hyd4 : y.dfs.length ≤ 4 := by rw [hydfs]; exact hd4
   have hDr := hRun.top.pcs.each.1.D
   obtain ⟨D,dc,hDv⟩ := owns_slice0 hDr
   have c5 := hRun.top.cells (j := 5) (v := .slice D y.dfs.length dc) (by show some s'.D = _; rw [hDv])
   refine ⟨_,hbox, ?_⟩
   simp only [caseP,bx_add,Nat.add_zero]
   refine ⟨_,_,_,c5, ?_⟩
   by_cases h4 : y.dfs.length = 4
   · rw [if_pos (by rw [h4]; rfl)]
     have hact : actM p m f ⟨19,ia,ib⟩ l y r = { m with frames := (if y.dfs.length = 4 then { y with value := (oddN 1 : Nat),mode := 2 } else { y with dfs := y.dfs ++ [⟨ia,l⟩] }) :: r } := rfl
     rw [hact,if_pos h4]
     refine ⟨_,hbox, ?_⟩
     simp only [caseP]
     refine ⟨_,hbox, ?_⟩
     simp only [caseP,bx_add,Nat.add_zero]
     refine call_givesX hsz7 (fun _ _ => gives102 (n := 1) (by omega)) fun w8 e8 => ?_
     have h8 := hRun.ext e8
     exact ⟨_,rfl,h8.top.box,h8.top.box,stop h8 rfl⟩
   · rw [if_neg (by simp; omega)]
     have hact : actM p m f ⟨19,ia,ib⟩ l y r = { m with frames := (if y.dfs.length = 4 then { y with value := (oddN 1 : Nat),mode := 2 } else { y with dfs := y.dfs ++ [⟨ia,l⟩] }) :: r } := rfl
     rw [hact,if_neg h4]
     refine ⟨_,hbox, ?_⟩
     simp only [caseP]
     refine ⟨_,hbox, ?_⟩
     simp only [caseP,bx_add,Nat.add_zero]
     refine ⟨_,_,_,c5, ?_⟩
     refine expo_alloc hsz7 fun w8 w9 hs8 e9 hlt9 ho9 => ?_
     have hR9 := hRun.ext e9
     have hF9 := hR9.top.pcs.each.1
     have hDr9 := hF9.D
     rw [hDv] at hDr9
     have hB9 : B ≤ w9.heap.size := Nat.le_trans hRun.low hR9.size
     have hb : Tryz.t149.bytes = 32 := by kernel_rfl
     refine ⟨hR9.top.cells (j := 5) (by show some s'.D = _; rw [hDv]),hR9.top.box,hR9.top.box, ?_⟩
     refine append_own (t := 97) (e := 149) (i := Tryz.t149) (z := .agg ⟨[.int .i64 0,.slice none 0 0]⟩) (size := 2) (bytes := 32) (by kernel_rfl) (by kernel_rfl) (by kernel_rfl) (by kernel_rfl) hb rfl (by omega) hDr9 (m := 1) (news := [.int .i64 ia,.slice LA n lc]) rfl (fun j v hj => ?_) (fun v hv => ?_) (by simp only [maxLen]; omega) (by omega) hR9.size hB9 fun D' w10 he ho' hn => ?_
     · rw [own_add]; exact at_cell ho9 hj
     · simp only [List.mem_cons,List.not_mem_nil,or_false] at hv
       rcases hv with rfl | rfl <;> rfl
     have hap := hR9.top.pcs.apart.1
     have hc1 := chg1_exts he hDr9
     have hargl := hF9.args.len
     have hlr := hR9.row
     have hinD : ∀ k,(Value.slice D y.dfs.length dc).ownBlock = some k → InSl s' k := fun k hk => .inl (by rw [hDv]; exact hk)
     have hinDF : ∀ k,(Value.slice D y.dfs.length dc).ownBlock = some k → FootT g G cap r T (s' :: t) k := fun k hk => .inr (.inr (.inr ⟨s',List.mem_cons_self,hinD k hk⟩))
     obtain ⟨D2,dc2,hD2⟩ := owns_slice0 ho'
     have hrow10 : w10.ownsRow B 55 1 (.slice LA n lc) l.length (u64s l) := by rw [hln]; exact owns_down (hc1.ownT hlr (by decide)) hRun.low
     have hx10 : FrmM w10 B { y with dfs := y.dfs ++ [⟨ia,l⟩] } { s' with D := D',args := s'.args ++ [.slice LA n lc] } := by
       refine ⟨?_,ArgsM.app hrow10 (hF9.args.same fun a ha k hk => ?_),hc1.ownT hF9.L (by decide),hc1.ownT hF9.O (by decide)⟩
       · show w10.ownsRow B 149 2 D' (y.dfs ++ [_]).length (dfrsC (y.dfs ++ [_]) (s'.args ++ [_]))
         rw [dfrsC_app hargl,List.length_append]
         exact ho'
       · obtain ⟨_,cc,ff,hh⟩ := hF9.args.ty a ha k hk
         exact hc1.same (fun e => by obtain ⟨c2,f2,h2⟩ := hc1.typ k e; rw [hh] at h2; cases h2) hh
     have hnew10 : ∀ k,InSl { s' with D := D',args := s'.args ++ [.slice LA n lc] } k → InSl s' k ∨ ¬ InSls t k := fun k hk => by
       rcases hk with hk | hk | hk | ⟨a,ha,hk⟩
       · rcases hn k hk with h1 | h1
         · exact .inl (hinD k h1)
         · exact .inr fun ht => by have := (hR9.top.at_.ty (k := k) (.inr (.inr (.inr (by obtain ⟨u,hu,hk⟩ := ht; exact ⟨u,List.mem_cons_of_mem _ hu,hk⟩))))).2.1; omega
       · exact .inl (.inr (.inl hk))
       · exact .inl (.inr (.inr (.inl hk)))
       · rcases List.mem_append.1 ha with ha | ha
         · exact .inl (.inr (.inr (.inr ⟨a,ha,hk⟩)))
         · rw [List.mem_singleton] at ha; subst ha
           exact .inr fun ht => hRun.out k hk (.inr (.inr (.inr (by obtain ⟨u,hu,hk⟩ := ht; exact ⟨u,List.mem_cons_of_mem _ hu,hk⟩))))
     have hap10 : ApSl { s' with D := D',args := s'.args ++ [.slice LA n lc] } := ⟨hap.LO,fun a ha k hk e => by
       rcases List.mem_append.1 ha with ha | ha
       · exact hap.LA a ha k hk e
       · rw [List.mem_singleton] at ha; subst ha
         exact hRun.out k hk (.inr (.inr (.inr ⟨s',List.mem_cons_self,.inr (.inl e)⟩))),fun a ha k hk e => by
       rcases List.mem_append.1 ha with ha | ha
       · exact hap.OA a ha k hk e
       · rw [List.mem_singleton] at ha; subst ha
         exact hRun.out k hk (.inr (.inr (.inr ⟨s',List.mem_cons_self,.inr (.inr (.inl e))⟩)))⟩
     have hfoot10 : ∀ k,FootT g G cap r T ({ s' with D := D',args := s'.args ++ [.slice LA n lc] } :: t) k → (FootT g G cap r T (s' :: t) k ∨ (Value.slice LA n lc).ownBlock = some k) ∨ w9.heap.size ≤ k := fun k hk => by
       rcases hk with hk | hk | hk | ⟨u,hu,hk⟩
       · exact .inl (.inl (.inl hk))
       · exact .inl (.inl (.inr (.inl hk)))
       · exact .inl (.inl (.inr (.inr (.inl hk))))
       · rcases List.mem_cons.1 hu with rfl | hu
         · rcases hk with hk | hk | hk | ⟨a,ha,hk⟩
           · exact (hn k hk).imp (fun h1 => .inl (hinDF k h1)) id
           · exact .inl (.inl (.inr (.inr (.inr ⟨s',List.mem_cons_self,.inr (.inl hk)⟩))))
           · exact .inl (.inl (.inr (.inr (.inr ⟨s',List.mem_cons_self,.inr (.inr (.inl hk))⟩))))
           · rcases List.mem_append.1 ha with ha | ha
             · exact .inl (.inl (.inr (.inr (.inr ⟨s',List.mem_cons_self,.inr (.inr (.inr ⟨a,ha,hk⟩))⟩))))
             · rw [List.mem_singleton] at ha; subst ha
               exact .inl (.inr hk)
         · exact .inl (.inl (.inr (.inr (.inr ⟨u,List.mem_cons_of_mem _ hu,hk⟩))))
     have hP10 := (hPO.keep (S' := fun k => FootT g G cap r T (s' :: t) k ∨ (Value.slice LA n lc).ownBlock = some k) (keepsOff_ext e9) fun k hk => .inl hk).keep ((keepsOff_exts he).mono fun k hk => .inl (hinDF k hk)) hfoot10
     have hM10 := hR9.top.at_.setTopX hR9.top.fs hc1 hinD (by decide) (by decide) (by decide) hx10 hnew10 hap10 hP10 (j := 5) (v := D') (by omega) rfl
     have hG10 := hc1.ownT hR9.top.pcs.frames (by decide)
     have hlen9 : t.length = r.length := by have := hR9.top.pcs.len; simpa using this
     have hcell5 : w10.cell? ⟨G,r.length * 8 + 5,none⟩ = some (.slice D y.dfs.length dc) := owns_cell hG10 (stackC_top hlen9 (j := 5) (by show some s'.D = _; rw [hDv]))
     have hbox10 : w10.cell? ⟨bx,0,none⟩ = some (.pointer (some ⟨G,r.length * 8,none⟩)) := he.cell hR9.top.box fun hk => hR9.top.out (hinDF _ hk)
     subst hD2
     refine ⟨D2,_,dc2,rfl,hbox10,⟨_,hcell5⟩,owns_frozen hG10 _, ?_⟩
     refine mach_ret ((he.chg hR9.chg fun k hk hk' => (hR9.foot k (hinDF k hk')).elim id fun h => absurd hk (by omega)).setCell _ fun hlt => (hR9.foot G (.inr (.inl rfl))).elim id fun h => absurd hlt (by show ¬ G < _; omega)) hM10 fun k hk => ?_
     rcases hfoot10 k hk with (h1 | h1) | h1
     · exact hR9.foot k h1
     · exact .inr (hRun.row.lt k h1).1
     · exact .inr (Nat.le_trans hR9.size h1)
 rw [if_neg (by simpa using c19)]
 by_cases c21 : op = 21
 · subst c21
   rw [if_pos (by decide)]
   have hchain := ho.chain
   rw [hm] at hchain
   have hval : ∀ u ∈ r,0 ≤ u.value := fun u hu => (ho.frames u (by rw [hm]; exact List.mem_cons_of_mem _ hu)).wd.value.1
   refine ⟨_,hbmc, ?_⟩
   simp only [caseP]
   refine call_turnsS (S := FootT g G cap r T (s' :: t)) (Q := fun w1 => RecQ w1 B g C c p (.slice (some ⟨G,0,none⟩) (r.length + 1) cap) T (s' :: t) (recMach (topM m (y :: r)) y r) (recW y r)) hsz7 (fun k hk => (hRun.top.at_.ty hk).2.2)
     (fun w8 e8 => turns123 (hRun.top.ext e8).at_ rfl (hchain.top hyd) hval (by omega) htr) fun w8 u w9 w10 hs8 hQ hsame he => ?_
   obtain ⟨⟨A2,rfl,ho2⟩,T1,hm1,hf1⟩ := hQ
   have hsm : ∀ k,FootT g G cap r T1 (s' :: t) k → w10.heap[k]? = w9.heap[k]? := fun k hk => hsame k (hf1 k hk)
   have hf' : ∀ k,FootT g G cap r T1 (s' :: t) k → FootT g G cap r T (s' :: t) k ∨ w7.heap.size ≤ k := fun k hk => (hf1 k hk).imp id fun h => Nat.le_trans hs8 h
   have hrl : (recR y r).length = r.length := by
     cases r with
     | nil => rfl
     | cons u r' => simp only [recR]; split <;> rfl
   have hfr : (recMach (topM m (y :: r)) y r).frames = y :: recR y r := by
     cases r with
     | nil => rfl
     | cons u r' =>
       by_cases hc : y.dfd = true ∧ u.mode = 2
       · simp only [recMach,recR]; rw [if_pos hc,if_pos hc]
       · simp only [recMach,recR]; rw [if_neg hc,if_neg hc]; rfl
   have hfin : topM (recMach (topM m (y :: r)) y r) (pushF y (recW y r) :: recR y r) = actM p m f ⟨21,ia,ib⟩ l y r := by
     show _ = recvM m y r
     cases r with
     | nil => rfl
     | cons u r' =>
       by_cases hc : y.dfd = true ∧ u.mode = 2
       · simp only [recMach,recR,recW,recvM]; rw [if_pos hc,if_pos hc,if_pos hc,if_pos hc]; rfl
       · simp only [recMach,recR,recW,recvM]; rw [if_neg hc,if_neg hc,if_neg hc,if_neg hc]; rfl
   have hFT : FootT g G cap (recR y r) T1 (s' :: t) = FootT g G cap r T1 (s' :: t) := by unfold FootT; rw [hrl]
   have hM10 : MachAt w10 B g C c p (recMach (topM m (y :: r)) y r) (.slice (some ⟨G,0,none⟩) (r.length + 1) cap) T1 (s' :: t) :=
     ⟨hm1.base,by rw [hsm g (.inl rfl)]; exact hm1.head,hm1.pcs.same fun k hk => hsm k (.inr hk),hRun.top.at_.prog.keep (keepsOff_exts he) hf'⟩
   have hR10 : RunAt w (FootT g G cap r T (s :: t)) w10 B g C c p (recMach (topM m (y :: r)) y r) T1 y (recR y r) s' t G cap ⟨bx,0,none⟩ ⟨bm,0,none⟩ LA n lc l := by
     refine ⟨⟨by rw [hrl]; exact hM10,hfr,by rw [hrl]; exact he.cell hbox hRun.top.out,fun hk => ?_⟩,he.cell hbmc hRun.bmo,fun hk => ?_,he.chg hRun.chg fun k hk hk' => (hRun.foot k hk').elim id fun h => absurd hk (by omega),fun k hk => ?_,hRun.low,he.owns hRun.row hRun.out,fun k hk hk' => ?_,hRun.few⟩
     · have hk : FootT g G cap (recR y r) T1 (s' :: t) bx := hk
       rw [hFT] at hk
       rcases hf' _ hk with h1 | h1
       · exact hRun.top.out h1
       · have := cell_lt hbox; simp only at this; omega
     · rw [hFT] at hk
       rcases hf' _ hk with h1 | h1
       · exact hRun.bmo h1
       · have := cell_lt hbmc; simp only at this h1; omega
     · rw [hFT] at hk
       rcases hf' _ hk with h1 | h1
       · exact hRun.foot k h1
       · exact .inr (Nat.le_trans hsz7 h1)
     · rw [hFT] at hk'
       rcases hf' _ hk' with h1 | h1
       · exact hRun.out k hk h1
       · have := (hRun.row.lt k hk).2; omega
   have hw10 : Nums .u64 w10 A2 2 (recW y r) := ownsU_nums (owns_other ho2 fun k hk => hsame k (.inr (ho2.lt k hk).1)) (by omega)
   exact ⟨A2,_,_,rfl,hR10.push hw10 (by omega) hops hfin⟩
 rw [if_neg (by simpa using c21)]
 by_cases c22 : op = 22
 · subst c22
   rw [if_pos (by decide)]
   have hn1 : n = 1 := hpops
   subst hn1
   obtain ⟨q,hq,hc⟩ := hRun.arg (i := 0) (by omega)
   refine ⟨_,hbmc, ?_⟩
   simp only [caseP]
   refine ⟨q,hq,by omega,by omega,_,hc, ?_⟩
   rw [← nat_word hlw 0]
   refine call_machT (m' := markM (topM m (y :: r)) 1 (l.getD 0 0).toNat) hsz7 hRun.top.at_ (fun w8 e8 h8' => turns124 h8' 1 _ htr) fun w8 T8 h8' e8 hf8 => ⟨rfl, ?_⟩
   refine mach_ret (m' := actM p m f ⟨22,ia,ib⟩ l y r) (e8.chg hRun.chg fun k hk hk' => (hRun.foot k hk').elim id fun h => absurd hk (by omega)) h8' fun k hk => ?_
   rcases hf8 k hk with h1 | h1
   · exact hRun.foot k h1
   · exact .inr (Nat.le_trans hsz7 h1)
 rw [if_neg (by simpa using c22)]
 by_cases c23 : op = 23
 · subst c23
   rw [if_pos (by decide)]
   have hk := hsh.2.2.2.2.1 rfl
   refine ⟨_,hbmc, ?_⟩
   simp only [caseP,own_add,bx_add,Nat.add_zero]
   have hwr : IntKind.wrap .u64 (m.refs + 1) = m.refs + 1 := by have h1 := ho.refs; rw [show m.refs + 1 = (((m.refs + 1).toNat : Nat) : Int) by omega]; exact wrapu (by have := sw2; omega)
   refine ⟨m.refs,hRun.top.at_.cell (i := 5) rfl,⟨_,hRun.top.at_.cell (i := 5) rfl⟩,hRun.top.at_.frozen 5, ?_⟩
   rw [hwr]
   have a1 := hRun.setHead (i := 5) (v := .int .u64 (m.refs + 1)) (m' := { topM m (y :: r) with refs := m.refs + 1 }) rfl rfl rfl
   refine ⟨_,a1.bmc, ?_⟩
   simp only [caseP,own_add,bx_add,Nat.add_zero]
   refine ⟨m.refs + 1,a1.top.at_.cell (i := 5) rfl, ?_⟩
   obtain ⟨Lb,Lc,hLv,_⟩ := gives122 a1.top a1.bmc hyin hsz hk
   refine call_givesX a1.size (fun w8 e8 => by
     obtain ⟨Lb',Lc',hLv',h64'⟩ := gives122 (a1.ext e8).top (a1.ext e8).bmc hyin hsz hk
     rw [hLv] at hLv'; cases hLv'
     exact h64') fun w8 e8 => ⟨_,rfl, ?_⟩
   simp only [caseP,own_add,bx_add,Nat.add_zero]
   have a2 := a1.ext e8
   obtain ⟨hrb,_⟩ := refAt_bd (y := y) hsz hyin.locals hk
   have hL2 := a2.top.pcs.each.1.L
   have a3 := a2.setLoc (i := refAt f y ia) (u := m.refs + 1) hLv hrb
   rw [hLv] at hL2
   exact ⟨a2.top.at_.cell (i := 5) rfl,a2.bmc,⟨_,owns_cell hL2 (i := refAt f y ia) (by unfold u64s; rw [List.getElem?_map,List.getElem?_eq_getElem hrb]; rfl)⟩,owns_frozen hL2 _,a3.ret rfl⟩
 rw [if_neg (by simpa using c23)]
 by_cases c24 : op = 24
 · subst c24
   rw [if_pos (by decide)]
   obtain ⟨hk,hk2⟩ := hsh.2.2.2.2.2.1 rfl
   obtain ⟨Lb,Lc,hLv,_⟩ := gives122 hRun.top hRun.bmc hyin hsz hk
   refine call_givesX hsz7 (fun w8 e8 => by
     obtain ⟨Lb',Lc',hLv',h64'⟩ := gives122 (hRun.ext e8).top (hRun.ext e8).bmc hyin hsz hk
     rw [hLv] at hLv'; cases hLv'
     exact h64') fun w8 e8 => ⟨_,rfl, ?_⟩
   simp only [caseP]
   have a1 := hRun.ext e8
   refine call_givesX a1.size (fun w9 e9 => by
     obtain ⟨Lb',Lc',hLv',h64'⟩ := gives122 (a1.ext e9).top (a1.ext e9).bmc hyin hsz hk2
     rw [hLv] at hLv'; cases hLv'
     exact h64') fun w9 e9 => ⟨_,rfl, ?_⟩
   simp only [caseP,bx_add,Nat.add_zero]
   have a2 := a1.ext e9
   obtain ⟨hrb,_⟩ := refAt_bd (y := y) hsz hyin.locals hk
   obtain ⟨hrb2,_⟩ := refAt_bd (y := y) hsz hyin.locals hk2
   have hL2 := a2.top.pcs.each.1.L
   have a3 := a2.setLoc (i := refAt f y ia) (u := y.locals.getD (refAt f y ib) 0) hLv hrb
   rw [hLv] at hL2
   refine ⟨_,owns_cell hL2 (i := refAt f y ib) (u := .int .u64 (y.locals.getD (refAt f y ib) 0)) (by unfold u64s; rw [List.getElem?_map,List.getElem?_eq_getElem hrb2,List.getD,List.getElem?_eq_getElem hrb2]; rfl),⟨_,owns_cell hL2 (i := refAt f y ia) (by unfold u64s; rw [List.getElem?_map,List.getElem?_eq_getElem hrb]; rfl)⟩,owns_frozen hL2 _,a3.ret rfl⟩
 rw [if_neg (by simpa using c24)]
 by_cases c25 : op = 25
 · subst c25
   rw [if_pos (by decide)]
   have hk := hsh.2.2.2.2.1 rfl
   obtain ⟨Lb,Lc,hLv,_⟩ := gives122 hRun.top hRun.bmc hyin hsz hk
   refine call_givesX hsz7 (fun w8 e8 => by
     obtain ⟨Lb',Lc',hLv',h64'⟩ := gives122 (hRun.ext e8).top (hRun.ext e8).bmc hyin hsz hk
     rw [hLv] at hLv'; cases hLv'
     exact h64') fun w8 e8 => ⟨_,rfl, ?_⟩
   simp only [caseP,bx_add,Nat.add_zero]
   have a2 := hRun.ext e8
   obtain ⟨hrb,_⟩ := refAt_bd (y := y) hsz hyin.locals hk
   have hL2 := a2.top.pcs.each.1.L
   have a3 := a2.setLoc (i := refAt f y ia) (u := 0) hLv hrb
   rw [hLv] at hL2
   exact ⟨⟨_,owns_cell hL2 (i := refAt f y ia) (by unfold u64s; rw [List.getElem?_map,List.getElem?_eq_getElem hrb]; rfl)⟩,owns_frozen hL2 _,a3.ret rfl⟩
 rw [if_neg (by simpa using c25)]
 by_cases c26 : op = 26
 · subst c26
   rw [if_pos (by decide)]
   refine ⟨_,hbmc, ?_⟩
   simp only [caseP,own_add,bx_add,Nat.add_zero]
   exact ⟨⟨_,hRun.top.at_.cell (i := 4) rfl⟩,hRun.top.at_.frozen 4,(hRun.setHead (i := 4) (v := .bool true) (m' := { topM m (y :: r) with parked := true }) rfl rfl rfl).ret rfl⟩
 rw [if_neg (by simpa using c26)]
 by_cases c27 : op = 27
 · subst c27
   rw [if_pos (by decide)]
   exact hRun.ret rfl
 rw [if_neg (by simpa using c27)]
 have hv := hsh.2.2.2.2.2.2
 have hn2 : n = 2 := by
   have : popsM p op ia = 2 := by
     unfold popsM
     unfold rowT at hv ⊢
     rw [if_neg c1,if_neg c2,if_neg c3,if_neg c4] at hv ⊢
     by_cases h : op = 5 ∨ op = 6 ∨ op = 7 ∨ op = 8 ∨ op = 11 ∨ op = 12 ∨ op = 13 ∨ op = 14
     · rw [if_pos h]; rfl
     · rw [if_neg h,if_neg (by omega),if_neg c15,if_neg c16,if_neg c17,if_neg (by omega),if_neg c19,if_neg c21,if_neg (by omega),if_neg c24,if_neg c26] at hv
       cases hv
   omega
 subst hn2
 obtain ⟨q,hq,hc⟩ := hRun.arg (i := 0) (by omega)
 obtain ⟨q1,hq1,hc1⟩ := hRun.arg (i := 1) (by omega)
 have hact : actM p m f ⟨op,ia,ib⟩ l y r = { m with frames := pushF y [((twoN op (l.getD 0 0).toNat (l.getD 1 0).toNat : Nat) : Int)] :: r } := by
   unfold actM simM
   simp only
   rw [if_neg c17,if_neg c21,if_neg c22,if_neg c23,if_neg c24,if_neg c25,if_neg c26,if_neg c1,if_neg c2,if_neg c3,if_neg c4,if_neg c9,if_neg c10,if_neg c15,if_neg c16,if_neg c18,if_neg c20,if_neg c19,if_neg c27]
 rw [hact]
 refine ⟨q,hq,by omega,by omega,_,hc,q1,hq1,by omega,by omega,_,hc1, ?_⟩
 rw [← nat_word hlw 0, ← nat_word hlw 1]
 simp only [Int.toNat_natCast]
 exact call_givesX hsz7 (fun _ _ => gives107 (by omega) (by omega)) fun w8 e8 => ⟨_,rfl,(hRun.ext e8).push1 hops rfl⟩
end
end Go.Proofs.YtidcpndlloppdaaGreat
