import Derived.Test.YtidcpndlloppdaaGreatZM21h
/-
 Layer 21: leave.
 Conditions: the machine lies in memory as told.
-/
set_option linter.unusedVariables false
set_option linter.unusedSimpArgs false
set_option maxRecDepth 20000
namespace Go.Proofs.YtidcpndlloppdaaGreat
open Go.RowKit
theorem dfrsC_cut : ∀ {ds : List Dfr} {vs : List Value},vs.length = ds.length → (dfrsC ds vs).take ((ds.length - 1) * 2) = dfrsC ds.dropLast vs.dropLast
 | [],[],_ => rfl
 | [d],[a],_ => rfl
 | d :: e :: r,a :: b :: u,h => by
   have ih := dfrsC_cut (ds := e :: r) (vs := b :: u) (by simpa using h)
   have e1 : dfrsC (d :: e :: r) (a :: b :: u) = .int .i64 d.f :: a :: dfrsC (e :: r) (b :: u) := rfl
   have e2 : dfrsC (d :: e :: r).dropLast (a :: b :: u).dropLast = .int .i64 d.f :: a :: dfrsC (e :: r).dropLast (b :: u).dropLast := rfl
   rw [e1,e2, ← ih]
   have : ((d :: e :: r).length - 1) * 2 = ((e :: r).length - 1) * 2 + 2 := by simp only [List.length_cons]; omega
   rw [this]; rfl
 | [],_ :: _,h => by simp at h
 | _ :: _,[],h => by simp at h
 | [_],_ :: _ :: _,h => by simp at h
 | _ :: _ :: _,[_],h => by simp at h
theorem ArgsM.cut {w : World} {B : Nat} : ∀ {ds : List Dfr} {vs : List Value},ArgsM w B ds vs → ArgsM w B ds.dropLast vs.dropLast
 | [],[],_ => trivial
 | [d],[a],_ => trivial
 | d :: e :: r,a :: b :: u,h => ⟨h.1,ArgsM.cut h.2⟩
 | [],_ :: _,h => h.elim
 | _ :: _,[],h => h.elim
 | [_],_ :: _ :: _,h => h.2.elim
 | _ :: _ :: _,[_],h => h.2.elim
section
variable {w : World} {B g : Nat} {C : Option Addr} {c : Nat} {p : List Fnc} {m : Mach} {T : Value} {x : Frm} {r : List Frm} {s : Sl} {t : List Sl} {G cap : Nat}
theorem MachAt.pushed {w2 : World} {B0 n : Nat} {v' : Value} {ws : List Int} (h : MachAt w B g C c p m (.slice (some ⟨G,0,none⟩) (r.length + 1) cap) T (s :: t)) (hm : m.frames = x :: r) (he : ExtS B0 (fun k => s.O.ownBlock = some k) w w2) (hn : ws.length = n) (ho' : w2.ownsRow B 55 1 v' (x.ops.length + n) (u64s (x.ops ++ ws)))
   (hnw : ∀ k,v'.ownBlock = some k → s.O.ownBlock = some k ∨ w.heap.size ≤ k) :
   MachAt (w2.setCell ⟨G,r.length * 8 + 7,none⟩ v') B g C c p (topM m (pushF x ws :: r)) (.slice (some ⟨G,0,none⟩) (r.length + 1) cap) T ({ s with O := v' } :: t) ∧ (∀ k,InSl { s with O := v' } k → InSl s k ∨ w.heap.size ≤ k) ∧
   w2.cell? ⟨G,r.length * 8 + 7,none⟩ = some s.O ∧ w2.frozen? ⟨G,r.length * 8 + 7,none⟩ = false := by
 have hp := h.pcs
 rw [hm] at hp
 have hF := hp.each.1
 have hap := hp.apart.1
 have hl : t.length = r.length := by have := hp.len; simpa using this
 have hc := chg1_exts he hF.O
 have hinO : ∀ k,s.O.ownBlock = some k → InSl s k := fun k hk => .inr (.inr (.inl hk))
 have hk : KeepsOff (FootT g G cap r T (s :: t)) w w2 := (keepsOff_exts he).mono fun k hk => .inr (.inr (.inr ⟨s,List.mem_cons_self,hinO k hk⟩))
 have hlt : ∀ k,InSl s k → k < w.heap.size := fun k hk => (h.ty (.inr (.inr (.inr ⟨s,List.mem_cons_self,hk⟩)))).2.1
 have hnew : ∀ k,InSl { s with O := v' } k → InSl s k ∨ w.heap.size ≤ k := fun k hk => by
   rcases hk with hk | hk | hk | hk
   · exact .inl (.inl hk)
   · exact .inl (.inr (.inl hk))
   · rcases hnw k hk with hk | hk
     · exact .inl (hinO k hk)
     · exact .inr hk
   · exact .inl (.inr (.inr (.inr hk)))
 have hx' : FrmM w2 B (pushF x ws) { s with O := v' } := by
   refine ⟨hc.ownT hF.D (by decide),hF.args.same fun a ha k hk => ?_,hc.own hF.L fun k hk => ?_, ?_⟩
   · obtain ⟨_,cc,ff,hh⟩ := hF.args.ty a ha k hk
     exact hc.same (fun e => hap.OA a ha k hk e) hh
   · exact hap.LO k hk
   · show w2.ownsRow B 55 1 _ (x.ops ++ ws).length (u64s (x.ops ++ ws))
     rw [List.length_append,hn]
     exact ho'
 have hap' : ApSl { s with O := v' } := ⟨fun k hk e => by
   rcases hnw k e with e | e
   · exact hap.LO k hk e
   · have := hlt k (.inr (.inl hk)); omega,hap.LA,fun a ha k hk e => by
   rcases hnw k e with e | e
   · exact hap.OA a ha k hk e
   · have := hlt k (.inr (.inr (.inr ⟨a,ha,hk⟩))); omega⟩
 exact ⟨h.setTop hm hc hinO (by decide) (by decide) (by decide) hk hx' hnew hap' (j := 7) (by omega) rfl,hnew,owns_cell (hc.ownT hp.frames (by decide)) (stackC_top hl (j := 7) rfl),owns_frozen (hc.ownT hp.frames (by decide)) _⟩
set_option maxHeartbeats 4000000 in
theorem turns79 (hr : Rt p) (h : MachAt w B g C c p m (.slice (some ⟨G,0,none⟩) (r.length + 1) cap) T (s :: t)) (hm : m.frames = x :: r) (ho : MOk p m) (h0 : x.mode ≠ 0) (hlen : r.length ≤ 100000000) (htr : m.trace.length ≤ 1000000000) :
   MachT 79 [.pointer (some ⟨g,0,none⟩)] w B g C c p (.slice (some ⟨G,0,none⟩) (r.length + 1) cap) T (s :: t) (.tuple ⟨[]⟩) (leaveM p m x r) := by
 refine turns_of (V79.sound ?_)
 unfold V79.vc
 have hF := h.cell (i := 6) rfl
 have hp := h.pcs
 rw [hm] at hp
 have hl : t.length = r.length := by have := hp.len; simpa using this
 have cell : ∀ {j v},(frmC x s)[j]? = some v → w.cell? ⟨G,r.length * 8 + j,none⟩ = some v := fun hv => owns_cell hp.frames (stackC_top hl hv)
 have hxo := ho.frames x (by rw [hm]; exact List.mem_cons_self)
 obtain ⟨f,hx⟩ := hxo.inn
 obtain ⟨D,L,O,dc,lc,oc,hs⟩ := hp.each.1.sl
 have hd4 : x.dfs.length ≤ 4 := by have := hx.room; unfold roomM at this; split at this <;> omega
 simp only [own_add]
 refine ⟨_,_,_,hF,_,_,_,hF,_,rfl, ?_⟩
 rw [top_ix (by omega)]
 simp only [Int.toNat_natCast,own_add,bx_add,Nat.add_zero,Nat.zero_add]
 have d5 : w.cell? ⟨G,r.length * 8 + 5,none⟩ = some (.slice D x.dfs.length dc) := cell (j := 5) (by show some s.D = _; rw [hs.D])
 refine ⟨by omega,by omega,D,_,dc,d5, ?_⟩
 unfold leaveM
 cases hgl : x.dfs.getLast? with
 | some d =>
   simp only
   obtain ⟨hix,hpos⟩ := getLast_ix hgl
   rw [if_pos (by simpa using hpos),wrap_id (n := ((x.dfs.length : Nat) : Int) - 1) (by omega) (by omega)]
   have hDr := hp.each.1.D
   rw [hs.D] at hDr
   obtain ⟨gd,cd,hDv,_,_⟩ := owns_some hDr hpos
   cases hDv
   obtain ⟨a,ha,hao⟩ := hp.each.1.args.get hix
   obtain ⟨k1,k2⟩ := dfrsC_get hix ha
   obtain ⟨A,ac,hav⟩ := owns_slice0 hao
   subst hav
   have hc1 := owns_cell hDr k1
   have hc2 := owns_cell hDr k2
   have hidx : (((x.dfs.length : Nat) : Int) - 1).toNat = x.dfs.length - 1 := by omega
   rw [hidx]
   simp only [own_add,bx_add,Nat.add_zero,Nat.zero_add,Nat.sub_zero]
   obtain ⟨hcut,hcap⟩ := owns_cut hDr (k := x.dfs.length - 1) (by omega)
   refine ⟨_,_,_,d5,_,rfl,by omega,by omega,d.f,by simp only [own_add,bx_add,Nat.add_zero,Nat.zero_add]; exact hc1,A,_,ac,by simp only [own_add,bx_add,Nat.add_zero,Nat.zero_add]; exact hc2,fun q1 _ => ⟨_,_,_,d5,by omega,by omega,⟨_,d5⟩,owns_frozen hp.frames _, ?_⟩⟩
   have hcutv : (if dc = 0 then some (⟨gd,0,none⟩ : Addr) else Option.map (fun a : Addr => a.add 0) (some ⟨gd,0,none⟩)) = some ⟨gd,0,none⟩ := slice_cut _ _
   simp only [Nat.zero_mul,hcutv]
   have hargl := hp.each.1.args.len
   rw [dfrsC_cut hargl] at hcut
   have hdl : x.dfs.dropLast.length = x.dfs.length - 1 := by simp
   have hx1 : FrmM w B { x with dfs := x.dfs.dropLast } { s with D := .slice (some ⟨gd,0,none⟩) (x.dfs.length - 1) dc,args := s.args.dropLast } :=
     ⟨by show w.ownsRow B 149 2 _ x.dfs.dropLast.length _; rw [hdl]; exact hcut,hp.each.1.args.cut,hp.each.1.L,hp.each.1.O⟩
   have hnew : ∀ k,InSl { s with D := .slice (some ⟨gd,0,none⟩) (x.dfs.length - 1) dc,args := s.args.dropLast } k → InSl s k ∨ w.heap.size ≤ k := fun k hk => by
     rcases hk with hk | hk | hk | ⟨a,ha,hk⟩
     · exact .inl (.inl (by rw [hs.D]; exact hk))
     · exact .inl (.inr (.inl hk))
     · exact .inl (.inr (.inr (.inl hk)))
     · exact .inl (.inr (.inr (.inr ⟨a,List.dropLast_subset _ ha,hk⟩)))
   have hap := hp.apart.1
   have h1 := h.setTop hm (Chg1.refl 0 w) (fun k hk => by cases hk) (by decide) (by decide) (by decide) (fun q v hq _ => hq) hx1 hnew ⟨hap.LO,fun a ha => hap.LA a (List.dropLast_subset _ ha),fun a ha => hap.OA a (List.dropLast_subset _ ha)⟩ (j := 5) (v := .slice (some ⟨gd,0,none⟩) (x.dfs.length - 1) dc) (by omega) rfl
   have hchg1 : Chg (FootT g G cap r T (s :: t)) w (w.setCell ⟨G,r.length * 8 + 5,none⟩ (.slice (some ⟨gd,0,none⟩) (x.dfs.length - 1) dc)) := (Chg.refl _ _).setCell _ fun _ => .inr (.inl rfl)
   obtain ⟨_,ccG,ffG,hGty⟩ := owns_ty hp.frames (k := G) rfl
   have hargs : Nums .u64 (w.setCell ⟨G,r.length * 8 + 5,none⟩ (.slice (some ⟨gd,0,none⟩) (x.dfs.length - 1) dc)) A d.args.length d.args :=
     ownsU_nums ((chg1_set hGty).ownT hao (by decide)) (by
       have := hx.dfs d (List.mem_of_getElem? hix)
       unfold dfrM at this
       split at this
       · rename_i fd hfd
         have hb := sized_bd (hr.sized fd (fnAt_mem hfd).1)
         have : (d.args.length : Int) = fd.params := by simpa using this
         omega
       · cases this)
   obtain ⟨fd,hfd⟩ : ∃ fd,fnAt p d.f = some fd := by
     have := hx.dfs d (List.mem_of_getElem? hix)
     unfold dfrM at this
     split at this
     · exact ⟨_,by assumption⟩
     · cases this
   have hpar : ((d.args.length : Nat) : Int) ≤ fd.locals := by
     have := hx.dfs d (List.mem_of_getElem? hix)
     unfold dfrM at this
     rw [hfd] at this
     have e : (d.args.length : Int) = fd.params := by simpa using this
     have hb := sized_bd (hr.sized fd (fnAt_mem hfd).1)
     omega
   refine call_mach (m' := enterM p (topM m ({ x with dfs := x.dfs.dropLast } :: r)) d.f d.args true) (by simp only [World.size_setCell]; exact Nat.le_refl _) h1 (fun w2 e2 h2 => turns77 hr h2 (by show (_ :: r).length ≤ _; simp only [List.length_cons]; omega) hfd (RowAt.keep (NumE.kept .u64) hargs (ext_keeps e2)) hpar true) fun w2 F' T' ss' h2 e2 hf2 => ⟨rfl, ?_⟩
   refine mach_ret (m' := { m with frames := newF p d.f d.args true :: { x with dfs := x.dfs.dropLast } :: r }) (e2.chg hchg1 fun k hk hk' => ?_) h2 fun k hk => ?_
   · rcases foot_top hnew hk' with h | h
     · exact h
     · omega
   · rcases hf2 k hk with h | h
     · exact foot_top hnew h
     · exact .inr (by simpa using h)
 | none =>
   simp only
   have hnil : x.dfs = [] := List.getLast?_eq_none_iff.1 hgl
   rw [if_neg (by rw [hnil]; simp)]
   have d0 := cell (j := 0) rfl
   have d1 := cell (j := 1) rfl
   have d2 := cell (j := 2) rfl
   have d3 := cell (j := 3) rfl
   have d4 := cell (j := 4) rfl
   have d6 : w.cell? ⟨G,r.length * 8 + 6,none⟩ = some (.slice L x.locals.length lc) := cell (j := 6) (by show some s.L = _; rw [hs.L])
   have d7 : w.cell? ⟨G,r.length * 8 + 7,none⟩ = some (.slice O x.ops.length oc) := cell (j := 7) (by show some s.O = _; rw [hs.O])
   obtain ⟨hpop,_,hcap⟩ := hp.pop
   refine ⟨x.f,d0,x.pc,d1,x.mode,d2,x.dfd,d3,x.value,d4,D,_,dc,d5,L,_,lc,d6,O,_,oc,d7,fun q6 _ => ⟨_,_,_,hF,by omega,by omega,⟨_,hF⟩,h.frozen 6, ?_⟩⟩
   have hcutv : (if cap = 0 then some (⟨G,0,none⟩ : Addr) else Option.map (fun a : Addr => a.add 0) (some ⟨G,0,none⟩)) = some ⟨G,0,none⟩ := slice_cut _ _
   simp only [Nat.zero_mul,hcutv,Nat.sub_zero,Nat.add_zero]
   have hfoot : ∀ k,Foot g (.slice (some ⟨G,0,none⟩) r.length cap) T t k → FootT g G cap r T (s :: t) k := fun k hk => by
     rcases hk with hk | hk | hk | ⟨u,hu,hk⟩
     · exact .inl hk
     · exact .inr (.inl hk)
     · exact .inr (.inr (.inl hk))
     · exact .inr (.inr (.inr ⟨u,List.mem_cons_of_mem _ hu,hk⟩))
   have h1 : MachAt (w.setCell ⟨g,6,none⟩ (.slice (some ⟨G,0,none⟩) r.length cap)) B g C c p (topM m r) (.slice (some ⟨G,0,none⟩) r.length cap) T t :=
     mach_set (m := topM m r) h.head rfl hpop h.base (h.prog.keep (fun q v hq _ => hq) fun k hk => .inl (hfoot k hk))
   have hchg1 : Chg (FootT g G cap r T (s :: t)) w (w.setCell ⟨g,6,none⟩ (.slice (some ⟨G,0,none⟩) r.length cap)) := (Chg.refl _ _).setCell _ fun _ => .inl rfl
   have hsz1 : (w.setCell ⟨g,6,none⟩ (.slice (some ⟨G,0,none⟩) r.length cap)).heap.size = w.heap.size := by simp
   have hv0 := hxo.wd.value
   have hvv : ((x.value.toNat : Nat) : Int) = x.value := by omega
   have hmode := hx.mode
   generalize w.setCell ⟨g,6,none⟩ (.slice (some ⟨G,0,none⟩) r.length cap) = w1 at *
   unfold V79.b0
   simp only [own_add,bx_add,Nat.add_zero]
   -- the end
   have fin : ∀ (k : Int),r = [] → (∃ u,w1.cell? ⟨g,3,none⟩ = some u) ∧ w1.frozen? ⟨g,3,none⟩ = false ∧
       CallK Tryz.prog 124 [.pointer (some ⟨g,0,none⟩),.int .i64 k,.int .u64 x.value] w.heap.size (w1.setCell ⟨g,3,none⟩ (.bool true)) [q6] fun v C_1 => v = .tuple ⟨[]⟩ ∧
         Ret w.heap.size C_1 (IsT w (FootT g G cap r T (s :: t)) (fun u w' => u = .tuple ⟨[]⟩ ∧ MachQ w B g C c p (.slice (some ⟨G,0,none⟩) (r.length + 1) cap) T (s :: t) { m with frames := [],ended := true,trace := m.trace ++ [⟨k,x.value.toNat⟩] } w') (.tuple ⟨[]⟩)) := fun k hr0 => by
     subst hr0
     refine ⟨⟨_,h1.cell (i := 3) rfl⟩,h1.frozen 3, ?_⟩
     have h2 : MachAt (w1.setCell ⟨g,3,none⟩ (.bool true)) B g C c p { topM m [] with ended := true } (.slice (some ⟨G,0,none⟩) 0 cap) T t := mach_set (m := { topM m [] with ended := true }) h1.head rfl h1.pcs h1.base h1.prog
     rw [← hvv]
     refine call_machT (m' := markM { topM m [] with ended := true } k x.value.toNat) (by simp only [World.size_setCell]; omega) h2 (fun w3 e3 h3 => turns124 h3 k x.value.toNat htr) fun w3 T3 h3 e3 hf3 => ⟨rfl, ?_⟩
     refine mach_ret (m' := { m with frames := [],ended := true,trace := m.trace ++ [⟨k,x.value.toNat⟩] }) (e3.chg (hchg1.setCell _ fun _ => .inl rfl) fun k _ hk => hfoot k hk) h3 fun k hk => ?_
     rcases hf3 k hk with hk | hk
     · exact .inl (hfoot k hk)
     · exact .inr (by rw [World.size_setCell] at hk; omega)
   cases r with
   | nil =>
     simp only [List.length_nil,Nat.zero_add]
     rw [if_pos (by simp)]
     by_cases h2 : x.mode = 2
     · rw [if_pos (by simpa using h2),if_pos h2]
       exact fin 4 rfl
     · rw [if_neg (by simpa using h2),if_pos (by simp),if_neg h2]
       exact fin 3 rfl
   | cons u r' =>
     have hne1 : ¬ (((u :: r').length + 1 : Nat) : Int) = 1 := by simp only [List.length_cons]; omega
     rw [if_neg (by simpa using hne1),if_neg (by simp),if_neg (by simpa using hne1)]
     cases t with
     | nil => simp at hl
     | cons su t' =>
       have hm1 : (topM m (u :: r')).frames = u :: r' := rfl
       have hl' : t'.length = r'.length := by simpa using hl
       have hp1 := h1.pcs
       have ucell : ∀ {w3 : World} {T3 : Value} {x3 : Frm} {s3 : Sl} {m3 : Mach},MachAt w3 B g C c p m3 (.slice (some ⟨G,0,none⟩) (r'.length + 1) cap) T3 (s3 :: t') → m3.frames = x3 :: r' → ∀ {j v},(frmC x3 s3)[j]? = some v → w3.cell? ⟨G,r'.length * 8 + j,none⟩ = some v := fun {w3 T3 x3 s3 m3} h3 hm3 {j v} hv => by
         have hp3 := h3.pcs
         rw [hm3] at hp3
         exact owns_cell hp3.frames (stackC_top hl' hv)
       have hix : IntKind.wrap .i64 ((((u :: r').length + 1 : Nat) : Int) - 2) = (r'.length : Int) := by
         simp only [List.length_cons] at hlen ⊢
         rw [wrap_id (by omega) (by omega)]; omega
       rw [hix]
       simp only [Int.toNat_natCast]
       have hF1 := h1.cell (i := 6) rfl
       by_cases h2 : x.mode = 2
       · rw [if_pos (by simpa using h2),if_pos h2]
         refine ⟨_,_,_,hF1,_,_,_,hF1,_,rfl,by omega,by simp only [List.length_cons]; omega, ?_⟩
         simp only [own_add,bx_add,Nat.add_zero,Nat.zero_add]
         have hu1 : FrmM w1 B u su := hp1.each.1
         have h3 := h1.setTop hm1 (Chg1.refl 0 w1) (fun k hk => by cases hk) (by decide) (by decide) (by decide) (fun q v hq _ => hq) (x' := { u with mode := 2 }) (s' := su) ⟨hu1.D,hu1.args,hu1.L,hu1.O⟩ (fun k hk => .inl hk) hp1.apart.1 (j := 2) (v := .int .i64 2) (by omega) rfl
         refine ⟨⟨_,ucell h1 hm1 (j := 2) rfl⟩,owns_frozen hp1.frames _,_,rfl,by omega,by simp only [List.length_cons]; omega, ?_⟩
         simp only [own_add,bx_add,Nat.add_zero,Nat.zero_add]
         have hp3 := h3.pcs
         have hu3 := hp3.each.1
         have h4 := h3.setTop (r := r') (x := { u with mode := 2 }) rfl (Chg1.refl 0 _) (fun k hk => by cases hk) (by decide) (by decide) (by decide) (fun q v hq _ => hq) (x' := { u with mode := 2,value := x.value }) (s' := su) ⟨hu3.D,hu3.args,hu3.L,hu3.O⟩ (fun k hk => .inl hk) hp3.apart.1 (j := 4) (v := .int .u64 x.value) (by omega) rfl
         refine ⟨⟨_,ucell h3 rfl (j := 4) rfl⟩,owns_frozen hp3.frames _, ?_⟩
         exact mach_ret (m' := { m with frames := { u with mode := 2,value := x.value } :: r' }) (Chg.setCell (a := ⟨G,r'.length * 8 + 4,none⟩) (Chg.setCell (a := ⟨G,r'.length * 8 + 2,none⟩) hchg1 _ fun _ => .inr (.inl rfl)) _ fun _ => .inr (.inl rfl)) h4 fun k hk => .inl (hfoot k hk)
       · rw [if_neg (by simpa using h2),if_neg h2]
         cases hd : x.dfd with
         | true =>
           rw [if_neg (by simp),if_pos rfl]
           exact mach_ret (m' := { m with frames := u :: r' }) hchg1 h1 fun k hk => .inl (hfoot k hk)
         | false =>
           rw [if_pos (show (!false) = true from rfl),if_neg (by simp)]
           have hu1 : FrmM w1 B u su := hp1.each.1
           obtain ⟨OA,uoc,hOv⟩ := owns_slice0 hu1.O
           have u7 : w1.cell? ⟨G,r'.length * 8 + 7,none⟩ = some (.slice OA u.ops.length uoc) := ucell h1 hm1 (j := 7) (by show some su.O = _; rw [hOv])
           refine ⟨_,_,_,hF1,_,_,_,hF1,_,rfl,by omega,by simp only [List.length_cons]; omega,OA,u.ops.length,uoc, ?_, ?_⟩
           · simp only [own_add,bx_add,Nat.add_zero,Nat.zero_add]; exact u7
           simp only [own_add,bx_add,Nat.add_zero,Nat.zero_add]
           refine expo_alloc (by omega) fun w2 w3 hs2 e3 _ ho3 => ?_
           have h3 := h1.ext e3
           refine ⟨e3.cell u7,e3.cell hF1,e3.cell hF1, ?_⟩
           have hp3 := h3.pcs
           have hu3 : FrmM w3 B u su := hp3.each.1
           have hOr := hu3.O
           rw [hOv] at hOr
           have hB3 : B ≤ w3.heap.size := Nat.le_trans h3.base (Nat.le_of_lt (h3.ty (.inl rfl)).2.1)
           have hone : Nums .u64 w3 (some ⟨w2.heap.size,0,none⟩) 1 [x.value] := OwnI.nums (xs := [x.value]) (e := 55) ho3 (by simp only [List.length_cons,List.length_nil,maxLen]; omega)
           have huok := ho.frames u (by rw [hm]; simp)
           obtain ⟨fu,hfu⟩ := huok.inn
           have h8 := hfu.ops
           refine append_nums (t := 31) (e := 55) (i := Tryz.t55) (k := .u64) (bytes := 8) (by kernel_rfl) (by kernel_rfl) (by kernel_rfl) (by kernel_rfl) (by kernel_rfl) (Nat.le_refl _) hOr hone (by omega) (Nat.le_trans (Nat.le_of_eq hsz1.symm) e3.size) hB3 fun v w4 he ho' hnw => ?_
           obtain ⟨O',oc',hv⟩ := owns_slice0 ho'
           subst hv
           have he' : ExtS w.heap.size (fun k => su.O.ownBlock = some k) w3 w4 := by rw [hOv]; exact he
           obtain ⟨h4,hnew,hc4,hfr4⟩ := h3.pushed (x := u) (r := r') (ws := [x.value]) hm1 he' rfl ho' (by rw [hOv]; exact hnw)
           have hF4 : w4.cell? ⟨g,6,none⟩ = some (.slice (some ⟨G,0,none⟩) (u :: r').length cap) := he.cell (e3.cell hF1) (fun e => by
             obtain ⟨_,cc,f,hh⟩ := owns_ty hOr e
             rw [h3.head] at hh; cases hh)
           refine ⟨O',_,oc',rfl,hF4,_,rfl,by omega,by simp only [List.length_cons]; omega, ?_⟩
           simp only [own_add,bx_add,Nat.add_zero,Nat.zero_add]
           refine ⟨⟨_,hc4⟩,hfr4, ?_⟩
           have hinO : ∀ k,su.O.ownBlock = some k → FootT g G cap (u :: r') T (s :: su :: t') k := fun k hk => .inr (.inr (.inr ⟨su,by simp,.inr (.inr (.inl hk))⟩))
           refine mach_ret (m' := { m with frames := pushF u [x.value] :: r' }) (((he'.chg ((e3.toS (S := fun _ => False)).chg hchg1 (fun _ _ h => h.elim)) fun k _ hk => hinO k hk)).setCell _ fun _ => .inr (.inl rfl)) h4 fun k hk => ?_
           rcases foot_top hnew hk with hk | hk
           · exact .inl (hfoot k hk)
           · exact .inr (by have := e3.size; omega)
end
end Go.Proofs.YtidcpndlloppdaaGreat

/-
 Layer 21: run: the top frame's next instruction.
 Conditions: the machine lies in memory as told.
-/
set_option linter.unusedVariables false
set_option linter.unusedSimpArgs false
set_option maxRecDepth 20000
namespace Go.Proofs.YtidcpndlloppdaaGreat
open Go.RowKit
structure RunAt (w0 : World) (S : Nat → Prop) (w : World) (B g : Nat) (C : Option Addr) (c : Nat) (p : List Fnc) (m : Mach) (T : Value) (x : Frm) (r : List Frm) (s : Sl) (t : List Sl) (G cap : Nat) (bx bm : Addr) (LA : Option Addr) (n lc : Nat) (l : List Int) : Prop where
 top : TopAt w B g C c p m T x r s t G cap bx
 bmc : w.cell? bm = some (.pointer (some ⟨g,0,none⟩))
 bmo : ¬ FootT g G cap r T (s :: t) bm.block
 chg : Chg S w0 w
 foot : ∀ k,FootT g G cap r T (s :: t) k → S k ∨ w0.heap.size ≤ k
 low : B ≤ w0.heap.size
 row : w.ownsRow w0.heap.size 55 1 (.slice LA n lc) n (u64s l)
 out : ∀ k,(Value.slice LA n lc).ownBlock = some k → ¬ FootT g G cap r T (s :: t) k
 few : n ≤ 8
def R42 (w0 : World) (S : Nat → Prop) (B g : Nat) (C : Option Addr) (c : Nat) (p : List Fnc) (F0 T0 : Value) (ss0 : List Sl) (m' : Mach) : Value → World → Prop := IsT w0 S (fun u w' => u = .tuple ⟨[]⟩ ∧ MachQ w0 B g C c p F0 T0 ss0 m' w')
section
variable {w0 w : World} {B g : Nat} {C : Option Addr} {c : Nat} {p : List Fnc} {m : Mach} {T : Value} {x : Frm} {r : List Frm} {s : Sl} {t : List Sl} {G cap : Nat} {bx bm : Addr} {LA : Option Addr} {n lc : Nat} {l : List Int} {F0 T0 : Value} {ss0 : List Sl}
theorem RunAt.ret (h : RunAt w0 (Foot g F0 T0 ss0) w B g C c p m T x r s t G cap bx bm LA n lc l) {m' : Mach} (hm : m = m') : Ret w0.heap.size w (R42 w0 (Foot g F0 T0 ss0) B g C c p F0 T0 ss0 m' (.tuple ⟨[]⟩)) := by
 subst hm
 exact mach_ret h.chg h.top.at_ h.foot
theorem RunAt.ext {S : Nat → Prop} (h : RunAt w0 S w B g C c p m T x r s t G cap bx bm LA n lc l) {w' : World} (he : Ext w0.heap.size w w') : RunAt w0 S w' B g C c p m T x r s t G cap bx bm LA n lc l :=
 ⟨h.top.ext he,he.cell h.bmc,h.bmo,ext_chg h.chg he,h.foot,h.low,he.owns h.row,h.out,h.few⟩
theorem RunAt.size {S : Nat → Prop} (h : RunAt w0 S w B g C c p m T x r s t G cap bx bm LA n lc l) : w0.heap.size ≤ w.heap.size := h.chg.size
theorem RunAt.nums {S : Nat → Prop} (h : RunAt w0 S w B g C c p m T x r s t G cap bx bm LA n lc l) : Nums .u64 w LA n l := ownsU_nums h.row (by have := h.few; omega)
theorem RunAt.chgSet {S : Nat → Prop} (h : RunAt w0 S w B g C c p m T x r s t G cap bx bm LA n lc l) {b i : Nat} {v : Value} (hb : FootT g G cap r T (s :: t) b) : Chg S w0 (w.setCell ⟨b,i,none⟩ v) :=
 h.chg.setCell _ fun hlt => (h.foot b hb).elim id fun h => absurd hlt (by show ¬ b < _; omega)
theorem RunAt.setNum {S : Nat → Prop} (h : RunAt w0 S w B g C c p m T x r s t G cap bx bm LA n lc l) {x' : Frm} (hx : FrmM w B x' s) {j : Nat} {v : Value} (hj : j < 8) (hset : (frmC x s).set j v = frmC x' s) :
   RunAt w0 S (w.setCell ⟨G,r.length * 8 + j,none⟩ v) B g C c p (topM m (x' :: r)) T x' r s t G cap bx bm LA n lc l :=
 ⟨h.top.setNum hx hj hset,keepsOff_set (S := FootT g G cap r T (s :: t)) (.inr (.inl rfl)) _ _ h.bmc h.bmo,h.bmo,h.chgSet (.inr (.inl rfl)),h.foot,h.low,owns_other h.row fun k hk => at_other (fun e => h.out k hk (e ▸ .inr (.inl rfl))),h.out,h.few⟩
theorem RunAt.setLoc {S : Nat → Prop} (h : RunAt w0 S w B g C c p m T x r s t G cap bx bm LA n lc l) {Lb n' lc' i : Nat} {u : Int} (hL : s.L = .slice (some ⟨Lb,0,none⟩) n' lc') (hi : i < x.locals.length) :
   RunAt w0 S (w.setCell ⟨Lb,i,none⟩ (.int .u64 u)) B g C c p (topM m ({ x with locals := x.locals.set i u } :: r)) T { x with locals := x.locals.set i u } r s t G cap bx bm LA n lc l := by
 have hin : FootT g G cap r T (s :: t) Lb := .inr (.inr (.inr ⟨s,List.mem_cons_self,.inr (.inl (by rw [hL]; rfl))⟩))
 exact ⟨h.top.setLoc hL hi,keepsOff_set (S := FootT g G cap r T (s :: t)) hin _ _ h.bmc h.bmo,h.bmo,h.chgSet hin,h.foot,h.low,owns_other h.row fun k hk => at_other (fun e => h.out k hk (e ▸ hin)),h.out,h.few⟩
theorem RunAt.num {S : Nat → Prop} (h : RunAt w0 S w B g C c p m T x r s t G cap bx bm LA n lc l) {x' : Frm} (h1 : x'.dfs = x.dfs) (h2 : x'.locals = x.locals) (h3 : x'.ops = x.ops) : FrmM w B x' s := by
 have hF := h.top.pcs.each.1
 exact ⟨by rw [h1]; exact hF.D,by rw [h1]; exact hF.args,by rw [h2]; exact hF.L,by rw [h3]; exact hF.O⟩
theorem RunAt.push {bs : List Nat} (h : RunAt w0 (Foot g F0 T0 ss0) w B g C c p m T x r s t G cap bx bm LA n lc l) {A : Option Addr} {k ac : Nat} {ws : List Int} (hw : Nums .u64 w A k ws) (hk : 1 ≤ k ∧ k ≤ 8) (hops : x.ops.length ≤ 100) {m' : Mach} (hm : topM m (pushF x ws :: r) = m') :
   CallK Tryz.prog 120 [.slice A k ac,.pointer (some bx)] w0.heap.size w bs fun a0 a1 => a0 = .tuple ⟨[]⟩ ∧ Ret w0.heap.size a1 (R42 w0 (Foot g F0 T0 ss0) B g C c p F0 T0 ss0 m' (.tuple ⟨[]⟩)) := by
 subst hm
 refine call61 h.size h.top hw hk hops fun s' w' hT he hf => ⟨rfl, ?_⟩
 refine mach_ret (he.chg h.chg fun k hk hk' => (h.foot k hk').elim id fun h => absurd hk (by omega)) hT.at_ fun k hk => ?_
 rcases hf k hk with h1 | h1
 · exact h.foot k h1
 · exact .inr (Nat.le_trans h.size h1)
theorem RunAt.push1 {bs : List Nat} (h : RunAt w0 (Foot g F0 T0 ss0) w B g C c p m T x r s t G cap bx bm LA n lc l) {u : Int} (hops : x.ops.length ≤ 100) {m' : Mach} (hm : topM m (pushF x [u] :: r) = m') :
   Expo w0.heap.size w bs fun Y => Hide bs (Y.alloc (.cells ⟨[.int .u64 u]⟩ 55)) fun Z =>
     CallK Tryz.prog 120 [.slice (some ⟨Y.heap.size,0,none⟩) 1 1,.pointer (some bx)] w0.heap.size Z bs fun a0 a1 => a0 = .tuple ⟨[]⟩ ∧ Ret w0.heap.size a1 (R42 w0 (Foot g F0 T0 ss0) B g C c p F0 T0 ss0 m' (.tuple ⟨[]⟩)) := by
 refine expo_alloc h.size fun w1 w2 hs e2 _ ho2 => ?_
 have hone : Nums .u64 w2 (some ⟨w1.heap.size,0,none⟩) 1 [u] := OwnI.nums (xs := [u]) (e := 55) ho2 (by simp only [List.length_cons,List.length_nil,maxLen]; omega)
 exact (h.ext e2).push hone (by omega) hops hm
theorem RunAt.arg {S : Nat → Prop} (h : RunAt w0 S w B g C c p m T x r s t G cap bx bm LA n lc l) {i : Nat} (hi : i < n) : ∃ q,LA = some q ∧ w.cell? (q.add i) = some (.int .u64 (l.getD i 0)) := by
 obtain ⟨v,q,hv,hq,hc⟩ := h.nums.at hi
 refine ⟨q,hq, ?_⟩
 rw [List.getD,hv]
 exact hc
theorem RunAt.setHead {S : Nat → Prop} (h : RunAt w0 S w B g C c p m T x r s t G cap bx bm LA n lc l) {i : Nat} {v : Value} {m' : Mach} (hH : (headC (.slice C p.length c) (.slice (some ⟨G,0,none⟩) (r.length + 1) cap) T m).set i v = headC (.slice C p.length c) (.slice (some ⟨G,0,none⟩) (r.length + 1) cap) T m') (hfr : m'.frames = m.frames) (htr : m'.trace = m.trace) :
   RunAt w0 S (w.setCell ⟨g,i,none⟩ v) B g C c p m' T x r s t G cap bx bm LA n lc l := by
 have hp := h.top.at_.pcs
 have hing : FootT g G cap r T (s :: t) g := .inl rfl
 refine ⟨⟨mach_set (m := m') h.top.at_.head hH (by rw [hfr,htr]; exact hp) h.top.at_.base h.top.at_.prog,by rw [hfr]; exact h.top.fs,keepsOff_set (S := FootT g G cap r T (s :: t)) hing _ _ h.top.box h.top.out,h.top.out⟩,keepsOff_set (S := FootT g G cap r T (s :: t)) hing _ _ h.bmc h.bmo,h.bmo,h.chgSet hing,h.foot,h.low,owns_other h.row fun k hk => at_other (fun e => h.out k hk (e ▸ hing)),h.out,h.few⟩
end
end Go.Proofs.YtidcpndlloppdaaGreat
