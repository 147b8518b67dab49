import Derived.Test.YtidcpndlloppdaaGreatZR21e
/-
 Layers 21,29: the document's machine: what an instruction turns: rules.
 Conditions: none.
-/
set_option linter.unusedVariables false
set_option linter.unusedSimpArgs false
set_option maxRecDepth 20000
namespace Go.Proofs.YtidcpndlloppdaaGreat
open Go.RowKit
structure HdAt (w : World) (B g : Nat) (vP vF T : Value) (m : Mach) : Prop where
 base : B ≤ g
 head : w.heap[g]? = some (.cells ⟨headR vP vF T m⟩ 85 (0,0))
 tr : OwnMs w B T m.trace
section
variable {w w' : World} {B g : Nat} {vP vF T : Value} {m : Mach}
theorem HdAt.ext {B' : Nat} (h : HdAt w B g vP vF T m) (he : Ext B' w w') : HdAt w' B g vP vF T m := ⟨h.base,he.row _ _ _ _ h.head,he.owns h.tr⟩
theorem HdAt.ty (h : HdAt w B g vP vF T m) {k : Nat} (hk : MutR g T k) : B ≤ k ∧ k < w.heap.size ∧ ∃ c e f,w.heap[k]? = some (.cells c e f) ∧ (e = 85 ∨ e = 57) := by
 rcases hk with rfl | hk
 · exact ⟨h.base,lt_of_some h.head,_,_,_,h.head,.inl rfl⟩
 · obtain ⟨a,c,f,b⟩ := owns_ty h.tr hk; exact ⟨a,lt_of_some b,_,_,_,b,.inr rfl⟩
def MarkQ (w : World) (B g : Nat) (vP vF T : Value) (m' : Mach) (w' : World) : Prop := ∃ T',HdAt w' B g vP vF T' m' ∧ ∀ k,T'.ownBlock = some k → T.ownBlock = some k ∨ w.heap.size ≤ k
theorem turns72H (h : HdAt w B g vP vF T m) (k : Int) (u : Nat) (hlen : m.trace.length ≤ 100000) : Turns Tryz.prog 136 [.pointer (some ⟨g,0,none⟩),.int .i64 k,.int .u64 (u : Int)] w (MutR g T) fun v w' => v = .tuple ⟨[]⟩ ∧ MarkQ w B g vP vF T (markM m k u) w' := by
 refine turns_of (V136.sound ?_)
 unfold V136.vc
 simp only [own_add,bx_add,Nat.add_zero]
 obtain ⟨TA,cap,hT⟩ := owns_slice0 h.tr
 subst hT
 refine ⟨TA,_,cap,at_cell (i := 7) h.head rfl, ?_⟩
 intro w1 e1 _
 obtain ⟨e2,ho2⟩ := alloc1 (.cells ⟨[.int .i64 k,.int .u64 (u : Int)]⟩ 57) e1 (Nat.le_refl _)
 try simp only
 generalize w1.alloc (.cells ⟨[.int .i64 k,.int .u64 (u : Int)]⟩ 57) = w2 at *
 have h2 := h.ext e2
 have hBg : B ≤ w2.heap.size := Nat.le_trans h2.base (Nat.le_of_lt (lt_of_some h2.head))
 have hmk : Marks w2 (some ⟨w1.heap.size,0,none⟩) 1 [⟨k,u⟩] := marks_blockR (ms := [⟨k,u⟩]) ho2 (by simp)
 refine append_marks (ys := [⟨k,u⟩]) h2.tr hmk (by simp; omega) e2.size hBg fun T' w3 he ho' hn => ?_
 obtain ⟨A',cap',hT'⟩ := owns_slice0 ho'
 subst hT'
 have hgT : ¬ (Value.slice TA m.trace.length cap).ownBlock = some g := fun e => by
   obtain ⟨_,cc,f,hh⟩ := owns_ty h2.tr e
   rw [h2.head] at hh; cases hh
 have hg3 := he.row _ _ _ _ hgT h2.head
 refine ⟨A',_,cap',rfl,⟨_,at_cell (i := 7) hg3 rfl⟩,at_frozen hg3 7, ?_⟩
 have hown : OwnMs (w3.setCell ⟨g,7,none⟩ (.slice A' (m.trace ++ ([⟨k,u⟩] : List Mk)).length cap')) B (.slice A' (m.trace ++ ([⟨k,u⟩] : List Mk)).length cap') (m.trace ++ [⟨k,u⟩]) := owns_other ho' fun j hj => at_other (fun e => by
   subst e
   obtain ⟨_,cc,f,hh⟩ := owns_ty ho' hj
   rw [hg3] at hh; cases hh)
 refine ret_t ((he.chg ((e2.toS (S := fun _ => False)).chg (Chg.refl _ _) (fun _ _ h => h.elim)) fun j _ hj => .inr hj).setCell _ fun _ => .inl rfl) fun w5 e5 => ⟨rfl,_,HdAt.ext (m := markM m k u) ⟨h.base,at_set hg3 7 _,hown⟩ e5,fun j hj => (hn j hj).imp id fun h => Nat.le_trans e2.size h⟩
theorem call_markH {B0 : Nat} {bs : List Nat} {k : Int} {u : Nat} {K : Value → World → Prop} (hB : B0 ≤ w.heap.size) (h : HdAt w B g vP vF T m) (hlen : m.trace.length ≤ 100000)
   (hk : ∀ w' T',HdAt w' B g vP vF T' (markM m k u) → ExtS B0 (MutR g T) w w' → (∀ k,T'.ownBlock = some k → T.ownBlock = some k ∨ w.heap.size ≤ k) → K (.tuple ⟨[]⟩) w') : CallK Tryz.prog 136 [.pointer (some ⟨g,0,none⟩),.int .i64 k,.int .u64 (u : Int)] B0 w bs K := by
 refine call_turnsS (Q := fun w1 v w' => v = .tuple ⟨[]⟩ ∧ MarkQ w1 B g vP vF T (markM m k u) w') hB (fun k hk => by obtain ⟨_,_,c,e,f,hh,_⟩ := h.ty hk; exact ⟨_,_,_,hh⟩) (fun w1 e1 => turns72H (h.ext e1) k u hlen) fun w1 v w2 w' hs hQ hsame he => ?_
 obtain ⟨rfl,T',hm,hT⟩ := hQ
 have hTs : ∀ k,MutR g T' k → w'.heap[k]? = w2.heap[k]? := fun k hk => hsame k (by
   rcases hk with hk | hk
   · exact .inl (.inl hk)
   · exact (hT k hk).imp .inr id)
 exact hk w' T' ⟨hm.base,by rw [hTs g (.inl rfl)]; exact hm.head,owns_other hm.tr fun k hk => hTs k (.inr hk)⟩ he fun k hk => (hT k hk).imp id fun h => Nat.le_trans hs h
end
structure RunX (w0 w : World) (B g : Nat) (P : Option Addr) (pc np : Nat) (m1 : Mach) (G cap k : Nat) (T T1 : Value) (Z : Nat → Prop) (qs qs1 : List (Frm × Sls)) (t : Frm) (s : Sls) (da : List (Option Addr × Nat)) (l : List Int) (AG : Option Addr) (cG : Nat) : Prop where
 run : RunS w0 w B g P pc np m1 (.slice (some ⟨G,0,none⟩) (k + 1) cap) T T1 Z qs qs1 t s da l AG cG
 row : w.ownsRow w0.heap.size 99 8 (.slice (some ⟨G,0,none⟩) (k + 1) cap) (k + 1) (frsC qs1)
section
variable {w0 w w' : World} {B g : Nat} {P : Option Addr} {pc np : Nat} {m1 : Mach} {G cap k : Nat} {T T1 : Value} {Z : Nat → Prop} {qs qs1 : List (Frm × Sls)} {t : Frm} {s : Sls} {da : List (Option Addr × Nat)} {l : List Int} {AG : Option Addr} {cG : Nat}
theorem RunX.ext (h : RunX w0 w B g P pc np m1 G cap k T T1 Z qs qs1 t s da l AG cG) (he : Ext w0.heap.size w w') : RunX w0 w' B g P pc np m1 G cap k T T1 Z qs qs1 t s da l AG cG := ⟨h.run.ext he,he.owns h.row⟩
theorem RunX.scal (h : RunX w0 w B g P pc np m1 G cap k T T1 Z qs qs1 t s da l AG cG) {t' : Frm} (h1 : t'.dfs = t.dfs) (h2 : t'.locals = t.locals) (h3 : t'.ops = t.ops) : RunX w0 w B g P pc np m1 G cap k T T1 Z qs qs1 t' s da l AG cG := by
 obtain ⟨⟨a,b,c,d,⟨o1,o2,o3,o4,o5⟩,f,i,j,n,o⟩,r⟩ := h
 exact ⟨⟨a,b,c,d,⟨by rw [h1]; exact o1,by rw [h1]; exact o2,by rw [h2]; exact o3,by rw [h3]; exact o4,by rw [h2,h3]; exact o5⟩,f,i,by rw [h1]; exact j,by rw [h2]; exact n,by rw [h3]; exact o⟩,r⟩
theorem RunX.size (h : RunX w0 w B g P pc np m1 G cap k T T1 Z qs qs1 t s da l AG cG) : w0.heap.size ≤ w.heap.size := h.run.chg.size
theorem RunX.push {bs : List Nat} (h : RunX w0 w B g P pc np m1 G cap k T T1 Z qs qs1 t s da l AG cG) {ws : List Int} {n : Nat} (hn : ws.length = n) (hn8 : n ≤ 8) (ht : t.ops.length ≤ 8) {K : Value → World → Prop}
   (hk : ∀ A' c' w',RunX w0 w' B g P pc np m1 G cap k T T1 Z qs qs1 (pushF t ws) { s with O := A',oc := c' } da l AG cG → K (.slice A' (pushF t ws).ops.length c') w') :
   Expo w0.heap.size w bs fun w1 => Hide bs (w1.alloc (.cells ⟨u64s ws⟩ 55)) fun w2 => RunK Tryz.prog (Builtin.append_ #[31,31] 31 ⟨[.slice s.O t.ops.length s.oc,.slice (some ⟨w1.heap.size,0,none⟩) n n]⟩) w0.heap.size w2 bs K := by
 refine expo_alloc h.size fun w1 w2 hs1 e2 hlt2 ho2 => ?_
 have h2 := h.ext e2
 have hO := h2.run.own.O
 have hb39 : Tryz.t55.bytes = 8 := by kernel_rfl
 refine append_own (t := 31) (e := 55) (i := Tryz.t55) (z := .int .u64 0) (size := 1) (bytes := 8) (by kernel_rfl) (by kernel_rfl) (by kernel_rfl) (by kernel_rfl) hb39 rfl (by omega) hO (m := n) (news := u64s ws) (by simp [u64s,hn]) (fun j v hj => by rw [own_add]; exact at_cell ho2 hj) u64s_one (by simp only [maxLen]; omega) (by omega) h2.size h2.size fun v' w3 he ho3 hn3 => ?_
 obtain ⟨A',c',hv⟩ := owns_slice0 ho3
 subst hv
 have e : (pushF t ws).ops.length = t.ops.length + n := by show (t.ops ++ ws).length = _; rw [List.length_append,hn]
 rw [← e] at ho3 hn3 ⊢
 have h1 := chg1_exts he hO
 have hr := h2.run
 have hfar : ∀ {v : Value} {e : TypeId} {sz n : Nat} {xs : List Value} {j : Nat},w2.ownsRow w0.heap.size e sz v n xs → v.ownBlock = some j → j < w2.heap.size := fun ho hj => (ho.lt _ hj).2
 have hL3 := h1.own hr.own.L fun j hj e => hr.own.ne j hj e
 have hG3 := h1.own hr.got fun j hj e => hr.neO j e hj
 refine hk A' c' w3 ⟨⟨he.chg hr.chg fun j hj hj' => absurd hj (by have := (hO.lt j hj').1; omega),h1.row _ _ _ _ (fun e => by obtain ⟨_,c,f,hh⟩ := owns_ty hO e; rw [hr.head] at hh; cases hh) hr.head,h1.ownT hr.tr (by decide),hr.trn,⟨h1.ownT hr.own.D (by decide),hr.own.dl,hL3, ?_,fun j hj e => ?_⟩,hG3,hr.each,hr.der,hr.neL,fun j hj e => ?_⟩,h1.ownT h2.row (by decide)⟩
 · have : u64s (pushF t ws).ops = u64s t.ops ++ u64s ws := by show List.map _ (t.ops ++ ws) = _; rw [List.map_append]; rfl
   rw [this]; exact owns_down ho3 (Nat.le_refl _)
 · rcases hn3 j e with h4 | h4
   · exact hr.own.ne j hj h4
   · have := hfar hr.own.L hj; omega
 · rcases hn3 j hj with h4 | h4
   · exact hr.neO j h4 e
   · have := hfar hr.got e; omega
theorem RunX.store (h : RunX w0 w B g P pc np m1 G cap k T T1 Z qs qs1 t s da l AG cG) {i : Nat} (hi : i < t.locals.length) : ∃ j,s.L = some ⟨j,0,none⟩ ∧ (∃ v,w.cell? ⟨j,i,none⟩ = some v) ∧ w.frozen? ⟨j,i,none⟩ = false ∧ w.cell? ⟨j,i,none⟩ = some (.int .u64 (t.locals.getD i 0)) ∧
   ∀ u : Int,RunX w0 (w.setCell ⟨j,i,none⟩ (.int .u64 u)) B g P pc np m1 G cap k T T1 Z qs qs1 { t with locals := t.locals.set i u } s da l AG cG := by
 have hr := h.run
 have hL := hr.own.L
 obtain ⟨j,c,hv,_,_⟩ := owns_some hL (by omega)
 injection hv with h1 h2 h3
 have hL' := hL
 rw [h1] at hL'
 have hc := owns_cell hL' (i := i) (u := .int .u64 (t.locals.getD i 0)) (by
   unfold u64s
   rw [List.getElem?_map,List.getElem?_eq_getElem hi,List.getD,List.getElem?_eq_getElem hi]; rfl)
 refine ⟨j,h1,⟨_,hc⟩,owns_frozen hL' i,hc,fun u => ?_⟩
 obtain ⟨_,cc,ff,hh⟩ := owns_ty hL' (k := j) rfl
 have k1 := chg1_set (i := i) (v := .int .u64 u) hh
 have hset := owns_set hL' i (.int .u64 u) (by omega)
 have hj0 := (hL'.lt j rfl).1
 have hlen : (t.locals.set i u).length = t.locals.length := List.length_set
 have hLj : ∀ {q},(Value.slice s.L t.locals.length s.lc).ownBlock = some q → q = j := fun hq => by rw [h1] at hq; exact (Option.some.inj hq).symm
 have hjL : (Value.slice s.L t.locals.length s.lc).ownBlock = some j := by rw [h1]; rfl
 refine ⟨⟨Chg.setCell (a := ⟨j,i,none⟩) hr.chg _ fun hlt => absurd hlt (by show ¬ j < _; omega),k1.row _ _ _ _ (fun e => by have h9 := hr.head; rw [← Option.some.inj e,hh] at h9; cases h9) hr.head,k1.ownT hr.tr (by decide),hr.trn,⟨k1.ownT hr.own.D (by decide),hr.own.dl, ?_,k1.own hr.own.O fun q hq e => hr.own.ne j hjL (by rw [Option.some.inj e]; exact hq),fun q hq => hr.own.ne q (by rw [← hlen]; exact hq)⟩,k1.own hr.got fun q hq e => hr.neL j hjL (by rw [Option.some.inj e]; exact hq),hr.each,hr.der,fun q hq => hr.neL q (by rw [← hlen]; exact hq),hr.neO⟩,k1.ownT h.row (by decide)⟩
 show World.ownsRow _ _ 55 1 (.slice s.L (t.locals.set i u).length s.lc) (t.locals.set i u).length (u64s (t.locals.set i u))
 rw [hlen,h1]
 have : u64s (t.locals.set i u) = (u64s t.locals).set i (.int .u64 u) := by unfold u64s; rw [List.map_set]
 rw [this]; exact hset
theorem RunX.setHead (h : RunX w0 w B g P pc np m1 G cap k T T1 Z qs qs1 t s da l AG cG) {i : Nat} {v : Value} {m' : Mach} (hH : (headR (.slice P np pc) (.slice (some ⟨G,0,none⟩) (k + 1) cap) T1 m1).set i v = headR (.slice P np pc) (.slice (some ⟨G,0,none⟩) (k + 1) cap) T1 m') (htr : m'.trace = m1.trace) :
   RunX w0 (w.setCell ⟨g,i,none⟩ v) B g P pc np m' G cap k T T1 Z qs qs1 t s da l AG cG := by
 have hr := h.run
 have k1 := chg1_set (i := i) (v := v) hr.head
 refine ⟨⟨Chg.setCell (a := ⟨g,i,none⟩) hr.chg _ fun _ => .inl rfl,by rw [← hH]; exact at_set hr.head i v,by rw [htr]; exact k1.ownT hr.tr (by decide),hr.trn,⟨k1.ownT hr.own.D (by decide),hr.own.dl,k1.ownT hr.own.L (by decide),k1.ownT hr.own.O (by decide),hr.own.ne⟩,k1.ownT hr.got (by decide),hr.each,hr.der,hr.neL,hr.neO⟩,k1.ownT h.row (by decide)⟩
theorem RunX.mark {bs : List Nat} (h : RunX w0 w B g P pc np m1 G cap k T T1 Z qs qs1 t s da l AG cG) (hB : B ≤ g) (hlen : m1.trace.length ≤ 100000) {kd : Int} {u : Nat} {K : Value → World → Prop}
   (hk : ∀ T2 w',RunX w0 w' B g P pc np (markM m1 kd u) G cap k T T2 Z qs qs1 t s da l AG cG → K (.tuple ⟨[]⟩) w') : CallK Tryz.prog 136 [.pointer (some ⟨g,0,none⟩),.int .i64 kd,.int .u64 (u : Int)] w0.heap.size w bs K := by
 have hr := h.run
 have hH : HdAt w B g (.slice P np pc) (.slice (some ⟨G,0,none⟩) (k + 1) cap) T1 m1 := ⟨hB,hr.head,hr.tr⟩
 refine call_markH h.size hH hlen fun w' T2 hH2 he hT2 => ?_
 have keep : ∀ {v : Value} {b : Nat} {e : TypeId} {sz n : Nat} {xs : List Value},w.ownsRow b e sz v n xs → e ≠ 85 → e ≠ 57 → w'.ownsRow b e sz v n xs := fun ho h1 h2 => he.owns ho fun j hj hm => by
   obtain ⟨_,_,c,e',f,hh,hc⟩ := hH.ty hm
   obtain ⟨_,c2,f2,hh2⟩ := owns_ty ho hj
   rw [hh] at hh2; cases hh2
   rcases hc with rfl | rfl
   · exact h1 rfl
   · exact h2 rfl
 refine hk T2 w' ⟨⟨he.chg hr.chg fun j hj hm => ?_,hH2.head,hH2.tr,fun j hj => ?_,⟨keep hr.own.D (by decide) (by decide),hr.own.dl,keep hr.own.L (by decide) (by decide),keep hr.own.O (by decide) (by decide),hr.own.ne⟩,keep hr.got (by decide) (by decide),hr.each,hr.der,hr.neL,hr.neO⟩,keep h.row (by decide) (by decide)⟩
 · rcases hm with hm | hm
   · exact .inl hm
   · exact (hr.trn j hm).elim .inr fun h => by omega
 · rcases hT2 j hj with h1 | h1
   · exact hr.trn j h1
   · exact .inr (Nat.le_trans h.size h1)
theorem flatC_app1 {d : Dfr} {e : Option Addr × Nat} : ∀ {ds : List Dfr} {da : List (Option Addr × Nat)},da.length = ds.length → flatC dfC (ds ++ [d]) (da ++ [e]) = flatC dfC ds da ++ dfC d e
 | [],[],_ => rfl
 | x :: r,y :: u,h => by
   have := flatC_app1 (d := d) (e := e) (ds := r) (da := u) (by simpa using h)
   show dfC x y ++ flatC dfC (r ++ [d]) (u ++ [e]) = _
   rw [this, ← List.append_assoc]; rfl
 | [],_ :: _,h => by simp at h
 | _ :: _,[],h => by simp at h
theorem RunX.defer {bs : List Nat} (h : RunX w0 w B g P pc np m1 G cap k T T1 Z qs qs1 t s da l AG cG) (ht : t.dfs.length ≤ 8) {a : Int} {K : Value → World → Prop}
   (hk : ∀ A' c' w',RunX w0 w' B g P pc np m1 G cap k T T1 Z qs qs1 { t with dfs := t.dfs ++ [⟨a,l⟩] } { s with D := A',dc := c' } (da ++ [(AG,cG)]) l AG cG → K (.slice A' (t.dfs ++ [(⟨a,l⟩ : Dfr)]).length c') w') :
   Expo w0.heap.size w bs fun w1 => Hide bs (w1.alloc (.cells ⟨[.int .i64 a,.slice AG l.length cG]⟩ 149)) fun w2 => RunK Tryz.prog (Builtin.append_ #[97,97] 97 ⟨[.slice s.D t.dfs.length s.dc,.slice (some ⟨w1.heap.size,0,none⟩) 1 1]⟩) w0.heap.size w2 bs K := by
 refine expo_alloc h.size fun w1 w2 hs1 e2 hlt2 ho2 => ?_
 have h2 := h.ext e2
 have hD := h2.run.own.D
 have hb112 : Tryz.t149.bytes = 32 := by kernel_rfl
 refine append_own (t := 97) (e := 149) (i := Tryz.t149) (z := .agg ⟨[.int .i64 0,.slice none 0 0]⟩) (size := 2) (bytes := 32) (by kernel_rfl) (by kernel_rfl) (by kernel_rfl) (by kernel_rfl) hb112 rfl (by omega) hD (m := 1) (news := dfC ⟨a,l⟩ (AG,cG)) rfl (fun j v hj => by rw [own_add]; exact at_cell ho2 hj) (fun v hv => ?_) (by simp only [maxLen]; omega) (by omega) h2.size h2.size fun v' w3 he ho3 hn3 => ?_
 · simp only [dfC,List.mem_cons,List.not_mem_nil,or_false] at hv
   rcases hv with rfl | rfl <;> rfl
 obtain ⟨A',c',hv⟩ := owns_slice0 ho3
 subst hv
 have e : (t.dfs ++ [(⟨a,l⟩ : Dfr)]).length = t.dfs.length + 1 := by rw [List.length_append]; rfl
 rw [← e] at ho3 hn3 ⊢
 have h1 := chg1_exts he hD
 have hr := h2.run
 refine hk A' c' w3 ⟨⟨he.chg hr.chg fun j hj hj' => absurd hj (by have := (hD.lt j hj').1; omega),h1.row _ _ _ _ (fun e => by obtain ⟨_,c,f,hh⟩ := owns_ty hD e; rw [hr.head] at hh; cases hh) hr.head,h1.ownT hr.tr (by decide),hr.trn,⟨?_,by rw [List.length_append,e,hr.own.dl]; rfl,h1.ownT hr.own.L (by decide),h1.ownT hr.own.O (by decide),hr.own.ne⟩,h1.ownT hr.got (by decide),hr.each,fun i d ee hd hee => ?_,hr.neL,hr.neO⟩,h1.ownT h2.row (by decide)⟩
 · show w3.ownsRow _ 149 2 _ _ (flatC dfC (t.dfs ++ [_]) (da ++ [_]))
   rw [flatC_app1 hr.own.dl]; exact ho3
 · have hdl := hr.own.dl
   by_cases hi : i < t.dfs.length
   · rw [List.getElem?_append_left hi] at hd
     rw [List.getElem?_append_left (by omega)] at hee
     exact hr.der i d ee hd hee
   · rw [List.getElem?_append_right (by omega)] at hd
     rw [List.getElem?_append_right (by omega)] at hee
     have hi0 : i - t.dfs.length = 0 := by
       have := (List.getElem?_eq_some_iff.1 hd).1
       simp only [List.length_cons,List.length_nil] at this; omega
     rw [hi0] at hd
     rw [hdl,hi0] at hee
     cases hd; cases hee
     exact .inr ⟨rfl,rfl⟩
theorem RunX.below (h : RunX w0 w B g P pc np m1 G cap k T T1 Z qs qs1 t s da l AG cG) {i r : Nat} {q q' : Frm × Sls} {u : Value} (hq : qs1[i]? = some q) (hr : r < 8) (hu : (frU q).set r u = frU q') (hs : q'.2 = q.2) (h1 : q'.1.dfs = q.1.dfs) (h2 : q'.1.locals = q.1.locals) (h3 : q'.1.ops = q.1.ops) (hlen : qs1.length = k + 1) :
   (∃ v,w.cell? ⟨G,i * 8 + r,none⟩ = some v) ∧ w.frozen? ⟨G,i * 8 + r,none⟩ = false ∧ RunX w0 (w.setCell ⟨G,i * 8 + r,none⟩ u) B g P pc np m1 G cap k T T1 Z qs (qs1.set i q') t s da l AG cG := by
 have hi := (List.getElem?_eq_some_iff.1 hq).1
 obtain ⟨c1,f1,k1,o1⟩ := put90 h.row (i := i * 8 + r) (by omega) u
 rw [frsC_set hq hr hu] at o1
 have hG0 := (h.row.lt G rfl).1
 have hs1 := h.run.chg1 k1 (Chg.setCell (a := ⟨G,i * 8 + r,none⟩) h.run.chg u fun hlt => absurd hlt (by show ¬ G < _; omega)) (by decide) (by decide) (by decide) (by decide)
 refine ⟨c1,f1,⟨⟨hs1.chg,hs1.head,hs1.tr,hs1.trn,hs1.own,hs1.got,fun y hy => ?_,hs1.der,hs1.neL,hs1.neO⟩,o1⟩⟩
 rcases List.mem_or_eq_of_mem_set hy with hy | rfl
 · exact hs1.each y hy
 · obtain ⟨q0,hq0,a,b,c,d⟩ := hs1.each q (List.mem_of_getElem? hq)
   exact ⟨q0,hq0,by rw [hs,a],by rw [h1,b],by rw [h2,c],by rw [h3,d]⟩
end
end Go.Proofs.YtidcpndlloppdaaGreat
