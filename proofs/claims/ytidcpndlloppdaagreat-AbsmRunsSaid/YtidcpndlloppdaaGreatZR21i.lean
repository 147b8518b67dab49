import Derived.Test.YtidcpndlloppdaaGreatZR21h
/-
 Layers 21,29: the document's machine: unwind does what the plain rule tells; a step does.
 Conditions: none.
-/
set_option linter.unusedVariables false
set_option linter.unusedSimpArgs false
set_option maxRecDepth 20000
namespace Go.Proofs.YtidcpndlloppdaaGreat
open Go.RowKit
theorem OwnF.exts {w w' : World} {B b : Nat} {S : Nat → Prop} {t : Frm} {vD vL vO : Value} {da : List (Option Addr × Nat)} (h : OwnF w b t vD vL vO da) (he : ExtS B S w w') (hS : ∀ k,(vD.ownBlock = some k ∨ vL.ownBlock = some k ∨ vO.ownBlock = some k) → ¬ S k) : OwnF w' b t vD vL vO da :=
 ⟨he.owns h.D fun k hk => hS k (.inl hk),h.dl,he.owns h.L fun k hk => hS k (.inr (.inl hk)),he.owns h.O fun k hk => hS k (.inr (.inr hk)),h.ne⟩
theorem OwnF.lt {w : World} {b : Nat} {t : Frm} {vD vL vO : Value} {da : List (Option Addr × Nat)} (h : OwnF w b t vD vL vO da) {k : Nat} (hk : vD.ownBlock = some k ∨ vL.ownBlock = some k ∨ vO.ownBlock = some k) : b ≤ k ∧ k < w.heap.size := by
 rcases hk with hk | hk | hk
 · exact h.D.lt k hk
 · exact h.L.lt k hk
 · exact h.O.lt k hk
theorem frsC_left {a b : List (Frm × Sls)} {j : Nat} {u : Value} (h : (frsC a)[j]? = some u) : (frsC (a ++ b))[j]? = some u := by
 rw [frsC_app,List.getElem?_append_left (List.getElem?_eq_some_iff.1 h).1]; exact h
section
variable {w : World} {B g : Nat} {P : Option Addr} {pc : Nat} {p : List Fnc} {m : Mach} {A : Option Addr} {c : Nat} {T : Value} {qs : List (Frm × Sls)} {Z : Nat → Prop} {x : Frm} {r : List Frm}
theorem cap100 {n : Nat} (h : n ≤ 100000) : n ≤ maxLen ∧ n * 112 ≤ 140737488355328 := by simp only [maxLen]; omega
theorem app_frames {w7 : World} {bs : List Nat} {gE : Nat} {qs2 q3 : List (Frm × Sls)} {K : Value → World → Prop} (h : RefAt w7 B g P pc p m A c T (qs2 ++ q3) Z) (hE : w7.heap[gE]? = some (.cells ⟨[]⟩ 99 (0,0))) (hw7 : Below w.heap.size w w7) (hgE : w.heap.size ≤ gE) {n : Nat} (hk2 : qs2.length = n) (hn : n ≤ 100000)
   (hk : ∀ A5 c5 w5,ExtS w.heap.size (fun k => gE = k) w7 w5 → Below w.heap.size w w5 → w5.ownsRow w.heap.size 99 8 (.slice A5 n c5) n (frsC qs2) → (∀ k,(Value.slice A5 n c5).ownBlock = some k → k = gE ∨ w7.heap.size ≤ k) → K (.slice A5 n c5) w5) :
   RunK Tryz.prog (Builtin.append_ #[40,40] 40 ⟨[.slice (some ⟨gE,0,none⟩) 0 0,.slice A n c]⟩) w.heap.size w7 bs K := by
 have hb112 : Tryz.t99.bytes = 112 := by kernel_rfl
 obtain ⟨l1,l2⟩ := cap100 hn
 refine append_anyR (t := 40) (e := 99) (i := Tryz.t99) (z := .agg ⟨[.int .i64 0,.int .i64 0,.int .i64 0,.bool false,.int .u64 0,.slice none 0 0,.slice none 0 0,.slice none 0 0]⟩) (size := 8) (bytes := 112) (b0 := gE) (n := 0) (xs := []) (by kernel_rfl) (by kernel_rfl) (by kernel_rfl) (by kernel_rfl) hb112 rfl (by omega) (owns_empty hE (Nat.le_refl _)) (news := frsC qs2) (by rw [frsC_len,hk2]) h.cap.2 (fun j u hj => h.frs.cell j u (frsC_left hj)) frsC_one (by omega) (by omega) hw7.size (Nat.le_of_lt (lt_of_some hE)) fun v5 w5 he ho5 hn5 => ?_
 rw [Nat.zero_add,List.nil_append] at ho5
 obtain ⟨A5,c5,hv⟩ := owns_slice0 ho5
 subst hv
 have heS : ExtS w.heap.size (fun k => gE = k) w7 w5 := ⟨he.os,he.tape,he.output,he.size,fun k cc t f hS hk => he.row k cc t f (fun e => hS (Option.some.inj e)) hk,fun k hk hS => he.low k hk fun e => hS (Option.some.inj e)⟩
 exact hk A5 c5 w5 heS (heS.after (fun j hj => by rw [← hj]; exact hgE) hw7) (owns_down ho5 hgE) fun k hk => (hn5 k hk).imp (fun e => (Option.some.inj e).symm) id
theorem app_top {w7 : World} {bs : List Nat} {gT : Nat} {qs2 : List (Frm × Sls)} {t : Frm} {s : Sls} {K : Value → World → Prop} {A5 : Option Addr} {c5 n : Nat} (hT : w7.heap[gT]? = some (.cells ⟨frU (t,s)⟩ 99 (0,0))) (hw7 : Below w.heap.size w w7) (ho : w7.ownsRow w.heap.size 99 8 (.slice A5 n c5) n (frsC qs2)) (hn : n ≤ 99000)
   (hk : ∀ A8 c8 w8,ExtS w.heap.size (fun k => (Value.slice A5 n c5).ownBlock = some k) w7 w8 → Below w.heap.size w w8 → w8.ownsRow w.heap.size 99 8 (.slice A8 (n + 1) c8) (n + 1) (frsC (qs2 ++ [(t,s)])) → K (.slice A8 (n + 1) c8) w8) :
   RunK Tryz.prog (Builtin.append_ #[40,40] 40 ⟨[.slice A5 n c5,.slice (some ⟨gT,0,none⟩) 1 1]⟩) w.heap.size w7 bs K := by
 have hb112 : Tryz.t99.bytes = 112 := by kernel_rfl
 obtain ⟨l1,l2⟩ := cap100 (show n + 1 ≤ 100000 by omega)
 refine append_own (t := 40) (e := 99) (i := Tryz.t99) (z := .agg ⟨[.int .i64 0,.int .i64 0,.int .i64 0,.bool false,.int .u64 0,.slice none 0 0,.slice none 0 0,.slice none 0 0]⟩) (size := 8) (bytes := 112) (by kernel_rfl) (by kernel_rfl) (by kernel_rfl) (by kernel_rfl) hb112 rfl (by omega) ho (m := 1) (news := frU (t,s)) rfl (fun j v hj => by rw [own_add]; exact at_cell hT hj) (fun v hv => frsC_one (qs := [(t,s)]) v (by show v ∈ frU (t,s) ++ []; rw [List.append_nil]; exact hv)) (by omega) (by omega) hw7.size hw7.size fun v8 w8 he ho8 hn8 => ?_
 obtain ⟨A8,c8,hv⟩ := owns_slice0 ho8
 subst hv
 refine hk A8 c8 w8 he (he.after (fun j hj => (ho.lt j hj).1) hw7) ?_
 rw [frsC_app,show frsC [(t,s)] = frU (t,s) from List.append_nil _]
 exact ho8
theorem unw_fin (h : RefAt w B g P pc p m A c T qs Z) {z : World} {vF T1 : Value} {m1 m' : Mach} {n : Nat} {qs' : List (Frm × Sls)} {fs : List Frm} (hc : Chg (MutR g T) w z) (hd : z.heap[g]? = some (.cells ⟨headR (.slice P p.length pc) vF T1 m1⟩ 85 (0,0))) (hT : OwnMs z B T1 m1.trace)
   (hTn : ∀ k,T1.ownBlock = some k → T.ownBlock = some k ∨ w.heap.size ≤ k) (hrow : z.ownsRow w.heap.size 99 8 vF n (frsC qs')) (heach : ∀ q ∈ qs',∃ q0 ∈ qs,q.2 = q0.2 ∧ q.1.dfs = q0.1.dfs ∧ q.1.locals = q0.1.locals ∧ q.1.ops = q0.1.ops) (hf : qs'.map Prod.fst = fs.reverse) (hm' : m' = { m1 with frames := fs }) :
   Ret w.heap.size z (IsT w (MutR g T) (fun u w' => u = .tuple ⟨[]⟩ ∧ RefQ w B g P pc p T Z m' w') (.tuple ⟨[]⟩)) := by
 subst hm'
 obtain ⟨A',c',hR,hZ⟩ := h.fin (T' := T1) (m' := { m1 with frames := fs }) hc hd hT hTn hrow (fun q hq => by
   obtain ⟨q0,hq0,e1,e2,e3,e4⟩ := heach q hq
   have h0 := h.oldF (T' := T1) hc q0 hq0
   rw [e1]
   exact ⟨by rw [e2]; exact h0.dfs,by rw [e3]; exact h0.locals,by rw [e4]; exact h0.ops⟩) (fun q hq => by
   obtain ⟨q0,hq0,e1,_⟩ := heach q hq
   rw [e1]; exact h.side.2.nil q0 hq0) hf
 exact ref_ret hc hR hTn hZ
theorem unw_over (h : RefAt w B g P pc p m A c T qs Z) (hB : B ≤ g) {z : World} {bs : List Nat} {vF : Value} {n : Nat} (hc : Chg (MutR g T) w z) (hd : z.heap[g]? = some (.cells ⟨headR (.slice P p.length pc) vF T m⟩ 85 (0,0))) (hT : OwnMs z B T m.trace) (hrow : z.ownsRow w.heap.size 99 8 vF n (frsC []))
   (htr : m.trace.length ≤ 100000) {v : Int} (hv : 0 ≤ v) (kd : Int) :
   (∃ u,z.cell? ⟨g,3,none⟩ = some u) ∧ z.frozen? ⟨g,3,none⟩ = false ∧ CallK Tryz.prog 136 [.pointer (some ⟨g,0,none⟩),.int .i64 kd,.int .u64 v] w.heap.size (z.setCell ⟨g,3,none⟩ (.bool true)) bs fun u A => u = .tuple ⟨[]⟩ ∧
     Ret w.heap.size A (IsT w (MutR g T) (fun u w' => u = .tuple ⟨[]⟩ ∧ RefQ w B g P pc p T Z { m with frames := [],ended := true,trace := m.trace ++ [⟨kd,v.toNat⟩] } w') (.tuple ⟨[]⟩)) := by
 refine ⟨⟨_,at_cell (i := 3) hd rfl⟩,at_frozen hd 3, ?_⟩
 have k1 := chg1_set (i := 3) (v := .bool true) hd
 have hH : HdAt (z.setCell ⟨g,3,none⟩ (.bool true)) B g (.slice P p.length pc) vF T { m with ended := true } := ⟨hB,at_set hd 3 _,k1.ownT hT (by decide)⟩
 have hc2 : Chg (MutR g T) w (z.setCell ⟨g,3,none⟩ (.bool true)) := Chg.setCell (a := ⟨g,3,none⟩) hc _ fun _ => .inl rfl
 have hr2 := k1.ownT hrow (by decide)
 rw [show (Value.int .u64 v) = .int .u64 ((v.toNat : Nat) : Int) by rw [Int.toNat_of_nonneg hv]]
 refine call_markH hc2.size hH htr fun w' T2 hH2 he hT2 => ⟨rfl, ?_⟩
 have hr3 : w'.ownsRow w.heap.size 99 8 vF n (frsC []) := he.owns hr2 fun j hj hm => by
   obtain ⟨_,_,cc,e',f,hh,hcc⟩ := hH.ty hm
   obtain ⟨_,c2,f2,hh2⟩ := owns_ty hr2 hj
   rw [hh] at hh2; cases hh2
   rcases hcc with h | h <;> exact absurd h (by decide)
 refine unw_fin h (he.chg hc2 fun k _ hk => hk) hH2.head hH2.tr (fun k hk => (hT2 k hk).imp id fun h3 => Nat.le_trans hc2.size h3) hr3 (fun q hq => by cases hq) (fs := []) rfl rfl
set_option maxHeartbeats 20000000 in
theorem turns89 (hr : Rt p) (h : RefAt w B g P pc p m A c T qs Z) (ho : MOk p m) (hm : m.frames = x :: r) (h0 : x.mode ≠ 0) (hlen : r.length ≤ 90000) (htr : m.trace.length ≤ 90000) :
   RefT 89 [.pointer (some ⟨g,0,none⟩)] w B g P pc p T Z (.tuple ⟨[]⟩) (leaveM p m x r) := by
 have hxo := ho.frames x (by rw [hm]; exact List.mem_cons_self)
 obtain ⟨f,hx⟩ := hxo.inn
 have hw := hxo.wd
 obtain ⟨hgp,hsz⟩ := hx.wrap hr
 obtain ⟨sm1,sm2,sm3,sm4⟩ := small_in hr hx
 have hsmx : SmallFR x := ⟨by omega,by omega,by omega,sm4⟩
 have hmode := hx.mode
 have hqm := h.frames
 rw [hm] at hqm
 obtain ⟨qs2,s,rfl,hr1,hk2⟩ := top_split hqm
 have hlq : (qs2 ++ [(x,s)]).length = r.length + 1 := by rw [List.length_append,hk2]; rfl
 obtain ⟨a,ha,hcell⟩ := h.frs.get (last_at hk2)
 replace hcell : ∀ i u,(frU (x,s))[i]? = some u → w.cell? ((a.add (r.length * 8)).add i) = some u := hcell
 have hF0 : FrmAt (onlyW Z w) x s := h.side.2.each (x,s) (by simp)
 have hni : NilOk s := h.side.2.nil (x,s) (by simp)
 obtain ⟨da,hdl,hdall,hdsrc⟩ := dfr_src hF0.dfs
 have c6 := h.cell (i := 6) rfl
 rw [hlq] at c6
 refine turns_of (V89.sound ?_)
 unfold V89.vc
 simp only [own_add,bx_add,Nat.add_zero]
 refine ⟨_,_,_,c6,_,_,_,c6,a,ha, ?_⟩
 rw [top_ix (by omega)]
 simp only [Int.toNat_natCast]
 refine ⟨by omega,by omega,x.f,hcell 0 _ rfl,x.pc,hcell 1 _ rfl,x.mode,hcell 2 _ rfl,x.dfd,hcell 3 _ rfl,x.value,hcell 4 _ rfl,s.D,x.dfs.length,s.dc,hcell 5 _ rfl,s.L,x.locals.length,s.lc,hcell 6 _ rfl,s.O,x.ops.length,s.oc,hcell 7 _ rfl, ?_⟩
 refine call_copied (t := x) (s := s) (Nat.le_refl _) hsmx (hF0.keep fun q v hq => (only_cell.1 hq).1) hni hdl (fun j u hj => by obtain ⟨a,ha,hc⟩ := hdsrc j u hj; exact ⟨a,ha,(only_cell.1 hc).1⟩) fun AD cD AL cL AO cO w2 e2 hown => ?_
 refine ⟨_,_,_,_,_,_,_,_,_,_,_,_,_,_,rfl,fun q1 _ => ?_⟩
 have h2 := h.ext e2
 have hw2 := e2.after (Below.refl _ _)
 have c62 := h2.cell (i := 6) rfl
 rw [hlq] at c62
 obtain ⟨hcap,hcnil⟩ := h.cap
 rw [hlq] at hcap
 simp only [Nat.zero_mul,slice_cut,Nat.sub_zero]
 by_cases hd : x.dfs = []
 · have hl0 : x.dfs.length = 0 := by rw [hd]; rfl
   rw [if_neg (by simp; omega)]
   refine expo_alloc e2.size fun w3 w4 hs3 e4 hlt4 ho4 => ⟨_,_,_,e4.cell c62,by omega,by omega, ?_⟩
   refine app_frames (h2.ext e4) ho4 (e4.after hw2) (Nat.le_trans e2.size hs3) hk2 (by omega) fun A5 c5 w5 he5 hw5 ho5 hn5 => ⟨A5,_,c5,rfl, ?_⟩
   have hg5 : w5.heap[g]? = some (.cells ⟨headR (.slice P p.length pc) (.slice A (qs2 ++ [(x,s)]).length c) T m⟩ 85 (0,0)) := by rw [hw5.block g (h.ty (.inl rfl)).2.1]; exact h.head
   refine ⟨⟨_,at_cell (i := 6) hg5 rfl⟩,at_frozen hg5 6, ?_⟩
   have k1 := chg1_set (i := 6) (v := .slice A5 r.length c5) hg5
   have hT5 : OwnMs w5 B T m.trace := owns_other h.trace fun k hk => by
     obtain ⟨_,cc,ff,hh⟩ := owns_ty h.trace hk
     exact hw5.block k (lt_of_some hh)
   have hset := at_set hg5 6 (.slice A5 r.length c5)
   have hc : Chg (MutR g T) w (w5.setCell ⟨g,6,none⟩ (.slice A5 r.length c5)) := Chg.setCell (a := ⟨g,6,none⟩) ⟨hw5.os,hw5.tape,hw5.output,hw5.size,fun k hk _ => hw5.block k hk⟩ _ fun _ => .inl rfl
   have hrow := k1.ownT ho5 (by decide)
   have hTz := k1.ownT hT5 (by decide)
   have hold : ∀ q ∈ qs2,∃ q0 ∈ qs2 ++ [(x,s)],q.2 = q0.2 ∧ q.1.dfs = q0.1.dfs ∧ q.1.locals = q0.1.locals ∧ q.1.ops = q0.1.ops := fun q hq => ⟨q,List.mem_append_left _ hq,rfl,rfl,rfl,rfl⟩
   have hset' : (w5.setCell ⟨g,6,none⟩ (.slice A5 r.length c5)).heap[g]? = some (.cells ⟨headR (.slice P p.length pc) (.slice A5 r.length c5) T m⟩ 85 (0,0)) := hset
   generalize w5.setCell ⟨g,6,none⟩ (.slice A5 r.length c5) = z at *
   have hxv : 0 ≤ x.value := hw.value.1
   have hgl : x.dfs.getLast? = none := by rw [hd]; rfl
   clear hset k1 hT5 hg5 ho5 hn5 he5 ho4 e4
   unfold V89.b0
   simp only [own_add,bx_add,Nat.add_zero]
   rcases hrr : r with _ | ⟨u,r'⟩
   · rw [if_pos (by rfl)]
     have hq0 : qs2 = [] := List.eq_nil_of_length_eq_zero (by rw [hk2,hrr]; rfl)
     rw [hq0] at hrow
     by_cases h1 : x.mode = 1
     · rw [if_pos (by simpa using h1)]
       have hlv : leaveM p m x [] = { m with frames := [],ended := true,trace := m.trace ++ [⟨3,x.value.toNat⟩] } := by unfold leaveM; rw [hgl]; simp [h1]
       rw [hlv]
       exact unw_over h h.base hc hset' hTz hrow (by omega) hxv 3
     · rw [if_neg (by simpa using h1),if_pos (by rfl)]
       have h2 : x.mode = 2 := by omega
       have hlv : leaveM p m x [] = { m with frames := [],ended := true,trace := m.trace ++ [⟨4,x.value.toNat⟩] } := by unfold leaveM; rw [hgl]; simp [h2]
       rw [hlv]
       exact unw_over h h.base hc hset' hTz hrow (by omega) hxv 4
   rw [← hrr]
   have hlr' : r.length = r'.length + 1 := by rw [hrr]; rfl
   have hz0 : ¬ ((r.length : Int) == 0) = true := by rw [beq_iff_eq]; omega
   rw [if_neg hz0,if_neg (by simp),if_neg hz0]
   rw [hrr] at hr1
   obtain ⟨qs3,su,rfl,hr3,hk3⟩ := top_split hr1
   have e1 : IntKind.wrap .i64 ((r.length : Int) - 1) = (r'.length : Int) := by rw [hlr']; exact top_ix (by omega)
   obtain ⟨G9,c9,hvF,_,hG9⟩ := owns_some hrow (by omega)
   injection hvF with hA5 _ hcc
   subst hA5; subst hcc
   have hqu : (qs3 ++ [(u,su)])[r'.length]? = some (u,su) := last_at hk3
   by_cases h2m : x.mode = 2
   · rw [if_pos (by simpa using h2m)]
     have hlv : leaveM p m x r = { m with frames := { u with mode := 2,value := x.value } :: r' } := by rw [hrr]; unfold leaveM; rw [hgl]; simp [h2m]
     rw [hlv]
     simp only [e1,Int.toNat_natCast]
     refine ⟨_,_,_,at_cell (i := 6) hset' rfl,_,rfl,by omega,by omega, ?_⟩
     simp only [own_add,bx_add,Nat.zero_add,Nat.add_zero]
     obtain ⟨c1,f1,k1,o1⟩ := put90 hrow (i := r'.length * 8 + 2) (by omega) (.int .i64 2)
     rw [frsC_set (q' := ({ u with mode := 2 },su)) hqu (by omega) rfl] at o1
     have hset1 := k1.row _ _ _ _ (fun e => by have h9 := hset'; obtain ⟨_,cc,ff,hh⟩ := owns_ty hrow (k := G9) rfl; rw [← Option.some.inj e,hh] at h9; cases h9) hset'
     refine ⟨c1,f1,_,_,_,at_cell (i := 6) hset1 rfl,_,rfl,by omega,by omega, ?_⟩
     simp only [own_add,bx_add,Nat.zero_add,Nat.add_zero]
     have hqu2 : ((qs3 ++ [(u,su)]).set r'.length ({ u with mode := 2 },su))[r'.length]? = some ({ u with mode := 2 },su) := by rw [List.getElem?_set_self (by rw [List.length_append,hk3]; simp)]
     obtain ⟨c2,f2,k2,o2⟩ := put90 o1 (i := r'.length * 8 + 4) (by omega) (.int .u64 x.value)
     rw [frsC_set (q' := ({ u with mode := 2,value := x.value },su)) hqu2 (by omega) rfl] at o2
     refine ⟨c2,f2, ?_⟩
     have hset2 := (k1.trans k2).row _ _ _ _ (fun e => by have h9 := hset'; obtain ⟨_,cc,ff,hh⟩ := owns_ty hrow (k := G9) rfl; rw [← Option.some.inj e,hh] at h9; cases h9) hset'
     have hc2 : Chg (MutR g T) w ((z.setCell ⟨G9,r'.length * 8 + 2,none⟩ (.int .i64 2)).setCell ⟨G9,r'.length * 8 + 4,none⟩ (.int .u64 x.value)) := Chg.setCell (a := ⟨G9,r'.length * 8 + 4,none⟩) (Chg.setCell (a := ⟨G9,r'.length * 8 + 2,none⟩) hc _ fun hlt => absurd hlt (by show ¬ G9 < _; omega)) _ fun hlt => absurd hlt (by show ¬ G9 < _; omega)
     refine unw_fin h hc2 hset2 ((k1.trans k2).ownT hTz (by decide)) (fun k hk => .inl hk) o2 (fun q hq => ?_) (fs := { u with mode := 2,value := x.value } :: r') ?_ rfl
     · rcases List.mem_or_eq_of_mem_set hq with hq | rfl
       · rcases List.mem_or_eq_of_mem_set hq with hq | rfl
         · exact hold q hq
         · exact ⟨(u,su),by simp,rfl,rfl,rfl,rfl⟩
       · exact ⟨(u,su),by simp,rfl,rfl,rfl,rfl⟩
     · rw [List.set_set,show (qs3 ++ [(u,su)]).set r'.length ({ u with mode := 2,value := x.value },su) = qs3 ++ [({ u with mode := 2,value := x.value },su)] by rw [List.set_append_right _ _ (by omega),hk3,Nat.sub_self]; rfl,List.map_append,hr3,List.reverse_cons]; rfl
   rw [if_neg (by simpa using h2m)]
   cases hdf : x.dfd with
   | true =>
     rw [if_neg (by simp)]
     have hlv : leaveM p m x r = { m with frames := u :: r' } := by rw [hrr]; unfold leaveM; rw [hgl]; simp [h2m,hdf]
     rw [hlv]
     exact unw_fin h hc hset' hTz (fun k hk => .inl hk) hrow hold hr1 rfl
   | false =>
     rw [if_pos (by simp)]
     have hlv : leaveM p m x r = { m with frames := pushF u [x.value] :: r' } := by rw [hrr]; unfold leaveM; rw [hgl]; simp [h2m,hdf]
     rw [hlv]
     rw [hlr'] at hrow hset'
     have hFu : FrmAt (onlyW Z w) u su := h.side.2.each (u,su) (by simp)
     have hnu : NilOk su := h.side.2.nil (u,su) (by simp)
     obtain ⟨fu,hxu⟩ := (ho.frames u (by rw [hm,hrr]; simp)).inn
     obtain ⟨u1,u2,u3,u4⟩ := small_in hr hxu
     obtain ⟨du,hdlu,hdallu,hdsrcu⟩ := dfr_src hFu.dfs
     have toz : ∀ q v,(onlyW Z w).cell? q = some v → z.cell? q = some v := fun q v hq => (only_cell.1 (h.keepZ (T' := T) hc q v hq)).1
     have ucell : ∀ (i : Nat) (v : Value),(frU (u,su))[i]? = some v → z.cell? ⟨G9,r'.length * 8 + i,none⟩ = some v := fun i v hv => owns_cell hrow (frsC_get hqu hv)
     simp only [e1,Int.toNat_natCast]
     refine ⟨_,_,_,at_cell (i := 6) hset' rfl,_,rfl,by omega,by omega, ?_⟩
     simp only [own_add,bx_add,Nat.zero_add]
     refine ⟨u.f,ucell 0 _ rfl,u.pc,ucell 1 _ rfl,u.mode,ucell 2 _ rfl,u.dfd,ucell 3 _ rfl,u.value,ucell 4 _ rfl,su.D,u.dfs.length,su.dc,ucell 5 _ rfl,su.L,u.locals.length,su.lc,ucell 6 _ rfl,su.O,u.ops.length,su.oc,ucell 7 _ rfl, ?_⟩
     refine call_copied (w0 := w) (t := u) (s := su) hc.size ⟨by omega,by omega,by omega,u4⟩ (hFu.keep toz) hnu hdlu (fun j v hj => by obtain ⟨a,ha,hc⟩ := hdsrcu j v hj; exact ⟨a,ha,toz _ _ hc⟩) fun AD2 cD2 AL2 cL2 AO2 cO2 z2 e2' hown2 => ?_
     refine ⟨_,_,_,_,_,_,_,_,_,_,_,_,_,_,rfl,fun q6 _ => ?_⟩
     have hX : RunX w z2 B g P pc p.length m G9 c5 r'.length T T Z ((qs3 ++ [(u,su)]) ++ [(x,s)]) (qs3 ++ [(u,su)]) u ⟨AD2,cD2,AL2,cL2,AO2,cO2⟩ du [] none 0 :=
       ⟨⟨ext_chg hc e2',e2'.row _ _ _ _ hset',e2'.owns hTz,fun k hk => .inl hk,hown2.down hc.size,⟨rfl,.inl ⟨rfl,rfl⟩⟩,hold,fun i d e hd he => .inl (hdallu i d e hd he),fun k hk hk' => (by cases hk'),fun k hk hk' => (by cases hk')⟩,e2'.owns hrow⟩
     refine hX.push (ws := [x.value]) (n := 1) rfl (by decide) u2 fun A' c' w' h' => ⟨_,_,_,rfl, ?_⟩
     refine ⟨_,_,_,at_cell (i := 6) h'.run.head rfl,_,rfl,by omega,by omega, ?_⟩
     simp only [own_add,bx_add,Nat.zero_add]
     refine put8 h'.row hk3 rfl (pushF u [x.value]) ⟨AD2,cD2,AL2,cL2,A',c'⟩ (K := fun w9 => Ret w.heap.size w9 (IsT w (MutR g T) (fun u w' => u = .tuple ⟨[]⟩ ∧ RefQ w B g P pc p T Z _ w') (.tuple ⟨[]⟩))) fun w9 hrow9 hk9 hchg9 => ?_
     have hS := h'.run.chg1 hk9 (hchg9 _ _ h'.run.chg (by omega)) (by decide) (by decide) (by decide) (by decide)
     obtain ⟨A9,c9',Z9,hR,hZ⟩ := hS.fin h ⟨by show u.locals.length ≤ _; omega,by show (u.ops ++ [x.value]).length ≤ _; rw [List.length_append]; simp only [List.length_cons,List.length_nil]; omega,by show u.dfs.length ≤ _; omega,u4⟩ (by simp) (qs2 := qs3) (fun q hq => List.mem_append_left _ hq) (by rw [hk3]; exact hrow9) rfl hr3
     exact ref_ret hS.chg hR hS.trn hZ
 obtain ⟨d,hdl?⟩ : ∃ d,x.dfs.getLast? = some d := by
   cases hg : x.dfs.getLast? with
   | none => exact absurd (List.getLast?_eq_none_iff.1 hg) hd
   | some d => exact ⟨d,rfl⟩
 obtain ⟨hdm,hdlast⟩ := getLast_mem hdl?
 have hleave : leaveM p m x r = enterM p { m with frames := { x with dfs := x.dfs.dropLast } :: r } d.f d.args true := by unfold leaveM; rw [hdl?]; rfl
 rw [hleave]
 have hdok := hx.dfs d hdm
 unfold dfrM at hdok
 split at hdok
 case h_2 => cases hdok
 rename_i gd hgd
 rw [beq_iff_eq] at hdok
 have hgs := sized_bd (hr.sized gd (fnAt_mem hgd).1)
 obtain ⟨n,hn⟩ : ∃ n,x.dfs.length = n + 1 := ⟨x.dfs.length - 1,by have := List.length_pos_iff.2 hd; omega⟩
 have hdn : x.dfs.dropLast.length = n := by rw [List.length_dropLast]; omega
 have hxd : x.dfs[n]? = some d := by rw [hdlast]; exact last_at hdn
 obtain ⟨e,he⟩ : ∃ e,da[n]? = some e := ⟨_,List.getElem?_eq_getElem (by omega)⟩
 have hNd := hdall n d e hxd he
 obtain ⟨gD,capD,hvD,_,_⟩ := owns_some hown.D (by omega)
 injection hvD with hAD _ _
 have hD := hown.D
 rw [hAD] at hD
 have cut := (owns_cut hown.D (k := n) (by omega)).1
 rw [flatC_take hdl n (by omega)] at cut
 have etake : x.dfs.take n = x.dfs.dropLast := by rw [List.dropLast_eq_take,hn]; rfl
 rw [etake] at cut
 rw [if_pos (by simp; omega),hn]
 have hwr : IntKind.wrap .i64 (((n + 1 : Nat) : Int) - 1) = (n : Int) := top_ix (by omega)
 simp only [hwr,Int.toNat_natCast,hAD]
 have hDc := own_capR hown.D
 refine ⟨⟨gD,0,none⟩,rfl,by omega,by omega,d.f, ?_,e.1,d.args.length,e.2, ?_,fun q2 _ => ⟨by omega,by omega, ?_⟩⟩
 · have := owns_cell hD (flatC_get dfC_len hxd he (j := 0) rfl)
   simpa [own_add,bx_add] using this
 · have := owns_cell hD (flatC_get dfC_len hxd he (j := 1) rfl)
   simpa [own_add,bx_add] using this
 have hq2 : ∀ q ∈ qs2,q ∈ qs2 ++ [(x,s)] := fun q hq => List.mem_append_left _ hq
 subst hdn
 obtain ⟨t',ht'⟩ : ∃ t' : Frm,t' = { x with dfs := x.dfs.dropLast } := ⟨_,rfl⟩
 have hsm' : SmallFR t' := by
   rw [ht']
   exact ⟨by show x.locals.length ≤ _; omega,by show x.ops.length ≤ _; omega,by show x.dfs.dropLast.length ≤ _; omega,fun d hd => sm4 d (List.mem_of_mem_take (by rw [← List.dropLast_eq_take]; exact hd))⟩
 have hda' : ∀ (i : Nat) (d : Dfr) (e : Option Addr × Nat),t'.dfs[i]? = some d → (da.take x.dfs.dropLast.length)[i]? = some e → Nums .u64 (onlyW Z w) e.1 d.args.length d.args := fun i d e hd he => by
   have tk : ∀ {α : Type} {l : List α} {n i : Nat} {v : α},(l.take n)[i]? = some v → l[i]? = some v := fun h => by
     rw [List.getElem?_take] at h; split at h
     · exact h
     · cases h
   rw [ht'] at hd
   simp only at hd
   rw [← etake] at hd
   exact hdall i d e (tk hd) (tk he)
 have hown' : OwnF w2 w.heap.size t' (.slice (some ⟨gD,0,none⟩) t'.dfs.length cD) (.slice AL t'.locals.length cL) (.slice AO t'.ops.length cO) (da.take x.dfs.dropLast.length) := by
   rw [ht']
   rw [hAD] at cut
   exact ⟨cut.1 |> fun _ => owns_down cut (Nat.le_refl _),by rw [List.length_take]; show _ = x.dfs.dropLast.length; omega,hown.L,hown.O,hown.ne⟩
 have hU : frU (t',⟨some ⟨gD,0,none⟩,cD,AL,cL,AO,cO⟩) = [.int .i64 x.f,.int .i64 x.pc,.int .i64 x.mode,.bool x.dfd,.int .u64 x.value,.slice (some ⟨gD,0,none⟩) x.dfs.dropLast.length cD,.slice AL x.locals.length cL,.slice AO x.ops.length cO] := by rw [ht']; rfl
 simp only [← hU]
 rw [← ht']
 have fin : ∀ {c8 : World} {bs : List Nat} {A9 : Option Addr} {c9 : Nat},Below w.heap.size w c8 → OwnF c8 w.heap.size t' (.slice (some ⟨gD,0,none⟩) t'.dfs.length cD) (.slice AL t'.locals.length cL) (.slice AO t'.ops.length cO) (da.take x.dfs.dropLast.length) → c8.ownsRow w.heap.size 99 8 (.slice A9 (r.length + 1) c9) (r.length + 1) (frsC (qs2 ++ [(t',⟨some ⟨gD,0,none⟩,cD,AL,cL,AO,cO⟩)])) → _ := fun {c8 bs A9 c9} h1 h2 h3 =>
   unw_end (bs := bs) (s := ⟨some ⟨gD,0,none⟩,cD,AL,cL,AO,cO⟩) (fn := gd) hr h hlen h1 hq2 hk2 hr1 h2 hda' h3 hsm' hNd hgd (by omega)
 have hlt2 : ∀ k,_ → k < w2.heap.size := fun k hk => (hown'.lt hk).2
 have hs2 := e2.size
 refine ⟨?_, ?_, ?_⟩
 · refine ⟨A,_,c,c62,by omega,by omega, ?_⟩
   refine expo_alloc hs2 fun w3 w4 hs3 e4 hlt4 ho4 => ⟨e4.cell c62, ?_⟩
   refine app_frames (h2.ext e4) ho4 (e4.after hw2) (Nat.le_trans hs2 hs3) hk2 (by omega) fun A5 c5 w5 he5 hw5 ho5 hn5 => ⟨A5,_,c5,rfl, ?_⟩
   refine expo_alloc hw5.size fun w6 w7 hs6 e7 hlt7 ho7 => ?_
   refine app_top ho7 (e7.after hw5) (e7.owns ho5) (by omega) fun A8 c8 w8 he8 hw8 ho8 => ⟨A8,_,c8,rfl, ?_⟩
   exact fin hw8 ((((hown'.ext e4).exts he5 fun k hk e => by have := hlt2 k hk; omega).ext e7).exts he8 fun k hk e => by
     have h1 := hlt2 k hk
     have h2 := e4.size
     rcases hn5 k e with h3 | h3 <;> omega) ho8
 · refine ⟨A,_,c,c62,by omega,by omega, ?_⟩
   refine expo_alloc hs2 fun w3 w4 hs3 e4 hlt4 ho4 => ⟨e4.cell c62, ?_⟩
   refine expo_alloc (Nat.le_trans hs2 e4.size) fun w6 w7 hs6 e7 hlt7 ho7 => ⟨e7.cell (e4.cell c62), ?_⟩
   refine app_frames ((h2.ext e4).ext e7) (e7.row _ _ _ _ ho4) (e7.after (e4.after hw2)) (Nat.le_trans hs2 hs3) hk2 (by omega) fun A5 c5 w5 he5 hw5 ho5 hn5 => ⟨A5,_,c5,rfl, ?_⟩
   refine app_top (he5.row _ _ _ _ (fun e => by omega) ho7) hw5 ho5 (by omega) fun A8 c8 w8 he8 hw8 ho8 => ⟨A8,_,c8,rfl, ?_⟩
   exact fin hw8 ((((hown'.ext e4).ext e7).exts he5 fun k hk e => by have := hlt2 k hk; omega).exts he8 fun k hk e => by
     have h1 := hlt2 k hk
     have h2 := e4.size
     have h4 := e7.size
     rcases hn5 k e with h3 | h3 <;> omega) ho8
 · refine ⟨A,_,c,c62,by omega,by omega, ?_⟩
   refine expo_alloc hs2 fun w3 w4 hs3 e4 hlt4 ho4 => ⟨e4.cell c62, ?_⟩
   have hs4 := e4.size
   refine expo_alloc (Nat.le_trans hs2 e4.size) fun w6 w7 hs6 e7 hlt7 ho7 => ⟨e7.cell (e4.cell c62), ?_⟩
   refine app_frames ((h2.ext e4).ext e7) ho7 (e7.after (e4.after hw2)) (by omega) hk2 (by omega) fun A5 c5 w5 he5 hw5 ho5 hn5 => ⟨A5,_,c5,rfl, ?_⟩
   refine app_top (he5.row _ _ _ _ (fun e => by omega) (e7.row _ _ _ _ ho4)) hw5 ho5 (by omega) fun A8 c8 w8 he8 hw8 ho8 => ⟨A8,_,c8,rfl, ?_⟩
   exact fin hw8 ((((hown'.ext e4).ext e7).exts he5 fun k hk e => by have := hlt2 k hk; omega).exts he8 fun k hk e => by
     have h1 := hlt2 k hk
     have h4 := e7.size
     rcases hn5 k e with h3 | h3 <;> omega) ho8
end
end Go.Proofs.YtidcpndlloppdaaGreat
