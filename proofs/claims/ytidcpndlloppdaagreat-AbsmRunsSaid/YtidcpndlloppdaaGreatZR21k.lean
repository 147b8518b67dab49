import Derived.Test.YtidcpndlloppdaaGreatZM21o
import Derived.Test.YtidcpndlloppdaaGreatZEngR
import Derived.Test.YtidcpndlloppdaaGreatZT18
import Derived.Test.YtidcpndlloppdaaGreatZMG
import Derived.Test.YtidcpndlloppdaaGreatZMC
/-
 Layer 21: the document's machine: what the next act needs,its roots; lists of frames that are alike.
 Conditions: the machine lies in memory as told.
-/
set_option linter.unusedVariables false
set_option linter.unusedSimpArgs false
set_option maxRecDepth 20000
namespace Go.Proofs.YtidcpndlloppdaaGreat
open Go.RowKit
section
variable {w0 : World} {x : Frm} {L : Option Addr} {lc : Nat} (hL : Nums .u64 w0 L x.locals.length x.locals) (hlen : x.locals.length ≤ 1000)
include hL hlen
theorem l0_129 {zs : List Int} {q : Nat} {D O : Option Addr} {dl dc ol oc : Nat} : ∀ (k i : Nat) (w : World) (A : Option Addr) (n c : Nat) (out : List Int),x.locals.length < i + k → i ≤ x.locals.length → n = out.length → n ≤ i → Below w0.heap.size w0 w → w.ownsRow w0.heap.size 55 1 (.slice A n c) n (u64s out) →
   out ++ ((x.locals.drop i).filter fun w => w != 0) = zs → V129.l0 w0.heap.size (IsQ w0 (RootsQ zs w0)) k A n c (i : Int) q x.f x.pc x.mode x.dfd x.value D dl dc L x.locals.length lc O ol oc w
 | 0,i,w,A,n,c,out,hk,hi,hn,hni,hw,ho,hz => by omega
 | k + 1,i,w,A,n,c,out,hk,hi,hn,hni,hw,ho,hz => by
   subst hn
   dsimp -zeta only [V129.l0]
   by_cases hlt : i < x.locals.length
   · rw [if_pos (by simp; omega)]
     obtain ⟨v,p,hv,hp,hc⟩ := hL.at hlt
     have hc' := below_keeps hw _ _ hc
     rw [Int.toNat_natCast,wrap_id (n := (i : Int) + 1) (by omega) (by omega)]
     refine ⟨p,hp,by omega,by omega,v,hc', ?_⟩
     rw [drop_at hv] at hz
     by_cases h0 : v = 0
     · subst h0
       rw [if_neg (by simp)]
       exact l0_129 k (i + 1) w A _ c out (by omega) (by omega) rfl (by omega) hw ho (by simpa using hz)
     · rw [if_pos (by simpa using h0)]
       refine ⟨p,hp,by omega,by omega,v,hc', ?_⟩
       refine expo_alloc hw.size fun w1 w2 hs1 e2 hlt2 ho2 => ?_
       have hw2 := e2.after hw
       have hb : Tryz.t55.bytes = 8 := by kernel_rfl
       refine append_own (t := 31) (e := 55) (i := Tryz.t55) (z := .int .u64 0) (size := 1) (bytes := 8) (by kernel_rfl) (by kernel_rfl) (by kernel_rfl) (by kernel_rfl) hb rfl (by omega) (e2.owns ho) (m := 1) (news := [.int .u64 v]) rfl (fun j u hj => ?_) (fun u hu => ?_) (by simp only [maxLen]; omega) (by omega) hw2.size hw2.size fun v' w3 he ho' hn' => ?_
       · rw [own_add]; exact at_cell ho2 hj
       · simp only [List.mem_cons,List.not_mem_nil,or_false] at hu; subst hu; rfl
       obtain ⟨A5,c5,hv5⟩ := owns_slice0 ho'
       subst hv5
       refine ⟨A5,_,c5,rfl, ?_⟩
       have e : u64s (out ++ [v]) = u64s out ++ [.int .u64 v] := by unfold u64s; rw [List.map_append]; rfl
       refine l0_129 k (i + 1) w3 A5 _ c5 (out ++ [v]) (by omega) (by omega) (by simp) (by omega) (he.after (fun j hj => (ho.lt j hj).1) hw2) (by rw [e]; exact ho') ?_
       rw [List.filter_cons_of_pos (by simpa using h0)] at hz
       rw [← hz]; simp
   · rw [if_neg (by simp; omega)]
     rw [List.drop_of_length_le (by omega)] at hz
     have hz : out = zs := by simpa using hz
     subst hz
     exact ret_q hw fun w1 e1 => e1.owns ho
end
theorem yields129 {w : World} {p : List Fnc} {P : Option Addr} {cap : Nat} (hp : ProgAt w P p.length p) {x : Frm} {s : Sls} (hx : FrmAt w x s) (hr : RefsF p x) : Yields Tryz.prog 129 [.agg ⟨[.slice P p.length cap]⟩,frmV x s] w (RootsQ (refsF p x) w) := by
 refine yields_of (V129.sound ?_)
 intro q2 _ q3 _
 obtain ⟨fn,hfn,hr0,hr1,hr2⟩ := hr
 obtain ⟨hmem,hf0,hfg,hflt⟩ := fnAt_mem hfn
 obtain ⟨fn',q,C',c',hf',hq,k0,k1,k2,k3,hcode⟩ := prog_at hp (i := x.f.toNat) (by omega)
 rw [hfg] at hf'
 cases hf'
 refine ⟨q,hq,hf0,hflt,fn.refs,k2, ?_⟩
 rw [wrap_id (by omega) (by omega),show (x.locals.length : Int) - fn.refs = ((x.locals.length - fn.refs.toNat : Nat) : Int) by omega]
 refine ⟨x.locals.length + 1,l0_129 hx.locals hr2 (x.locals.length + 1) (x.locals.length - fn.refs.toNat) w none 0 0 [] (by omega) (by omega) rfl (by omega) (Below.refl _ _) (World.ownsRow_nil _ _ _ _) ?_⟩
 unfold refsF
 rw [fnD_eq hfn]
 rfl
section
variable {w : World} {B g : Nat} {P : Option Addr} {pc : Nat} {p : List Fnc} {m : Mach} {A : Option Addr} {c : Nat} {T : Value} {qs : List (Frm × Sls)} {Z : Nat → Prop}
theorem RefAt.frame (h : RefAt w B g P pc p m A c T qs Z) {k : Nat} {x : Frm} (hx : m.frames[k]? = some x) : ∃ s,qs[m.frames.length - 1 - k]? = some (x,s) := by
 have hk := (List.getElem?_eq_some_iff.1 hx).1
 have h1 : (m.frames.reverse)[m.frames.length - 1 - k]? = some x := by
   rw [List.getElem?_reverse (by omega),show m.frames.length - 1 - (m.frames.length - 1 - k) = k by omega]; exact hx
 rw [← h.frames,List.getElem?_map] at h1
 obtain ⟨q,hq,rfl⟩ := Option.map_eq_some_iff.1 h1
 exact ⟨q.2,hq⟩
theorem RefAt.cells (h : RefAt w B g P pc p m A c T qs Z) {k : Nat} {x : Frm} (hx : m.frames[k]? = some x) : ∃ s a,A = some a ∧ FrmAt w x s ∧ ∀ (r : Nat) (u : Value),(frU (x,s))[r]? = some u → w.cell? ((a.add ((m.frames.length - 1 - k) * 8)).add r) = some u := by
 obtain ⟨s,hq⟩ := h.frame hx
 obtain ⟨a,ha,hc⟩ := h.frs.get hq
 exact ⟨s,a,ha,h.frs.each _ (List.mem_of_getElem? hq),hc⟩
theorem l0_86 {w0 : World} (h : RefAt w0 B g P pc p m A c T qs Z) (hr : ∀ x ∈ m.frames,RefsF p x) (hn : m.frames.length ≤ 100000) : ∀ (k j : Nat) (w : World) (O : Option Addr) (n oc : Nat) (i : Int),m.frames.length < j + k → j ≤ m.frames.length → i = (m.frames.length : Int) - 1 - j → n = ((m.frames.take j).flatMap (refsF p)).length → n ≤ j * 1000 → Below w0.heap.size w0 w →
   w.ownsRow w0.heap.size 55 1 (.slice O n oc) n (u64s ((m.frames.take j).flatMap (refsF p))) → V86.l0 w0.heap.size (IsQ w0 (RootsQ (rootsM p m) w0)) k ⟨g,0,none⟩ O n oc i w
 | 0,j,w,O,n,oc,i,hk,hj,hi,hnn,hnj,hw,ho => by omega
 | k + 1,j,w,O,n,oc,i,hk,hj,hi,hnn,hnj,hw,ho => by
   subst hnn
   dsimp -zeta only [V86.l0]
   have h1 := h.same fun k cs e f _ hb => (hw.block k (lt_of_some hb)).trans hb
   by_cases hlt : j < m.frames.length
   · obtain ⟨t,ht⟩ : ∃ t : Nat,t = m.frames.length - 1 - j := ⟨_,rfl⟩
     have hi' : i = (t : Int) := by omega
     subst hi'
     rw [if_pos (by simp)]
     obtain ⟨x,hx⟩ : ∃ x,m.frames[j]? = some x := ⟨_,List.getElem?_eq_getElem hlt⟩
     obtain ⟨s,a,ha,hfa,hcl⟩ := h1.cells hx
     rw [← ht] at hcl
     have hlen := h1.len
     simp only [own_add,bx_add,Nat.add_zero,Int.toNat_natCast]
     refine ⟨P,_,pc,h1.cell (i := 0) rfl,A,_,c,h1.cell (i := 6) rfl,a,ha,by omega,by omega,_,hcl 0 _ rfl,_,hcl 1 _ rfl,_,hcl 2 _ rfl,_,hcl 3 _ rfl,_,hcl 4 _ rfl,_,_,_,hcl 5 _ rfl,_,_,_,hcl 6 _ rfl,_,_,_,hcl 7 _ rfl, ?_⟩
     have hrx := hr x (List.mem_of_getElem? hx)
     refine call_yieldsX (Q := fun w1 => RootsQ (refsF p x) w1) hw.size (fun w1 e1 => yields129 (h1.ext e1).prog (hfa.keep (ext_keeps e1)) hrx) fun w1 v w2 w3 hs1 hQ hsame e3 => ?_
     have hQ : w2.ownsRow w1.heap.size 55 1 v (refsF p x).length (u64s (refsF p x)) := hQ
     have hQ3 : w3.ownsRow w1.heap.size 55 1 v (refsF p x).length (u64s (refsF p x)) := owns_other hQ fun k hk => hsame k (owns_ty hQ hk).1
     obtain ⟨A1,c1,hv1⟩ := owns_slice0 hQ3
     subst hv1
     refine ⟨A1,_,c1,rfl, ?_⟩
     have hw3 := e3.after hw
     have hrl : (refsF p x).length ≤ 1000 := by
       obtain ⟨_,_,_,_,h4⟩ := hrx
       unfold refsF
       refine Nat.le_trans (List.length_filter_le _ _) ?_
       rw [List.length_drop]; omega
     have hj2 : j * 1000 ≤ 100000 * 1000 := Nat.mul_le_mul_right _ (by omega)
     have hb : Tryz.t55.bytes = 8 := by kernel_rfl
     obtain ⟨hcap1,hnil1⟩ := own_capR hQ3
     refine append_anyR (t := 31) (e := 55) (i := Tryz.t55) (z := .int .u64 0) (size := 1) (bytes := 8) (by kernel_rfl) (by kernel_rfl) (by kernel_rfl) (by kernel_rfl) hb rfl (by omega) (e3.owns ho) (news := u64s (refsF p x)) (by unfold u64s; rw [List.length_map,Nat.mul_one]) hnil1 (fun r u hu => ?_) u64s_one (by simp only [maxLen]; omega) (by omega) hw3.size hw3.size fun v' w4 he ho' hn' => ?_
     · have hr' := (List.getElem?_eq_some_iff.1 hu).1
       unfold u64s at hr'
       rw [List.length_map] at hr'
       obtain ⟨G,cG,hv,_,_⟩ := owns_some hQ3 (by omega)
       cases hv
       exact ⟨_,rfl,by rw [own_add]; exact owns_cell hQ3 hu⟩
     obtain ⟨A5,c5,hv5⟩ := owns_slice0 ho'
     subst hv5
     refine ⟨A5,_,c5,rfl, ?_⟩
     have htk : (m.frames.take (j + 1)).flatMap (refsF p) = (m.frames.take j).flatMap (refsF p) ++ refsF p x := by rw [take_get hx,List.flatMap_append]; simp
     have htl : ((m.frames.take (j + 1)).flatMap (refsF p)).length = ((m.frames.take j).flatMap (refsF p)).length + (refsF p x).length := by rw [htk,List.length_append]
     rw [wrap_id (by omega) (by omega)]
     refine l0_86 h hr hn k (j + 1) w4 A5 _ c5 _ (by omega) (by omega) (by omega) htl.symm (by rw [Nat.succ_mul]; omega) (he.after (fun j hj => (ho.lt j hj).1) hw3) ?_
     have eu : u64s ((m.frames.take (j + 1)).flatMap (refsF p)) = u64s ((m.frames.take j).flatMap (refsF p)) ++ u64s (refsF p x) := by rw [htk]; unfold u64s; rw [List.map_append]
     rw [eu]
     exact ho'
   · have : j = m.frames.length := by omega
     subst this
     rw [if_neg (by simp; omega)]
     rw [List.take_length] at ho
     have : (m.frames.take m.frames.length).flatMap (refsF p) = rootsM p m := by rw [List.take_length]; rfl
     refine ret_q hw fun w1 e1 => ?_
     show w1.ownsRow w0.heap.size 55 1 _ _ _
     have ho1 := e1.owns ho
     rw [List.take_length]
     exact ho1
theorem yields86 (h : RefAt w B g P pc p m A c T qs Z) (hr : ∀ x ∈ m.frames,RefsF p x) (hn : m.frames.length ≤ 100000) : Yields Tryz.prog 86 [.pointer (some ⟨g,0,none⟩)] w (RootsQ (rootsM p m) w) := by
 refine yields_of (V86.sound ?_)
 unfold V86.vc
 have hlen := h.len
 simp only [own_add,bx_add,Nat.add_zero]
 refine ⟨A,_,c,h.cell (i := 6) rfl,m.frames.length + 1, ?_⟩
 rw [wrap_id (by omega) (by omega),hlen]
 exact l0_86 h hr hn (m.frames.length + 1) 0 w none 0 0 _ (by omega) (by omega) (by omega) rfl (by omega) (Below.refl _ _) (World.ownsRow_nil _ _ _ _)
end
theorem gives17 {w0 : World} {A A' : Option Addr} {n c c' : Nat} {fs : List Frm} (hn : n ≤ 100000) (hx : RowAt FrE 8 w0 A n fs) (hy : RowAt FrE 8 w0 A' n fs) : Gives Tryz.prog 17 [.slice A n c,.slice A' n c'] w0 (.bool true) := by
 refine gives_of (V17.sound ?_)
 unfold V17.vc
 rw [if_neg (by simp)]
 have loop : ∀ (k i : Nat) (w : World),n < i + k → i ≤ n → Below w0.heap.size w0 w → V17.l0 w0.heap.size (IsV w0 (.bool true)) k A n c A' n c' (i : Int) w := by
   intro k
   induction k with
   | zero => intros; omega
   | succ k ih =>
     intro i w hk hi hw
     dsimp -zeta only [V17.l0]
     by_cases hlt : i < n
     · rw [if_pos (by simp; omega)]
       obtain ⟨x,a,hxi,ha,s,h0,h1,h2,h3,h4,h5,h6,h7,h8⟩ := (RowAt.keep FrE.kept hx (below_keeps hw)).at hlt
       obtain ⟨y,b,hyi,hb,t,k0,k1,k2,k3,k4,k5,k6,k7,k8⟩ := (RowAt.keep FrE.kept hy (below_keeps hw)).at hlt
       rw [hxi] at hyi
       cases hyi
       rw [Int.toNat_natCast,wrap_id (n := (i : Int) + 1) (by omega) (by omega)]
       refine ⟨a,ha,by omega,by omega,_,h0,_,h1,_,h2,_,h3,_,h4,_,_,_,h5,_,_,_,h6,_,_,_,h7,b,hb,by omega,by omega,_,k0,_,k1,_,k2,_,k3,_,k4,_,_,_,k5,_,_,_,k6,_,_,_,k7, ?_⟩
       refine call_gives hw (fun w1 e1 _ => gives54 (h8.keep (ext_keeps e1)) (k8.keep (ext_keeps e1))) fun w1 e1 hw1 => ⟨_,rfl, ?_⟩
       rw [if_neg (by simp)]
       exact ih (i + 1) w1 (by omega) (by omega) hw1
     · rw [if_neg (by simp; omega)]
       exact ret_is hw rfl
 exact ⟨n + 1,loop (n + 1) 0 w0 (by omega) (by omega) (Below.refl _ _)⟩
end Go.Proofs.YtidcpndlloppdaaGreat

/-
 Layer 21: the document's machine: how many words the next frame needs.
 Conditions: the machine lies in memory as told.
-/
set_option linter.unusedVariables false
set_option linter.unusedSimpArgs false
set_option maxRecDepth 20000
namespace Go.Proofs.YtidcpndlloppdaaGreat
open Go.RowKit
section
variable {w : World} {B g : Nat} {P : Option Addr} {pc : Nat} {p : List Fnc} {m : Mach} {A : Option Addr} {c : Nat} {T : Value} {qs : List (Frm × Sls)} {Z : Nat → Prop}
theorem gives62 (hr : Rt p) (h : RefAt w B g P pc p m A c T qs Z) (ho : MOk p m) (hlen : m.frames.length ≤ 100000) : Gives Tryz.prog 62 [.pointer (some ⟨g,0,none⟩)] w (.int .i64 (needM p m)) := by
 refine gives_of (V62.sound ?_)
 unfold V62.vc
 simp only [own_add,bx_add,Nat.add_zero]
 have hp := h.prog
 -- a function's size is asked
 have fin : ∀ {f : Int} {fn : Fnc} {C' : Option Addr} {c' : Nat} {bs : List Nat},callM p m = some f → fnAt p f = some fn → CodeAt w C' fn.code.length fn.code → CallK Tryz.prog 108 [.agg ⟨[.int .i64 fn.params,.int .i64 fn.locals,.int .i64 fn.refs,.slice C' fn.code.length c']⟩] w.heap.size w bs fun v t => ∃ u : Int,v = .int .i64 u ∧ Ret w.heap.size t (IsV w (.int .i64 (needM p m)) (.int .i64 u)) :=
   fun {f fn C' c' bs} hc hf hcode => call_gives (Below.refl _ _) (fun w1 e1 _ => gives108 (RowAt.keep InsE.kept hcode (ext_keeps e1)) _ _ _) fun w1 _ hw1 => ⟨_,rfl,ret_is hw1 (by
     rw [need_some hc,fnD_eq hf]; rfl)⟩
 refine ⟨m.ended,h.cell (i := 3) rfl, ?_⟩
 cases he : m.ended with
 | true =>
   rw [if_neg (by simp)]
   exact ret_is (Below.refl _ _) (by rw [need_none (by unfold callM; rw [if_pos (.inl he)])])
 | false =>
   rw [if_pos rfl]
   refine ⟨m.parked,h.cell (i := 4) rfl, ?_⟩
   cases hpk : m.parked with
   | true =>
     rw [if_pos rfl]
     exact ret_is (Below.refl _ _) (by rw [need_none (by unfold callM; rw [if_pos (.inr hpk)])])
   | false =>
     rw [if_neg (by simp)]
     refine ⟨m.begun,h.cell (i := 2) rfl, ?_⟩
     cases hbg : m.begun with
     | false =>
       rw [if_pos (show (!false) = true from rfl)]
       have hc : callM p m = some m.first := by unfold callM; rw [if_neg (by rw [he,hpk]; simp),if_pos hbg]
       obtain ⟨fn,hf⟩ := call_in hr ho hc
       obtain ⟨_,f0,hfg,hfl⟩ := fnAt_mem hf
       obtain ⟨fn',q,C',c',hf',hq,k0,k1,k2,k3,hcode⟩ := prog_at hp (i := m.first.toNat) (by omega)
       rw [hfg] at hf'; cases hf'
       exact ⟨P,_,pc,h.cell (i := 0) rfl,m.first,h.cell (i := 1) rfl,q,hq,f0,hfl,_,k0,_,k1,_,k2,C',_,c',k3,fin hc hf hcode⟩
     | true =>
       rw [if_neg (by simp)]
       obtain ⟨x,r,hm⟩ : ∃ x r,m.frames = x :: r := by
         cases hm : m.frames with
         | nil => have := (ho.gone hbg).2 hm; rw [he] at this; cases this
         | cons x r => exact ⟨x,r,rfl⟩
       obtain ⟨f,hx⟩ := (ho.frames x (by rw [hm]; exact List.mem_cons_self)).inn
       obtain ⟨s,a,ha,hfa,hcl⟩ := h.cells (k := 0) (x := x) (by rw [hm]; rfl)
       have hF := h.cell (i := 6) rfl
       have hql := h.len
       have hpos : 0 < m.frames.length := by rw [hm]; simp
       refine ⟨A,_,c,hF,A,_,c,hF,a,ha, ?_⟩
       rw [hql,wrap_id (n := ((m.frames.length : Nat) : Int) - 1) (by omega) (by omega),show (((m.frames.length : Nat) : Int) - 1).toNat = m.frames.length - 1 - 0 by omega]
       rw [hql] at hF
       have d0 := hcl 0 _ rfl
       have d1 := hcl 1 _ rfl
       have d2 := hcl 2 _ rfl
       have d3 := hcl 3 _ rfl
       have d4 := hcl 4 _ rfl
       have d5 := hcl 5 _ rfl
       have d6 := hcl 6 _ rfl
       have d7 := hcl 7 _ rfl
       refine ⟨by omega,by omega,_,d0,_,d1,_,d2,_,d3,_,d4,_,_,_,d5,_,_,_,d6,_,_,_,d7,fun q2 _ => ⟨d0,d1,d2,d3,d4,d5,d6,d7,hF,hF, ?_⟩⟩
       have hcm : callM p m = if x.mode = 0 then (if (insAt (fnD p x.f) x.pc).op = 17 then some (insAt (fnD p x.f) x.pc).a else none) else x.dfs.getLast?.map Dfr.f := by
         unfold callM
         rw [if_neg (by rw [he,hpk]; simp),if_neg (by rw [hbg]; simp),hm]
       by_cases h0 : x.mode = 0
       · rw [if_neg (by show ¬ (x.mode != 0) = true; simpa using h0)]
         rw [if_pos h0] at hcm
         have ht := ho.top x r hm h0
         have hpc := At.lt hx ht
         obtain ⟨_,f0,hfg,hfl⟩ := fnAt_mem hx.fn
         obtain ⟨fn',q,C',c',hf',hq,k0,k1,k2,k3,hcode⟩ := prog_at hp (i := x.f.toNat) (by omega)
         rw [hfg] at hf'; cases hf'
         obtain ⟨hi,him⟩ := hr.ins hx.fn hx.pc.1 hpc
         obtain ⟨i,qi,hi',hqi,c0,c1,c2⟩ := hcode.at (i := x.pc.toNat) (by have := hx.pc.1; omega)
         rw [hi] at hi'; cases hi'
         rw [fnD_eq hx.fn] at hcm
         refine ⟨P,_,pc,h.cell (i := 0) rfl,q,hq,f0,hfl,C',_,c',k3,qi,hqi,hx.pc.1,hpc,_,c0,_,c1,_,c2,fun q4 _ => ⟨c0,c1,c2,k3,h.cell (i := 0) rfl, ?_⟩⟩
         by_cases h17 : (insAt f x.pc).op = 17
         · rw [if_neg (by simpa using h17)]
           rw [if_pos h17] at hcm
           obtain ⟨fn,hf⟩ := call_in hr ho hcm
           obtain ⟨_,f0',hfg',hfl'⟩ := fnAt_mem hf
           obtain ⟨fn',q',C2,c2',hf',hq',j0,j1,j2,j3,hcode'⟩ := prog_at hp (i := (insAt f x.pc).a.toNat) (by omega)
           rw [hfg'] at hf'; cases hf'
           exact ⟨P,_,pc,h.cell (i := 0) rfl,q',hq',f0',hfl',_,j0,_,j1,_,j2,C2,_,c2',j3,fin hcm hf hcode'⟩
         · rw [if_pos (by simpa using h17)]
           rw [if_neg h17] at hcm
           exact ret_is (Below.refl _ _) (by rw [need_none hcm])
       · rw [if_pos (by show (x.mode != 0) = true; simpa using h0)]
         rw [if_neg h0] at hcm
         have hd8 : x.dfs.length ≤ 8 := by have := hx.room; unfold roomM at this; split at this <;> omega
         cases hgl : x.dfs.getLast? with
         | none =>
           have hnil : x.dfs = [] := List.getLast?_eq_none_iff.1 hgl
           rw [if_pos (by show (((x.dfs.length : Nat) : Int) == 0) = true; rw [hnil]; rfl)]
           rw [hgl] at hcm
           exact ret_is (Below.refl _ _) (by rw [need_none hcm])
         | some d =>
           obtain ⟨hix,hpos2⟩ := getLast_ix hgl
           have hpos2 : 0 < x.dfs.length := hpos2
           rw [if_neg (by show ¬ (((x.dfs.length : Nat) : Int) == 0) = true; rw [beq_iff_eq]; omega)]
           rw [hgl] at hcm
           have hcm : callM p m = some d.f := hcm
           obtain ⟨fn,hf⟩ := call_in hr ho hcm
           obtain ⟨_,f0',hfg',hfl'⟩ := fnAt_mem hf
           obtain ⟨fn',q',C2,c2',hf',hq',j0,j1,j2,j3,hcode'⟩ := prog_at hp (i := d.f.toNat) (by omega)
           rw [hfg'] at hf'; cases hf'
           obtain ⟨d',qd,hd',hqd,e0,_,_,_,_⟩ := hfa.dfs.at (i := x.dfs.length - 1) (by omega)
           rw [hix] at hd'; cases hd'
           dsimp only
           rw [wrap_id (n := ((x.dfs.length : Nat) : Int) - 1) (by omega) (by omega),show (((x.dfs.length : Nat) : Int) - 1).toNat = x.dfs.length - 1 by omega]
           exact ⟨P,_,pc,h.cell (i := 0) rfl,qd,hqd,by omega,by omega,d.f,e0,q',hq',f0',hfl',_,j0,_,j1,_,j2,C2,_,c2',j3,fin hcm hf hcode'⟩
end
end Go.Proofs.YtidcpndlloppdaaGreat

/-
 Layer 29: play,Play,Agrees.
 Conditions: the program is right.
-/
set_option linter.unusedVariables false
set_option linter.unusedSimpArgs false
set_option maxRecDepth 20000
namespace Go.Proofs.YtidcpndlloppdaaGreat
open Go.RowKit
section
variable {p : List Fnc} {f : Int} {fn : Fnc} (hr : Rt p) (hf : fnAt p f = some fn) (h0 : fn.params = 0)
include hr hf h0
end
end Go.Proofs.YtidcpndlloppdaaGreat

/-
 Layer 29: where there is no machine; Agrees of the document; TracePlays's,TraceAgrees's functions return true.
 Conditions: the arguments' memory says what their values are.
-/
set_option linter.unusedVariables false
set_option linter.unusedSimpArgs false
set_option maxRecDepth 20000
namespace Go.Proofs.YtidcpndlloppdaaGreat
open Go.RowKit
def NoM (p : List Fnc) (f : Int) : Prop := f < 0 ∨ (p.length : Int) ≤ f ∨ ∃ fn,p[f.toNat]? = some fn ∧ fn.params ≠ 0
theorem mach_or (p : List Fnc) (f : Int) : (∃ fn,fnAt p f = some fn ∧ fn.params = 0) ∨ NoM p f := by
 by_cases h0 : f < 0
 · exact .inr (.inl h0)
 by_cases h1 : (p.length : Int) ≤ f
 · exact .inr (.inr (.inl h1))
 obtain ⟨fn,hf⟩ := fnAt_in (p := p) (f := f) (by omega) (by omega)
 by_cases h2 : fn.params = 0
 · exact .inl ⟨fn,hf,h2⟩
 · exact .inr (.inr (.inr ⟨fn,(fnAt_mem hf).2.2.1,h2⟩))
section
variable {w : World} {P : Option Addr} {cap : Nat} {p : List Fnc} (hp : ProgAt w P p.length p) {f : Int} (hf : NoM p f)
include hp hf
theorem gives43n : Gives Tryz.prog 43 [.agg ⟨[.slice P p.length cap]⟩,.int .i64 f] w (.pointer none) := by
 refine gives_of (V43.sound ?_)
 intro q1 _
 by_cases h0 : f < 0
 · rw [if_neg (by simp; omega)]
   exact ret_is (Below.refl _ _) rfl
 rw [if_pos (by simp; omega)]
 by_cases hl : (p.length : Int) ≤ f
 · rw [if_neg (by simp; omega)]
   exact ret_is (Below.refl _ _) rfl
 rw [if_pos (by simp; omega)]
 rcases hf with h | h | ⟨fn,hfn,hpar⟩
 · omega
 · omega
 obtain ⟨f',a,C,c,hf',ha,c0,c1,c2,c3,hc⟩ := prog_at hp (i := f.toNat) (by omega)
 rw [hfn] at hf'; cases hf'
 refine ⟨a,ha,by omega,by omega,fn.params,c0, ?_⟩
 rw [if_pos (by simpa using hpar)]
 exact ret_is (Below.refl _ _) rfl
variable (hr : Rt p)
include hr
theorem gives37n : Gives Tryz.prog 37 [.agg ⟨[.slice P p.length cap]⟩,.int .i64 f] w (.pointer none) := by
 refine gives_of (V37.sound ?_)
 intro q1 _
 refine call_gives (Below.refl _ _) (fun w1 _ hb => gives67 (hp.keep hb)) fun w1 e1 hw1 => ⟨_,_,_,rfl, ?_⟩
 rw [if_pos (by rw [hr.check]; rfl)]
 by_cases h0 : f < 0
 · rw [if_neg (by simp; omega)]
   exact ret_is hw1 rfl
 rw [if_pos (by simp; omega)]
 by_cases hl : (p.length : Int) ≤ f
 · rw [if_neg (by simp; omega)]
   exact ret_is hw1 rfl
 rw [if_pos (by simp; omega)]
 rcases hf with h | h | ⟨fn,hfn,hpar⟩
 · omega
 · omega
 obtain ⟨f',a,C,c,hf',ha,c0,c1,c2,c3,hc⟩ := prog_at (hp.keep hw1) (i := f.toNat) (by omega)
 rw [hfn] at hf'; cases hf'
 refine ⟨a,ha,by omega,by omega,fn.params,c0, ?_⟩
 rw [if_pos (by simpa using hpar)]
 exact ret_is hw1 rfl
end
theorem gives10 {w : World} {A : Option Addr} {p : List Fnc} {c : Nat} (hp : ProgAt w A p.length p) : Gives Tryz.prog 10 [.agg ⟨[.slice A p.length c]⟩] w (.bool ((checkM p).1 == 0)) := by
 refine gives_of (V10.sound ?_)
 intro q1 _
 exact call_gives (Below.refl _ _) (fun w1 _ hb => gives36 (hp.keep hb)) fun w1 _ h1 => ⟨_,_,_,rfl,ret_is h1 rfl⟩
end Go.Proofs.YtidcpndlloppdaaGreat
