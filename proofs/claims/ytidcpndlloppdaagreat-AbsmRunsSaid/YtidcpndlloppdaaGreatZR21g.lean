import Derived.Test.YtidcpndlloppdaaGreatZR21f
import Derived.Laws.Bits64
/-
 Layers 21,29: the document's machine: run does what the plain rule tells.
 Conditions: none.
-/
set_option linter.unusedVariables false
set_option linter.unusedSimpArgs false
set_option maxRecDepth 20000
namespace Go.Proofs.YtidcpndlloppdaaGreat
open Go.RowKit
theorem gives132 {w : World} {n : Int} (h : 0 ≤ n ∧ n < 6) : Gives Tryz.prog 132 [.int .i64 n] w (.int .u64 (oddN n : Nat)) := by
 refine gives_of (V132.sound ?_)
 unfold V132.vc
 intro w1 e1 _
 obtain ⟨e2,ho2⟩ := alloc1 (.cells ⟨[.int .u64 9221120237041090560,.int .u64 9218868437227405312,.int .u64 18442240474082181120,.int .u64 9223372036854775808,.int .u64 9218868437227405311,.int .u64 1]⟩ 55) e1 (Nat.le_refl _)
 simp only
 generalize w1.alloc (.cells ⟨[.int .u64 9221120237041090560,.int .u64 9218868437227405312,.int .u64 18442240474082181120,.int .u64 9223372036854775808,.int .u64 9218868437227405311,.int .u64 1]⟩ 55) = w2 at *
 rw [if_pos (by simp; omega),if_neg (by simp; omega)]
 refine ⟨_,rfl,by omega,by omega,oddN n, ?_,ret_is (e2.after (Below.refl _ _)) rfl⟩
 rw [own_add]
 refine at_cell ho2 ?_
 have : n = 0 ∨ n = 1 ∨ n = 2 ∨ n = 3 ∨ n = 4 ∨ n = 5 := by omega
 rcases this with rfl | rfl | rfl | rfl | rfl | rfl <;> rfl
theorem small_in {p : List Fnc} (hr : Rt p) {x : Frm} {f : Fnc} (hx : FrIn p x f) : x.locals.length ≤ 8 ∧ x.ops.length ≤ 8 ∧ x.dfs.length ≤ 4 ∧ ∀ d ∈ x.dfs,d.args.length ≤ 1000 := by
 obtain ⟨_,hsz⟩ := hx.wrap hr
 have hsb := sized_bd hsz
 have h1 := hx.locals
 refine ⟨by omega,hx.ops, ?_,fun d hd => ?_⟩
 · have := hx.room; unfold roomM at this; split at this <;> omega
 · have hd' := hx.dfs d hd
   unfold dfrM at hd'
   split at hd'
   · rename_i g' hg'
     rw [beq_iff_eq] at hd'
     have := sized_bd (hr.sized g' (fnAt_mem hg').1)
     omega
   · cases hd'
theorem top_split {qs : List (Frm × Sls)} {x : Frm} {r : List Frm} (h : qs.map Prod.fst = (x :: r).reverse) : ∃ qs2 s,qs = qs2 ++ [(x,s)] ∧ qs2.map Prod.fst = r.reverse ∧ qs2.length = r.length := by
 rw [List.reverse_cons] at h
 obtain ⟨a,b,hab,ha,hb⟩ := List.map_eq_append_iff.1 h
 obtain ⟨⟨y,s⟩,c,rfl,hy,hc⟩ := List.map_eq_cons_iff.1 hb
 rw [List.map_eq_nil_iff] at hc
 subst hc
 simp only at hy
 subst hy
 exact ⟨a,s,hab,ha,by have := congrArg List.length ha; simpa using this⟩
theorem last_at {α : Type} {a : List α} {x : α} {n : Nat} (h : a.length = n) : (a ++ [x])[n]? = some x := by rw [List.getElem?_append_right (by omega),h,Nat.sub_self]; rfl
theorem set_mid {α : Type} {a c : List α} {b b' : α} {n : Nat} (h : a.length = n) : ((a ++ [b]) ++ c).set n b' = (a ++ [b']) ++ c := by
 subst h
 rw [List.append_assoc,List.append_assoc,List.set_append_right _ _ (Nat.le_refl _),Nat.sub_self]; rfl
theorem own_len (A : Option Addr) (n n' c : Nat) : (Value.slice A n c).ownBlock = (Value.slice A n' c).ownBlock := by cases A <;> rfl
section
variable {w : World} {B g : Nat} {P : Option Addr} {pc : Nat} {p : List Fnc} {m : Mach} {A : Option Addr} {c : Nat} {T : Value} {qs : List (Frm × Sls)} {Z : Nat → Prop} {x : Frm} {r : List Frm}
set_option maxHeartbeats 20000000 in
theorem turns88 (hr : Rt p) (h : RefAt w B g P pc p m A c T qs Z) (ho : MOk p m) (hm : m.frames = x :: r) (h0 : x.mode = 0) (hlen : r.length ≤ 90000) (htr : m.trace.length ≤ 90000) (hrf : m.refs < 1000000000000) :
   RefT 88 [.pointer (some ⟨g,0,none⟩)] w B g P pc p T Z (.tuple ⟨[]⟩) (runMach p m x r) := by
 have hxo := ho.frames x (by rw [hm]; exact List.mem_cons_self)
 obtain ⟨f,hx⟩ := hxo.inn
 have hw := hxo.wd
 have ht := ho.top x r hm h0
 obtain ⟨hi,hmem⟩ := ins_in hr hx ht
 obtain ⟨hgp,hsz⟩ := hx.wrap hr
 have hsh := shape_a hi.shape hsz
 have hsb := sized_bd hsz
 have hpc := At.lt hx ht
 have hpc0 := hx.pc.1
 obtain ⟨sm1,sm2,sm3,sm4⟩ := small_in hr hx
 have hsmx : SmallFR x := ⟨by omega,by omega,by omega,sm4⟩
 have hen := hi.enough
 have hpl := popL_len hi.enough
 have hlw := popL_wd (p := p) (i := insAt f x.pc) hw
 have hbd := popsM_bd hr.fewP (insAt f x.pc).op (insAt f x.pc).a
 have hpn : ((popN p (insAt f x.pc) : Nat) : Int) = popsM p (insAt f x.pc).op (insAt f x.pc).a := by unfold popN; omega
 obtain ⟨hfm,hf0,hpf,hfl⟩ := fnAt_mem hx.fn
 have hqm := h.frames
 rw [hm] at hqm
 obtain ⟨qs2,s,rfl,hr1,hk2⟩ := top_split hqm
 have hlq : (qs2 ++ [(x,s)]).length = r.length + 1 := by rw [List.length_append,hk2]; rfl
 obtain ⟨a,ha,hcell⟩ := h.frs.get (last_at hk2)
 replace hcell : ∀ i u,(frU (x,s))[i]? = some u → w.cell? ((a.add (r.length * 8)).add i) = some u := hcell
 have hF0 : FrmAt (onlyW Z w) x s := h.side.2.each (x,s) (by simp)
 have hni : NilOk s := h.side.2.nil (x,s) (by simp)
 obtain ⟨da,hdl,hdall,hdsrc⟩ := dfr_src hF0.dfs
 have c6 := h.cell (i := 6) rfl
 rw [hlq] at c6
 refine turns_of (V88.sound ?_)
 unfold V88.vc
 simp only [own_add,bx_add,Nat.add_zero]
 refine ⟨_,_,_,c6,_,_,_,c6,a,ha, ?_⟩
 rw [top_ix (by omega)]
 simp only [Int.toNat_natCast]
 refine ⟨by omega,by omega,x.f,hcell 0 _ rfl,x.pc,hcell 1 _ rfl,x.mode,hcell 2 _ rfl,x.dfd,hcell 3 _ rfl,x.value,hcell 4 _ rfl,s.D,x.dfs.length,s.dc,hcell 5 _ rfl,s.L,x.locals.length,s.lc,hcell 6 _ rfl,s.O,x.ops.length,s.oc,hcell 7 _ rfl, ?_⟩
 refine call_copied (t := x) (s := s) (Nat.le_refl _) hsmx (hF0.keep fun q v hq => (only_cell.1 hq).1) hni hdl (fun j u hj => by obtain ⟨a,ha,hc⟩ := hdsrc j u hj; exact ⟨a,ha,(only_cell.1 hc).1⟩) fun AD cD AL cL AO cO w2 e2 hown => ?_
 refine ⟨_,_,_,_,_,_,_,_,_,_,_,_,_,_,rfl,fun q1 _ => ?_⟩
 have h2 := h.ext e2
 obtain ⟨f',q,C',c',hf',hq,c0,c1,c2,c3,hcode⟩ := prog_at h2.prog (i := x.f.toNat) (by omega)
 rw [hpf] at hf'; cases hf'
 obtain ⟨y,ay,hy,hay,i0,i1,i2⟩ := RowAt.at hcode (i := x.pc.toNat) (by omega)
 have hyi : insAt f x.pc = y := by unfold insAt; rw [hy]; rfl
 have hP2 := h2.cell (i := 0) rfl
 refine ⟨_,_,_,hP2,q,hq,by omega,by omega,f.params,c0,f.locals,c1,f.refs,c2,C',_,c',c3,fun q2 _ => ⟨c0,c1,c2,c3,hP2,ay,hay,by omega,by omega,y.op,i0,y.a,i1,y.b,i2,fun q3 _ => ⟨_,_,_,hP2, ?_⟩⟩⟩
 refine call_givesX e2.size (fun w3 e3 => gives117 (RowAt.keep FncE.kept h2.prog (ext_keeps e3)) _ _ _) fun w3 e3 => ⟨_,rfl, ?_⟩
 have hrunM : runMach p m x r = actM p m f (insAt f x.pc) (popL p (insAt f x.pc) x) (popF p (insAt f x.pc) x) r := by unfold runMach; rw [fnD_eq hx.fn]
 rw [hrunM]
 clear hrunM
 rw [hyi] at hi hmem hsh hen hpl hlw hbd hpn ⊢
 rw [← hpn]
 have hwr : IntKind.wrap .i64 ((x.ops.length : Int) - ((popN p y : Nat) : Int)) = ((x.ops.length - popN p y : Nat) : Int) := by rw [wrap_id (by omega) (by omega)]; omega
 have hpc1 : IntKind.wrap .i64 (x.pc + 1) = x.pc + 1 := wrap_id (by omega) (by omega)
 have hnn : x.ops.length - (x.ops.length - popN p y) = popN p y := by omega
 simp only [hwr,hpc1,hnn,Int.toNat_natCast,slice_cut,Nat.sub_zero]
 have e23 := e2.trans e3
 have hown3 := hown.ext e3
 have hs3 := e23.size
 have hb39 : Tryz.t55.bytes = 8 := by kernel_rfl
 have hb112 : Tryz.t99.bytes = 112 := by kernel_rfl
 obtain ⟨hOc1,hOc2⟩ := own_capR hown3.O
 refine expo_alloc hs3 fun w4 w5 hs4 e5 hlt5 ho5 => ⟨by omega,by omega, ?_⟩
 have hown5 := hown3.ext e5
 have e25 := e23.trans e5
 refine append_anyR (t := 31) (e := 55) (i := Tryz.t55) (z := .int .u64 0) (size := 1) (bytes := 8) (b0 := w4.heap.size) (n := 0) (xs := []) (by kernel_rfl) (by kernel_rfl) (by kernel_rfl) (by kernel_rfl) hb39 rfl (by omega) (owns_empty ho5 (Nat.le_refl _)) (news := u64s (popL p y x)) (by rw [Nat.mul_one]; unfold u64s; rw [List.length_map]; exact hpl) (fun hn => ?_) (fun j u hj => ?_) u64s_one (by simp only [maxLen]; omega) (by omega) e25.size (Nat.le_of_lt hlt5) fun vG w6 he6 hoG hnG => ?_
 · split at hn
   · omega
   · have := hOc2 (by cases AO with
       | none => rfl
       | some a => cases hn)
     omega
 · have hpos : 0 < popN p y := by
     rcases Nat.eq_zero_or_pos (popN p y) with h | h
     · have : (popL p y x) = [] := List.eq_nil_of_length_eq_zero (by omega)
       rw [this] at hj; simp [u64s] at hj
     · exact h
   have hop : 0 < x.ops.length := Nat.lt_of_lt_of_le hpos hen
   obtain ⟨gO,capO,hv,_,_⟩ := owns_some hown5.O hop
   cases hv
   rw [if_neg (by omega)]
   refine ⟨_,rfl, ?_⟩
   simp only [own_add,bx_add,Nat.zero_add]
   refine owns_cell hown5.O ?_
   unfold u64s popL at hj
   unfold u64s
   rw [List.map_drop] at hj
   rw [← hj,List.getElem?_drop]
 rw [Nat.zero_add,List.nil_append] at hoG
 obtain ⟨AG,cG,hvG⟩ := owns_slice0 hoG
 subst hvG
 rw [Nat.zero_add]
 refine ⟨AG,_,cG,rfl,by omega,by omega, ?_⟩
 have hs4w : w.heap.size ≤ w4.heap.size := Nat.le_trans hs3 hs4
 have off6 : ∀ (k : Nat) (cs : Array Value) (e : TypeId) (f : Nat × Nat),k ≠ w4.heap.size → w5.heap[k]? = some (.cells cs e f) → w6.heap[k]? = some (.cells cs e f) := fun k cs e f hk hb => he6.row _ _ _ _ (fun hs => hk (Option.some.inj hs).symm) hb
 have hw6 := he6.after (fun j hj => by rw [← Option.some.inj hj]; exact hs4w) (e25.after (Below.refl _ _))
 have old6 : ∀ k,k < w4.heap.size → ∀ cs e f,w5.heap[k]? = some (.cells cs e f) → w6.heap[k]? = w5.heap[k]? := fun k hk cs e f hb => by rw [hb]; exact off6 k cs e f (by omega) hb
 have lt4 : ∀ {v : Value} {e : TypeId} {sz n : Nat} {xs : List Value} {k : Nat},w3.ownsRow w.heap.size e sz v n xs → v.ownBlock = some k → k < w4.heap.size := fun ho hk => by have := (ho.lt _ hk).2; omega
 have hown6 : OwnF w6 w.heap.size x (.slice AD x.dfs.length cD) (.slice AL x.locals.length cL) (.slice AO x.ops.length cO) da := hown5.same fun k hk => by
   rcases hk with hk | hk | hk
   · obtain ⟨_,cc,ff,hh⟩ := owns_ty hown5.D hk; exact old6 k (lt4 hown3.D hk) _ _ _ hh
   · obtain ⟨_,cc,ff,hh⟩ := owns_ty hown5.L hk; exact old6 k (lt4 hown3.L hk) _ _ _ hh
   · obtain ⟨_,cc,ff,hh⟩ := owns_ty hown5.O hk; exact old6 k (lt4 hown3.O hk) _ _ _ hh
 refine expo_alloc hw6.size fun w7 w8 hs7 e8 hlt8 ho8 => ?_
 have hw8 := e8.after hw6
 have h8 : RefAt w8 B g P pc p m A c T (qs2 ++ [(x,s)]) Z := h.same fun k cs e f _ hb => by rw [hw8.block k (lt_of_some hb)]; exact hb
 have c68 := h8.cell (i := 6) rfl
 have hs7w : w.heap.size ≤ w7.heap.size := Nat.le_trans hw6.size hs7
 refine ⟨_,_,_,c68, ?_⟩
 refine append_anyR (t := 40) (e := 99) (i := Tryz.t99) (z := .agg ⟨[.int .i64 0,.int .i64 0,.int .i64 0,.bool false,.int .u64 0,.slice none 0 0,.slice none 0 0,.slice none 0 0]⟩) (size := 8) (bytes := 112) (b0 := w7.heap.size) (n := 0) (xs := []) (by kernel_rfl) (by kernel_rfl) (by kernel_rfl) (by kernel_rfl) hb112 rfl (by omega) (owns_empty ho8 (Nat.le_refl _)) (news := frsC (qs2 ++ [(x,s)])) (frsC_len _) h.cap.2 (fun j u hj => h8.frs.cell j u hj) frsC_one (by simp only [maxLen]; omega) (by omega) hw8.size (Nat.le_of_lt hlt8) fun vF w9 he9 hoF hnF => ?_
 rw [Nat.zero_add,List.nil_append,hlq] at hoF
 obtain ⟨G9,c9,hvF,_,hG9⟩ := owns_some hoF (by omega)
 subst hvF
 have hw9 := he9.after (fun j hj => by rw [← Option.some.inj hj]; exact hs7w) hw8
 have hg9 : w9.heap[g]? = some (.cells ⟨headR (.slice P p.length pc) (.slice A (qs2 ++ [(x,s)]).length c) T m⟩ 85 (0,0)) := by rw [hw9.block g (h.ty (.inl rfl)).2.1]; exact h.head
 refine ⟨_,_,_,rfl,⟨_,at_cell (i := 6) hg9 rfl⟩,at_frozen hg9 6, ?_⟩
 -- what there is now
 have hnotw7 : ∀ {v : Value} {b : Nat} {e : TypeId} {sz n : Nat} {xs : List Value} {k : Nat},w6.ownsRow b e sz v n xs → v.ownBlock = some k → k < w7.heap.size := fun ho hk => by have := (ho.lt _ hk).2; omega
 have keep9 : ∀ {v : Value} {b : Nat} {e : TypeId} {sz n : Nat} {xs : List Value},w6.ownsRow b e sz v n xs → w9.ownsRow b e sz v n xs := fun ho => he9.owns (e8.owns ho) fun k hk hk' => by
   have h1 := hnotw7 ho hk
   have h2 : w7.heap.size = k := Option.some.inj hk'
   omega
 have k1 := chg1_set (i := 6) (v := .slice (some ⟨G9,0,none⟩) (r.length + 1) c9) hg9
 have hset := at_set hg9 6 (.slice (some ⟨G9,0,none⟩) (r.length + 1) c9)
 have hT9 : OwnMs w9 B T m.trace := owns_other h.trace fun k hk => by
   obtain ⟨_,cc,ff,hh⟩ := owns_ty h.trace hk
   exact hw9.block k (lt_of_some hh)
 have hOcut := (owns_cut hown6.O (k := x.ops.length - popN p y) (by omega)).1
 have hyo : (popF p y x).ops.length = x.ops.length - popN p y := popF_len hen
 have hX : RunX w (w9.setCell ⟨g,6,none⟩ (.slice (some ⟨G9,0,none⟩) (r.length + 1) c9)) B g P pc p.length m G9 c9 r.length T T Z (qs2 ++ [(x,s)]) (qs2 ++ [(x,s)]) (popF p y x) ⟨AD,cD,AL,cL,AO,cO⟩ da (popL p y x) AG cG := by
   refine ⟨⟨Chg.setCell (a := ⟨g,6,none⟩) ⟨hw9.os,hw9.tape,hw9.output,hw9.size,fun k hk _ => hw9.block k hk⟩ _ fun _ => .inl rfl,hset,k1.ownT hT9 (by decide),fun k hk => .inl hk,⟨k1.ownT (keep9 hown6.D) (by decide),hdl,k1.ownT (keep9 hown6.L) (by decide), ?_,fun k hk => by rw [own_len AO _ x.ops.length]; exact hown6.ne k hk⟩, ?_,fun q hq => ⟨q,hq,rfl,rfl,rfl,rfl⟩,fun i d e hd he => .inl (hdall i d e hd he),fun k hk hk' => ?_,fun k hk hk' => ?_⟩,k1.ownT (owns_down hoF hs7w) (by decide)⟩
   · have e : u64s (popF p y x).ops = (u64s x.ops).take ((x.ops.length - popN p y) * 1) := by unfold u64s popF; rw [Nat.mul_one,List.map_take]
     rw [hyo,e]
     exact k1.ownT (keep9 hOcut) (by decide)
   · rw [hpl]; exact k1.ownT (owns_down (keep9 hoG) hs4w) (by decide)
   · have h1 := lt4 hown3.L hk
     rw [hpl] at hk'
     have h2 := (hoG.lt k hk').1
     omega
   · rw [own_len AO _ x.ops.length] at hk
     have h1 := lt4 hown3.O hk
     rw [hpl] at hk'
     have h2 := (hoG.lt k hk').1
     omega
 have hyd : (popF p y x).dfs.length ≤ 4 := sm3
 have hya : ∀ d ∈ (popF p y x).dfs,d.args.length ≤ 1000 := sm4
 have hyl : (popF p y x).locals.length ≤ 8 := sm1
 have hyll : ((popF p y x).locals.length : Int) = f.locals := hx.locals
 have hy8 : (popF p y x).ops.length ≤ 8 := by omega
 have hpops : popN p y = (popsM p y.op y.a).toNat := rfl
 have hn8 : popN p y ≤ 8 := by omega
 have hBg := h.base
 have y1 : x.f = (popF p y x).f := rfl
 have y2 : x.pc + 1 = (popF p y x).pc := rfl
 have y3 : x.mode = (popF p y x).mode := rfl
 have y4 : x.dfd = (popF p y x).dfd := rfl
 have y5 : x.value = (popF p y x).value := rfl
 have y6 : x.dfs.length = (popF p y x).dfs.length := rfl
 have y7 : x.locals.length = (popF p y x).locals.length := rfl
 have hlq' : r.length + 1 = (qs2 ++ [(x,s)]).length := hlq.symm
 have hcap : (qs2 ++ [(x,s)]).length ≤ 100000 := by omega
 simp only [y1,y2,y3,y4,y5,y6,y7, ← hyo]
 have hywd := pop_wd (p := p) (i := y) hw
 clear hnotw7 keep9 k1 hset hT9 hOcut hg9 hw9 hoF hnF he9 c68 h8 hw8 e8 ho8 hown6 lt4 old6 hw6 off6 hoG hnG he6 hown5 e25 ho5 hown3 e23 e5 e3 hdall hdsrc hcell hqm hown h2 hyi y1 y2 y3 y4 y5 y6 y7 hy i0 i1 i2 hpn hwr hnn hyo
 have hlr : r.length + 1 ≤ 100000 := by omega
 have hB0 := hX.size
 generalize hz : w9.setCell ⟨g,6,none⟩ (.slice (some ⟨G9,0,none⟩) (r.length + 1) c9) = z at *
 clear hz
 generalize popF p y x = t at *
 generalize popL p y x = l at *
 generalize popN p y = n at *
 subst hpl
 obtain ⟨op,ia,ib⟩ := y
 simp only at hsh hi hbd hpops ⊢
 have hl0 := toNat_lt hlw 0
 have hl1 := toNat_lt hlw 1
 have h64 := sw2
 have fin : ∀ {z' : World} {m1 : Mach} {T1 : Value} {t' : Frm} {s' : Sls} {da' : List (Option Addr × Nat)} {i1 i2 : Nat} {o1 o2 o3 : Int} {m' : Mach},RunX w z' B g P pc p.length m1 G9 c9 r.length T T1 Z (qs2 ++ [(x,s)]) (qs2 ++ [(x,s)]) t' s' da' l AG cG → SmallFR t' → { m1 with frames := t' :: r } = m' →
     V88.b1 w.heap.size (IsT w (MutR g T) fun u w' => u = .tuple ⟨[]⟩ ∧ RefQ w B g P pc p T Z m' w') ⟨g,0,none⟩ (r.length : Int) AG l.length cG false i1 o1 o2 o3 i2 t'.f t'.pc t'.mode t'.dfd t'.value s'.D t'.dfs.length s'.dc s'.L t'.locals.length s'.lc s'.O t'.ops.length s'.oc z' := fun {z' m1 T1 t' s' da' i1 i2 o1 o2 o3 m'} hX' hsm' hm' =>
   b1_88 (fn := f) h hr hcap hX'.run hX'.row hk2 hlq' hsm' (by omega) (fun e => by cases e) (by rw [if_neg (by simp)]; exact hm'.symm) hr1
 have smt : SmallFR t := ⟨by omega,by omega,by omega,hya⟩
 have smp : ∀ ws : List Int,ws.length ≤ 8 → SmallFR (pushF t ws) := fun ws hws => ⟨by show t.locals.length ≤ _; omega,by show (t.ops ++ ws).length ≤ _; rw [List.length_append]; omega,by show t.dfs.length ≤ _; omega,hya⟩
 have push1 : ∀ {z' : World} {bs : List Nat} {v : Int} {i1 i2 : Nat} {o1 o2 o3 : Int} {m' : Mach},RunX w z' B g P pc p.length m G9 c9 r.length T T Z (qs2 ++ [(x,s)]) (qs2 ++ [(x,s)]) t ⟨AD,cD,AL,cL,AO,cO⟩ da l AG cG → { m with frames := pushF t [v] :: r } = m' →
     Expo w.heap.size z' bs fun g2 => Hide bs (g2.alloc (.cells ⟨[.int .u64 v]⟩ 55)) fun g3 => RunK Tryz.prog (Builtin.append_ #[31,31] 31 ⟨[.slice AO t.ops.length cO,.slice (some ⟨g2.heap.size,0,none⟩) 1 1]⟩) w.heap.size g3 bs fun g4 g5 => ∃ (g6 : Option Addr) (g7 g8 : Nat),g4 = .slice g6 g7 g8 ∧
       V88.b1 w.heap.size (IsT w (MutR g T) fun u w' => u = .tuple ⟨[]⟩ ∧ RefQ w B g P pc p T Z m' w') ⟨g,0,none⟩ (r.length : Int) AG l.length cG false i1 o1 o2 o3 i2 t.f t.pc t.mode t.dfd t.value AD t.dfs.length cD AL t.locals.length cL g6 g7 g8 g5 := fun {z' bs v i1 i2 o1 o2 o3 m'} hX' hm' =>
   hX'.push (ws := [v]) (n := 1) rfl (by decide) hy8 fun A' c' w' h' => ⟨_,_,_,rfl,fin (t' := pushF t [v]) (s' := ⟨AD,cD,AL,cL,A',c'⟩) h' (smp [v] (by simp)) hm'⟩
 have arg : ∀ {z' : World} {i : Nat},Ext w.heap.size z z' → i < l.length → ∃ q,AG = some q ∧ z'.cell? (q.add i) = some (.int .u64 (l.getD i 0)) := fun {z' i} he hi => by
   have ho := (hX.ext he).run.got
   obtain ⟨j,c',hv,_,_⟩ := owns_some ho (by omega)
   injection hv with e1 e2 e3
   subst e1
   refine ⟨_,rfl, ?_⟩
   rw [own_add]
   refine owns_cell ho ?_
   unfold u64s
   rw [List.getElem?_map,List.getElem?_eq_getElem hi,List.getD,List.getElem?_eq_getElem hi]; rfl
 by_cases c1 : op = 1
 · subst c1
   rw [if_pos (by decide)]
   exact call_givesX hB0 (fun _ _ => gives131 ia) fun w8 e8 => ⟨_,rfl,push1 (hX.ext e8) rfl⟩
 rw [if_neg (by simpa using c1)]
 by_cases c2 : op = 2
 · subst c2
   rw [if_pos (by decide)]
   exact call_givesX hB0 (fun _ _ => gives132 (hsh.1 rfl)) fun w8 e8 => ⟨_,rfl,push1 (hX.ext e8) rfl⟩
 rw [if_neg (by simpa using c2)]
 by_cases c3 : op = 3
 · subst c3
   rw [if_pos (by decide)]
   have hk := hsh.2.1 rfl
   obtain ⟨j,hj,_,_,hc,_⟩ := hX.store (i := ia.toNat) (by omega)
   simp only at hj
   subst hj
   refine ⟨_,rfl,by omega,by omega,_,by rw [own_add]; exact hc,push1 hX rfl⟩
 rw [if_neg (by simpa using c3)]
 by_cases c4 : op = 4
 · subst c4
   rw [if_pos (by decide)]
   have hn1 : l.length = 1 := hpops
   have hk := hsh.2.1 rfl
   obtain ⟨q0,hq0,hc0⟩ := arg (Ext.refl _ _) (i := 0) (by omega)
   obtain ⟨j,hj,he,hf,hc,hset⟩ := hX.store (i := ia.toNat) (by omega)
   simp only at hj
   subst hj
   refine ⟨q0,hq0,by omega,by omega,_,hc0,_,rfl,by omega,by omega, ?_⟩
   simp only [own_add,bx_add,Nat.add_zero,Nat.zero_add]
   refine ⟨he,hf, ?_⟩
   have h9 := fin (t' := { t with locals := t.locals.set ia.toNat (l.getD 0 0) }) (s' := ⟨AD,cD,some ⟨j,0,none⟩,cL,AO,cO⟩) (m' := actM p m f ⟨4,ia,ib⟩ l t r) (i1 := q3) (i2 := q1) (o1 := 4) (o2 := ia) (o3 := ib) (hset (l.getD 0 0)) ⟨by simp; omega,by show t.ops.length ≤ _; omega,by show t.dfs.length ≤ _; omega,hya⟩ (by simp [actM,simM,markM])
   simp only [List.length_set] at h9
   exact h9
 rw [if_neg (by simpa using c4)]
 by_cases c9 : op = 9
 · subst c9
   rw [if_pos (by decide)]
   have hn1 : l.length = 1 := hpops
   obtain ⟨q0,hq0,hc0⟩ := arg (Ext.refl _ _) (i := 0) (by omega)
   refine ⟨q0,hq0,by omega,by omega,_,hc0, ?_⟩
   rw [← nat_word hlw 0]
   exact call_givesX hB0 (fun _ _ => gives133 (by omega)) fun w8 e8 => ⟨_,rfl,push1 (hX.ext e8) (by simp [actM,simM,markM])⟩
 rw [if_neg (by simpa using c9)]
 by_cases c10 : op = 10
 · subst c10
   rw [if_pos (by decide)]
   have hn1 : l.length = 1 := hpops
   obtain ⟨q0,hq0,hc0⟩ := arg (Ext.refl _ _) (i := 0) (by omega)
   refine ⟨q0,hq0,by omega,by omega,_,hc0, ?_⟩
   rw [← nat_word hlw 0]
   exact call_givesX hB0 (fun _ _ => gives134 (by omega)) fun w8 e8 => ⟨_,rfl,push1 (hX.ext e8) (by simp [actM,simM,markM])⟩
 rw [if_neg (by simpa using c10)]
 by_cases c15 : op = 15
 · subst c15
   rw [if_pos (by decide)]
   exact fin (t' := { t with pc := ia }) (s' := ⟨AD,cD,AL,cL,AO,cO⟩) (hX.scal rfl rfl rfl) smt (by simp [actM,simM,markM])
 rw [if_neg (by simpa using c15)]
 by_cases c16 : op = 16
 · subst c16
   rw [if_pos (by decide)]
   have hn1 : l.length = 1 := hpops
   obtain ⟨q0,hq0,hc0⟩ := arg (Ext.refl _ _) (i := 0) (by omega)
   refine ⟨q0,hq0,by omega,by omega,_,hc0, ?_⟩
   have hact : actM p m f ⟨16,ia,ib⟩ l t r = { m with frames := (if trF (l.getD 0 0).toNat = true then { t with pc := ia } else t) :: r } := by simp [actM,simM,markM]
   rw [hact, ← nat_word hlw 0]
   refine call_givesX hB0 (fun _ _ => gives135 (a := (l.getD 0 0).toNat) (by omega)) fun w8 e8 => ⟨_,rfl, ?_⟩
   rw [Int.toNat_natCast]
   cases htf : trF (l.getD 0 0).toNat with
   | true =>
     rw [if_pos rfl,if_pos rfl]
     exact fin (t' := { t with pc := ia }) (s' := ⟨AD,cD,AL,cL,AO,cO⟩) ((hX.ext e8).scal rfl rfl rfl) smt (by simp [actM,simM,markM])
   | false =>
     rw [if_neg (by simp),if_neg (by simp)]
     exact fin (t' := t) (s' := ⟨AD,cD,AL,cL,AO,cO⟩) (hX.ext e8) smt (by simp [actM,simM,markM])
 rw [if_neg (by simpa using c16)]
 by_cases c17 : op = 17
 · subst c17
   rw [if_pos (by decide)]
   have ha := hsh.2.2.2.1 rfl
   obtain ⟨gd,hgd⟩ := fnAt_in ha.1 ha.2
   have hgs := sized_bd (hr.sized gd (fnAt_mem hgd).1)
   have hpar : ((l.length : Nat) : Int) ≤ gd.locals := by
     have e : popsM p 17 ia = gd.params := by
       unfold popsM
       rw [show (rowT 17).2.1 = -1 by rfl,if_pos (by omega),paramsM_in (by omega) (fnAt_mem hgd).2.2.1,if_neg (by omega)]
     omega
   exact b1_88 (fn := gd) (call := true) h hr hcap hX.run hX.row hk2 hlq' smt (by omega) (fun _ => ⟨hgd,hpar⟩) (by simp [actM,enterM]) hr1
 rw [if_neg (by simpa using c17)]
 by_cases c18 : op = 18
 · subst c18
   rw [if_pos (by decide)]
   have hn1 : l.length = 1 := hpops
   obtain ⟨q0,hq0,hc0⟩ := arg (Ext.refl _ _) (i := 0) (by omega)
   exact ⟨q0,hq0,by omega,by omega,_,hc0,fin (t' := { t with value := l.getD 0 0,mode := 1 }) (s' := ⟨AD,cD,AL,cL,AO,cO⟩) (hX.scal rfl rfl rfl) smt (by simp [actM,simM,markM])⟩
 rw [if_neg (by simpa using c18)]
 by_cases c19 : op = 19
 · subst c19
   rw [if_pos (by decide)]
   have hact : actM p m f ⟨19,ia,ib⟩ l t r = { m with frames := (if t.dfs.length = 4 then { t with value := (oddN 1 : Nat),mode := 2 } else { t with dfs := t.dfs ++ [⟨ia,l⟩] }) :: r } := by simp [actM,simM,markM]
   rw [hact]
   by_cases h4 : t.dfs.length = 4
   · rw [if_pos (by simp; omega),if_pos h4]
     exact call_givesX hB0 (fun _ _ => gives132 (n := 1) (by omega)) fun w8 e8 => ⟨_,rfl,fin (t' := { t with value := (oddN 1 : Nat),mode := 2 }) (s' := ⟨AD,cD,AL,cL,AO,cO⟩) ((hX.ext e8).scal rfl rfl rfl) smt (by simp [actM,simM,markM])⟩
   · rw [if_neg (by simp; omega),if_neg h4]
     exact hX.defer (a := ia) (by omega) fun A' c' w' h' => ⟨_,_,_,rfl,fin (t' := { t with dfs := t.dfs ++ [⟨ia,l⟩] }) (s' := ⟨A',c',AL,cL,AO,cO⟩) h' ⟨by show t.locals.length ≤ _; omega,by show t.ops.length ≤ _; omega,by show (t.dfs ++ [_]).length ≤ _; rw [List.length_append]; simp only [List.length_cons,List.length_nil]; omega,fun d hd => by
       rcases List.mem_append.1 hd with hd | hd
       · exact hya d hd
       · rw [List.mem_singleton] at hd; subst hd; show l.length ≤ _; omega⟩ (by simp [actM,simM,markM])⟩
 rw [if_neg (by simpa using c19)]
 by_cases c20 : op = 20
 · subst c20
   rw [if_pos (by decide)]
   have hn1 : l.length = 1 := hpops
   obtain ⟨q0,hq0,hc0⟩ := arg (Ext.refl _ _) (i := 0) (by omega)
   exact ⟨q0,hq0,by omega,by omega,_,hc0,fin (t' := { t with value := l.getD 0 0,mode := 2 }) (s' := ⟨AD,cD,AL,cL,AO,cO⟩) (hX.scal rfl rfl rfl) smt (by simp [actM,simM,markM])⟩
 rw [if_neg (by simpa using c20)]
 by_cases c21 : op = 21
 · subst c21
   rw [if_pos (by decide)]
   have b0f : ∀ {m' : Mach},{ m with frames := pushF t [(nw 0 : Nat),(nw 0 : Nat)] :: r } = m' → V88.b0 w.heap.size (IsT w (MutR g T) fun u w' => u = .tuple ⟨[]⟩ ∧ RefQ w B g P pc p T Z m' w') ⟨g,0,none⟩ (r.length : Int) AG l.length cG false false q3 21 ia ib q1 t.f t.pc t.mode t.dfd t.value AD t.dfs.length cD AL t.locals.length cL AO t.ops.length cO z := fun {m'} hm' => by
     unfold V88.b0
     rw [if_neg (by simp)]
     refine call_givesX hB0 (fun _ _ => gives131 0) fun w8 e8 => ⟨_,rfl, ?_⟩
     refine call_givesX (hX.ext e8).size (fun _ _ => gives131 0) fun w9 e9 => ⟨_,rfl, ?_⟩
     exact ((hX.ext e8).ext e9).push (ws := [(nw 0 : Nat),(nw 0 : Nat)]) (n := 2) rfl (by decide) hy8 fun A' c' w' h' => ⟨_,_,_,rfl,fin (t' := pushF t [(nw 0 : Nat),(nw 0 : Nat)]) (s' := ⟨AD,cD,AL,cL,A',c'⟩) h' (smp [(nw 0 : Nat),(nw 0 : Nat)] (by simp)) hm'⟩
   cases hdf : t.dfd with
   | false =>
     rw [if_neg (by simp)]
     have h9 := b0f (m' := actM p m f ⟨21,ia,ib⟩ l t r) (by cases r <;> simp [actM,recvM,hdf])
     rw [hdf] at h9
     exact h9
   | true =>
     rw [if_pos rfl]
     rcases hrr : r with _ | ⟨u,r'⟩
     · rw [if_neg (by simp)]
       have h9 := b0f (m' := actM p m f ⟨21,ia,ib⟩ l t r) (by rw [hrr]; simp [actM,recvM,hdf])
       rw [hdf,hrr] at h9
       exact h9
     rw [← hrr]
     have hlr' : r.length = r'.length + 1 := by rw [hrr]; rfl
     rw [if_pos (by simp; omega)]
     rw [hrr] at hr1
     obtain ⟨qs3,su,rfl,hr3,hk3⟩ := top_split hr1
     have e1 : IntKind.wrap .i64 ((r.length : Int) - 1) = (r'.length : Int) := by rw [hlr']; exact top_ix (by omega)
     have hqu : ((qs3 ++ [(u,su)]) ++ [(x,s)])[r'.length]? = some (u,su) := by rw [List.append_assoc,List.getElem?_append_right (by omega),hk3,Nat.sub_self]; rfl
     have ucell : ∀ {z' : World} (i : Nat) (v : Value),Ext w.heap.size z z' → (frU (u,su))[i]? = some v → z'.cell? ⟨G9,r'.length * 8 + i,none⟩ = some v := fun i v he hv => owns_cell (hX.ext he).row (frsC_get hqu hv)
     simp only [e1,Int.toNat_natCast]
     refine ⟨_,_,_,at_cell (i := 6) hX.run.head rfl,_,rfl,by omega,by omega, ?_⟩
     simp only [own_add,bx_add,Nat.zero_add]
     refine ⟨u.mode,ucell 2 _ (Ext.refl _ _) rfl, ?_⟩
     by_cases hu : u.mode ≠ 2
     · rw [show (u.mode == 2) = false by simpa using hu]
       have h9 := b0f (m' := actM p m f ⟨21,ia,ib⟩ l t r) (by rw [hrr]; simp [actM,recvM,hdf,hu])
       rw [hdf] at h9
       exact h9
     replace hu : u.mode = 2 := Classical.not_not.1 hu
     rw [show (u.mode == 2) = true by simpa using hu]
     unfold V88.b0
     rw [if_pos rfl]
     simp only [e1,Int.toNat_natCast,own_add]
     refine ⟨_,_,_,at_cell (i := 6) hX.run.head rfl,_,rfl,by omega,by omega, ?_⟩
     simp only [own_add,bx_add,Nat.zero_add]
     refine ⟨u.value,ucell 4 _ (Ext.refl _ _) rfl, ?_⟩
     refine call_givesX hB0 (fun _ _ => gives131 1) fun w8 e8 => ⟨_,rfl, ?_⟩
     refine (hX.ext e8).push (ws := [u.value,(nw 1 : Nat)]) (n := 2) rfl (by decide) hy8 fun A' c' w9 h9 => ⟨_,_,_,rfl, ?_⟩
     have huw : 0 ≤ u.value := ((ho.frames u (by rw [hm,hrr]; simp)).wd.value).1
     rw [show (Value.int .u64 u.value) = .int .u64 ((u.value.toNat : Nat) : Int) by rw [Int.toNat_of_nonneg huw]]
     refine h9.mark hBg (by omega) fun T2 w10 h10 => ⟨rfl, ?_⟩
     refine ⟨_,_,_,at_cell (i := 6) h10.run.head rfl,_,rfl,by omega,by omega, ?_⟩
     simp only [own_add,bx_add,Nat.zero_add,Nat.add_zero]
     obtain ⟨c11,f11,h11⟩ := h10.below (i := r'.length) (r := 2) (q' := ({ u with mode := 1 },su)) (u := .int .i64 1) hqu (by omega) rfl rfl rfl rfl rfl hlq
     rw [set_mid hk3] at h11
     refine ⟨c11,f11,_,_,_,at_cell (i := 6) h11.run.head rfl, ?_⟩
     have hqu2 : ((qs3 ++ [(({ u with mode := 1 } : Frm),su)]) ++ [(x,s)])[r'.length]? = some ({ u with mode := 1 },su) := by rw [List.append_assoc,List.getElem?_append_right (by omega),hk3,Nat.sub_self]; rfl
     refine call_givesX h11.size (fun _ _ => gives131 0) fun w12 e12 => ⟨_,rfl,at_cell (i := 6) (h11.ext e12).run.head rfl,_,rfl,by omega,by omega, ?_⟩
     simp only [own_add,bx_add,Nat.zero_add,Nat.add_zero]
     obtain ⟨c13,f13,h13⟩ := (h11.ext e12).below (i := r'.length) (r := 4) (q' := ({ u with mode := 1,value := (nw 0 : Nat) },su)) (u := .int .u64 (nw 0 : Nat)) hqu2 (by omega) rfl rfl rfl rfl rfl (by simp; omega)
     rw [set_mid hk3] at h13
     refine ⟨c13,f13, ?_⟩
     have h14 := b1_88 (fn := f) (call := false) (a := ia) (op := 21) (b := ib) (i1 := q3) (i2 := q1) (m' := actM p m f ⟨21,ia,ib⟩ l t r) (r1 := { u with mode := 1,value := (nw 0 : Nat) } :: r') h hr hcap h13.run h13.row (by simp; omega) hlq' (smp [u.value,(nw 1 : Nat)] (by simp)) (by omega) (fun e => by cases e) (by rw [hrr]; simp [actM,recvM,markM,hdf,hu,pushF]) (by rw [List.map_append,hr3,List.reverse_cons]; rfl)
     rw [show (pushF t [u.value,(nw 1 : Nat)]).dfd = true from hdf] at h14
     exact h14
 rw [if_neg (by simpa using c21)]
 by_cases c22 : op = 22
 · subst c22
   rw [if_pos (by decide)]
   have hn1 : l.length = 1 := hpops
   obtain ⟨q0,hq0,hc0⟩ := arg (Ext.refl _ _) (i := 0) (by omega)
   refine ⟨q0,hq0,by omega,by omega,_,hc0, ?_⟩
   rw [← nat_word hlw 0]
   exact hX.mark hBg (by omega) fun T2 w' h' => ⟨rfl,fin (t' := t) (s' := ⟨AD,cD,AL,cL,AO,cO⟩) (m1 := markM m 1 (l.getD 0 0).toNat) h' smt (by simp [actM,simM,markM])⟩
 rw [if_neg (by simpa using c22)]
 have hrf0 := ho.refs
 by_cases c23 : op = 23
 · subst c23
   rw [if_pos (by decide)]
   have hk := hsh.2.2.2.2.1 rfl
   obtain ⟨b1,b2⟩ := refAt_bd (y := t) hsz hyll hk
   refine ⟨_,at_cell (i := 5) hX.run.head rfl,⟨_,at_cell (i := 5) hX.run.head rfl⟩,at_frozen hX.run.head 5, ?_⟩
   rw [wrap_id (n := m.refs + 1) (by omega) (by omega),wrap_id (n := f.locals - f.refs) (by omega) (by omega),wrap_id (n := f.locals - f.refs + ia) (by omega) (by omega)]
   have hY := hX.setHead (i := 5) (v := .int .i64 (m.refs + 1)) (m' := { m with refs := m.refs + 1 }) rfl rfl
   refine ⟨_,at_cell (i := 5) hY.run.head rfl, ?_⟩
   obtain ⟨j,hj,he,hf,hc,hset⟩ := hY.store (i := refAt f t ia) b1
   simp only at hj
   subst hj
   have hix : (f.locals - f.refs + ia).toNat = refAt f t ia := by omega
   refine ⟨_,rfl,by omega,by omega, ?_⟩
   rw [hix]
   simp only [own_add,bx_add,Nat.add_zero,Nat.zero_add]
   refine ⟨he,hf, ?_⟩
   rw [IntKind.wrap_u64,Int.emod_eq_of_lt (by omega) (by omega)]
   have h9 := fin (t' := { t with locals := t.locals.set (refAt f t ia) (m.refs + 1) }) (s' := ⟨AD,cD,some ⟨j,0,none⟩,cL,AO,cO⟩) (m' := actM p m f ⟨23,ia,ib⟩ l t r) (i1 := q3) (i2 := q1) (o1 := 23) (o2 := ia) (o3 := ib) (hset (m.refs + 1)) ⟨by simp; omega,by show t.ops.length ≤ _; omega,by show t.dfs.length ≤ _; omega,hya⟩ (by simp [actM,simM,markM])
   simp only [List.length_set] at h9
   exact h9
 rw [if_neg (by simpa using c23)]
 by_cases c24 : op = 24
 · subst c24
   rw [if_pos (by decide)]
   have hk := hsh.2.2.2.2.2.1 rfl
   obtain ⟨b1,b2⟩ := refAt_bd (y := t) hsz hyll hk.1
   obtain ⟨b3,b4⟩ := refAt_bd (y := t) hsz hyll hk.2
   obtain ⟨j,hj,he,hf,hc,hset⟩ := hX.store (i := refAt f t ia) b1
   obtain ⟨j',hj',_,_,hc',_⟩ := hX.store (i := refAt f t ib) b3
   simp only at hj hj'
   subst hj
   cases hj'
   have hix : (f.locals - f.refs + ia).toNat = refAt f t ia := by omega
   have hix' : (f.locals - f.refs + ib).toNat = refAt f t ib := by omega
   rw [wrap_id (n := f.locals - f.refs) (by omega) (by omega),wrap_id (n := f.locals - f.refs + ia) (by omega) (by omega),wrap_id (n := f.locals - f.refs + ib) (by omega) (by omega)]
   refine ⟨_,rfl,by omega,by omega, ?_⟩
   rw [hix,hix']
   refine ⟨_,by rw [own_add]; exact hc',_,rfl,by omega,by omega, ?_⟩
   simp only [own_add,bx_add,Nat.add_zero,Nat.zero_add]
   refine ⟨he,hf, ?_⟩
   have h9 := fin (t' := { t with locals := t.locals.set (refAt f t ia) (t.locals.getD (refAt f t ib) 0) }) (s' := ⟨AD,cD,some ⟨j,0,none⟩,cL,AO,cO⟩) (m' := actM p m f ⟨24,ia,ib⟩ l t r) (i1 := q3) (i2 := q1) (o1 := 24) (o2 := ia) (o3 := ib) (hset _) ⟨by simp; omega,by show t.ops.length ≤ _; omega,by show t.dfs.length ≤ _; omega,hya⟩ (by simp [actM,simM,markM])
   simp only [List.length_set] at h9
   exact h9
 rw [if_neg (by simpa using c24)]
 by_cases c25 : op = 25
 · subst c25
   rw [if_pos (by decide)]
   have hk := hsh.2.2.2.2.1 rfl
   obtain ⟨b1,b2⟩ := refAt_bd (y := t) hsz hyll hk
   obtain ⟨j,hj,he,hf,hc,hset⟩ := hX.store (i := refAt f t ia) b1
   simp only at hj
   subst hj
   have hix : (f.locals - f.refs + ia).toNat = refAt f t ia := by omega
   rw [wrap_id (n := f.locals - f.refs) (by omega) (by omega),wrap_id (n := f.locals - f.refs + ia) (by omega) (by omega)]
   refine ⟨_,rfl,by omega,by omega, ?_⟩
   rw [hix]
   simp only [own_add,bx_add,Nat.add_zero,Nat.zero_add]
   refine ⟨he,hf, ?_⟩
   have h9 := fin (t' := { t with locals := t.locals.set (refAt f t ia) 0 }) (s' := ⟨AD,cD,some ⟨j,0,none⟩,cL,AO,cO⟩) (m' := actM p m f ⟨25,ia,ib⟩ l t r) (i1 := q3) (i2 := q1) (o1 := 25) (o2 := ia) (o3 := ib) (hset _) ⟨by simp; omega,by show t.ops.length ≤ _; omega,by show t.dfs.length ≤ _; omega,hya⟩ (by simp [actM,simM,markM])
   simp only [List.length_set] at h9
   exact h9
 rw [if_neg (by simpa using c25)]
 by_cases c26 : op = 26
 · subst c26
   rw [if_pos (by decide)]
   refine ⟨⟨_,at_cell (i := 4) hX.run.head rfl⟩,at_frozen hX.run.head 4, ?_⟩
   exact fin (t' := t) (s' := ⟨AD,cD,AL,cL,AO,cO⟩) (m1 := { m with parked := true }) (hX.setHead (i := 4) (v := .bool true) (m' := { m with parked := true }) rfl rfl) smt (by simp [actM,simM,markM])
 rw [if_neg (by simpa using c26)]
 by_cases c27 : op = 27
 · subst c27
   rw [if_pos (by decide)]
   exact fin (t' := t) (s' := ⟨AD,cD,AL,cL,AO,cO⟩) hX smt (by simp [actM,simM,markM])
 rw [if_neg (by simpa using c27)]
 have hv := hsh.2.2.2.2.2.2
 have h8o : op = 5 ∨ op = 6 ∨ op = 7 ∨ op = 8 ∨ op = 11 ∨ op = 12 ∨ op = 13 ∨ op = 14 := by
   have hp1 : rowT op = rowT op := rfl
   unfold rowT at hv
   rw [if_neg c1,if_neg c2,if_neg c3,if_neg c4] at hv
   by_cases h : op = 5 ∨ op = 6 ∨ op = 7 ∨ op = 8 ∨ op = 11 ∨ op = 12 ∨ op = 13 ∨ op = 14
   · exact h
   · rw [if_neg h,if_neg (by omega),if_neg c15,if_neg c16,if_neg c17,if_neg (by omega),if_neg c19,if_neg c21,if_neg (by omega),if_neg c24,if_neg c26] at hv
     cases hv
 have hn2 : l.length = 2 := by
   rw [hpops]
   unfold popsM
   rcases h8o with rfl | rfl | rfl | rfl | rfl | rfl | rfl | rfl <;> rfl
 obtain ⟨q0,hq0,hc0⟩ := arg (Ext.refl _ _) (i := 0) (by omega)
 obtain ⟨q4,hq4,hc4⟩ := arg (Ext.refl _ _) (i := 1) (by omega)
 refine ⟨q0,hq0,by omega,by omega,_,hc0,q4,hq4,by omega,by omega,_,hc4, ?_⟩
 rw [← nat_word hlw 0, ← nat_word hlw 1]
 refine call_givesX hB0 (fun _ _ => gives137 (by omega) (by omega) h8o) fun w8 e8 => ⟨_,rfl,push1 (hX.ext e8) ?_⟩
 rcases h8o with rfl | rfl | rfl | rfl | rfl | rfl | rfl | rfl <;> simp [actM,simM]
end
end Go.Proofs.YtidcpndlloppdaaGreat
