import Derived.Test.YtidcpndlloppdaaGreatZR21a
/-
 Layers 21,29: the document's machine: New,a mark more,a frame more,a frame copied.
 Conditions: none.
-/
set_option linter.unusedVariables false
set_option linter.unusedSimpArgs false
set_option maxRecDepth 20000
namespace Go.Proofs.YtidcpndlloppdaaGreat
open Go.RowKit
theorem only_heap {Z : Nat → Prop} {w : World} {k : Nat} (h : Z k) : (onlyW Z w).heap[k]? = w.heap[k]? :=
 (mask_msk (@List.filter Nat (fun k => @decide (¬ Z k) (Classical.propDecidable _)) (List.range w.heap.size)) w).block k fun hk => by
   have := (List.mem_filter.1 hk).2
   simp at this
   exact this h
theorem only_owns {Z : Nat → Prop} {w : World} {b : Nat} {e : TypeId} {sz : Nat} {v : Value} {n : Nat} {xs : List Value} (ho : w.ownsRow b e sz v n xs) (hz : ∀ k,v.ownBlock = some k → Z k) : (onlyW Z w).ownsRow b e sz v n xs := owns_other ho fun k hk => only_heap (hz k hk)
def Z1 (w0 w : World) (g : Nat) (T' : Value) (Z : Nat → Prop) (k : Nat) : Prop := Z k ∨ (w0.heap.size ≤ k ∧ ¬ MutR g T' k ∧ ∃ c e f,w.heap[k]? = some (.cells c e f))
section
variable {w0 w : World} {B g : Nat} {P : Option Addr} {pc : Nat} {p : List Fnc} {m m' : Mach} {A : Option Addr} {c : Nat} {T T' : Value} {qs qs' : List (Frm × Sls)} {Z : Nat → Prop}
theorem in_z1 {b : Nat} {e : TypeId} {sz : Nat} {v : Value} {n : Nat} {xs : List Value} (ho : w.ownsRow b e sz v n xs) (hb : w0.heap.size ≤ b) (h1 : e ≠ 57) (h2 : e ≠ 85) {hd : Array Value} {f : Nat × Nat} (hg : w.heap[g]? = some (.cells hd 85 f)) {b' : Nat} {tr : List Mk} (hT : OwnMs w b' T' tr) {k : Nat} (hk : v.ownBlock = some k) : Z1 w0 w g T' Z k := by
 obtain ⟨h0,c',f',hh⟩ := owns_ty ho hk
 refine .inr ⟨by omega,fun hm => ?_,_,_,_,hh⟩
 rcases hm with rfl | hm
 · rw [hg] at hh; cases hh; exact h2 rfl
 · obtain ⟨_,c2,f2,h3⟩ := owns_ty hT hm
   rw [h3] at hh; cases hh; exact h1 rfl
theorem RefAt.keepZ (h : RefAt w0 B g P pc p m A c T qs Z) (hc : Chg (MutR g T) w0 w) : ∀ q v,(onlyW Z w0).cell? q = some v → (onlyW (Z1 w0 w g T' Z) w).cell? q = some v :=
 only_keep fun k c t f hk hb => ⟨by rw [hc.block k (lt_of_some hb) (h.zt k hk).1]; exact hb,.inl hk⟩
theorem RefAt.oldF (h : RefAt w0 B g P pc p m A c T qs Z) (hc : Chg (MutR g T) w0 w) : ∀ q ∈ qs,FrmAt (onlyW (Z1 w0 w g T' Z) w) q.1 q.2 := fun q hq => (h.side.2.each q hq).keep (h.keepZ hc)
theorem RefAt.fin (h : RefAt w0 B g P pc p m A c T qs Z) (hc : Chg (MutR g T) w0 w) {v' : Value} {n : Nat} (hd : w.heap[g]? = some (.cells ⟨headR (.slice P p.length pc) v' T' m'⟩ 85 (0,0))) (hT : OwnMs w B T' m'.trace) (hTn : ∀ k,T'.ownBlock = some k → T.ownBlock = some k ∨ w0.heap.size ≤ k)
   (ha : w.ownsRow w0.heap.size 99 8 v' n (frsC qs')) (he : ∀ q ∈ qs',FrmAt (onlyW (Z1 w0 w g T' Z) w) q.1 q.2) (hni : ∀ q ∈ qs',NilOk q.2) (hf : qs'.map Prod.fst = m'.frames.reverse) :
   ∃ A' c',RefAt w B g P pc p m' A' c' T' qs' (Z1 w0 w g T' Z) ∧ ∀ k,Z1 w0 w g T' Z k → Z k ∨ w0.heap.size ≤ k := by
 have haz : ∀ k,v'.ownBlock = some k → Z1 w0 w g T' Z k := fun k hk => in_z1 ha (Nat.le_refl _) (by decide) (by decide) hd hT hk
 obtain ⟨A',c',hv,hn,hcap,hnil,hfr⟩ := frs_own (only_owns ha haz) he hni
 subst hv
 subst hn
 refine ⟨A',c',⟨h.base,hd,hT,fun k hk => ?_,⟨RowAt.keep FncE.kept h.side.1 (h.keepZ hc),hfr⟩,hf,hcap,hnil⟩,fun k hk => hk.imp id fun h => h.1⟩
 rcases hk with hk | hk
 · obtain ⟨h1,c2,e,f,hb⟩ := h.zt k hk
   refine ⟨fun hm => ?_,c2,e,f,by rw [hc.block k (lt_of_some hb) h1]; exact hb⟩
   rcases mutR_sub hTn k hm with h2 | h2
   · exact h1 h2
   · have := lt_of_some hb; omega
 · exact ⟨hk.2.1,hk.2.2⟩
end
end Go.Proofs.YtidcpndlloppdaaGreat

/-
 Layers 21,29: the document's machine: New,a frame more,a frame copied.
 Conditions: none.
-/
set_option linter.unusedVariables false
set_option linter.unusedSimpArgs false
set_option maxRecDepth 20000
namespace Go.Proofs.YtidcpndlloppdaaGreat
open Go.RowKit
section
variable {w0 w : World} {B g : Nat} {P : Option Addr} {pc : Nat} {p : List Fnc} {m m' : Mach} {A : Option Addr} {c : Nat} {T T' : Value} {qs qs' : List (Frm × Sls)} {Z : Nat → Prop}
def NewRQ (P : Option Addr) (pc : Nat) (p : List Fnc) (f : Int) (w : World) : Value → World → Prop := fun v w' => ∃ g,v = .pointer (some ⟨g,0,none⟩) ∧ w.heap.size ≤ g ∧ w'.heap[g]? = some (.cells ⟨headR (.slice P p.length pc) N0 N0 (newM f)⟩ 85 (0,0))
theorem yields43 {f : Int} {fn : Fnc} (hp : ProgAt w P p.length p) (hf : fnAt p f = some fn) (h0 : fn.params = 0) : Yields Tryz.prog 43 [.agg ⟨[.slice P p.length pc]⟩,.int .i64 f] w (NewRQ P pc p f w) := by
 refine yields_of (V43.sound ?_)
 intro q1 _
 obtain ⟨hfm,hf0,hpf,hfl⟩ := fnAt_mem hf
 rw [if_pos (by simp; omega),if_pos (by simp; omega)]
 obtain ⟨f',a,C,cc,hf',ha,c0,c1,c2,c3,hc⟩ := prog_at hp (i := f.toNat) (by omega)
 rw [hpf] at hf'; cases hf'
 refine ⟨a,ha,by omega,by omega,fn.params,c0, ?_⟩
 rw [if_neg (by simp [h0])]
 refine expo_alloc (Nat.le_refl _) fun w3 w4 hs3 e4 hlt ho => ?_
 exact ret_q (e4.after (Below.refl _ _)) fun w5 e5 => ⟨_,rfl,hs3,e5.row _ _ _ _ ho⟩
theorem call_newR {bs : List Nat} {f : Int} {fn : Fnc} {K : Value → World → Prop} (hB : w0.heap.size ≤ w.heap.size) (hp : ProgAt w P p.length p) (hf : fnAt p f = some fn) (h0 : fn.params = 0)
   (hk : ∀ g w',w.heap.size ≤ g → RefAt w' w0.heap.size g P pc p (newM f) none 0 N0 [] (fun k => k < w.heap.size ∧ ∃ c t f,w.heap[k]? = some (.cells c t f)) → Ext w0.heap.size w w' → K (.pointer (some ⟨g,0,none⟩)) w') :
   CallK Tryz.prog 43 [.agg ⟨[.slice P p.length pc]⟩,.int .i64 f] w0.heap.size w bs K := by
 refine call_yieldsX (Q := fun w1 => NewRQ P pc p f w1) hB (fun w1 e1 => yields43 (RowAt.keep FncE.kept hp (ext_keeps e1)) hf h0) fun w1 v w2 w' hs hQ hnew he => ?_
 obtain ⟨g,rfl,hg,hcell⟩ := hQ
 have hz : ∀ q v,w.cell? q = some v → (onlyW (fun k => k < w.heap.size ∧ ∃ c t f,w.heap[k]? = some (.cells c t f)) w').cell? q = some v := fun q v hq => only_cell.2 ⟨he.cell hq,cell_lt hq,by
   obtain ⟨c,t,f,hb⟩ := cell_block hq
   exact ⟨c,t,f,hb⟩⟩
 refine hk g w' (by omega) ⟨by omega,by rw [hnew g hg]; exact hcell,OwnMs.nil _ _,fun k hk => ⟨fun hm => ?_, ?_⟩,⟨RowAt.keep FncE.kept hp hz,fun j u hj => by simp [frsC] at hj,fun q hq => (by cases hq),fun q hq => (by cases hq)⟩,rfl,Nat.le_refl _,fun _ => rfl⟩ he
 · rcases hm with hm | hm
   · have := hk.1; omega
   · cases hm
 · obtain ⟨_,c,t,f,hb⟩ := hk
   exact ⟨c,t,f,he.row _ _ _ _ hb⟩
theorem zeros_set {args : List Int} {n i : Nat} {x : Int} (hx : args[i]? = some x) (hi : i < n) : (args.take i ++ List.replicate (n - i) 0).set i x = args.take (i + 1) ++ List.replicate (n - (i + 1)) 0 := by
 have hl := (List.getElem?_eq_some_iff.1 hx).1
 have htl : (args.take i).length = i := by rw [List.length_take]; omega
 rw [List.set_append_right _ _ (by omega),htl,Nat.sub_self,List.take_add_one,hx,show n - i = (n - (i + 1)) + 1 by omega,List.replicate_succ,List.set_cons_zero]
 simp
theorem b1_87 (h : RefAt w0 B g P pc p m A c T qs Z) (hcap : m.frames.length ≤ 100000) {f : Int} {fn : Fnc} (hf : fnAt p f = some fn) {args : List Int} {dfd : Bool} {n b : Nat} (hn : fn.locals = (n : Int)) (hn8 : n ≤ 100) (hb : w0.heap.size ≤ b) (hw : Below w0.heap.size w0 w) (hL : OwnI w b .u64 55 (locM (n : Int) args)) :
   V87.b1 w0.heap.size (IsT w0 (MutR g T) fun u w' => u = .tuple ⟨[]⟩ ∧ RefQ w0 B g P pc p T Z (enterM p m f args dfd) w') ⟨g,0,none⟩ f dfd (some ⟨b,0,none⟩) n n w := by
 unfold V87.b1
 simp only [own_add,bx_add,Nat.add_zero]
 have hold : ∀ (k : Nat) (cs : Array Value) (e : TypeId) (f : Nat × Nat),w0.heap[k]? = some (.cells cs e f) → w.heap[k]? = some (.cells cs e f) := fun k cs e f hk => by rw [hw.block k (lt_of_some hk)]; exact hk
 have h1 := h.same (w' := w) fun k cs e f _ hk => hold k cs e f hk
 have hlq := h.len
 intro w1 e1 _
 obtain ⟨e2,ho2⟩ := alloc1 (.cells ⟨[]⟩ 99) e1 hw.size
 have hs1 : w0.heap.size ≤ w1.heap.size := Nat.le_trans hw.size e1.size
 have hlt2 := lt_of_some ho2
 try simp only
 generalize w1.alloc (.cells ⟨[]⟩ 99) = w2 at *
 have h2 := h1.ext e2
 refine ⟨A,_,c,h2.cell (i := 6) rfl, ?_⟩
 have hw2 := e2.after hw
 have hb112 : Tryz.t99.bytes = 112 := by kernel_rfl
 have hold2 : ∀ (k : Nat) (cs : Array Value) (e : TypeId) (f : Nat × Nat),w0.heap[k]? = some (.cells cs e f) → w2.heap[k]? = some (.cells cs e f) := fun k cs e f hk => e2.row _ _ _ _ (hold k cs e f hk)
 have hL2 := hL.ext e2
 refine append_anyR (t := 40) (e := 99) (i := Tryz.t99) (z := .agg ⟨[.int .i64 0,.int .i64 0,.int .i64 0,.bool false,.int .u64 0,.slice none 0 0,.slice none 0 0,.slice none 0 0]⟩) (size := 8) (bytes := 112) (b0 := w1.heap.size) (n := 0) (xs := []) (by kernel_rfl) (by kernel_rfl) (by kernel_rfl) (by kernel_rfl) hb112 rfl (by omega) (owns_empty ho2 (Nat.le_refl _)) (news := frsC qs) (frsC_len qs) h.cap.2 (fun j u hj => h2.frs.cell j u hj) frsC_one (by simp only [maxLen]; omega) (by omega) hw2.size (Nat.le_of_lt hlt2) fun v3 w3 he3 ho3 hn3 => ?_
 rw [Nat.zero_add,List.nil_append] at ho3
 obtain ⟨A3,c3,hv3⟩ := owns_slice0 ho3
 subst hv3
 refine ⟨A3,_,c3,rfl, ?_⟩
 have off3 : ∀ (k : Nat) (cs : Array Value) (e : TypeId) (f : Nat × Nat),k ≠ w1.heap.size → w2.heap[k]? = some (.cells cs e f) → w3.heap[k]? = some (.cells cs e f) := fun k cs e f hk hb => he3.row _ _ _ _ (fun hs => hk (Option.some.inj hs).symm) hb
 have hw3 := he3.after (fun j hj => by rw [← Option.some.inj hj]; exact hs1) hw2
 intro w4 e4 _
 obtain ⟨e5,ho5⟩ := alloc1 (.cells ⟨[.int .i64 f,.int .i64 0,.int .i64 0,.bool dfd,.int .u64 0,.slice none 0 0,.slice (some ⟨b,0,none⟩) n n,.slice none 0 0]⟩ 99) e4 hw3.size
 try simp only
 generalize w4.alloc (.cells ⟨[.int .i64 f,.int .i64 0,.int .i64 0,.bool dfd,.int .u64 0,.slice none 0 0,.slice (some ⟨b,0,none⟩) n n,.slice none 0 0]⟩ 99) = w5 at *
 have ho35 := e5.owns ho3
 have hw5 := e5.after hw3
 obtain ⟨q',hq'⟩ : ∃ q' : Frm × Sls,q' = (newF p f args dfd,⟨none,0,some ⟨b,0,none⟩,n,none,0⟩) := ⟨_,rfl⟩
 have hlm : (locM (n : Int) args).length = n := by have := locM_len (n := (n : Int)) (by omega) args; omega
 have hloc : (newF p f args dfd).locals = locM (n : Int) args := by show locM (fnD p f).locals args = _; rw [fnD_eq hf,hn]
 have hfu : frU q' = [.int .i64 f,.int .i64 0,.int .i64 0,.bool dfd,.int .u64 0,.slice none 0 0,.slice (some ⟨b,0,none⟩) n n,.slice none 0 0] := by
   rw [hq']
   show [_,_,_,_,_,_,Value.slice _ (newF p f args dfd).locals.length _,_] = _
   rw [hloc,hlm]; rfl
 refine append_own (t := 40) (e := 99) (i := Tryz.t99) (z := .agg ⟨[.int .i64 0,.int .i64 0,.int .i64 0,.bool false,.int .u64 0,.slice none 0 0,.slice none 0 0,.slice none 0 0]⟩) (size := 8) (bytes := 112) (b0 := w1.heap.size) (by kernel_rfl) (by kernel_rfl) (by kernel_rfl) (by kernel_rfl) hb112 rfl (by omega) ho35 (m := 1) (news := frU q') rfl (fun j v hj => ?_) (fun v hv => ?_) (by simp only [maxLen]; omega) (by omega) hw5.size (Nat.le_trans (Nat.le_of_lt hlt2) (Nat.le_trans he3.size e5.size)) fun v6 w6 he6 ho6 hn6 => ?_
 · rw [own_add]; rw [hfu] at hj; exact at_cell ho5 hj
 · exact frsC_one (qs := [q']) v (by show v ∈ frU q' ++ []; rw [List.append_nil]; exact hv)
 rw [show frsC qs ++ frU q' = frsC (qs ++ [q']) by rw [frsC_app]; show _ = _ ++ (frU q' ++ []); rw [List.append_nil]] at ho6
 obtain ⟨A6,c6,hv6⟩ := owns_slice0 ho6
 subst hv6
 refine ⟨A6,_,c6,rfl, ?_⟩
 have hw6 := he6.after (fun j hj => Nat.le_trans hs1 (ho35.lt j hj).1) hw5
 have hg6 : w6.heap[g]? = some (.cells ⟨headR (.slice P p.length pc) (.slice A qs.length c) T m⟩ 85 (0,0)) := by rw [hw6.block g (h.ty (.inl rfl)).2.1]; exact h.head
 refine ⟨⟨_,at_cell (i := 6) hg6 rfl⟩,at_frozen hg6 6, ?_⟩
 -- the end
 have hwd : w0.heap.size ≤ w1.heap.size := hs1
 have hc : Chg (MutR g T) w0 (w6.setCell ⟨g,6,none⟩ (.slice A6 (qs.length + 1) c6)) := (⟨hw6.os,hw6.tape,hw6.output,hw6.size,fun k hk _ => hw6.block k hk⟩ : Chg (MutR g T) w0 w6).setCell _ fun _ => .inl rfl
 have hset := at_set hg6 6 (.slice A6 (qs.length + 1) c6)
 have hT6 : OwnMs (w6.setCell ⟨g,6,none⟩ (.slice A6 (qs.length + 1) c6)) B T m.trace := owns_other h.trace fun k hk => by
   obtain ⟨_,cc,ff,hh⟩ := owns_ty h.trace hk
   rw [at_other (fun e => by subst e; rw [h.head] at hh; cases hh)]
   exact hw6.block k (lt_of_some hh)
 have hne6 : ∀ k,(Value.slice A6 (qs.length + 1) c6).ownBlock = some k → k ≠ g := fun k hk e => by
   obtain ⟨_,cc,ff,hh⟩ := owns_ty ho6 hk
   subst e
   rw [hg6] at hh; cases hh
 have ho7 : (w6.setCell ⟨g,6,none⟩ (.slice A6 (qs.length + 1) c6)).ownsRow w0.heap.size 99 8 (.slice A6 (qs.length + 1) c6) (qs.length + 1) (frsC (qs ++ [q'])) := owns_down (owns_other ho6 fun k hk => at_other (hne6 k hk)) hwd
 have hbne : b ≠ w1.heap.size := fun e => by have := hL.lt; have := e1.size; omega
 have hb6 : w6.heap[b]? = some (.cells ((locM (n : Int) args).map (.int .u64)).toArray 55 (0,0)) := by
   have h3 : OwnI w3 b .u64 55 (locM (n : Int) args) := off3 _ _ _ _ hbne hL2
   have h5 := h3.ext e5
   refine he6.row _ _ _ _ (fun hs => ?_) h5
   obtain ⟨_,cc,ff,hh⟩ := owns_ty ho35 hs
   rw [show w5.heap[b]? = _ from h5] at hh; cases hh
 have hgb : b ≠ g := fun e => by have := (h.ty (.inl rfl)).2.1; omega
 have hL7 : OwnI (w6.setCell ⟨g,6,none⟩ (.slice A6 (qs.length + 1) c6)) b .u64 55 (locM (n : Int) args) := by
   unfold OwnI
   rw [at_other hgb]; exact hb6
 have hzb : Z1 w0 (w6.setCell ⟨g,6,none⟩ (.slice A6 (qs.length + 1) c6)) g T Z b := .inr ⟨hb,fun hm => (by
   rcases hm with hm | hm
   · exact hgb hm
   · have := (h.ty (.inr hm)).2.1; omega),_,_,_,hL7⟩
 have hfin := h.fin (T' := T) (m' := enterM p m f args dfd) (qs' := qs ++ [q']) hc (v' := .slice A6 (qs.length + 1) c6) (n := qs.length + 1) hset hT6 (fun k hk => .inl hk) ho7 (fun q hq => ?_) (fun q hq => ?_) ?_
 · obtain ⟨A8,c8,hR,hZ⟩ := hfin
   exact ref_ret hc hR (fun k hk => .inl hk) hZ
 · rcases List.mem_append.1 hq with hq | hq
   · exact h.oldF hc q hq
   · rw [List.mem_singleton] at hq
     subst hq
     rw [hq']
     refine ⟨⟨rfl,Nat.zero_le _,fun i x hx => by simp [newF] at hx⟩, ?_,nums_nil _ _⟩
     show Nums .u64 _ (some ⟨b,0,none⟩) (newF p f args dfd).locals.length (newF p f args dfd).locals
     rw [hloc,hlm]
     have ho8 : OwnI (onlyW (Z1 w0 (w6.setCell ⟨g,6,none⟩ (.slice A6 (qs.length + 1) c6)) g T Z) (w6.setCell ⟨g,6,none⟩ (.slice A6 (qs.length + 1) c6))) b .u64 55 (locM (n : Int) args) := by
       unfold OwnI
       rw [only_heap hzb]; exact hL7
     have := OwnI.nums (e := 55) ho8 (by simp only [maxLen]; omega)
     rwa [hlm] at this
 · rcases List.mem_append.1 hq with hq | hq
   · exact h.side.2.nil q hq
   · rw [List.mem_singleton] at hq
     subst hq
     rw [hq']
     exact ⟨fun _ => rfl,fun h => (by cases h),fun _ => rfl⟩
 · rw [List.map_append,h.frames,hq']
   show m.frames.reverse ++ [newF p f args dfd] = (newF p f args dfd :: m.frames).reverse
   rw [List.reverse_cons]
theorem l0_87 (h : RefAt w0 B g P pc p m A c T qs Z) (hcap : m.frames.length ≤ 100000) {f : Int} {fn : Fnc} (hf : fnAt p f = some fn) {AA : Option Addr} {al ac : Nat} {args : List Int} (ha : Nums .u64 w0 AA al args) {dfd : Bool} {n b : Nat} (hn : fn.locals = (n : Int)) (hn8 : n ≤ 100) (hal : al ≤ n) (hb : w0.heap.size ≤ b) :
   ∀ (k i : Nat) (w : World),al < i + k → i ≤ al → Below w0.heap.size w0 w → OwnI w b .u64 55 (args.take i ++ List.replicate (n - i) 0) →
   V87.l0 w0.heap.size (IsT w0 (MutR g T) fun u w' => u = .tuple ⟨[]⟩ ∧ RefQ w0 B g P pc p T Z (enterM p m f args dfd) w') k ⟨g,0,none⟩ f AA al ac dfd (some ⟨b,0,none⟩) n n (i : Int) w
 | 0,i,w,hk,hi,_,_ => by omega
 | k + 1,i,w,hk,hi,hw,hL => by
   dsimp -zeta only [V87.l0]
   by_cases hlt : i < al
   · rw [if_pos (by simp; omega),if_pos (by simp; omega)]
     obtain ⟨x,q,hx,hq,hc⟩ := ha.at hlt
     have hset := hL.set i x
     rw [zeros_set hx (by omega)] at hset
     rw [Int.toNat_natCast]
     have hcell : w.cell? ((⟨b,0,none⟩ : Addr).add i) = some (.int .u64 0) := hL.cell (by
       rw [List.getElem?_append_right (by rw [List.length_take]; omega),List.getElem?_replicate,if_pos (by rw [List.length_take]; have := ha.len; omega)])
     refine ⟨q,hq,by omega,by omega,x,below_keeps hw _ _ hc,⟨b,0,none⟩,rfl,by omega,by omega,⟨_,by rw [own_add] at hcell ⊢; rw [bx_add,Nat.add_zero]; exact hcell⟩,hL.frozen i, ?_⟩
     rw [wrap_id (n := (i : Int) + 1) (by omega) (by omega)]
     refine l0_87 h hcap hf ha hn hn8 hal hb k (i + 1) _ (by omega) (by omega) ?_ hset
     rw [own_add,bx_add]
     exact hw.setCell (by exact hb) _
   · have hi' : i = al := by omega
     subst hi'
     rw [if_neg (by simp)]
     refine b1_87 h hcap hf hn hn8 hb hw ?_
     have hl := ha.len
     rw [List.take_of_length_le (by omega)] at hL
     have e : locM (n : Int) args = args ++ List.replicate (n - i) 0 := by
       unfold locM
       rw [Int.toNat_natCast,List.take_append,List.take_of_length_le (by omega),List.take_replicate,hl,Nat.min_eq_left (by omega)]
     rw [e]; exact hL
theorem turns87 (hr : Rt p) (h : RefAt w B g P pc p m A c T qs Z) (hcap : m.frames.length ≤ 100000) {f : Int} {fn : Fnc} (hf : fnAt p f = some fn) {AA : Option Addr} {al ac : Nat} {args : List Int} (ha : Nums .u64 w AA al args) (hpar : (al : Int) ≤ fn.locals) (dfd : Bool) :
   RefT 87 [.pointer (some ⟨g,0,none⟩),.int .i64 f,.slice AA al ac,.bool dfd] w B g P pc p T Z (.tuple ⟨[]⟩) (enterM p m f args dfd) := by
 refine turns_of (V87.sound ?_)
 unfold V87.vc
 obtain ⟨hfm,h0,hpf,hfl⟩ := fnAt_mem hf
 have hsz := sized_bd (hr.sized fn hfm)
 obtain ⟨f',q,C',c',hf',hq,c0,c1,c2,c3,hcode⟩ := prog_at h.prog (i := f.toNat) (by omega)
 rw [hpf] at hf'; cases hf'
 obtain ⟨n,hn⟩ := Int.eq_ofNat_of_zero_le (show 0 ≤ fn.locals by omega)
 have hc0 : w.cell? (((⟨g,0,none⟩ : Addr).add 0).add 0) = some (.slice P p.length pc) := by simp only [own_add,bx_add,Nat.add_zero]; exact h.cell (i := 0) rfl
 refine ⟨_,_,_,hc0,q,hq,by omega,by omega,fn.locals,c1, ?_⟩
 rw [hn]
 have hb39 : Tryz.t55.bytes = 8 := by kernel_rfl
 refine make_own (t := 31) (e := 55) (i := Tryz.t55) (z := .int .u64 0) (size := 1) (n := n) (by kernel_rfl) (by kernel_rfl) (by kernel_rfl) (by kernel_rfl) (by rw [hb39]; omega) (by simp only [maxLen]; omega) (Nat.le_refl _) fun G1 w1 hG1 e1 ho1 => ⟨_,_,_,rfl, ?_⟩
 rw [zeros_cells] at ho1
 refine ⟨al + 1,l0_87 h hcap hf ha hn (by omega) (by omega) hG1 (al + 1) 0 w1 (by omega) (by omega) (e1.after (Below.refl _ _)) ?_⟩
 rw [List.take_zero,List.nil_append,Nat.sub_zero]
 exact ho1
end
end Go.Proofs.YtidcpndlloppdaaGreat
