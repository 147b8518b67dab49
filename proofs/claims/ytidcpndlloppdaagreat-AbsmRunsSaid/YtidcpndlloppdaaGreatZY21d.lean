import Derived.Test.YtidcpndlloppdaaGreatZR21k
/-
 Layer 21: two machines,the program's and the document's,act by act; AbsmRuns's function returns true.
 Conditions: the arguments' memory says what their values are.
-/
set_option linter.unusedVariables false
set_option linter.unusedSimpArgs false
set_option maxRecDepth 20000
namespace Go.Proofs.YtidcpndlloppdaaGreat
open Go.RowKit
structure Pair (w0 w : World) (p : List Fnc) (ga gr : Nat) (m m' : Mach) (C : Option Addr) (c : Nat) (F T : Value) (ss : List Sl) (P : Option Addr) (pc : Nat) (A : Option Addr) (cr : Nat) (Tr : Value) (qs : List (Frm × Sls)) (Z : Nat → Prop) : Prop where
 a : MachAt w w0.heap.size ga C c p m F T ss
 r : RefAt w w0.heap.size gr P pc p m' A cr Tr qs Z
 ne : ∀ k,Foot ga F T ss k → ¬ MutR gr Tr k ∧ ¬ Z k
 pa : POff (fun k => Foot ga F T ss k ∨ MutR gr Tr k) w C p
 below : Below w0.heap.size w0 w
def PairAt (w0 w : World) (p : List Fnc) (ga gr : Nat) (m m' : Mach) : Prop := ∃ C c F T ss P pc A cr Tr qs Z,Pair w0 w p ga gr m m' C c F T ss P pc A cr Tr qs Z
section
variable {w0 w w' : World} {p : List Fnc} {ga gr : Nat} {m m' : Mach}
theorem PairAt.ext (h : PairAt w0 w p ga gr m m') (he : Ext w0.heap.size w w') : PairAt w0 w' p ga gr m m' := by
 obtain ⟨C,c,F,T,ss,P,pc,A,cr,Tr,qs,Z,h⟩ := h
 exact ⟨C,c,F,T,ss,P,pc,A,cr,Tr,qs,Z,h.a.ext he,h.r.ext he,h.ne,h.pa.keep (keepsOff_ext he) fun k hk => .inl hk,he.after h.below⟩
theorem PairAt.below (h : PairAt w0 w p ga gr m m') : Below w0.heap.size w0 w := by
 obtain ⟨C,c,F,T,ss,P,pc,A,cr,Tr,qs,Z,h⟩ := h
 exact h.below
theorem PairAt.callA (h : PairAt w0 w p ga gr m m') {f : Nat} {args : List Value} {bs : List Nat} {v : Value} {n : Mach} {K : Value → World → Prop}
   (hc : ∀ w1 C c F T ss,MachAt w1 w0.heap.size ga C c p m F T ss → MachT f args w1 w0.heap.size ga C c p F T ss v n) (hk : ∀ w1,PairAt w0 w1 p ga gr n m' → K v w1) : CallK Tryz.prog f args w0.heap.size w bs K := by
 obtain ⟨C,c,F,T,ss,P,pc,A,cr,Tr,qs,Z,h⟩ := h
 refine call_mach h.below.size h.a (fun w1 _ h1 => hc w1 C c F T ss h1) fun w1 F1 T1 ss1 h1 e1 hf => hk w1 ⟨C,c,F1,T1,ss1,P,pc,A,cr,Tr,qs,Z,h1,h.r.same fun k cs e f hkk hb => ?_,fun k hkk => ?_, ?_,e1.after (fun j hj => (h.a.ty hj).1) h.below⟩
 · refine e1.row _ _ _ _ (fun hF => ?_) hb
   obtain ⟨h1,h2⟩ := h.ne k hF
   exact hkk.elim h1 h2
 · rcases hf k hkk with h2 | h2
   · exact h.ne k h2
   · refine ⟨fun hM => ?_,fun hZ => ?_⟩
     · have := (h.r.ty hM).2.1; omega
     · obtain ⟨_,cs,e,f,hb⟩ := h.r.zt k hZ
       have := lt_of_some hb; omega
 · refine h.pa.keep ((keepsOff_exts e1).mono fun k hk => .inl hk) fun k hk => ?_
   rcases hk with hk | hk
   · exact (hf k hk).imp .inl id
   · exact .inl (.inr hk)
theorem PairAt.callR (h : PairAt w0 w p ga gr m m') {f : Nat} {args : List Value} {bs : List Nat} {v : Value} {n : Mach} {K : Value → World → Prop}
   (hc : ∀ w1 P pc A cr Tr qs Z,RefAt w1 w0.heap.size gr P pc p m' A cr Tr qs Z → RefT f args w1 w0.heap.size gr P pc p Tr Z v n) (hk : ∀ w1,PairAt w0 w1 p ga gr m n → K v w1) : CallK Tryz.prog f args w0.heap.size w bs K := by
 obtain ⟨C,c,F,T,ss,P,pc,A,cr,Tr,qs,Z,h⟩ := h
 refine call_ref h.below.size h.r (fun w1 _ h1 => hc w1 P pc A cr Tr qs Z h1) fun w1 A1 c1 T1 qs1 Z1 h1 e1 hT hZ => ?_
 have hM := mutR_sub (g := gr) hT
 have hpa : POff (fun k => Foot ga F T ss k ∨ MutR gr T1 k) w1 C p := h.pa.keep ((keepsOff_exts e1).mono fun k hk => .inr hk) fun k hk => by
   rcases hk with hk | hk
   · exact .inl (.inl hk)
   · exact (hM k hk).imp .inr id
 refine hk w1 ⟨C,c,F,T,ss,P,pc,A1,c1,T1,qs1,Z1,⟨h.a.base, ?_,h.a.pcs.same fun k hk => ?_,hpa.mono fun k hk => .inl hk⟩,h1,fun k hkk => ?_,hpa,e1.after (fun j hj => (h.r.ty hj).1) h.below⟩
 · exact e1.row _ _ _ _ (h.ne _ (.inl rfl)).1 h.a.head
 · obtain ⟨_,_,cs,e,f,hb⟩ := h.a.ty (.inr hk)
   rw [hb]
   exact e1.row _ _ _ _ (h.ne _ (.inr hk)).1 hb
 · obtain ⟨h2,h3⟩ := h.ne k hkk
   have hlt := (h.a.ty hkk).2.1
   refine ⟨fun hm => ?_,fun hz => ?_⟩
   · rcases hM k hm with h4 | h4
     · exact h2 h4
     · omega
   · rcases hZ k hz with h4 | h4
     · exact h3 h4
     · omega
theorem PairAt.step (h : PairAt w0 w p ga gr m m) (hr : Rt p) (ho : MOk p m) {n : Nat} (hl : Lim m n) (hn : n ≤ 80000) {bs : List Nat} {K : Value → World → Prop} (hk : ∀ w1,PairAt w0 w1 p ga gr (stepM p m).1 m → K (.int .i64 (stepM p m).2) w1) : CallK Tryz.prog 39 [.pointer (some ⟨ga,0,none⟩)] w0.heap.size w bs K :=
 h.callA (fun w1 C c F T ss h1 => turns39 hr h1 ho hl (by omega)) hk
theorem PairAt.stepR (h : PairAt w0 w p ga gr m m') (hr : Rt p) (ho : MOk p m') {n : Nat} (hl : Lim m' n) (hn : n ≤ 80000) {bs : List Nat} {K : Value → World → Prop} (hk : ∀ w1,PairAt w0 w1 p ga gr m (stepM p m').1 → K (.int .i64 (stepM p m').2) w1) : CallK Tryz.prog 47 [.pointer (some ⟨gr,0,none⟩)] w0.heap.size w bs K :=
 h.callR (fun w1 P pc A cr Tr qs Z h1 => turns47 hr h1 ho hl hn) hk
theorem PairAt.wake (h : PairAt w0 w p ga gr m m') {bs : List Nat} {K : Value → World → Prop} (hk : ∀ w1,PairAt w0 w1 p ga gr (wakeM m) m' → K (.tuple ⟨[]⟩) w1) : CallK Tryz.prog 46 [.pointer (some ⟨ga,0,none⟩)] w0.heap.size w bs K :=
 h.callA (fun w1 C c F T ss h1 => turns46 h1) hk
theorem PairAt.wakeR (h : PairAt w0 w p ga gr m m') : (∃ u,w.cell? ⟨gr,4,none⟩ = some u) ∧ w.frozen? ⟨gr,4,none⟩ = false ∧ PairAt w0 (w.setCell ⟨gr,4,none⟩ (.bool false)) p ga gr m (wakeM m') := by
 obtain ⟨C,c,F,T,ss,P,pc,A,cr,Tr,qs,Z,h⟩ := h
 refine ⟨⟨_,h.r.cell (i := 4) rfl⟩,h.r.fz 4,C,c,F,T,ss,P,pc,A,cr,Tr,qs,Z, ?_⟩
 have hr' := h.r.setHead (i := 4) (v := .bool false) (m' := wakeM m') rfl rfl rfl
 have hg : ∀ k,k ≠ gr → (w.setCell ⟨gr,4,none⟩ (.bool false)).heap[k]? = w.heap[k]? := fun k hk => at_other hk
 have hpa : POff (fun k => Foot ga F T ss k ∨ MutR gr Tr k) (w.setCell ⟨gr,4,none⟩ (.bool false)) C p := h.pa.keep (keepsOff_set (.inr (.inl rfl))) fun k hk => .inl hk
 have hfg : ∀ k,Foot ga F T ss k → k ≠ gr := fun k hk e => (h.ne k hk).1 (.inl e)
 refine ⟨⟨h.a.base,by rw [hg _ (hfg _ (.inl rfl))]; exact h.a.head,h.a.pcs.same fun k hk => hg k (hfg k (.inr hk)),hpa.mono fun k hk => .inl hk⟩,hr',h.ne,hpa, ?_⟩
 have hb := h.r.base
 exact ⟨h.below.os,h.below.tape,h.below.output,by rw [World.size_setCell]; exact h.below.size,fun k hk => by rw [hg k (by omega)]; exact h.below.block k hk⟩
theorem gives45 (hr : Rt p) (ho : MOk p m) {n : Nat} (hl : Lim m n) (hn : n ≤ 50000) {B B' : Nat} {C : Option Addr} {c : Nat} {F T : Value} {ss : List Sl} {P : Option Addr} {pc : Nat} {A : Option Addr} {cr : Nat} {Tr : Value} {qs : List (Frm × Sls)} {Z : Nat → Prop} (ha : MachAt w0 B ga C c p m F T ss) (hrr : RefAt w0 B' gr P pc p m A cr Tr qs Z) : Gives Tryz.prog 45 [.pointer (some ⟨ga,0,none⟩),.pointer (some ⟨gr,0,none⟩)] w0 (.bool true) := by
 refine gives_of (V45.sound ?_)
 unfold V45.vc
 have l2 := hl.frames
 have l3 := hl.trace
 simp only [own_add,bx_add,Nat.add_zero]
 have hsm : ∀ x ∈ m.frames,SmallF x := fun x hx => smallF_of hr (ho.frames x hx)
 have hrf : ∀ x ∈ m.frames,RefsF p x := fun x hx => by
   obtain ⟨g,hx⟩ := (ho.frames x hx).inn
   have hs := sized_bd (hx.wrap hr).2
   have hl := hx.locals
   exact ⟨g,hx.fn,by omega,by omega,by omega⟩
 refine ⟨m.ended,hrr.cell (i := 3) rfl, ?_⟩
 refine call_gives (Below.refl _ _) (fun w1 e1 _ => gives40 (ha.ext e1)) fun w1 e1 hw1 => ?_
 have r1 := hrr.ext e1
 have a1 := ha.ext e1
 refine ⟨_,rfl,r1.cell (i := 3) rfl, ?_⟩
 rw [if_pos (by simp)]
 refine ⟨m.parked,r1.cell (i := 4) rfl, ?_⟩
 refine call_gives hw1 (fun w2 e2 _ => gives81 (a1.ext e2)) fun w2 e2 hw2 => ?_
 have r2 := r1.ext e2
 have a2 := a1.ext e2
 refine ⟨_,rfl,r2.cell (i := 4) rfl, ?_⟩
 rw [if_pos (by simp)]
 refine call_gives hw2 (fun w3 e3 _ => gives82 hr (a2.ext e3) ho (by omega) fun f hc => call_in hr ho hc) fun w3 e3 hw3 => ⟨_,rfl, ?_⟩
 have r3 := r2.ext e3
 have a3 := a2.ext e3
 refine call_gives hw3 (fun w4 e4 _ => gives62 hr (r3.ext e4) ho (by omega)) fun w4 e4 hw4 => ⟨_,rfl, ?_⟩
 rw [if_pos (by simp)]
 have r4 := r3.ext e4
 have a4 := a3.ext e4
 have hql := hrr.len
 refine ⟨A,_,cr,r4.cell (i := 6) rfl, ?_⟩
 refine call_frames hw4.size a4 hsm (by omega) fun A5 c5 w5 s5 e5 o5 f5 => ?_
 have r5 := r4.ext e5
 have a5 := a4.ext e5
 have hw5 := e5.after hw4
 refine ⟨A5,_,c5,rfl,r5.cell (i := 6) rfl, ?_⟩
 have row5 := frames_row o5 f5 hsm (by omega)
 have rowR : RowAt FrE 8 w5 A m.frames.length m.frames.reverse := by
   refine ⟨by simp,by simp only [maxLen]; omega,fun i x hx => ?_⟩
   have hi := (List.getElem?_eq_some_iff.1 hx).1
   rw [List.length_reverse] at hi
   rw [List.getElem?_reverse hi] at hx
   obtain ⟨s,a,ha,hfa,hcl⟩ := r5.cells hx
   rw [show m.frames.length - 1 - (m.frames.length - 1 - i) = i by omega] at hcl
   exact ⟨a,ha,s,hcl 0 _ rfl,hcl 1 _ rfl,hcl 2 _ rfl,hcl 3 _ rfl,hcl 4 _ rfl,hcl 5 _ rfl,hcl 6 _ rfl,hcl 7 _ rfl,hfa⟩
 rw [hql]
 refine call_gives hw5 (fun w6 e6 _ => gives17 (by omega) (RowAt.keep FrE.kept row5 (ext_keeps e6)) (RowAt.keep FrE.kept rowR (ext_keeps e6))) fun w6 e6 hw6 => ⟨_,rfl, ?_⟩
 rw [if_pos rfl]
 have r6 := r5.ext e6
 have a6 := a5.ext e6
 have hrl : (rootsM p m).length ≤ 1000000 := by
   have : ∀ l : List Frm,(∀ x ∈ l,x ∈ m.frames) → (l.flatMap (refsF p)).length ≤ l.length * 8 := by
     intro l
     induction l with
     | nil => intro _; exact Nat.le_refl _
     | cons x r ih =>
       intro hm
       rw [List.flatMap_cons,List.length_append,List.length_cons]
       have h1 := ih fun y hy => hm y (List.mem_cons_of_mem _ hy)
       obtain ⟨g,hx⟩ := (ho.frames x (hm x List.mem_cons_self)).inn
       have hs := sized_bd (hx.wrap hr).2
       have hl := hx.locals
       have h2 : (refsF p x).length ≤ x.locals.length := by
         unfold refsF
         refine Nat.le_trans (List.length_filter_le _ _) ?_
         rw [List.length_drop]; omega
       omega
   have h1 := this m.frames fun x hx => hx
   show (m.frames.flatMap (refsF p)).length ≤ _
   omega
 have roots : ∀ {w1 w2 w3 : World} {v : Value},w2.ownsRow w1.heap.size 55 1 v (rootsM p m).length (u64s (rootsM p m)) → (∀ k,w1.heap.size ≤ k → w3.heap[k]? = w2.heap[k]?) → w3.ownsRow w1.heap.size 55 1 v (rootsM p m).length (u64s (rootsM p m)) := fun hQ hsame => owns_other hQ fun k hk => hsame k (owns_ty hQ hk).1
 refine call_yieldsX (Q := fun w1 => RootsQ (rootsM p m) w1) hw6.size (fun w1 e1 => yields85 (a6.ext e1) hrf (by omega)) fun w1 v w2 w7 hs1 hQ hsame e7 => ?_
 have hQ7 := roots hQ hsame
 obtain ⟨A1,c1,hv1⟩ := owns_slice0 hQ7
 subst hv1
 refine ⟨A1,_,c1,rfl, ?_⟩
 have hw7 := e7.after hw6
 have r7 := r6.ext e7
 have a7 := a6.ext e7
 refine call_yieldsX (Q := fun w1 => RootsQ (rootsM p m) w1) hw7.size (fun w1 e1 => yields86 (r7.ext e1) hrf (by omega)) fun w1' v' w2' w8 hs1' hQ' hsame' e8 => ?_
 have hQ8 := roots hQ' hsame'
 obtain ⟨A2,c2,hv2⟩ := owns_slice0 hQ8
 subst hv2
 refine ⟨A2,_,c2,rfl, ?_⟩
 have hw8 := e8.after hw7
 have n1 := ownsU_nums (e8.owns hQ7) hrl
 have n2 := ownsU_nums hQ8 hrl
 refine call_gives hw8 (fun w9 e9 _ => gives84 (RowAt.keep (NumE.kept _) n1 (ext_keeps e9)) (RowAt.keep (NumE.kept _) n2 (ext_keeps e9))) fun w9 e9 hw9 => ⟨_,rfl, ?_⟩
 rw [if_pos (by simp)]
 have r9 := (r7.ext e8).ext e9
 have a9 := (a7.ext e8).ext e9
 obtain ⟨AT,cT,hT⟩ := owns_slice0 r9.trace
 subst hT
 refine ⟨AT,_,cT,r9.cell (i := 7) rfl, ?_⟩
 refine call_trace hw9.size a9 (by omega) fun A10 c10 w10 e10 hm10 hc10 => ?_
 have r10 := r9.ext e10
 refine ⟨A10,_,c10,rfl,r10.cell (i := 7) rfl, ?_⟩
 have k1 : Marks w10 A10 _ _ := RowAt.keep MarkE.kept hm10 fun q v hq => (newW_cell.1 hq).1
 have k2 := marks_own r10.trace (by omega)
 refine call_gives (e10.after hw9) (fun w11 e11 _ => gives18 (RowAt.keep MarkE.kept k1 (ext_keeps e11)) (RowAt.keep MarkE.kept k2 (ext_keeps e11))) fun w11 e11 hw11 => ⟨_,rfl,ret_is hw11 ?_⟩
 rw [(eqMs_iff _ _).2 rfl]
end
end Go.Proofs.YtidcpndlloppdaaGreat

/-
 Layer 21: AbsmRuns's function returns true.
 Conditions: the arguments' memory says what their values are.
-/
set_option linter.unusedVariables false
set_option linter.unusedSimpArgs false
set_option maxRecDepth 20000
namespace Go.Proofs.YtidcpndlloppdaaGreat
open Go.RowKit
section
variable {w : World} {B g : Nat} {P : Option Addr} {pc : Nat} {p : List Fnc} {m : Mach} {A : Option Addr} {c : Nat} {T : Value} {qs : List (Frm × Sls)} {Z : Nat → Prop}
def fewM (m : Mach) (i : Int) : Bool := if m.frames.length < 12 then true else Int.tmod i 16 == 0
theorem gives44 (h : RefAt w B g P pc p m A c T qs Z) (i : Int) : Gives Tryz.prog 44 [.pointer (some ⟨g,0,none⟩),.int .i64 i] w (.bool (fewM m i)) := by
 refine gives_of (V44.sound ?_)
 unfold V44.vc fewM
 simp only [own_add,bx_add,Nat.add_zero]
 have hq := h.len
 refine ⟨A,_,c,h.cell (i := 6) rfl, ?_⟩
 rw [hq]
 by_cases hl : m.frames.length < 12
 · rw [if_neg (by simp; omega),if_pos hl]
   exact ret_is (Below.refl _ _) rfl
 · rw [if_pos (by simp; omega),if_neg hl]
   exact ⟨by decide,ret_is (Below.refl _ _) rfl⟩
end
section
variable {w0 : World} {p : List Fnc} (hr : Rt p) {ga gr : Nat} {A : Option Addr} {l c : Nat} {ts : List Int} (hts : BytesAt w0 A l c ts) {n : Nat} (hn : n ≤ 300)
include hr hts hn
theorem l0_12 : ∀ (k i : Nat) (w : World) (m : Mach),n < i + k → i ≤ n → MOk p m → Lim m i → PairAt w0 w p ga gr m m → V12p.l0 w0.heap.size (IsV w0 (.bool true)) k (n : Int) A l c ⟨ga,0,none⟩ ⟨gr,0,none⟩ (i : Int) w
 | 0,i,w,m,hk,hi,_,_,_ => by omega
 | k + 1,i,w,m,hk,hi,ho,hl,h => by
   dsimp -zeta only [V12p.l0]
   have hll := hts.nums.len
   -- both machines are held against one another
   have same : ∀ {w : World},PairAt w0 w p ga gr m m → ∀ w1,Ext w0.heap.size w w1 → Gives Tryz.prog 45 [.pointer (some ⟨ga,0,none⟩),.pointer (some ⟨gr,0,none⟩)] w1 (.bool true) := fun {w} h w1 e1 => by
     obtain ⟨C,c,F,T,ss,P,pc,A,cr,Tr,qs,Z,hp⟩ := h.ext e1
     exact gives45 hr ho hl (by omega) hp.a hp.r
   by_cases hlt : i < n
   · rw [if_pos (by simp; omega)]
     -- the act
     have act : ∀ (w : World) (m1 : Mach),MOk p m1 → Lim m1 i → PairAt w0 w p ga gr m1 m1 → V12p.b3 w0.heap.size (IsV w0 (.bool true)) (V12p.l0 w0.heap.size (IsV w0 (.bool true)) k) (n : Int) A l c ⟨ga,0,none⟩ ⟨gr,0,none⟩ (i : Int) w := fun w m1 ho1 hl1 h1 => by
       unfold V12p.b3
       obtain ⟨ho2,hl2⟩ := step_ok hr ho1 hl1 (by omega)
       refine h1.step hr ho1 hl1 (by omega) fun w1 h2 => ⟨_,rfl, ?_⟩
       refine h2.stepR hr ho1 hl1 (by omega) fun w2 h3 => ⟨_,rfl, ?_⟩
       rw [if_neg (by simp),wrap_id (n := (i : Int) + 1) (by omega) (by omega)]
       exact l0_12 k (i + 1) w2 _ (by omega) (by omega) ho2 hl2 h3
     have turn : ∀ (b : Bool) (w : World),PairAt w0 w p ga gr m m → V12p.b2 w0.heap.size (IsV w0 (.bool true)) (V12p.l0 w0.heap.size (IsV w0 (.bool true)) k) (n : Int) A l c ⟨ga,0,none⟩ ⟨gr,0,none⟩ (i : Int) b w := fun b w h1 => by
       unfold V12p.b2
       cases b with
       | false => rw [if_neg (by simp)]; exact act w m ho hl h1
       | true =>
         rw [if_pos rfl]
         refine h1.wake fun w1 h2 => ⟨rfl, ?_⟩
         simp only [own_add,bx_add,Nat.add_zero,Nat.zero_add]
         obtain ⟨hc,hz,h3⟩ := h2.wakeR
         exact ⟨hc,hz,act _ _ (wake_ok ho) (wake_lim hl) h3⟩
     have rest : ∀ w,PairAt w0 w p ga gr m m → V12p.b1 w0.heap.size (IsV w0 (.bool true)) (V12p.l0 w0.heap.size (IsV w0 (.bool true)) k) (n : Int) A l c ⟨ga,0,none⟩ ⟨gr,0,none⟩ (i : Int) w := fun w h1 => by
       unfold V12p.b1
       simp only [own_add,Nat.add_zero]
       have hp : w.cell? ⟨gr,4,none⟩ = some (.bool m.parked) := by
         obtain ⟨C,c,F,T,ss,P,pc,A,cr,Tr,qs,Z,hp⟩ := h1
         exact hp.r.cell (i := 4) rfl
       refine ⟨m.parked,hp, ?_⟩
       by_cases hpk : m.parked = true
       · rw [if_pos hpk]
         by_cases hl0 : l = 0
         · rw [if_neg (by simp [hl0])]
           exact turn true w h1
         · rw [if_pos (by simp [hl0])]
           have htm : Int.tmod (i : Int) (l : Int) = ((i % l : Nat) : Int) := by rw [Int.tmod_eq_emod_of_nonneg (by omega)]; omega
           rw [htm]
           have hml := Nat.mod_lt i (Nat.pos_of_ne_zero hl0)
           obtain ⟨x,q,hx,hq,hc⟩ := hts.nums.at hml
           refine ⟨by omega,q,hq,by omega,by omega,x,by rw [Int.toNat_natCast]; exact below_keeps h1.below _ _ hc,by decide,turn _ w h1⟩
       · rw [if_neg hpk]
         exact turn false w h1
     obtain ⟨C,c',F,T,ss,P,pc,Ar,cr,Tr,qs,Z,hp⟩ := h
     have h : PairAt w0 w p ga gr m m := ⟨C,c',F,T,ss,P,pc,Ar,cr,Tr,qs,Z,hp⟩
     refine call_gives hp.below (fun w1 e1 _ => gives44 (hp.r.ext e1) (i : Int)) fun w1 e1 hw1 => ⟨_,rfl, ?_⟩
     have h1 := h.ext e1
     cases fewM m (i : Int) with
     | false =>
       rw [if_neg (by simp)]
       exact rest w1 h1
     | true =>
       rw [if_pos rfl]
       refine call_gives hw1 (fun w2 e2 _ => same h1 w2 e2) fun w2 e2 hw2 => ⟨_,rfl, ?_⟩
       rw [if_neg (by simp)]
       exact rest w2 (h1.ext e2)
   · rw [if_neg (by simp; omega)]
     exact call_gives h.below (fun w2 e2 _ => same h w2 e2) fun w2 e2 hw2 => ⟨_,rfl,ret_is hw2 rfl⟩
end
theorem gives12 {w : World} {p : List Fnc} (hr : Rt p) {P : Option Addr} {cap : Nat} (hp : ProgAt w P p.length p) (f : Int) {A : Option Addr} {l c : Nat} {ts : List Int} (hts : BytesAt w A l c ts) {n : Nat} (hn : n ≤ 300) :
   Gives Tryz.prog 12 [.agg ⟨[.slice P p.length cap]⟩,.int .i64 f,.int .i64 (n : Int),.slice A l c] w (.bool true) := by
 refine gives_of (V12p.sound ?_)
 intro q _
 rcases mach_or p f with ⟨fn,hf,h0⟩ | hno
 · refine call_newM (Nat.le_refl _) hp hr hf h0 fun g C cc w1 hg hM hA e1 => ⟨_,rfl, ?_⟩
   simp only [caseP]
   have hw1 := e1.after (Below.refl _ _)
   refine call_newR hw1.size (RowAt.keep FncE.kept hp (ext_keeps e1)) hf h0 fun g' w2 hg' hR e2 => ⟨_,rfl, ?_⟩
   simp only [caseP]
   rw [if_neg (by simp)]
   have hw2 := e2.after hw1
   have hgl : g < w1.heap.size := lt_of_some hM.head
   have hold : ∀ q v,w.cell? q = some v → (onlyW (fun k => k < w.heap.size ∧ ∃ c t f,w.heap[k]? = some (.cells c t f)) w2).cell? q = some v := fun q v hq => only_cell.2 ⟨below_keeps hw2 _ _ hq,cell_lt hq,cell_block hq⟩
   have hpa : POff (fun k => Foot g N0 N0 [] k ∨ MutR g' N0 k) w2 C p := (hA.keep (S' := fun k => Foot g N0 N0 [] k ∨ MutR g' N0 k) (keepsOff_ext e2) fun k hk => by
     rcases hk with hk | hk
     · rcases hk with hk | hk | hk | ⟨s,hs,_⟩
       · exact .inl (.inr hk)
       · cases hk
       · cases hk
       · cases hs
     · rcases hk with hk | hk
       · exact .inr (by omega)
       · cases hk).poff
   refine ⟨n + 1,l0_12 hr hts hn (n + 1) 0 w2 (newM f) (by omega) (by omega) (newM_ok hf h0) (newM_lim f) ⟨C,cc,N0,N0,[],P,cap,none,0,N0,[],(fun k => k < w.heap.size ∧ ∃ c t f,w.heap[k]? = some (.cells c t f)),hM.ext e2,⟨hR.base,hR.head,hR.trace,fun k hk => ?_,⟨RowAt.keep FncE.kept hp hold, ?_⟩,hR.frames,hR.cap⟩,fun k hk => ?_,hpa,hw2⟩⟩
   · obtain ⟨hk1,c,t,f,hb⟩ := hk
     refine ⟨fun hm => ?_,c,t,f,by rw [hw2.block k hk1]; exact hb⟩
     rcases hm with hm | hm
     · have := hw1.size; omega
     · cases hm
   · exact ⟨fun j u hj => by simp [frsC] at hj,fun q hq => (by cases hq),fun q hq => (by cases hq)⟩
   · have hk' : k = g := by
       rcases hk with hk | hk | hk | ⟨s,hs,_⟩
       · exact hk
       · cases hk
       · cases hk
       · cases hs
     subst hk'
     refine ⟨fun hm => ?_,fun hz => ?_⟩
     · rcases hm with hm | hm
       · omega
       · cases hm
     · have := hz.1; omega
 · refine call_gives (Below.refl _ _) (fun w1 _ hb => gives37n (hp.keep hb) hno hr) fun w1 e1 hw1 => ⟨_,rfl, ?_⟩
   simp only [caseP]
   refine call_gives hw1 (fun w2 _ hb => gives43n (hp.keep hb) hno) fun w2 e2 hw2 => ⟨_,rfl, ?_⟩
   simp only [caseP]
   rw [if_neg (by simp)]
   exact ret_is hw2 rfl
theorem gives3 {w : World} {P : Option Addr} {p : List Fnc} {cap : Nat} (hp : ProgAt w P p.length p) (f : Int) {A : Option Addr} {l c : Nat} {ts : List Int} (hts : BytesAt w A l c ts) {n : Int} (hn : 0 ≤ n ∧ n ≤ 65535) :
   Gives Tryz.prog 3 [.agg ⟨[.slice P p.length cap]⟩,.int .i64 f,.slice A l c,.int .u16 n] w (.bool true) := by
 refine gives_of (V3.sound ?_)
 intro q _
 refine call_gives (Below.refl _ _) (fun w1 _ hb => gives10 (hp.keep hb)) fun w1 e1 hw1 => ⟨_,rfl, ?_⟩
 by_cases hc : (checkM p).1 = 0
 · rw [if_neg (by simp [hc])]
   have hr := rt_of hc
   refine ⟨by decide, ?_⟩
   have hm : Int.tmod (IntKind.wrap .i64 n) 300 = (((n % 300).toNat : Nat) : Int) := by
     rw [wrap_id (by omega) (by omega),Int.tmod_eq_emod_of_nonneg hn.1]; omega
   rw [hm]
   refine call_gives hw1 (fun w2 _ hb => gives12 hr (hp.keep hb) f (hts.keep (below_keeps hb)) (by omega)) fun w2 e2 hw2 => ⟨_,rfl, ?_⟩
   rw [if_pos rfl]
   exact call_gives hw2 (fun _ _ _ => gives11) fun w3 e3 hw3 => ⟨_,rfl,ret_is hw3 rfl⟩
 · rw [if_pos (by simp [hc])]
   exact call_gives hw1 (fun _ _ _ => gives11) fun w3 e3 hw3 => ⟨_,rfl,ret_is hw3 rfl⟩
end Go.Proofs.YtidcpndlloppdaaGreat
