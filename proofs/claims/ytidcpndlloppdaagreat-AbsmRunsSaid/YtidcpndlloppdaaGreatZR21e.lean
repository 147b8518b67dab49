import Derived.Test.YtidcpndlloppdaaGreatZR21c
/-
 Layers 21,29: the document's machine: a frame copied; words of two.
 Conditions: none.
-/
set_option linter.unusedVariables false
set_option linter.unusedSimpArgs false
set_option maxRecDepth 20000
namespace Go.Proofs.YtidcpndlloppdaaGreat
open Go.RowKit
def dfC (d : Dfr) (s : Option Addr × Nat) : List Value := [.int .i64 d.f,.slice s.1 d.args.length s.2]
theorem dfC_len (d : Dfr) (s : Option Addr × Nat) : (dfC d s).length = 2 := rfl
def DAll (w : World) (ds : List Dfr) (da : List (Option Addr × Nat)) : Prop := ∀ (i : Nat) (d : Dfr) (s : Option Addr × Nat),ds[i]? = some d → da[i]? = some s → Nums .u64 w s.1 d.args.length d.args
theorem dfC_one {ds : List Dfr} {da : List (Option Addr × Nat)} : ∀ u ∈ flatC dfC ds da,u.oneCell' = true := fun u hu => by
 obtain ⟨j,hj⟩ := List.getElem?_of_mem hu
 obtain ⟨i,r,d,s,_,_,_,h⟩ := flatC_inv dfC_len hj
 have := List.mem_of_getElem? h
 simp only [dfC,List.mem_cons,List.not_mem_nil,or_false] at this
 rcases this with rfl | rfl <;> rfl
theorem dfr_src {w : World} {A : Option Addr} {l : Nat} {ds : List Dfr} (h : Dfrs w A l ds) : ∃ da : List (Option Addr × Nat),da.length = ds.length ∧ DAll w ds da ∧ ∀ j u,(flatC dfC ds da)[j]? = some u → ∃ a,A = some a ∧ w.cell? (a.add j) = some u := by
 have each : ∀ (i : Nat) (d : Dfr),ds[i]? = some d → ∃ s : Option Addr × Nat,Nums .u64 w s.1 d.args.length d.args ∧ ∃ a,A = some a ∧ ∀ r u,(dfC d s)[r]? = some u → w.cell? ((a.add (i * 2)).add r) = some u := fun i d hd => by
   obtain ⟨q,hq,h0,A',c',h1,hn⟩ := h.get i d hd
   refine ⟨(A',c'),hn,q,hq,fun r u hu => ?_⟩
   match r,hu with
   | 0,hu => simp [dfC] at hu; subst hu; exact h0
   | 1,hu => simp [dfC] at hu; subst hu; exact h1
   | r + 2,hu => simp [dfC] at hu
 obtain ⟨da,hl,hs⟩ := each_some each ds.length (Nat.le_refl _)
 refine ⟨da,hl,fun i d s hd hs' => (hs i d s hd hs').1,fun j u hj => ?_⟩
 obtain ⟨i,r,d,s,rfl,hd,hs',hu⟩ := flatC_inv dfC_len hj
 obtain ⟨_,a,ha,hc⟩ := hs i d s hd hs'
 refine ⟨a,ha, ?_⟩
 rw [← adr_add]
 exact hc r u hu
theorem dfr_own {w : World} {b n : Nat} {v : Value} {ds : List Dfr} {da : List (Option Addr × Nat)} (ho : w.ownsRow b 149 2 v n (flatC dfC ds da)) (hl : da.length = ds.length) (hd : DAll w ds da) (hn : ds.length ≤ 1000) : ∃ A c,v = .slice A ds.length c ∧ Dfrs w A ds.length ds ∧ n = ds.length ∧ n ≤ c ∧ (A = none → c = 0) := by
 have hlen := ho.1
 rw [flatC_len dfC_len hl] at hlen
 have hnn : n = ds.length := by omega
 subst hnn
 obtain ⟨A,c,hv⟩ := owns_slice0 ho
 subst hv
 obtain ⟨h1,h2⟩ := own_capR ho
 refine ⟨A,c,rfl,⟨rfl,by simp only [maxLen]; omega,fun i d hdi => ?_⟩,rfl,h1,h2⟩
 have hi := (List.getElem?_eq_some_iff.1 hdi).1
 have hs : da[i]? = some (da[i]'(by omega)) := List.getElem?_eq_getElem _
 obtain ⟨g,cap,hv,_,_⟩ := owns_some ho (by omega)
 cases hv
 refine ⟨⟨g,0,none⟩,rfl, ?_,(da[i]'(by omega)).1,(da[i]'(by omega)).2, ?_,hd i d _ hdi hs⟩
 · simp only [own_add,bx_add,Nat.add_zero,Nat.zero_add]
   have := owns_cell ho (flatC_get dfC_len hdi hs (j := 0) rfl)
   simpa using this
 · simp only [own_add,bx_add,Nat.zero_add]
   exact owns_cell ho (flatC_get dfC_len hdi hs (j := 1) rfl)
theorem num_own {w : World} {b n : Nat} {v : Value} {xs : List Int} (ho : w.ownsRow b 55 1 v n (u64s xs)) (hn : xs.length ≤ 1000) : ∃ A c,v = .slice A xs.length c ∧ Nums .u64 w A xs.length xs ∧ n = xs.length ∧ n ≤ c ∧ (A = none → c = 0) := by
 have hl := ho.1
 have hnn : n = xs.length := by unfold u64s at hl; rw [List.length_map] at hl; omega
 subst hnn
 obtain ⟨A,c,hv⟩ := owns_slice0 ho
 subst hv
 obtain ⟨h1,h2⟩ := own_capR ho
 exact ⟨A,c,rfl,ownsU_nums ho (by omega),rfl,h1,h2⟩
structure OwnF (w : World) (b : Nat) (t : Frm) (vD vL vO : Value) (da : List (Option Addr × Nat)) : Prop where
 D : w.ownsRow b 149 2 vD t.dfs.length (flatC dfC t.dfs da)
 dl : da.length = t.dfs.length
 L : w.ownsRow b 55 1 vL t.locals.length (u64s t.locals)
 O : w.ownsRow b 55 1 vO t.ops.length (u64s t.ops)
 ne : ∀ k,vL.ownBlock = some k → vO.ownBlock ≠ some k
theorem OwnF.same {w w' : World} {b : Nat} {t : Frm} {vD vL vO : Value} {da : List (Option Addr × Nat)} (h : OwnF w b t vD vL vO da) (hs : ∀ k,vD.ownBlock = some k ∨ vL.ownBlock = some k ∨ vO.ownBlock = some k → w'.heap[k]? = w.heap[k]?) : OwnF w' b t vD vL vO da :=
 ⟨owns_other h.D fun k hk => hs k (.inl hk),h.dl,owns_other h.L fun k hk => hs k (.inr (.inl hk)),owns_other h.O fun k hk => hs k (.inr (.inr hk)),h.ne⟩
theorem OwnF.ext {w w' : World} {b B : Nat} {t : Frm} {vD vL vO : Value} {da : List (Option Addr × Nat)} (h : OwnF w b t vD vL vO da) (he : Ext B w w') : OwnF w' b t vD vL vO da := ⟨he.owns h.D,h.dl,he.owns h.L,he.owns h.O,h.ne⟩
theorem OwnF.down {w : World} {b b' : Nat} {t : Frm} {vD vL vO : Value} {da : List (Option Addr × Nat)} (h : OwnF w b t vD vL vO da) (hb : b' ≤ b) : OwnF w b' t vD vL vO da := ⟨owns_down h.D hb,h.dl,owns_down h.L hb,owns_down h.O hb,h.ne⟩
theorem nums_src {w : World} {A : Option Addr} {l : Nat} {xs : List Int} (h : Nums .u64 w A l xs) : ∀ j u,(u64s xs)[j]? = some u → ∃ a,A = some a ∧ w.cell? (a.add j) = some u := fun j u hj => by
 unfold u64s at hj
 rw [List.getElem?_map] at hj
 cases hx : xs[j]? with
 | none => rw [hx] at hj; cases hj
 | some x =>
   rw [hx] at hj; cases hj
   obtain ⟨a,ha,hc⟩ := h.get j x hx
   refine ⟨a,ha, ?_⟩
   unfold NumE at hc
   rwa [Nat.mul_one] at hc
theorem u64s_one {xs : List Int} : ∀ u ∈ u64s xs,u.oneCell' = true := fun u hu => by
 obtain ⟨x,_,rfl⟩ := List.mem_map.1 hu; rfl
def CopQ (t : Frm) (da : List (Option Addr × Nat)) (w : World) : Value → World → Prop := fun v w' => ∃ vD vL vO,v = .agg ⟨[.int .i64 t.f,.int .i64 t.pc,.int .i64 t.mode,.bool t.dfd,.int .u64 t.value,vD,vL,vO]⟩ ∧ OwnF w' w.heap.size t vD vL vO da
theorem yields130 {w : World} {t : Frm} {s : Sls} (hx : SmallFR t) (hf : FrmAt w t s) (hn : NilOk s) {da : List (Option Addr × Nat)} (hdl : da.length = t.dfs.length) (hsrc : ∀ j u,(flatC dfC t.dfs da)[j]? = some u → ∃ a,s.D = some a ∧ w.cell? (a.add j) = some u) : Yields Tryz.prog 130 [frmV t s] w (CopQ t da w) := by
 refine yields_of (V130.sound ?_)
 intro q1 _ q2 _
 obtain ⟨x1,x2,x3,x4⟩ := hx
 have hb39 : Tryz.t55.bytes = 8 := by kernel_rfl
 have hb112 : Tryz.t149.bytes = 32 := by kernel_rfl
 refine expo_alloc (Nat.le_refl _) fun w1 w2 hs1 e2 hlt2 ho2 => ?_
 have hw2 := e2.after (Below.refl _ _)
 refine append_anyR (t := 31) (e := 55) (i := Tryz.t55) (z := .int .u64 0) (size := 1) (bytes := 8) (b0 := w1.heap.size) (n := 0) (xs := []) (by kernel_rfl) (by kernel_rfl) (by kernel_rfl) (by kernel_rfl) hb39 rfl (by omega) (owns_empty ho2 (Nat.le_refl _)) (news := u64s t.locals) (by simp [u64s]) hn.2.1 (nums_src (RowAt.keep (NumE.kept _) hf.locals (ext_keeps e2))) u64s_one (by simp only [maxLen]; omega) (by omega) e2.size (Nat.le_of_lt hlt2) fun vL w3 he3 hoL hnL => ?_
 rw [Nat.zero_add,List.nil_append] at hoL
 have hw3 := he3.after (fun j hj => by rw [← Option.some.inj hj]; exact hs1) hw2
 have hold3 : ∀ q v,w.cell? q = some v → w3.cell? q = some v := fun q v hq => below_keeps hw3 _ _ hq
 obtain ⟨AL,cL,hvL⟩ := owns_slice0 hoL
 subst hvL
 refine ⟨AL,_,cL,rfl, ?_⟩
 refine expo_alloc hw3.size fun w4 w5 hs4 e5 hlt5 ho5 => ?_
 have hw5 := e5.after hw3
 refine append_anyR (t := 31) (e := 55) (i := Tryz.t55) (z := .int .u64 0) (size := 1) (bytes := 8) (b0 := w4.heap.size) (n := 0) (xs := []) (by kernel_rfl) (by kernel_rfl) (by kernel_rfl) (by kernel_rfl) hb39 rfl (by omega) (owns_empty ho5 (Nat.le_refl _)) (news := u64s t.ops) (by simp [u64s]) hn.2.2 (nums_src (RowAt.keep (NumE.kept _) hf.ops fun q v hq => e5.cell (hold3 q v hq))) u64s_one (by simp only [maxLen]; omega) (by omega) hw5.size (Nat.le_of_lt hlt5) fun vO w6 he6 hoO hnO => ?_
 rw [Nat.zero_add,List.nil_append] at hoO
 have hs04 : w.heap.size ≤ w4.heap.size := Nat.le_trans hw3.size hs4
 have hw6 := he6.after (fun j hj => by rw [← Option.some.inj hj]; exact hs04) hw5
 have hL5 := e5.owns hoL
 have hltL : ∀ k,(Value.slice AL t.locals.length cL).ownBlock = some k → k < w4.heap.size := fun k hk => by have := (hoL.lt k hk).2; omega
 have hL6 : w6.ownsRow w1.heap.size 55 1 (.slice AL t.locals.length cL) t.locals.length (u64s t.locals) := he6.owns hL5 fun k hk hk' => by have h1 := hltL k hk; have h2 : w4.heap.size = k := Option.some.inj hk'; omega
 obtain ⟨AO,cO,hvO⟩ := owns_slice0 hoO
 subst hvO
 refine ⟨AO,_,cO,rfl, ?_⟩
 refine expo_alloc hw6.size fun w7 w8 hs7 e8 hlt8 ho8 => ?_
 have hw8 := e8.after hw6
 have hs07 : w.heap.size ≤ w7.heap.size := Nat.le_trans hw6.size hs7
 refine append_anyR (t := 97) (e := 149) (i := Tryz.t149) (z := .agg ⟨[.int .i64 0,.slice none 0 0]⟩) (size := 2) (bytes := 32) (b0 := w7.heap.size) (n := 0) (xs := []) (by kernel_rfl) (by kernel_rfl) (by kernel_rfl) (by kernel_rfl) hb112 rfl (by omega) (owns_empty ho8 (Nat.le_refl _)) (news := flatC dfC t.dfs da) (flatC_len dfC_len hdl) hn.1 (fun j u hj => by obtain ⟨a,ha,hc⟩ := hsrc j u hj; exact ⟨a,ha,below_keeps hw8 _ _ hc⟩) dfC_one (by simp only [maxLen]; omega) (by omega) hw8.size (Nat.le_of_lt hlt8) fun vD w9 he9 hoD hnD => ?_
 rw [Nat.zero_add,List.nil_append] at hoD
 have hw9 := he9.after (fun j hj => by rw [← Option.some.inj hj]; exact hs07) hw8
 obtain ⟨AD,cD,hvD⟩ := owns_slice0 hoD
 subst hvD
 refine ⟨AD,_,cD,rfl, ?_⟩
 have hltO : ∀ k,(Value.slice AO t.ops.length cO).ownBlock = some k → k < w7.heap.size := fun k hk => by have := (hoO.lt k hk).2; omega
 have hL9 := he9.owns (e8.owns hL6) fun k hk hk' => by have h1 := hltL k hk; have h2 : w7.heap.size = k := Option.some.inj hk'; have := he6.size; have := e5.size; omega
 have hO9 := he9.owns (e8.owns hoO) fun k hk hk' => by have h1 := hltO k hk; have h2 : w7.heap.size = k := Option.some.inj hk'; omega
 refine ret_q hw9 fun w10 e10 => ⟨_,_,_,rfl,owns_down (e10.owns hoD) hs07,hdl,owns_down (e10.owns hL9) hs1,owns_down (e10.owns hO9) hs04,fun k hk hk' => ?_⟩
 have := hltL k hk
 have := (hoO.lt k hk').1
 omega
theorem call_copied {w0 w : World} {bs : List Nat} {t : Frm} {s : Sls} {K : Value → World → Prop} (hB : w0.heap.size ≤ w.heap.size) (hx : SmallFR t) (hf : FrmAt w t s) (hn : NilOk s) {da : List (Option Addr × Nat)} (hdl : da.length = t.dfs.length) (hsrc : ∀ j u,(flatC dfC t.dfs da)[j]? = some u → ∃ a,s.D = some a ∧ w.cell? (a.add j) = some u)
   (hk : ∀ AD cD AL cL AO cO w',Ext w0.heap.size w w' → OwnF w' w.heap.size t (.slice AD t.dfs.length cD) (.slice AL t.locals.length cL) (.slice AO t.ops.length cO) da → K (.agg ⟨[.int .i64 t.f,.int .i64 t.pc,.int .i64 t.mode,.bool t.dfd,.int .u64 t.value,.slice AD t.dfs.length cD,.slice AL t.locals.length cL,.slice AO t.ops.length cO]⟩) w') :
   CallK Tryz.prog 130 [frmV t s] w0.heap.size w bs K := by
 refine call_yieldsX (Q := fun w1 => CopQ t da w1) hB (fun w1 e1 => yields130 hx (hf.keep (ext_keeps e1)) hn hdl fun j u hj => by obtain ⟨a,ha,hc⟩ := hsrc j u hj; exact ⟨a,ha,e1.cell hc⟩) fun w1 v w2 w' hs hQ hnew he => ?_
 obtain ⟨vD,vL,vO,rfl,ho⟩ := hQ
 obtain ⟨AD,cD,rfl⟩ := owns_slice0 ho.D
 obtain ⟨AL,cL,rfl⟩ := owns_slice0 ho.L
 obtain ⟨AO,cO,rfl⟩ := owns_slice0 ho.O
 refine hk AD cD AL cL AO cO w' he ((ho.same fun k hk => hnew k ?_).down hs)
 rcases hk with hk | hk | hk
 · exact (ho.D.lt k hk).1
 · exact (ho.L.lt k hk).1
 · exact (ho.O.lt k hk).1
theorem gives137 {w : World} {op : Int} {a b : Nat} (ha : a < 2 * SW) (hb : b < 2 * SW) (hop : op = 5 ∨ op = 6 ∨ op = 7 ∨ op = 8 ∨ op = 11 ∨ op = 12 ∨ op = 13 ∨ op = 14) : Gives Tryz.prog 137 [.int .i64 op,.int .u64 (a : Int),.int .u64 (b : Int)] w (.int .u64 (twoN op a b : Nat)) := by
 refine gives_of (V137.sound ?_)
 unfold V137.vc
 have b0 : ∀ (x : Bool) (w1 : World),Below w.heap.size w w1 → V137.b0 w.heap.size (IsV w (.int .u64 (bW x : Nat))) x w1 := fun x w1 h1 => by
   unfold V137.b0
   cases x with
   | true => rw [if_pos rfl]; exact call_gives h1 (fun _ _ _ => gives131 1) fun w2 _ h2 => ⟨_,rfl,ret_is h2 rfl⟩
   | false => rw [if_neg (by simp)]; exact call_gives h1 (fun _ _ _ => gives131 0) fun w2 _ h2 => ⟨_,rfl,ret_is h2 rfl⟩
 rcases hop with rfl | rfl | rfl | rfl | rfl | rfl | rfl | rfl
 · rw [if_pos (by decide)]
   exact call_gives (Below.refl _ _) (fun _ _ _ => gives165 a b) fun w2 _ h2 => ⟨_,rfl,ret_is h2 rfl⟩
 · rw [if_neg (by decide),if_pos (by decide)]
   exact call_gives (Below.refl _ _) (fun _ _ _ => gives166 a b) fun w2 _ h2 => ⟨_,rfl,ret_is h2 rfl⟩
 · rw [if_neg (by decide),if_neg (by decide),if_pos (by decide)]
   exact call_gives (Below.refl _ _) (fun _ _ _ => gives167 a b) fun w2 _ h2 => ⟨_,rfl,ret_is h2 rfl⟩
 · rw [if_neg (by decide),if_neg (by decide),if_neg (by decide),if_pos (by decide)]
   exact call_gives (Below.refl _ _) (fun _ _ _ => gives168 a b) fun w2 _ h2 => ⟨_,rfl,ret_is h2 rfl⟩
 · rw [if_neg (by decide),if_neg (by decide),if_neg (by decide),if_neg (by decide),if_pos (by decide)]
   exact call_gives (Below.refl _ _) (fun _ _ _ => gives169 ha hb) fun w2 _ h2 => ⟨_,rfl,ret_is h2 rfl⟩
 · rw [if_neg (by decide),if_neg (by decide),if_neg (by decide),if_neg (by decide),if_neg (by decide),if_pos (by decide)]
   exact call_gives (Below.refl _ _) (fun _ _ _ => gives170 ha hb) fun w2 _ h2 => ⟨_,rfl,ret_is h2 rfl⟩
 · rw [if_neg (by decide),if_neg (by decide),if_neg (by decide),if_neg (by decide),if_neg (by decide),if_neg (by decide),if_pos (by decide)]
   exact call_gives (Below.refl _ _) (fun _ _ _ => gives171 a b) fun w2 _ h2 => ⟨_,rfl,b0 _ _ h2⟩
 · rw [if_neg (by decide),if_neg (by decide),if_neg (by decide),if_neg (by decide),if_neg (by decide),if_neg (by decide),if_neg (by decide),if_pos (by decide)]
   exact call_gives (Below.refl _ _) (fun _ _ _ => gives172 a b) fun w2 _ h2 => ⟨_,rfl,b0 _ _ h2⟩
end Go.Proofs.YtidcpndlloppdaaGreat

/-
 Layers 21,29: the document's machine: an instruction's end: the frame put back,a call made.
 Conditions: none.
-/
set_option linter.unusedVariables false
set_option linter.unusedSimpArgs false
set_option maxRecDepth 20000
namespace Go.Proofs.YtidcpndlloppdaaGreat
open Go.RowKit
theorem put90 {w : World} {b n G cap : Nat} {xs : List Value} (ho : w.ownsRow b 99 8 (.slice (some ⟨G,0,none⟩) n cap) n xs) {i : Nat} (hi : i < n * 8) (u : Value) :
   (∃ v,w.cell? ⟨G,i,none⟩ = some v) ∧ w.frozen? ⟨G,i,none⟩ = false ∧ Chg1 (some G) 99 w (w.setCell ⟨G,i,none⟩ u) ∧ (w.setCell ⟨G,i,none⟩ u).ownsRow b 99 8 (.slice (some ⟨G,0,none⟩) n cap) n (xs.set i u) := by
 have hl := ho.1
 have hx : xs[i]? = some (xs[i]'(by omega)) := List.getElem?_eq_getElem _
 obtain ⟨_,c,f,hh⟩ := owns_ty ho (k := G) rfl
 exact ⟨⟨_,owns_cell ho hx⟩,owns_frozen ho i,chg1_set hh,owns_set ho i u hi⟩
theorem Chg1.trans {b : Option Nat} {t : TypeId} {a c d : World} (h : Chg1 b t a c) (k : Chg1 b t c d) : Chg1 b t a d := ⟨fun i x e f hb hi => k.row i x e f hb (h.row i x e f hb hi),h.typ⟩
structure RunS (w0 w : World) (B g : Nat) (P : Option Addr) (pc np : Nat) (m1 : Mach) (vF : Value) (T T1 : Value) (Z : Nat → Prop) (qs qs1 : List (Frm × Sls)) (t : Frm) (s : Sls) (da : List (Option Addr × Nat)) (l : List Int) (AG : Option Addr) (cG : Nat) : Prop where
 chg : Chg (MutR g T) w0 w
 head : w.heap[g]? = some (.cells ⟨headR (.slice P np pc) vF T1 m1⟩ 85 (0,0))
 tr : OwnMs w B T1 m1.trace
 trn : ∀ k,T1.ownBlock = some k → T.ownBlock = some k ∨ w0.heap.size ≤ k
 own : OwnF w w0.heap.size t (.slice s.D t.dfs.length s.dc) (.slice s.L t.locals.length s.lc) (.slice s.O t.ops.length s.oc) da
 got : w.ownsRow w0.heap.size 55 1 (.slice AG l.length cG) l.length (u64s l)
 each : ∀ q ∈ qs1,∃ q0 ∈ qs,q.2 = q0.2 ∧ q.1.dfs = q0.1.dfs ∧ q.1.locals = q0.1.locals ∧ q.1.ops = q0.1.ops
 der : ∀ (i : Nat) (d : Dfr) (e : Option Addr × Nat),t.dfs[i]? = some d → da[i]? = some e → Nums .u64 (onlyW Z w0) e.1 d.args.length d.args ∨ (d.args = l ∧ e = (AG,cG))
 neL : ∀ k,(Value.slice s.L t.locals.length s.lc).ownBlock = some k → (Value.slice AG l.length cG).ownBlock ≠ some k
 neO : ∀ k,(Value.slice s.O t.ops.length s.oc).ownBlock = some k → (Value.slice AG l.length cG).ownBlock ≠ some k
section
variable {w0 w w' : World} {B g : Nat} {P : Option Addr} {pc : Nat} {p : List Fnc} {m m1 : Mach} {A : Option Addr} {c : Nat} {T T1 : Value} {qs qs1 : List (Frm × Sls)} {Z : Nat → Prop} {np : Nat} {vF : Value} {t : Frm} {s : Sls} {da : List (Option Addr × Nat)} {l : List Int} {AG : Option Addr} {cG : Nat}
theorem RunS.chg1 (h : RunS w0 w B g P pc np m1 vF T T1 Z qs qs1 t s da l AG cG) {b : Option Nat} {ty : TypeId} (h1 : Chg1 b ty w w') (hc : Chg (MutR g T) w0 w') (e1 : (85 : TypeId) ≠ ty) (e2 : (57 : TypeId) ≠ ty) (e3 : (149 : TypeId) ≠ ty) (e4 : (55 : TypeId) ≠ ty) : RunS w0 w' B g P pc np m1 vF T T1 Z qs qs1 t s da l AG cG :=
 ⟨hc,h1.row _ _ _ _ (fun e => by obtain ⟨c,f,hh⟩ := h1.typ g e; rw [h.head] at hh; cases hh; exact e1 rfl) h.head,h1.ownT h.tr e2,h.trn,⟨h1.ownT h.own.D e3,h.own.dl,h1.ownT h.own.L e4,h1.ownT h.own.O e4,h.own.ne⟩,h1.ownT h.got e4,h.each,h.der,h.neL,h.neO⟩
theorem RunS.ext (h : RunS w0 w B g P pc np m1 vF T T1 Z qs qs1 t s da l AG cG) (he : Ext w0.heap.size w w') : RunS w0 w' B g P pc np m1 vF T T1 Z qs qs1 t s da l AG cG :=
 ⟨ext_chg h.chg he,he.row _ _ _ _ h.head,he.owns h.tr,h.trn,h.own.ext he,he.owns h.got,h.each,h.der,h.neL,h.neO⟩
theorem set_at {X ys : List Value} {n j : Nat} (hX : X.length = n) (v : Value) : (X ++ ys).set (n + j) v = X ++ ys.set j v := by
 rw [List.set_append_right _ _ (by omega),hX,show n + j - n = j by omega]
theorem RunS.fin (hs : RunS w0 w B g P pc p.length m1 vF T T1 Z qs qs1 t s da l AG cG) (h : RefAt w0 B g P pc p m A c T qs Z) (hsm : SmallFR t) (hl : l.length ≤ 1000) {qs2 : List (Frm × Sls)} (hq2 : ∀ q ∈ qs2,q ∈ qs1)
   (ho : w.ownsRow w0.heap.size 99 8 vF (qs2.length + 1) (frsC (qs2 ++ [(t,s)]))) {m' : Mach} {r1 : List Frm} (hm' : m' = { m1 with frames := t :: r1 }) (hr1 : qs2.map Prod.fst = r1.reverse) :
   ∃ A' c' Z',RefAt w B g P pc p m' A' c' T1 (qs2 ++ [(t,s)]) Z' ∧ ∀ k,Z' k → Z k ∨ w0.heap.size ≤ k := by
 subst hm'
 have zown : ∀ {e : TypeId} {sz : Nat} {v : Value} {n : Nat} {xs : List Value},w.ownsRow w0.heap.size e sz v n xs → e ≠ 57 → e ≠ 85 → (onlyW (Z1 w0 w g T1 Z) w).ownsRow w0.heap.size e sz v n xs := fun ho h1 h2 => only_owns ho fun k hk => in_z1 ho (Nat.le_refl _) h1 h2 hs.head hs.tr hk
 obtain ⟨s1,s2,s3,s4⟩ := hsm
 have gotN : Nums .u64 (onlyW (Z1 w0 w g T1 Z) w) AG l.length l := by
   obtain ⟨A',c',hv,hn,_⟩ := num_own (zown hs.got (by decide) (by decide)) hl
   cases hv; exact hn
 have hD := zown hs.own.D (by decide) (by decide)
 have hL := zown hs.own.L (by decide) (by decide)
 have hO := zown hs.own.O (by decide) (by decide)
 obtain ⟨AD,cD,hv1,hnD,_,_,nD⟩ := dfr_own hD hs.own.dl (fun i d e hd he => by
   rcases hs.der i d e hd he with h1 | ⟨h1,h2⟩
   · exact RowAt.keep (NumE.kept _) h1 (h.keepZ hs.chg)
   · rw [h1,h2]; exact gotN) s3
 obtain ⟨AL,cL,hv2,hnL,_,_,nL⟩ := num_own hL s1
 obtain ⟨AO,cO,hv3,hnO,_,_,nO⟩ := num_own hO s2
 cases hv1; cases hv2; cases hv3
 obtain ⟨A',c',hR,hZ⟩ := h.fin (T' := T1) (m' := { m1 with frames := t :: r1 }) (qs' := qs2 ++ [(t,s)]) hs.chg hs.head hs.tr hs.trn ho (fun q hq => by
   rcases List.mem_append.1 hq with hq | hq
   · obtain ⟨q0,hq0,e1,e2,e3,e4⟩ := hs.each q (hq2 q hq)
     have h0 := h.oldF (T' := T1) hs.chg q0 hq0
     rw [e1]
     exact ⟨by rw [e2]; exact h0.dfs,by rw [e3]; exact h0.locals,by rw [e4]; exact h0.ops⟩
   · rw [List.mem_singleton] at hq; subst hq; exact ⟨hnD,hnL,hnO⟩) (fun q hq => by
   rcases List.mem_append.1 hq with hq | hq
   · obtain ⟨q0,hq0,e1,_⟩ := hs.each q (hq2 q hq)
     rw [e1]; exact h.side.2.nil q0 hq0
   · rw [List.mem_singleton] at hq; subst hq; exact ⟨nD,nL,nO⟩) (by
   rw [List.map_append,hr1]; show r1.reverse ++ [t] = (t :: r1).reverse; rw [List.reverse_cons])
 exact ⟨A',c',_,hR,hZ⟩
theorem b1_88 (h : RefAt w0 B g P pc p m A c T qs Z) (hr : Rt p) (hcap : qs.length ≤ 100000) {G cap k : Nat} {qs2 : List (Frm × Sls)} {q0 : Frm × Sls} (hs : RunS w0 w B g P pc p.length m1 (.slice (some ⟨G,0,none⟩) (k + 1) cap) T T1 Z qs (qs2 ++ [q0]) t s da l AG cG)
   (hrow : w.ownsRow w0.heap.size 99 8 (.slice (some ⟨G,0,none⟩) (k + 1) cap) (k + 1) (frsC (qs2 ++ [q0]))) (hk2 : qs2.length = k) (hk : k + 1 = qs.length) (hsm : SmallFR t) (hl : l.length ≤ 1000)
   {call : Bool} {a : Int} {fn : Fnc} (hcall : call = true → fnAt p a = some fn ∧ (l.length : Int) ≤ fn.locals) {m' : Mach} {r1 : List Frm} (hm' : m' = if call = true then enterM p { m1 with frames := t :: r1 } a l false else { m1 with frames := t :: r1 }) (hr1 : qs2.map Prod.fst = r1.reverse) {i1 i2 : Nat} {op b : Int} :
   V88.b1 w0.heap.size (IsT w0 (MutR g T) fun u w' => u = .tuple ⟨[]⟩ ∧ RefQ w0 B g P pc p T Z m' w') ⟨g,0,none⟩ (k : Int) AG l.length cG call i1 op a b i2 t.f t.pc t.mode t.dfd t.value s.D t.dfs.length s.dc s.L t.locals.length s.lc s.O t.ops.length s.oc w := by
 unfold V88.b1
 simp only [Int.toNat_natCast,own_add]
 refine ⟨_,_,_,at_cell (i := 6) hs.head rfl,_,rfl,by omega,by omega, ?_⟩
 simp only [own_add,bx_add,Nat.zero_add]
 have hX : (frsC qs2).length = k * 8 := by rw [frsC_len,hk2]
 rw [frsC_app,show frsC [q0] = frU q0 from List.append_nil _] at hrow
 have hG0 : w0.heap.size ≤ G := (hrow.lt G rfl).1
 have cs : ∀ {w1 : World} (i : Nat) (v : Value),Chg (MutR g T) w0 w1 → Chg (MutR g T) w0 (w1.setCell ⟨G,i,none⟩ v) := fun i v hc => Chg.setCell (a := ⟨G,i,none⟩) hc v fun hlt => absurd hlt (by show ¬ G < _; omega)
 obtain ⟨c1,f1,k1,o1⟩ := put90 hrow (i := k * 8 + 0) (by omega) (.int .i64 t.f)
 rw [set_at hX] at o1
 refine ⟨c1,f1, ?_⟩
 obtain ⟨c2,f2,k2,o2⟩ := put90 o1 (i := k * 8 + 1) (by omega) (.int .i64 t.pc)
 rw [set_at hX] at o2
 refine ⟨c2,f2, ?_⟩
 obtain ⟨c3,f3,k3,o3⟩ := put90 o2 (i := k * 8 + 2) (by omega) (.int .i64 t.mode)
 rw [set_at hX] at o3
 refine ⟨c3,f3, ?_⟩
 obtain ⟨c4,f4,k4,o4⟩ := put90 o3 (i := k * 8 + 3) (by omega) (.bool t.dfd)
 rw [set_at hX] at o4
 refine ⟨c4,f4, ?_⟩
 obtain ⟨c5,f5,k5,o5⟩ := put90 o4 (i := k * 8 + 4) (by omega) (.int .u64 t.value)
 rw [set_at hX] at o5
 refine ⟨c5,f5, ?_⟩
 obtain ⟨c6,f6,k6,o6⟩ := put90 o5 (i := k * 8 + 5) (by omega) (.slice s.D t.dfs.length s.dc)
 rw [set_at hX] at o6
 refine ⟨c6,f6, ?_⟩
 obtain ⟨c7,f7,k7,o7⟩ := put90 o6 (i := k * 8 + 6) (by omega) (.slice s.L t.locals.length s.lc)
 rw [set_at hX] at o7
 refine ⟨c7,f7, ?_⟩
 obtain ⟨c8,f8,k8,o8⟩ := put90 o7 (i := k * 8 + 7) (by omega) (.slice s.O t.ops.length s.oc)
 rw [set_at hX] at o8
 refine ⟨c8,f8, ?_⟩
 have hs8 := hs.chg1 (((((((k1.trans k2).trans k3).trans k4).trans k5).trans k6).trans k7).trans k8) (cs _ _ (cs _ _ (cs _ _ (cs _ _ (cs _ _ (cs _ _ (cs _ _ (cs _ _ hs.chg)))))))) (by decide) (by decide) (by decide) (by decide)
 have o9 : (((((((((w.setCell ⟨G,k * 8 + 0,none⟩ (.int .i64 t.f)).setCell ⟨G,k * 8 + 1,none⟩ (.int .i64 t.pc)).setCell ⟨G,k * 8 + 2,none⟩ (.int .i64 t.mode)).setCell ⟨G,k * 8 + 3,none⟩ (.bool t.dfd)).setCell ⟨G,k * 8 + 4,none⟩ (.int .u64 t.value)).setCell ⟨G,k * 8 + 5,none⟩ (.slice s.D t.dfs.length s.dc)).setCell ⟨G,k * 8 + 6,none⟩ (.slice s.L t.locals.length s.lc)).setCell ⟨G,k * 8 + 7,none⟩ (.slice s.O t.ops.length s.oc))).ownsRow w0.heap.size 99 8 (.slice (some ⟨G,0,none⟩) (k + 1) cap) (k + 1) (frsC (qs2 ++ [(t,s)])) := by
   rw [frsC_app]; exact o8
 generalize ((((((((w.setCell ⟨G,k * 8 + 0,none⟩ (.int .i64 t.f)).setCell ⟨G,k * 8 + 1,none⟩ (.int .i64 t.pc)).setCell ⟨G,k * 8 + 2,none⟩ (.int .i64 t.mode)).setCell ⟨G,k * 8 + 3,none⟩ (.bool t.dfd)).setCell ⟨G,k * 8 + 4,none⟩ (.int .u64 t.value)).setCell ⟨G,k * 8 + 5,none⟩ (.slice s.D t.dfs.length s.dc)).setCell ⟨G,k * 8 + 6,none⟩ (.slice s.L t.locals.length s.lc)).setCell ⟨G,k * 8 + 7,none⟩ (.slice s.O t.ops.length s.oc)) = z at *
 obtain ⟨A',c',Z',hR,hZ⟩ := hs8.fin h hsm hl (qs2 := qs2) (fun q hq => List.mem_append_left _ hq) (by rw [hk2]; exact o9) rfl hr1
 cases hcl : call with
 | false =>
   rw [if_neg (by simp)]
   rw [hcl,if_neg (by simp)] at hm'
   subst hm'
   exact ref_ret hs8.chg hR hs8.trn hZ
 | true =>
   rw [if_pos rfl]
   rw [hcl,if_pos rfl] at hm'
   subst hm'
   obtain ⟨hfn,hpar⟩ := hcall hcl
   have hgN : Nums .u64 z AG l.length l := by
     obtain ⟨A2,c2,hv,hn,_⟩ := num_own hs8.got hl
     cases hv; exact hn
   refine call_ref hs8.chg.size hR (fun w1 e1 h1 => turns87 hr h1 (by show (t :: r1).length ≤ _; have hl1 := congrArg List.length hr1; rw [List.length_map,List.length_reverse] at hl1; rw [List.length_cons]; omega) hfn (RowAt.keep (NumE.kept _) hgN (ext_keeps e1)) hpar false) fun w' A2 c2 T2 q2 Z2 h2 he hT hZ2 => ⟨rfl, ?_⟩
   refine ref_ret (he.chg hs8.chg fun k hk hm => ?_) h2 (fun k hk => ?_) fun k hk => ?_
   · rcases hm with hm | hm
     · exact .inl hm
     · exact (hs8.trn k hm).elim .inr fun h => by omega
   · rcases hT k hk with h3 | h3
     · exact hs8.trn k h3
     · exact .inr (Nat.le_trans hs8.chg.size h3)
   · rcases hZ2 k hk with h3 | h3
     · exact hZ k h3
     · exact .inr (Nat.le_trans hs8.chg.size h3)
end
end Go.Proofs.YtidcpndlloppdaaGreat
