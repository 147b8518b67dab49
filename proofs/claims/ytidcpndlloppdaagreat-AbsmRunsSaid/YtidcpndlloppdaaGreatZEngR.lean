import Derived.Test.YtidcpndlloppdaaGreatZM21o
import Derived.Test.YtidcpndlloppdaaGreatZMC
import Derived.Test.YtidcpndlloppdaaGreatZEngD
import Derived.OrdersIn
import Derived.RangeFuncFrom
import Derived.RangeFuncBox
import Derived.RangeFuncCalls
/-
 Layer 21: AbsmParks's function returns true.
 Conditions: the arguments' memory says what their values are.
-/
set_option linter.unusedVariables false
set_option linter.unusedSimpArgs false
set_option maxRecDepth 20000
namespace Go.Proofs.YtidcpndlloppdaaGreat
open Go.RowKit
theorem smallF_of {p : List Fnc} (hr : Rt p) {x : Frm} (h : FrOk p x) : SmallF x := by
 obtain ⟨g,hx⟩ := h.inn
 have hs := sized_bd (hx.wrap hr).2
 have h8 := hx.ops
 have hl := hx.locals
 have hd4 : x.dfs.length ≤ 4 := by have := hx.room; unfold roomM at this; split at this <;> omega
 refine ⟨by omega,by omega,by omega,fun d hd => ?_⟩
 have := hx.dfs d hd
 unfold dfrM at this
 split at this
 · rename_i fd hfd
   have hb := sized_bd (hr.sized fd (fnAt_mem hfd).1)
   have : (d.args.length : Int) = fd.params := by simpa using this
   omega
 · cases this
section
variable {w0 w : World} {p : List Fnc} {g g' : Nat} {m m' : Mach}
end
section
variable {p : List Fnc} {fn : Fnc} (hr : Rt p) (hf : fnAt p 0 = some fn) (h0 : fn.params = 0)
include hr hf h0
end
end Go.Proofs.YtidcpndlloppdaaGreat

/-
 Layer 21: AbsmFits's function returns true.
 Conditions: the arguments' memory says what their values are.
-/
set_option linter.unusedVariables false
set_option linter.unusedSimpArgs false
set_option maxRecDepth 20000
namespace Go.Proofs.YtidcpndlloppdaaGreat
open Go.RowKit
def FrE (w : World) (a : Addr) (x : Frm) : Prop := ∃ s : Sls,w.cell? (a.add 0) = some (.int .i64 x.f) ∧ w.cell? (a.add 1) = some (.int .i64 x.pc) ∧ w.cell? (a.add 2) = some (.int .i64 x.mode) ∧ w.cell? (a.add 3) = some (.bool x.dfd) ∧ w.cell? (a.add 4) = some (.int .u64 x.value) ∧
 w.cell? (a.add 5) = some (.slice s.D x.dfs.length s.dc) ∧ w.cell? (a.add 6) = some (.slice s.L x.locals.length s.lc) ∧ w.cell? (a.add 7) = some (.slice s.O x.ops.length s.oc) ∧ FrmAt w x s
theorem FrE.kept : Kept1 FrE := fun _ _ _ _ hw h => by
 obtain ⟨s,h0,h1,h2,h3,h4,h5,h6,h7,h8⟩ := h
 exact ⟨s,hw _ _ h0,hw _ _ h1,hw _ _ h2,hw _ _ h3,hw _ _ h4,hw _ _ h5,hw _ _ h6,hw _ _ h7,h8.keep hw⟩
theorem frmAt_of {w : World} {B : Nat} {x : Frm} {s : Sl} (h : FrmM w B x s) (hx : SmallF x) {D L O : Option Addr} {dc lc oc : Nat} (hs : SlIs s x D L O dc lc oc) : FrmAt w x ⟨D,dc,L,lc,O,oc⟩ := by
 obtain ⟨h1,h2,h3,h4⟩ := hx
 have hD := h.D
 have hL := h.L
 have hO := h.O
 rw [hs.D] at hD
 rw [hs.L] at hL
 rw [hs.O] at hO
 refine ⟨⟨rfl,by simp only [maxLen]; omega,fun i d hd => ?_⟩,ownsU_nums hL (by omega),ownsU_nums hO (by omega)⟩
 have hi := (List.getElem?_eq_some_iff.1 hd).1
 obtain ⟨gd,cd,hv,_,_⟩ := owns_some hD (by omega)
 cases hv
 obtain ⟨a,ha,hao⟩ := h.args.get hd
 obtain ⟨k1,k2⟩ := dfrsC_get hd ha
 obtain ⟨A,ac,hav⟩ := owns_slice0 hao
 subst hav
 refine ⟨_,rfl, ?_,A,ac, ?_,ownsU_nums hao (by have := h4 d (List.mem_of_getElem? hd); omega)⟩
 · simp only [own_add,bx_add,Nat.add_zero,Nat.zero_add]; exact owns_cell hD k1
 · simp only [own_add,bx_add,Nat.zero_add]; exact owns_cell hD k2
theorem frames_row {w : World} {B : Nat} {A : Option Addr} {cap : Nat} {fs : List Frm} {ss : List Sl} (ho : w.ownsRow B 99 8 (.slice A fs.length cap) fs.length (stackC fs ss)) (hfs : FrmsM w B fs ss) (hsm : ∀ x ∈ fs,SmallF x) (hn : fs.length ≤ 100000) : RowAt FrE 8 w A fs.length fs.reverse := by
 refine ⟨by simp,by simp only [maxLen]; omega,fun i x hx => ?_⟩
 have hi := (List.getElem?_eq_some_iff.1 hx).1
 rw [List.length_reverse] at hi
 rw [List.getElem?_reverse hi] at hx
 have hsplit : fs = fs.take (fs.length - 1 - i) ++ x :: fs.drop (fs.length - i) := by
   have : fs.drop (fs.length - 1 - i) = x :: fs.drop (fs.length - i) := by rw [drop_at hx,show fs.length - 1 - i + 1 = fs.length - i by omega]
   rw [← this,List.take_append_drop]
 have hbl : (fs.drop (fs.length - i)).length = i := by rw [List.length_drop]; omega
 have hxs := hsm x (List.mem_of_getElem? hx)
 have hsl := hfs.len
 generalize fs.drop (fs.length - i) = b at *
 generalize fs.take (fs.length - 1 - i) = a at *
 have hF := hfs
 rw [hsplit] at hsl hF
 obtain ⟨s,hs1,hs2⟩ := stackC_at (x := x) (b := b) (a := a) hsl
 have hfx := hs2 _ _ hF
 obtain ⟨D,L,O,dc,lc,oc,hs⟩ := hfx.sl
 obtain ⟨G,cap',hv,_,_⟩ := owns_some ho (by omega)
 cases hv
 have cell : ∀ {j v},(frmC x s)[j]? = some v → w.cell? (((⟨G,0,none⟩ : Addr).add (i * 8)).add j) = some v := fun {j v} hv => by
   simp only [own_add,bx_add,Nat.zero_add]
   have := hs1 j v hv
   rw [← hsplit,hbl] at this
   exact owns_cell ho this
 exact ⟨_,rfl,⟨D,dc,L,lc,O,oc⟩,cell rfl,cell rfl,cell rfl,cell rfl,cell rfl,cell (by show some s.D = _; rw [hs.D]),cell (by show some s.L = _; rw [hs.L]),cell (by show some s.O = _; rw [hs.O]),frmAt_of hfx hxs hs⟩
section
variable {w0 w w' : World} {p : List Fnc} {P : Option Addr} {g : Nat} {m m' : Mach} {C : Option Addr} {c : Nat} {F T : Value} {ss : List Sl}
end
theorem need_some {p : List Fnc} {m : Mach} {f : Int} (h : callM p m = some f) : needM p m = sizeF' (fnD p f) := by unfold needM; rw [h]
theorem need_none {p : List Fnc} {m : Mach} (h : callM p m = none) : needM p m = 0 := by unfold needM; rw [h]
section
variable {p : List Fnc} {fn : Fnc} (hr : Rt p) (hf : fnAt p 0 = some fn) (h0 : fn.params = 0)
include hr hf h0
end
end Go.Proofs.YtidcpndlloppdaaGreat

/-
 The engine within a round of a loop over a function: the same conditions,walked in a round's frame.
 Conditions: none.
-/
set_option linter.unusedVariables false
set_option linter.unusedSimpArgs false
namespace Go.Proofs.YtidcpndlloppdaaGreat
open Go.RowKit
def opIn (o : Oper) : Bool :=
 match o.op with
 | .defer _ => false
 | _ => true
def codeIn : Code → Bool
 | .region _ ops _ => ops.toList.all opIn
 | .seq x y => codeIn x && codeIn y
 | .cond _ x y => codeIn x && codeIn y
 | .block _ x => codeIn x
 | .loop x => codeIn x
 | .scope _ => false
 | .rangeFunc _ _ _ _ => false
 | _ => true
theorem and_l {a b : Bool} (h : (a && b) = true) : a = true := (Bool.and_eq_true_iff.1 h).1
theorem and_r {a b : Bool} (h : (a && b) = true) : b = true := (Bool.and_eq_true_iff.1 h).2
theorem codeIn_region {id : Nat} {ops : Array Oper} {d : Bool} (h : codeIn (.region id ops d) = true) : ∀ (i : Nat) (o : Oper),ops[i]? = some o → opIn o = true := by
 intro i o ho
 have h : ops.toList.all opIn = true := h
 refine List.all_eq_true.1 h o ?_
 obtain ⟨hi,he⟩ := Array.getElem?_eq_some_iff.1 ho
 rw [← he]
 exact Array.mem_toList_iff.2 (Array.getElem_mem hi)
theorem letsOut_lift {n : Fr} {Q : Post} : ¬ LetsOut (lift n Q) := fun h => by
 obtain ⟨a,w,h⟩ := h
 exact h
theorem oper_in {P : Program} {o : Oper} {a : Act} {W : World} {ln n0 : Nat} {next next' : Act → World → Prop} {Q : Exit → Act → World → Prop} (hd : opIn o = true) (hQ : ¬ LetsOut Q)
   (hn : ∀ a w,next a w → next' a w) (h : o.wp P a W next Q) : o.wpIn (Fence.wide.inRound ln) n0 P a W next' Q := by
 have hd' : ∀ c,o.op ≠ .defer c := fun c hc => by
   simp only [opIn,hc] at hd
   cases hd
 refine ⟨fun _ _ => trivial, ?_⟩
 rw [Oper.semAt_eq _ _ _ hd']
 unfold Oper.wp at h
 generalize (execOp a.eval o).run P W = r at h ⊢
 cases r with
 | ok x w' =>
   cases x <;> simp only [Oper.upon,Oper.uponIn] at h ⊢
   all_goals first
     | exact hn _ _ h
     | exact ⟨fun hh => (by cases hh),CallsIn.mono (CallsIn.inRound ln (callsIn_wide.2 h)) (fun e w'' he => by cases e <;> first | exact hn _ _ he | exact he)⟩
     | exact ⟨fun hh => (by cases hh),fun c cs _ => by
         obtain ⟨v,w1,hv,hs⟩ := h c cs
         exact ⟨v,w1,hn _ _ hv,stepsIn_wide.2 hs⟩⟩
     | exact h.elim
 | halt x w' => cases x <;> simp only [Oper.upon,Oper.uponIn] at h ⊢ <;> first | exact h | exact h.elim
theorem ops_in {P : Program} {ops : Array Oper} {Q : Exit → Act → World → Prop} {ln n0 : Nat} (hd : ∀ (i : Nat) (o : Oper),ops[i]? = some o → opIn o = true) (hQ : ¬ LetsOut Q) :
   ∀ {l : List Nat} {a : Act} {W : World},wpOps P ops Q l a W → wpOpsIn (Fence.wide.inRound ln) n0 P ops Q l a W
 | [],a,W,h => h
 | i :: r,a,W,h => by
   unfold wpOps at h
   unfold wpOpsIn
   cases ho : ops[i]? with
   | none =>
     rw [ho] at h
     exact ops_in hd hQ h
   | some o =>
     rw [ho] at h
     simp only at h ⊢
     split at h
     · rename_i hw
       rw [if_pos hw]
       rcases h with h | ⟨_,h⟩
       · exact oper_in (hd i o ho) hQ (fun a w h => ops_in hd hQ h) h
       · exact absurd h hQ
     · rename_i hw
       rw [if_neg hw]
       exact ⟨fun _ _ => trivial,ops_in hd hQ h⟩
theorem text_ops {c : Cfg} (hc : CfgOk c) {ops : Array Oper} {Q : Exit → Act → World → Prop} {K : Kont} (hn : ∀ e b w a' W',K e b w → Rep c.n e b w a' W' → Q .normal a' W')
   {e : Env} {b : Bxs} {w W : World} {a : Act} (hR : Rep c.n e b w a W) (h : opsK c ops ops.toList e b w K) : wpOps c.P ops Q (List.range ops.size) a W := by
 have := opsK_ops hc hn ops.toList 0 e b w W a (by simp) hR h
 rw [List.range_eq_range']
 simpa using this
theorem draw_ops {c : Cfg} (hc : CfgOk c) (hmix : c.P.follows .mixedOrders = true) {ops : Array Oper} {L : List (List Nat)} (hL : regionB c ops L = true) {Q : Exit → Act → World → Prop} (hQ : ∀ c a w,¬ Q (.panic c) a w) {K : Kont}
   (hn : ∀ e b w a' W',K e b w → Rep c.n e b w a' W' → Q .normal a' W') {e : Env} {b : Bxs} {w W : World} {a : Act} (hR : Rep c.n e b w a W) (h : drawL c ops L e b w K) : ∀ t,wpOps c.P ops Q (Region.schedule (c.P.follows .mixedOrders) ops t) a { W with drawn := W.drawn + 1 } := by
 unfold regionB at hL
 simp only [Bool.and_eq_true] at hL
 obtain ⟨hord,hcov⟩ := hL
 intro t
 simp only [Region.schedule,hmix,Bool.true_or,if_true]
 have hgo : Region.linearise .any ops t = Region.linearise.go .any ops ops.size t (Array.replicate ops.size false) [] := rfl
 rw [hgo]
 -- which of the orders
 cases L with
 | nil => cases hcov
 | cons ord0 L =>
   have h0 := List.all_eq_true.1 hord ord0 List.mem_cons_self
   obtain ⟨ms0,hms0,hO0⟩ := ordOk_of h0
   unfold coverB at hcov
   simp only [hms0] at hcov
   have hcl : ∀ i o,ops[i]? = some o → (Array.replicate ops.size false).getD i false = true → ∀ d ∈ depsOf o,(Array.replicate ops.size false).getD d false = true := by
     intro i o _ hl
     exfalso
     simp only [Array.getD_eq_getD_getElem?,Array.getElem?_replicate] at hl
     split at hl <;> simp at hl
   have hun : ∀ j,j < ops.size → (Array.replicate ops.size false).getD j true = false := by
     intro j hj
     simp [hj]
   have hlt : ∀ {ord : List Nat} {ms : List (Nat × Nat)},OrdOk c ops ms ord → ∀ j ∈ ord,j < ops.size := by
     intro ord ms hO j hj
     obtain ⟨p,q,hpq⟩ := List.append_of_mem hj
     obtain ⟨o,ho,_⟩ := hO.deps p j q hpq
     exact (Array.getElem?_eq_some_iff.1 ho).1
   have hS : ((ord0.filter (impB c ops)).filter fun j => !(Array.replicate ops.size false).getD j true) = ord0.filter (impB c ops) :=
     List.filter_eq_self.2 fun j hj => by rw [hun j (hlt hO0 j (List.mem_filter.1 hj).1)]; rfl
   have hex := exts_go hO0 ops.size t (Array.replicate ops.size false) ord0.length (by simp) hcl
     (by rw [← hO0.all]; exact List.length_filter_le _ _) (Nat.le_trans (List.length_filter_le _ _) (List.length_filter_le _ _))
   rw [hS] at hex
   have hany := List.all_eq_true.1 hcov _ hex
   obtain ⟨ord,hmem,hproj⟩ := List.any_eq_true.1 hany
   have hproj := beq_iff_eq.1 hproj
   obtain ⟨ms,hms,hO⟩ := ordOk_of (List.all_eq_true.1 hord ord hmem)
   obtain ⟨ms',hms',hvc⟩ := drawL_mem h ord hmem
   rw [hms] at hms'
   cases hms'
   refine draw_go hc hO hQ (fun e b w a W => hn e b w a W) ops.size t (Array.replicate ops.size false) [] ord [] [] e b w a a _ ⟨⟨[],rfl,List.Sublist.refl _⟩,fun i => ?_,hcl,.nil a,rep_drew hR,hvc,fun d hd => (by cases hd),fun d hd => (by cases hd),by simp⟩ hproj.symm (by simp [hO.all])
   constructor
   · intro hi
     have := unl_lt hi
     rw [Array.size_replicate] at this
     exact .inr (hO.mem i this)
   · rintro (hi | hi)
     · cases hi
     · exact hun i (hlt hO i hi)
theorem wpIn_loop_fuel {F : Fence} {n : Nat} {P : Program} {c : Code} {Q : Exit → Act → World → Prop} (I : Nat → Act → World → Prop) (h0 : ∀ a w,¬ I 0 a w) (round : ∀ k a w,I (k + 1) a w → c.wpIn F n P (Exit.then (I k) Q) a w) {k : Nat} {a : Act} {w : World} (h : I k a w) : (Code.loop c).wpIn F n P Q a w := by
 intro b kk cs hro hb hr
 have key : ∀ k a w,I k a w → ∃ e a' w',Q e a' w' ∧ ArrivesIn (Machine.fenced P F) P (lone (b.atR a (.code c :: .inLoop c :: kk)) cs w) b kk cs e a' w' := by
   intro k
   induction k with
   | zero => intro a w h; exact absurd h (h0 a w)
   | succ k ih =>
     intro a w h
     obtain ⟨e,a₁,w₁,hq,harr⟩ := round k a w h b (.inLoop c :: kk) cs hro hb hr
     cases e with
     | normal =>
       obtain ⟨e₂,a₂,w₂,hq₂,harr₂⟩ := ih a₁ w₁ hq
       exact ⟨e₂,a₂,w₂,hq₂,.of_steps (StepsIn.trans harr (.one (fenced_calm hb hr rfl) stepR_inLoop)) harr₂⟩
     | exit id => exact ⟨_,a₁,w₁,hq,.pass (x := .inLoop c) rfl (fun _ _ => .inl (by simp)) harr⟩
     | goto l => exact ⟨_,a₁,w₁,hq,.pass (x := .inLoop c) rfl (fun _ _ => .inl (by simp)) harr⟩
     | ret => exact ⟨_,a₁,w₁,hq,.pass (x := .inLoop c) rfl (fun _ _ => .inl (by simp)) harr⟩
     | panic ch => exact ⟨_,a₁,w₁,hq,.pass (x := .inLoop c) rfl (fun _ _ => .inl (by simp)) harr⟩
     | outgrown => exact ⟨_,a₁,w₁,hq,.pass (x := .inLoop c) rfl (fun _ _ => .inl (by simp)) harr⟩
 obtain ⟨e,a',w',hq,harr⟩ := key _ a w h
 exact ⟨e,a',w',hq,.of_steps (.one (fenced_calm hb hr rfl) stepR_loop) harr⟩
theorem wpf_soundR {ln n0 : Nat} {c : Cfg} (hc : CfgOk c) (hmix : c.P.follows .mixedOrders = true) (Cs : Nat → Cut) : ∀ (x : Code),codeIn x = true → ∀ (h : H) (fs : List Nat) (Q : Post),(∀ p ∈ obl c Cs x h fs Q,p) → ∀ (e : Env) (b : Bxs) (w W : World) (a : Act),Rep c.n e b w a W → wpf c Cs x h fs Q e b w → x.wpIn (Fence.wide.inRound ln) n0 c.P (lift c.n Q) a W := by
 have read_to : ∀ {i : Nat} {F : List Value → List Bx → World → Prop} {y : Code} {hy : H} {fs : List Nat} {Q : Post},(∀ e b w W a,Rep c.n e b w a W → wpf c Cs y hy fs Q e b w → y.wpIn (Fence.wide.inRound ln) n0 c.P (lift c.n Q) a W) →
     ((Cs i).all fun vs bs w => F vs bs w → wpf c Cs y hy fs Q (mkE (Cs i).slots vs (mkP (Cs i).keys)) (mkB (Cs i).keys bs) w) → ∀ e b w W a,Rep c.n e b w a W → (Cs i).read F e b w → y.wpIn (Fence.wide.inRound ln) n0 c.P (lift c.n Q) a W := by
   intro i F y hy fs Q hyw hall e b w W a hR hr
   obtain ⟨vs,bs,hF,hG,hR'⟩ := read_spec hr hR
   exact hyw _ _ _ _ _ hR' (hG _ hall hF)
 intro x
 induction x with
 | skip => exact fun _ h fs Q _ e b w W a hR hw => wpIn_skip ⟨e,b,w,by simpa [wpf] using hw,hR⟩
 | label l => exact fun _ h fs Q _ e b w W a hR hw => wpIn_label ⟨e,b,w,by simpa [wpf] using hw,hR⟩
 | exit id => exact fun _ h fs Q _ e b w W a hR hw => wpIn_exit ⟨e,b,w,by simpa [wpf] using hw,hR⟩
 | ret => exact fun _ h fs Q _ e b w W a hR hw => wpIn_ret ⟨e,b,w,by simpa [wpf] using hw,hR⟩
 | region id ops draw =>
   intro hin h fs Q ho e b w W a hR hw
   cases draw with
   | false =>
     have hw : opsK c ops ops.toList e b w Q.n := by simpa [wpf] using hw
     exact wpIn_region (ops_in (codeIn_region hin) letsOut_lift (text_ops hc (fun e b w a W hK hR => ⟨e,b,w,hK,hR⟩) hR hw))
   | true =>
     cases h with
     | r L =>
       have hw : drawL c ops L e b w Q.n := by simpa [wpf] using hw
       exact wpIn_region_draw fun t => ops_in (codeIn_region hin) letsOut_lift (draw_ops hc hmix (ho _ (by simp [obl])) (fun _ _ _ h => h) (fun e b w a W hK hR => ⟨e,b,w,hK,hR⟩) hR hw t)
     | _ => simp [wpf] at hw
 | seq x y ihx ihy =>
   intro hin h fs Q ho e b w W a hR hw
   cases h with
   | s hx hy =>
     simp only [wpf] at hw
     simp only [obl,List.mem_append] at ho
     refine wpIn_seq (wpIn_mono (ihx (and_l hin) hx fs _ (fun p hp => ho p (.inl hp)) e b w W a hR hw) fun ex a' W' hq => ?_)
     cases ex with
     | normal =>
       obtain ⟨e',b',w',hn,hR'⟩ := hq
       exact ihy (and_r hin) hy fs Q (fun p hp => ho p (.inr hp)) e' b' w' W' a' hR' hn
     | _ => exact hq
   | cut i hx hy =>
     simp only [wpf] at hw
     simp only [obl,List.mem_append,List.mem_cons] at ho
     refine wpIn_seq (wpIn_mono (ihx (and_l hin) hx fs _ (fun p hp => ho p (.inl hp)) e b w W a hR hw) fun ex a' W' hq => ?_)
     cases ex with
     | normal =>
       obtain ⟨e',b',w',hn,hR'⟩ := hq
       exact read_to (fun e b w W a hR hw => ihy (and_r hin) hy fs Q (fun p hp => ho p (.inr (.inr hp))) e b w W a hR hw) (ho _ (.inr (.inl rfl))) e' b' w' W' a' hR' hn
     | _ => exact hq
   | _ => simp [wpf] at hw
 | cond t x y ihx ihy =>
   intro hin h fs Q ho e b w W a hR hw
   cases h with
   | c hx hy =>
     simp only [wpf] at hw
     simp only [obl,List.mem_append] at ho
     split at hw
     · rename_i g hg
       have hv := ev_val hR hg
       split at hw
       · rename_i ht
         subst ht
         exact wpIn_cond_true hv (ihx (and_l hin) hx fs Q (fun p hp => ho p (.inl hp)) e b w W a hR hw)
       · rename_i ht
         have ht : g = false := by simpa using ht
         subst ht
         exact wpIn_cond_false hv (ihy (and_r hin) hy fs Q (fun p hp => ho p (.inr hp)) e b w W a hR hw)
     · exact hw.elim
   | _ => simp [wpf] at hw
 | block id x ih =>
   intro hin h fs Q ho e b w W a hR hw
   cases h with
   | b hx =>
     simp only [wpf] at hw
     simp only [obl] at ho
     refine wpIn_block (wpIn_mono (ih hin hx fs _ ho e b w W a hR hw) fun ex a' W' hq => ?_)
     cases ex with
     | exit j =>
       simp only [lift,Post.block] at hq
       simp only [Exit.inBlock]
       by_cases hj : j = id
       · subst hj
         rw [if_pos rfl]
         simp only [Nat.beq_refl] at hq
         exact hq
       · rw [if_neg hj]
         have : Nat.beq j id = false := by
           cases hb : Nat.beq j id with
           | false => rfl
           | true => exact absurd (Nat.eq_of_beq_eq_true hb) hj
         simp only [this] at hq
         exact hq
     | normal => exact hq
     | ret => exact hq
     | _ => exact hq.elim
   | _ => simp [wpf] at hw
 | scope x ih => intro hin; cases hin
 | loop x ih =>
   intro hin h fs Q ho e b w W a hR hw
   cases h with
   | l i hx =>
     simp only [wpf] at hw
     simp only [obl,List.mem_cons,List.not_mem_nil,or_false] at ho
     obtain ⟨k,hw⟩ := hw
     refine wpIn_loop_fuel (fun k a W => ∃ e b w,(Cs i).read ((Cs i).K (k :: fs)) e b w ∧ Rep c.n e b w a W) ?_ ?_ ⟨e,b,w,hw,hR⟩
     · rintro a W ⟨e,b,w,hr,hR⟩
       obtain ⟨vs,bs,hF,hG,_⟩ := read_spec hr hR
       exact hG _ (ho _ (.inl rfl)) hF
     · rintro k a W ⟨e,b,w,hr,hR⟩
       have := read_to (y := x) (hy := hx) (fs := k :: fs) (Q := { Q with n := (Cs i).read ((Cs i).K (k :: fs)) }) (fun e b w W a hR hw => ih hin hx (k :: fs) _ (fun p hp => ho _ (.inr (.inr rfl)) k p hp) e b w W a hR hw) (ho _ (.inr (.inl rfl)) k) e b w W a hR hr
       refine wpIn_mono this fun ex a' W' hq => ?_
       cases ex with
       | normal => exact hq
       | _ => exact hq
   | _ => simp [wpf] at hw
 | rangeFunc f ps sg x ih1 ih2 => intro hin; cases hin
 | goto l => intro _ h fs Q ho e b w W a hR hw; simp [wpf] at hw
 | refuse why => intro _ h fs Q ho e b w W a hR hw; simp [wpf] at hw
end Go.Proofs.YtidcpndlloppdaaGreat
