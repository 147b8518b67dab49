import Derived.Test.YtidcpndlloppdaaGreatZEngR
import Derived.Test.YtidcpndlloppdaaGreatZMB
/-
 A range over a function that hands out a list,one value after another: the law of the statement,and of a function's end behind it.
 Conditions: none.
-/
set_option linter.unusedVariables false
set_option linter.unusedSimpArgs false
namespace Go.Proofs.YtidcpndlloppdaaGreat
open Go.RowKit
def cL : Code → Code
 | .seq x _ => x
 | c => c
def cR : Code → Code
 | .seq _ y => y
 | c => c
def cB : Code → Code
 | .block _ x => x
 | c => c
def cA : Code → Code
 | .rangeFunc _ _ x _ => x
 | c => c
def cD : Code → Code
 | .rangeFunc _ _ _ x => x
 | c => c
def postCut (C : Cut) : Post := ⟨C.read (C.K []),fun _ _ _ _ => False,fun _ _ _ => False⟩
def EndAt (c : Cfg) (C : Cut) (a : Act) (W : World) : Prop := ∃ vs bs w,C.K [] vs bs w ∧ (∀ G : List Value → List Bx → World → Prop,C.all G → G vs bs w) ∧ Rep c.n (mkE C.slots vs (mkP C.keys)) (mkB C.keys bs) w a W
theorem lift_cut {c : Cfg} {C : Cut} {ex : Exit} {a : Act} {W : World} (h : lift c.n (postCut C) ex a W) : ex = .normal ∧ EndAt c C a W := by
 cases ex with
 | normal =>
   obtain ⟨e,b,w,hq,hR⟩ := h
   obtain ⟨vs,bs,h1,h2,h3⟩ := read_spec hq hR
   exact ⟨rfl,vs,bs,w,h1,h2,h3⟩
 | exit id => obtain ⟨e,b,w,hq,hR⟩ := h; exact hq.elim
 | ret => obtain ⟨e,b,w,hq,hR⟩ := h; exact hq.elim
 | _ => exact h.elim
theorem piece_wp {c : Cfg} (hc : CfgOk c) (hmix : c.P.follows .mixedOrders = true) {Cs : Nat → Cut} {x : Code} {h : H} {C : Cut} (ho : oblP c Cs x h [] (postCut C)) {e : Env} {b : Bxs} {w W : World} {a : Act} (hR : Rep c.n e b w a W)
   (hw : wpf c Cs x h [] (postCut C) e b w) : x.wp c.P (fun ex a' W' => ex = .normal ∧ EndAt c C a' W') a W :=
 wp_mono (wpf_sound hc hmix Cs x h [] _ (oblP_obl _ _ _ _ ho) e b w W a hR hw) fun ex a' W' hq => lift_cut hq
theorem piece_in {c : Cfg} (hc : CfgOk c) (hmix : c.P.follows .mixedOrders = true) {Cs : Nat → Cut} {x : Code} (hin : codeIn x = true) {h : H} {C : Cut} (ho : oblP c Cs x h [] (postCut C)) {e : Env} {b : Bxs} {w W : World} {a : Act} (hR : Rep c.n e b w a W)
   (hw : wpf c Cs x h [] (postCut C) e b w) {ln n0 : Nat} : x.wpIn (Fence.wide.inRound ln) n0 c.P (fun ex a' W' => ex = .normal ∧ EndAt c C a' W') a W :=
 wpIn_mono (wpf_soundR hc hmix Cs x hin h [] _ (oblP_obl _ _ _ _ ho) e b w W a hR hw) fun ex a' W' hq => lift_cut hq
theorem wp_then {P : Program} {x y : Code} {Q : Exit → Act → World → Prop} {S : Act → World → Prop} {a : Act} {w : World} (h : x.wp P (fun ex a' W' => ex = .normal ∧ S a' W') a w) (hk : ∀ a' W',S a' W' → y.wp P Q a' W') : (Code.seq x y).wp P Q a w :=
 wp_seq (wp_mono h fun ex a' W' hq => by
   obtain ⟨rfl,hq⟩ := hq
   exact hk a' W' hq)
theorem nest {c : Cfg} (hc : CfgOk c) (hmix : c.P.follows .mixedOrders = true) {Cs : Nat → Cut} {x y : Code} {hx hy : H} {C : Cut} (ho : oblP c Cs (.seq x y) (.s hx hy) [] (postCut C)) {e : Env} {b : Bxs} {w W : World} {a : Act} (hR : Rep c.n e b w a W)
   (hw : wpf c Cs (.seq x y) (.s hx hy) [] (postCut C) e b w) {Z : Code} {Q' : Exit → Act → World → Prop}
   (hk : ∀ e b w W a,Rep c.n e b w a W → oblP c Cs y hy [] (postCut C) → wpf c Cs y hy [] (postCut C) e b w → Z.wp c.P Q' a W) : (Code.seq x Z).wp c.P Q' a W := by
 refine wp_seq (wp_mono (wpf_sound hc hmix Cs x hx [] { postCut C with n := wpf c Cs y hy [] (postCut C) } (oblP_obl _ _ _ _ ho.1) e b w W a hR hw) fun ex a' W' hq => ?_)
 cases ex with
 | normal =>
   obtain ⟨e',b',w',hn,hR'⟩ := hq
   exact hk e' b' w' W' a' hR' ho.2 hn
 | exit id => obtain ⟨e',b',w',hn,_⟩ := hq; exact hn.elim
 | ret => obtain ⟨e',b',w',hn,_⟩ := hq; exact hn.elim
 | _ => exact hq.elim
theorem nest4 {c : Cfg} {P : Program} (hP : c.P = P) (hc : CfgOk c) (hmix : P.follows .mixedOrders = true) {Cs : Nat → Cut} {x1 x2 x3 x4 : Code} {h1 h2 h3 h4 : H} {C : Cut} (ho : oblP c Cs (.seq x1 (.seq x2 (.seq x3 x4))) (.s h1 (.s h2 (.s h3 h4))) [] (postCut C))
   {e : Env} {b : Bxs} {w W : World} {a : Act} (hR : Rep c.n e b w a W) (hw : wpf c Cs (.seq x1 (.seq x2 (.seq x3 x4))) (.s h1 (.s h2 (.s h3 h4))) [] (postCut C) e b w) {blk rest : Code} {Q : Exit → Act → World → Prop}
   (hk : ∀ a' W',EndAt c C a' W' → blk.wp P (Exit.then (rest.wp P Q) Q) a' W') : (Code.seq x1 (.seq x2 (.seq x3 (.seq (.seq x4 blk) rest)))).wp P Q a W := by
 subst hP
 refine nest hc hmix ho hR hw fun e1 b1 w1 W1 a1 hR1 ho1 hw1 => ?_
 refine nest hc hmix ho1 hR1 hw1 fun e2 b2 w2 W2 a2 hR2 ho2 hw2 => ?_
 refine nest hc hmix ho2 hR2 hw2 fun e3 b3 w3 W3 a3 hR3 ho3 hw3 => ?_
 exact wp_seq (wp_then (piece_wp hc hmix ho3 hR3 hw3) hk)
theorem tail_load {P : Program} {id : Nat} {o1 o2 : Oper} {t : TypeId} {x y z : Nat} (h1 : o1.op = .load t (.tmp x)) (d1 : o1.dst = some y) (g1 : o1.guard = none) (h2 : o2.op = .assign (.tmp y)) (d2 : o2.dst = some z) (g2 : o2.guard = none)
   (hagg : ∀ w,(isAgg t).run P w = .ok false w) {a : Act} {W : World} {q : Addr} {v : Value} (hp : a.tmps.getD x undef = .pointer (some q)) (hv : W.cell? q = some v) (hy : y < a.tmps.size) {Q : Exit → Act → World → Prop}
   (hk : Q .ret { a with tmps := (a.tmps.setIfInBounds y v).setIfInBounds z v } W) : (Code.seq (.region id #[o1,o2] false) .ret).wp P Q a W := by
 refine wp_seq (wp_region ?_)
 have hr : (execOp a.eval o1).run P W = .ok (.value v) W := by
   have hp' : a.eval (.tmp x) = .pointer (some q) := hp
   simp only [execOp,h1,hp',Instr.loadAt,Instr.sureAddr,pure_bind,loadVar,Sem.run_bind,hagg,Result.andThen_ok,Bool.false_eq_true,if_false,run_load,hv,Sem.run_pure]
 have w1 : Region.wanted o1 (yielded #[o1,o2] a.tmps) = true := by unfold Region.wanted; rw [g1]
 have w2 : Region.wanted o2 (yielded #[o1,o2] (a.put (some y) v).tmps) = true := by unfold Region.wanted; rw [g2]
 show wpOps P #[o1,o2] _ [0,1] a W
 rw [wpOps_cons]
 show (if Region.wanted o1 (yielded #[o1,o2] a.tmps) = true then _ else _)
 rw [if_pos w1]
 refine .inl ?_
 show Oper.upon P o1 a _ _ ((execOp a.eval o1).run P W)
 rw [hr,Oper.upon_value,d1,wpOps_cons]
 show (if Region.wanted o2 (yielded #[o1,o2] (a.put (some y) v).tmps) = true then _ else _)
 rw [if_pos w2]
 refine .inl ?_
 have hr2 : (execOp (a.put (some y) v).eval o2).run P W = .ok (.value v) W := by
   have : (a.put (some y) v).eval (.tmp y) = v := by
     show (a.tmps.setIfInBounds y v).getD y undef = v
     simp [Array.getD,hy]
   simp [execOp,h2,this]
 show Oper.upon P o2 (a.put (some y) v) _ _ ((execOp (a.put (some y) v).eval o2).run P W)
 rw [hr2,Oper.upon_value,d2]
 exact wp_ret hk
theorem rep_enter {n : Fr} {m : Nat} {args : List Value} {w : World} (hn : n.n = m) (hl : Nat.ble args.length m = true) (hB : n.B = w.heap.size) :
   Rep n (argE 0 args) [] w { tmps := ⟨args⟩ ++ Array.replicate (m - (⟨args⟩ : Array Value).size) undef,defers := [] } w := by
 have hl := Nat.le_of_ble_eq_true hl
 refine ⟨by simp [hn]; omega,rfl,fun i sv hi => ?_,Ext.refl _ _,Nat.le_of_eq hB,fun k x h => by (simp [look] at h),fun k x h => by (simp [look] at h),fun k x h => by (simp [look] at h),by simp,fun k x k' x' h => by (simp [look] at h)⟩
 obtain ⟨_,v,h1,rfl⟩ := argE_look args 0 i sv hi
 simp only [Nat.sub_zero] at h1
 have hlt := (List.getElem?_eq_some_iff.1 h1).1
 simp only [den,Option.some.injEq]
 rw [Array.getD_eq_getD_getElem?,Array.getElem?_append_left (by simpa using hlt)]
 simp [h1]
theorem rep_start {n : Nat} {e : Env} {w : World} {a : Act} (hn : a.tmps.size = n) (hd : a.defers = []) (hs : ∀ i sv,look e i = some sv → ∃ v,sv = .v v ∧ a.tmps.getD i undef = v) : Rep ⟨n,w.heap.size⟩ e [] w a w :=
 ⟨hn,hd,fun i sv hi => by obtain ⟨v,rfl,hv⟩ := hs i sv hi; rw [hv]; rfl,Ext.refl _ _,Nat.le_refl _,fun k x hx => (by cases hx),fun k x hx => (by cases hx),fun k x hx => (by cases hx),List.nodup_nil,fun k x _ _ hx => (by cases hx)⟩
theorem Rep.putLow {n : Fr} {e : Env} {b : Bxs} {w W : World} {a : Act} (h : Rep n e b w a W) {l : Nat} {o o' : Obj} (hl : W.heap[l]? = some o) (ho : o.isCells = false) (ho' : o'.isCells = false) (hB : l < n.B) : Rep n e b (w.putObj l o') a (W.putObj l o') := by
 have hwl : w.heap[l]? = some o := (h.pad.low l hB).symm.trans hl
 have hlt := (Array.getElem?_eq_some_iff.1 hl).1
 have hltw := (Array.getElem?_eq_some_iff.1 hwl).1
 refine ⟨h.size,h.nodef,h.slots,⟨h.pad.os,h.pad.tape,h.pad.output,by simpa using h.pad.size,fun k c t f hk => ?_,fun k hk => ?_⟩,by simpa using h.base,h.lo,fun k x hx => ?_,fun k x hx => ?_,h.keys,h.apart⟩
 · by_cases e : k = l
   · subst e; rw [World.putObj_heap_same hltw] at hk; cases hk; cases ho'
   · rw [World.putObj_heap_other e] at hk ⊢
     exact h.pad.row k c t f hk
 · by_cases e : k = l
   · subst e; rw [World.putObj_heap_same hltw,World.putObj_heap_same hlt]
   · rw [World.putObj_heap_other e,World.putObj_heap_other e]; exact h.pad.low k hk
 · have hb := h.boxes k x hx
   by_cases e : x.blk = l
   · rw [e,hl] at hb; cases hb; cases ho
   · rw [World.putObj_heap_other e]; exact hb
 · have hh := h.hid k x hx
   by_cases e : x.blk = l
   · have := h.lo k x hx; omega
   · exact fun c t f hc => hh c t f (by rw [World.putObj_heap_other e] at hc; exact hc)
def Hands {α : Type} (P : Program) (gf : Nat) (lb : Array Value) (encs : Nat → α → Array Value) (xs : List α) (Src : World → Prop) : Prop :=
 ∀ (l : Nat) (J : Nat → World → Prop) (W : World),(∀ k W,J k W → Src W) → (∀ k W n,J k W → J k { W with drawn := n }) →
   (∀ k x W,xs[k]? = some x → J k W → YieldAt Fence.wide 0 P l (encs k x) W fun e W' => e = .returned (.bool true) ∧ J (k + 1) W') → J 0 W →
   CallsIn Fence.wide 0 P gf (#[.func (.yield l) #[] #[]] ++ lb) W fun e W' => (∃ v,e = .returned v) ∧ J xs.length W'
theorem wp_range_hands {α : Type} {P : Program} {g : Operand} {ps : Array Tmp} {assign body : Code} {Q : Exit → Act → World → Prop} {a : Act} {w : World} {gf : Nat} {lb : Array Value}
   (hg : a.eval g = .func (.func gf) #[] lb) (eg : ∀ args w,(callFunc gf args).run P w = .ok (.enter gf args) w)
   {encs : Nat → α → Array Value} {xs : List α} {Src : World → Prop} (hh : Hands P gf lb encs xs Src) (hps : ∀ k x,(encs k x).size = ps.size)
   (I : Nat → World → Prop) (hsrc : ∀ k W,I k W → Src W)
   (hput : ∀ k W l o o',I k W → w.heap.size ≤ l → W.heap[l]? = some o → o.isCells = false → o'.isCells = false → I k (W.putObj l o'))
   (hdrew : ∀ k W n,I k W → I k { W with drawn := n })
   (h0 : ∀ r : Loop,I 0 ((w.alloc (.deferred (some []))).alloc (.loop r)))
   (hround : ∀ (k : Nat) (x : α) (W : World) (r : Loop),xs[k]? = some x → I k W → W.heap[w.heap.size + 1]? = some (.loop r) → W.heap[w.heap.size]? = some (.deferred (some [])) →
     assign.wpIn (Fence.wide.inRound (w.heap.size + 1)) 0 P (Exit.then (fun a₁ W₁ => W₁.heap[w.heap.size + 1]? = some (.loop r) ∧
       ∀ r2 : Loop,body.wpIn (Fence.wide.inRound (w.heap.size + 1)) 0 P (fun e _ W₃ => e = .normal ∧ W₃.heap[w.heap.size + 1]? = some (.loop r2) ∧ W₃.heap[w.heap.size]? = some (.deferred (some [])) ∧ I (k + 1) W₃)
         a₁ (W₁.putObj (w.heap.size + 1) (.loop r2))) (fun _ _ _ => False))
       { tmps := (ps.zip (encs k x)).foldl (fun t (p,v) => t.setIfInBounds p v) a.tmps,defers := [] } W)
   (hdone : ∀ W,I xs.length W → W.heap[w.heap.size]? = some (.deferred (some [])) → Q .normal { a with defers := { target := .collected w.heap.size,args := #[] } :: a.defers } W) :
   (Code.rangeFunc g ps assign body).wp P Q a w := by
 refine (wpIn_wide (n := 0)).1 (wpIn_rangeFunc ?_)
 intro fn hfn
 show ∃ (l : Nat) (mark : List Deferred) (w₁ : World) (d : Deferred) (w₁' : World) (f : FuncId) (args : Array Value) (w₂ : World),(Instr.enterLoop fn a.tmps ps assign body none).run P w = .ok (l,mark) w₁ ∧ _
 obtain ⟨rec,hrec⟩ : ∃ rec : LoopState → Loop,rec = fun st => { state := st,pending := none,fn,tmps := a.tmps,params := ps,assign,body,defers := w.heap.size } := ⟨_,rfl⟩
 obtain ⟨W1,hW1⟩ : ∃ W1,(w.alloc (.deferred (some []))).alloc (.loop (rec .ready)) = W1 := ⟨_,rfl⟩
 have hL1 : W1.heap[w.heap.size + 1]? = some (.loop (rec .ready)) := by
   rw [← hW1]; have := World.alloc_heap_new (w.alloc (.deferred (some []))) (.loop (rec .ready)); rwa [World.size_alloc] at this
 have hK1 : W1.heap[w.heap.size]? = some (.deferred (some [])) := by
   rw [← hW1]; exact (Below.heap_alloc _ _ _ (by simp)).trans (World.alloc_heap_new w _)
 have hI1 : I 0 W1 := by rw [← hW1]; exact h0 _
 refine ⟨w.heap.size + 1,[{ target := .collected w.heap.size,args := #[] }],W1,{ target := .fn (.func gf) lb,args := #[.func (.yield (w.heap.size + 1)) #[] #[]] },W1,gf,
   #[.func (.yield (w.heap.size + 1)) #[] #[]] ++ lb,W1, ?_, ?_, ?_, ?_,(fun h => (by cases h)), ?_⟩
 · rw [← hW1,hrec]; exact run_enterLoop_outer _ _ _ _ _
 · simp only [resolve,hg]
   simp [go_sem]
 · exact fun _ _ => trivial
 · simp [invoke,go_sem,eg]
 · refine (hh (w.heap.size + 1)
     (fun k W => I k W ∧ W.heap[w.heap.size + 1]? = some (.loop (rec .ready)) ∧ W.heap[w.heap.size]? = some (.deferred (some [])))
     W1 (fun k W h => hsrc k W h.1) (fun k W n h => ⟨hdrew k W n h.1,h.2⟩) ?_ ⟨hI1,hL1,hK1⟩).mono ?_
   · rintro k x W hx ⟨hi,hl,hk⟩
     have hy := run_yield (P := P) (args := encs k x) hl (by rw [hrec]; exact hps k x)
     rw [hrec] at hy
     refine ⟨fn,_,assign,body,hy,roundIn_of_wpIn hfn (wpIn_mono (hround k x W _ hx hi hl hk) ?_)⟩
     rintro e a1 W2 hp
     cases e with
     | normal =>
       obtain ⟨hl1,hb⟩ := hp
       refine ⟨_,run_beginRound hl1 (by rw [hrec]),wpIn_mono (hb _) ?_⟩
       rintro e a3 W3 ⟨rfl,hl3,hk3,hi3⟩
       have hlt := (Array.getElem?_eq_some_iff.1 hl3).1
       refine ⟨_,_,run_endRound none hl3,rfl,hput _ _ _ _ _ hi3 (by omega) hl3 rfl rfl, ?_,(World.putObj_heap_other (by omega)).trans hk3⟩
       rw [World.putObj_heap_same hlt,hrec]
       rfl
     | _ => exact hp.elim
   · rintro e W2 ⟨⟨v,rfl⟩,hi,hl,hk⟩
     have := run_endLoop (P := P) hl (by rw [hrec]; simp)
     rw [hrec] at this
     exact ⟨none,_,this,hdone _ (hput _ _ _ _ _ hi (by omega) hl rfl rfl) ((World.putObj_heap_other (by omega)).trans hk)⟩
theorem calls_marks {P : Program} {f : FuncId} {fn : Func} {c : Code} {args : Array Value} {w : World} {R : Ending → World → Prop}
   (hf : P.funcs[f]? = some fn) (hb : fn.body = some c)
   (h : c.wp P (fun e a W => e = .ret ∧ ∃ D v,a.defers = [{ target := .collected D,args := #[] }] ∧ W.heap[D]? = some (.deferred (some [])) ∧
     (results fn a.tmps).run P (W.putObj D (.deferred none)) = .ok v (W.putObj D (.deferred none)) ∧ R (.returned v) (W.putObj D (.deferred none)))
     { tmps := args ++ Array.replicate (fn.ntmps - args.size) undef,defers := [] } w) : Calls P f args w R := by
 refine (callsIn_wide (n := 0)).1 (callsIn_of_wp_marks hf hb trivial (wpIn_mono ((wpIn_wide (n := 0)).2 h) ?_) rfl)
 rintro e a W ⟨rfl,D,v,hd,hD,hr,hR⟩
 show LeavesInM _ _ _ _ _ _ a.defers _ _
 rw [hd]
 exact ⟨fun h => (by cases h),.inl ⟨D,_,rfl,run_takeDeferred hD,v,hr,hR⟩⟩
end Go.Proofs.YtidcpndlloppdaaGreat

/-
 What the engine makes of pieces of loaded functions (V85p,V85a,V85b): conditions under which they end as told.
 Conditions: none. Printed by a program of this project.
-/
set_option linter.unusedVariables false
set_option maxRecDepth 100000
namespace Go.Proofs.YtidcpndlloppdaaGreat
def V85p.vc (B : Nat) (R : Value → Nat → Option Addr → Nat → Nat → Nat → Addr → World → Prop) (m0 : Addr) (w : World) : Prop :=
 ∀ q1 : Nat,w.heap.size ≤ q1 →
 ∀ q3 : Nat,w.heap.size ≤ q3 →
 ∃ (A13 : Option Addr) (A13l A13c : Nat),w.cell? (m0.add 6) = some (.slice A13 A13l A13c) ∧
 CallK Tryz.prog 128 [.slice A13 A13l A13c] B w [q3,q1] fun v w_1 => 
 ∃ v14 : Value,v = v14 ∧ partV v14 fun uv14 => 
 R uv14 q3 none 0 0 q1 m0 w_1
noncomputable def V85p.cfg (B : Nat) : Cfg := ⟨Tryz.prog,⟨47,B⟩,[],hasN [128],hasN [],look []⟩
noncomputable def V85p.code : Code := (.seq (cL ((Tryz.f85.body).getD .skip)) (.seq (cL (cR ((Tryz.f85.body).getD .skip))) (.seq (cL (cR (cR ((Tryz.f85.body).getD .skip)))) (cL (cL (cR (cR (cR ((Tryz.f85.body).getD .skip)))))))))
noncomputable def V85p.fin (R : Value → Nat → Option Addr → Nat → Nat → Nat → Addr → World → Prop) : Cut := ⟨[(14,.one (.any))],[(3,31,[.slice]),(1,75,[.ptr])],fun fs vs bs w => R (id (nthV vs 0)) (nthB bs 0).blk (slA (nthV (nthB bs 0).cells 0)) (slL (nthV (nthB bs 0).cells 0)) (slC (nthV (nthB bs 0).cells 0)) (nthB bs 1).blk (pV (nthV (nthB bs 1).cells 0)) w⟩
noncomputable def V85p.cuts (B : Nat) (R : Value → Nat → Option Addr → Nat → Nat → Nat → Addr → World → Prop) : Nat → Cut := nthC []
noncomputable def V85p.h : H := .s (.z) (.s (.s (.z) (.c (.s (.z) (.z)) (.z))) (.s (.z) (.z)))
theorem V85p.vc_eq (B : Nat) (R : Value → Nat → Option Addr → Nat → Nat → Nat → Addr → World → Prop) (m0 : Addr) (w : World) : wpf (V85p.cfg B) (V85p.cuts B R) V85p.code V85p.h [] (postCut (V85p.fin R)) [(0,.v (.pointer (some m0)))] [] w = V85p.vc B R m0 w := by kernel_rfl
theorem V85p.obl (B : Nat) (R : Value → Nat → Option Addr → Nat → Nat → Nat → Addr → World → Prop) : oblP (V85p.cfg B) (V85p.cuts B R) V85p.code V85p.h [] (postCut (V85p.fin R)) := by
 have e : oblP (V85p.cfg B) (V85p.cuts B R) V85p.code V85p.h [] (postCut (V85p.fin R)) = (True ∧ ((True ∧ ((True ∧ True) ∧ True)) ∧ (True ∧ True))) := by kernel_rfl
 exact e.mpr (⟨trivial,⟨⟨trivial,⟨⟨trivial,trivial⟩,trivial⟩⟩,⟨trivial,trivial⟩⟩⟩)
theorem V85p.cfgOk (B : Nat) : CfgOk (V85p.cfg B) := cfgOk_of (by kernel_rfl) (by kernel_rfl) extNil
def V85a.vc (B : Nat) (R : Addr → Addr → Nat → Int → Int → Int → Bool → Int → Option Addr → Nat → Nat → Option Addr → Nat → Nat → Option Addr → Nat → Nat → World → Prop) (m1 out3 : Addr) (x16 x16_1 x16_2 : Int) (b16 : Bool) (x16_3 : Int) (A16 : Option Addr) (A16l A16c : Nat) (A16_1 : Option Addr) (A16_1l A16_1c : Nat) (A16_2 : Option Addr) (A16_2l A16_2c : Nat) (w : World) : Prop :=
 ∀ q5 : Nat,w.heap.size ≤ q5 → R m1 out3 q5 x16 x16_1 x16_2 b16 x16_3 A16 A16l A16c A16_1 A16_1l A16_1c A16_2 A16_2l A16_2c w
noncomputable def V85a.cfg (B : Nat) : Cfg := ⟨Tryz.prog,⟨47,B⟩,[],hasN [],hasN [],look []⟩
noncomputable def V85a.code : Code := (cA (cB (cR (cL (cR (cR (cR ((Tryz.f85.body).getD .skip))))))))
noncomputable def V85a.fin (R : Addr → Addr → Nat → Int → Int → Int → Bool → Int → Option Addr → Nat → Nat → Option Addr → Nat → Nat → Option Addr → Nat → Nat → World → Prop) : Cut := ⟨[(1,.one (.ptr)),(3,.one (.ptr))],[(5,99,[.int .i64,.int .i64,.int .i64,.bool,.int .u64,.slice,.slice,.slice])],fun fs vs bs w => R (pV (nthV vs 0)) (pV (nthV vs 1)) (nthB bs 0).blk (iV (nthV (nthB bs 0).cells 0)) (iV (nthV (nthB bs 0).cells 1)) (iV (nthV (nthB bs 0).cells 2)) (bV (nthV (nthB bs 0).cells 3)) (iV (nthV (nthB bs 0).cells 4)) (slA (nthV (nthB bs 0).cells 5)) (slL (nthV (nthB bs 0).cells 5)) (slC (nthV (nthB bs 0).cells 5)) (slA (nthV (nthB bs 0).cells 6)) (slL (nthV (nthB bs 0).cells 6)) (slC (nthV (nthB bs 0).cells 6)) (slA (nthV (nthB bs 0).cells 7)) (slL (nthV (nthB bs 0).cells 7)) (slC (nthV (nthB bs 0).cells 7)) w⟩
noncomputable def V85a.cuts (B : Nat) (R : Addr → Addr → Nat → Int → Int → Int → Bool → Int → Option Addr → Nat → Nat → Option Addr → Nat → Nat → Option Addr → Nat → Nat → World → Prop) : Nat → Cut := nthC []
noncomputable def V85a.h : H := .z
theorem V85a.vc_eq (B : Nat) (R : Addr → Addr → Nat → Int → Int → Int → Bool → Int → Option Addr → Nat → Nat → Option Addr → Nat → Nat → Option Addr → Nat → Nat → World → Prop) (m1 out3 : Addr) (x16 x16_1 x16_2 : Int) (b16 : Bool) (x16_3 : Int) (A16 : Option Addr) (A16l A16c : Nat) (A16_1 : Option Addr) (A16_1l A16_1c : Nat) (A16_2 : Option Addr) (A16_2l A16_2c : Nat) (w : World) : wpf (V85a.cfg B) (V85a.cuts B R) V85a.code V85a.h [] (postCut (V85a.fin R)) [(1,.v (.pointer (some m1))),(3,.v (.pointer (some out3))),(16,.v (.agg ⟨[.int .i64 x16,.int .i64 x16_1,.int .i64 x16_2,.bool b16,.int .u64 x16_3,.slice A16 A16l A16c,.slice A16_1 A16_1l A16_1c,.slice A16_2 A16_2l A16_2c]⟩))] [] w = V85a.vc B R m1 out3 x16 x16_1 x16_2 b16 x16_3 A16 A16l A16c A16_1 A16_1l A16_1c A16_2 A16_2l A16_2c w := by kernel_rfl
theorem V85a.obl (B : Nat) (R : Addr → Addr → Nat → Int → Int → Int → Bool → Int → Option Addr → Nat → Nat → Option Addr → Nat → Nat → Option Addr → Nat → Nat → World → Prop) : oblP (V85a.cfg B) (V85a.cuts B R) V85a.code V85a.h [] (postCut (V85a.fin R)) := by
 have e : oblP (V85a.cfg B) (V85a.cuts B R) V85a.code V85a.h [] (postCut (V85a.fin R)) = True := by kernel_rfl
 exact e.mpr (trivial)
theorem V85a.cfgOk (B : Nat) : CfgOk (V85a.cfg B) := cfgOk_of (by kernel_rfl) (by kernel_rfl) extNil
theorem V85a.codeIn : codeIn V85a.code = true := by kernel_rfl
def V85b.l0 (B : Nat) (R : World → Prop) : Nat → Addr → Option Addr → Nat → Nat → Int → Int → World → Prop
 | 0 => fun _ _ _ _ _ _ _ => False
 | k + 1 => fun out3 A33 A33l A33c x34 x35 w =>
 if (decide (x35 < x34)) = true
 then (∃ p37 : Addr,A33 = some p37 ∧ (0 : Int) ≤ x35 ∧ x35 < (A33l : Int) ∧
 ∃ x38 : Int,w.cell? (p37.add x35.toNat) = some (.int .u64 x38) ∧
 if (x38 != 0) = true
 then (∃ (A41 : Option Addr) (A41l A41c : Nat),w.cell? out3 = some (.slice A41 A41l A41c) ∧
 Expo B w [] fun w_1 => 
 let w_2 := w_1.alloc (.cells ⟨[.int .u64 x38]⟩ 55);
 RunK Tryz.prog (Builtin.append_ #[31,31] 31 ⟨[.slice A41 A41l A41c,.slice (some ⟨w_1.heap.size,0,none⟩) 1 1]⟩) B w_2 [] fun v w_3 => 
 ∃ (A44 : Option Addr) (A44l A44c : Nat),v = .slice A44 A44l A44c ∧
 (∃ u,w_3.cell? (out3.add 0) = some u) ∧ w_3.frozen? (out3.add 0) = false ∧
 let w_4 := w_3.setCell (out3.add 0) (.slice A44 A44l A44c);
 (V85b.l0 B R k) out3 A33 A33l A33c x34 (IntKind.wrap .i64 (x35 + 1)) w_4)
 else ((V85b.l0 B R k) out3 A33 A33l A33c x34 (IntKind.wrap .i64 (x35 + 1)) w))
 else (R w)
def V85b.vc (B : Nat) (R : World → Prop) (m1 out3 : Addr) (q5 : Nat) (x5 x5_1 x5_2 : Int) (x5_3 : Bool) (x5_4 : Int) (x5_5 : Option Addr) (x5_5l x5_5c : Nat) (x5_6 : Option Addr) (x5_6l x5_6c : Nat) (x5_7 : Option Addr) (x5_7l x5_7c : Nat) (w : World) : Prop :=
 ∃ op22 : Option Addr,w.cell? m1 = some (.pointer op22) ∧
 caseP op22
 (False)
 (fun p22 => ∃ (A26 : Option Addr) (A26l A26c : Nat),w.cell? ((p22.add 0).add 0) = some (.slice A26 A26l A26c) ∧
 ∃ p29 : Addr,A26 = some p29 ∧ (0 : Int) ≤ x5 ∧ x5 < (A26l : Int) ∧
 ∃ x31 : Int,w.cell? ((p29.add (x5.toNat * 4)).add 2) = some (.int .i64 x31) ∧ (0 : Int) ≤ IntKind.wrap .i64 ((x5_6l : Int) - x31) ∧ IntKind.wrap .i64 ((x5_6l : Int) - x31) ≤ (x5_6l : Int) ∧
 ∃ k_1,V85b.l0 B R k_1 out3 (if x5_6c = (IntKind.wrap .i64 ((x5_6l : Int) - x31)).toNat then x5_6 else Option.map (fun a => a.add ((IntKind.wrap .i64 ((x5_6l : Int) - x31)).toNat)) x5_6) (x5_6l - ((IntKind.wrap .i64 ((x5_6l : Int) - x31)).toNat)) (x5_6c - ((IntKind.wrap .i64 ((x5_6l : Int) - x31)).toNat)) ((x5_6l - ((IntKind.wrap .i64 ((x5_6l : Int) - x31)).toNat) : Nat) : Int) 0 w)
noncomputable def V85b.cfg (B : Nat) : Cfg := ⟨Tryz.prog,⟨47,B⟩,[],hasN [],hasN [],look []⟩
noncomputable def V85b.code : Code := (cD (cB (cR (cL (cR (cR (cR ((Tryz.f85.body).getD .skip))))))))
noncomputable def V85b.fin (R : World → Prop) : Cut := ⟨[],[],fun fs vs bs w => R  w⟩
noncomputable def V85b.cuts (B : Nat) (R : World → Prop) : Nat → Cut := nthC [⟨[(3,.one (.ptr)),(33,.one (.slice)),(34,.one (.int .i64)),(35,.one (.int .i64))],[],fun fs vs bs w => V85b.l0 B R (nthN fs 0) (pV (nthV vs 0)) (slA (nthV vs 1)) (slL (nthV vs 1)) (slC (nthV vs 1)) (iV (nthV vs 2)) (iV (nthV vs 3)) w⟩]
noncomputable def V85b.h : H := .b (.s (.r [[0,1,2,3,4,5,6,7,8,9,10,11,12,13,14,15,16,17,18]]) (.b (.l 0 (.s (.z) (.s (.c (.z) (.z)) (.s (.b (.s (.z) (.s (.z) (.c (.z) (.z))))) (.z)))))))
theorem V85b.vc_eq (B : Nat) (R : World → Prop) (m1 out3 : Addr) (q5 : Nat) (x5 x5_1 x5_2 : Int) (x5_3 : Bool) (x5_4 : Int) (x5_5 : Option Addr) (x5_5l x5_5c : Nat) (x5_6 : Option Addr) (x5_6l x5_6c : Nat) (x5_7 : Option Addr) (x5_7l x5_7c : Nat) (w : World) : wpf (V85b.cfg B) (V85b.cuts B R) V85b.code V85b.h [] (postCut (V85b.fin R)) [(1,.v (.pointer (some m1))),(3,.v (.pointer (some out3))),(5,.bx 5 0)] [(5,⟨q5,99,[.int .i64 x5,.int .i64 x5_1,.int .i64 x5_2,.bool x5_3,.int .u64 x5_4,.slice x5_5 x5_5l x5_5c,.slice x5_6 x5_6l x5_6c,.slice x5_7 x5_7l x5_7c]⟩)] w = V85b.vc B R m1 out3 q5 x5 x5_1 x5_2 x5_3 x5_4 x5_5 x5_5l x5_5c x5_6 x5_6l x5_6c x5_7 x5_7l x5_7c w := by kernel_rfl
theorem V85b.obl (B : Nat) (R : World → Prop) : oblP (V85b.cfg B) (V85b.cuts B R) V85b.code V85b.h [] (postCut (V85b.fin R)) := by
 have e : oblP (V85b.cfg B) (V85b.cuts B R) V85b.code V85b.h [] (postCut (V85b.fin R)) = ((true = true) ∧ ((∀ (out3 : Addr) (A33 : Option Addr) (A33l A33c : Nat) (x34 x35 : Int) (w : World),¬ V85b.l0 B R 0 out3 A33 A33l A33c x34 x35 w) ∧ (∀ k0,∀ (out3 : Addr) (A33 : Option Addr) (A33l A33c : Nat) (x34 x35 : Int) (w : World),V85b.l0 B R (k0 + 1) out3 A33 A33l A33c x34 x35 w → V85b.l0 B R (k0 + 1) out3 A33 A33l A33c x34 x35 w) ∧ ∀ k0 : Nat,(True ∧ ((True ∧ True) ∧ ((True ∧ (True ∧ (True ∧ True))) ∧ True))))) := by kernel_rfl
 exact e.mpr (⟨rfl,⟨fun out3 A33 A33l A33c x34 x35 w h => h,fun _ out3 A33 A33l A33c x34 x35 w h => h,fun k0 => ⟨trivial,⟨⟨trivial,trivial⟩,⟨⟨trivial,⟨trivial,⟨trivial,trivial⟩⟩⟩,trivial⟩⟩⟩⟩⟩)
theorem V85b.cfgOk (B : Nat) : CfgOk (V85b.cfg B) := cfgOk_of (by kernel_rfl) (by kernel_rfl) extNil
theorem V85b.codeIn : codeIn V85b.code = true := by kernel_rfl
end Go.Proofs.YtidcpndlloppdaaGreat
