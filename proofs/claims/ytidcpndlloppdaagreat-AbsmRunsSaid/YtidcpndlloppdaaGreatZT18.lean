import Derived.Test.YtidcpndlloppdaaGreatZM21q
import Derived.Test.YtidcpndlloppdaaGreatZM17
/-
 Layer 21: Roots: the refs of all frames,from the top down.
 Conditions: the machine lies in memory as told; frames have few words.
-/
set_option linter.unusedVariables false
set_option linter.unusedSimpArgs false
set_option maxRecDepth 20000
namespace Go.Proofs.YtidcpndlloppdaaGreat
open Go.RowKit
theorem flat_rows {n : Nat} : ∀ {rows : List (List Value)} {i : Nat} {row : List Value},(∀ r ∈ rows,r.length = n) → rows[i]? = some row → ∀ (j : Nat) (v : Value),row[j]? = some v → rows.flatten[i * n + j]? = some v
 | [],i,row,_,h,j,v,hv => by simp at h
 | r :: rs,0,row,hl,h,j,v,hv => by
   simp at h; subst h
   rw [List.flatten_cons,Nat.zero_mul,Nat.zero_add,List.getElem?_append_left (List.getElem?_eq_some_iff.1 hv).1]
   exact hv
 | r :: rs,i + 1,row,hl,h,j,v,hv => by
   have hr := hl r List.mem_cons_self
   have := flat_rows (n := n) (rows := rs) (i := i) (fun x hx => hl x (List.mem_cons_of_mem _ hx)) (by simpa using h) j v hv
   rw [List.flatten_cons,List.getElem?_append_right (by rw [hr,Nat.succ_mul]; omega),hr,show (i + 1) * n + j - n = i * n + j by rw [Nat.succ_mul]; omega]
   exact this
def rowsC (fs : List Frm) (ss : List Sl) : List (List Value) := List.zipWith frmC fs ss
theorem stack_rows : ∀ {fs : List Frm} {ss : List Sl},stackC fs ss = (rowsC fs ss).reverse.flatten
 | [],ss => by simp [stackC,rowsC]
 | x :: r,[] => by simp [stackC,rowsC]
 | x :: r,s :: t => by
   show stackC r t ++ frmC x s = (rowsC (x :: r) (s :: t)).reverse.flatten
   rw [stack_rows (fs := r) (ss := t)]
   simp [rowsC]
theorem rowsC_len {fs : List Frm} {ss : List Sl} : ∀ r ∈ (rowsC fs ss).reverse,r.length = 8 := fun r hr => by
 rw [List.mem_reverse] at hr
 obtain ⟨i,hi⟩ := List.getElem?_of_mem hr
 unfold rowsC at hi
 rw [List.getElem?_zipWith] at hi
 cases h1 : fs[i]? with
 | none => rw [h1] at hi; simp at hi
 | some x => cases h2 : ss[i]? with
   | none => rw [h1,h2] at hi; simp at hi
   | some s => rw [h1,h2] at hi; simp at hi; subst hi; rfl
theorem rowsC_get {fs : List Frm} {ss : List Sl} {k : Nat} {row : List Value} (h : (rowsC fs ss)[k]? = some row) : ∃ x s,fs[k]? = some x ∧ ss[k]? = some s ∧ row = frmC x s := by
 unfold rowsC at h
 rw [List.getElem?_zipWith] at h
 cases h1 : fs[k]? with
 | none => rw [h1] at h; simp at h
 | some x => cases h2 : ss[k]? with
   | none => rw [h1,h2] at h; simp at h
   | some s => rw [h1,h2] at h; simp at h; exact ⟨x,s,rfl,rfl,h.symm⟩
theorem FrmsM.get {w : World} {B : Nat} : ∀ {fs : List Frm} {ss : List Sl} {k : Nat} {x : Frm} {s : Sl},FrmsM w B fs ss → fs[k]? = some x → ss[k]? = some s → FrmM w B x s
 | [],[],k,x,s,_,h,_ => by simp at h
 | y :: r,t :: u,0,x,s,hF,h,h' => by simp at h h'; subst h; subst h'; exact hF.1
 | y :: r,t :: u,k + 1,x,s,hF,h,h' => FrmsM.get hF.2 (by simpa using h) (by simpa using h')
 | [],_ :: _,_,_,_,hF,_,_ => hF.elim
 | _ :: _,[],_,_,_,hF,_,_ => hF.elim
def RefsF (p : List Fnc) (x : Frm) : Prop := ∃ fn,fnAt p x.f = some fn ∧ 0 ≤ fn.refs ∧ fn.refs ≤ (x.locals.length : Int) ∧ x.locals.length ≤ 1000
section
variable {w0 : World} {B0 g : Nat} {C : Option Addr} {c : Nat} {p : List Fnc} {m : Mach} {T : Value} {ss : List Sl} {A : Option Addr} {cap : Nat}
theorem vc_19b (h : MachAt w0 B0 g C c p m (.slice A m.frames.length cap) T ss) {k : Nat} {x : Frm} {s : Sl} (hx : m.frames[k]? = some x) (hs : ss[k]? = some s) (hr : RefsF p x) {B l D q1 q3 qs q5 : Nat} {r : Loop} {ys : List Int} {F : Value} (hys : ys.length ≤ 100000000)
   {w : World} (hb : BdAt w0 B l D r w q1 q3 qs g F ys) {dA LA OA : Option Addr} {dl dc Ll Lc Ol Oc : Nat} (e1 : s.D = .slice dA dl dc) (e2 : s.L = .slice LA Ll Lc) (e3 : s.O = .slice OA Ol Oc)
   {R : World → Prop} (hR : ∀ w,BdAt w0 B l D r w q1 q3 qs g F (ys ++ refsF p x) → R w) :
   V85b.vc B R ⟨q1,0,none⟩ ⟨q3,0,none⟩ q5 x.f x.pc x.mode x.dfd x.value dA dl dc LA Ll Lc OA Ol Oc w := by
 unfold V85b.vc
 obtain ⟨fn,hfn,hr0,hr1,hr2⟩ := hr
 obtain ⟨hmem,hf0,hfg,hflt⟩ := fnAt_mem hfn
 refine ⟨some ⟨g,0,none⟩,at_cell hb.rt.m rfl, ?_⟩
 simp only [caseP]
 have low : ∀ {q v},w0.cell? q = some v → w.cell? q = some v := fun hq => below_keeps hb.rt.below _ _ hq
 refine ⟨C,p.length,c, ?_, ?_⟩
 · rw [own_add,bx_add]; exact low (h.cell (i := 0) rfl)
 obtain ⟨fn',q,C',c',hf',hq,k0,k1,k2,k3,hcode⟩ := prog_at h.prog.prog (i := x.f.toNat) (by omega)
 rw [hfg] at hf'
 cases hf'
 refine ⟨q,hq,hf0,hflt,fn.refs,low k2, ?_⟩
 have hF := h.pcs.each.get hx hs
 have hL := hF.L
 rw [e2] at hL
 have hLl : Ll = x.locals.length := by
   rcases hL.2 with ⟨hv,h0⟩ | ⟨G,cap',cur,hv,_⟩
   · cases hv; exact h0.symm
   · cases hv; rfl
 subst hLl
 obtain ⟨t,ht⟩ : ∃ t : Nat,t = x.locals.length - fn.refs.toNat := ⟨_,rfl⟩
 have hw : IntKind.wrap .i64 ((x.locals.length : Int) - fn.refs) = (t : Int) := by rw [wrap_id (by omega) (by omega)]; omega
 rw [hw]
 simp only [Int.toNat_natCast]
 refine ⟨by omega,by omega,x.locals.length - t + 1, ?_⟩
 have hzs : (x.locals.drop t).length = x.locals.length - t := List.length_drop
 have := l0_85 (w0 := w0) (B := B) (l := l) (D := D) (q1 := q1) (q3 := q3) (qs := qs) (g := g) (r := r) (F := F) (ys := ys) (zs := x.locals.drop t) (A := if Lc = t then LA else Option.map (fun a => a.add t) LA) (c := Lc - t) (n := x.locals.length - t) (R := R) hzs.symm (by omega) hys (fun i y hy => ?_) (fun w hb => hR w ?_) (x.locals.length - t + 1) 0 w (by omega) (by omega) (by simpa using hb)
 · exact this
 · have hlt := (List.getElem?_eq_some_iff.1 hy).1
   rw [hzs] at hlt
   rw [List.getElem?_drop] at hy
   rcases hL.2 with ⟨hv,h0⟩ | ⟨G,cap',cur,hv,_,_,hcap,_⟩
   · omega
   · cases hv
     refine ⟨⟨G,t,none⟩,by rw [if_neg (by omega)]; show some ((⟨G,0,none⟩ : Addr).add t) = _; rw [own_add], ?_⟩
     rw [bx_add]
     exact owns_cell hL (by unfold u64s; rw [List.getElem?_map,hy]; rfl)
 · have : refsF p x = (x.locals.drop t).filter fun w => w != 0 := by unfold refsF; rw [fnD_eq hfn,ht]
   rw [this]; exact hb
end
def RootsQ (xs : List Int) (w : World) : Value → World → Prop := fun v w' => w'.ownsRow w.heap.size 55 1 v xs.length (u64s xs)
def Ahead (w0 : World) (g : Nat) (F : Value) : Value → Nat → Option Addr → Nat → Nat → Nat → Addr → World → Prop := fun v q3 A3 l3 c3 q1 m1 w =>
 A3 = none ∧ l3 = 0 ∧ c3 = 0 ∧ m1 = ⟨g,0,none⟩ ∧ w0.heap.size ≤ q1 ∧ w0.heap.size ≤ q3 ∧ Ext w0.heap.size w0 w ∧ ∃ qs,w0.heap.size ≤ qs ∧ v = .func (.func 161) #[] #[.pointer (some ⟨qs,0,none⟩)] ∧ w.heap[qs]? = some (.cells ⟨[F]⟩ 40 (0,0))
theorem yields128 (A : Option Addr) (n c : Nat) (w : World) : Yields Tryz.prog 128 [.slice A n c] w fun v w' => v = .func (.func 161) #[] #[.pointer (some ⟨w.heap.size,0,none⟩)] ∧ w'.heap[w.heap.size]? = some (.cells ⟨[.slice A n c]⟩ 40 (0,0)) :=
 Calls.mono (calls128 A n c w) fun e w' ⟨he,hw⟩ => by
   subst hw
   exact ⟨_,he,⟨rfl,World.alloc_heap_new w _⟩,(Below.refl _ _).alloc (Nat.le_refl _) _⟩
section
variable {w0 : World} {B0 g : Nat} {C : Option Addr} {c : Nat} {p : List Fnc} {m : Mach} {T : Value} {ss : List Sl} {A : Option Addr} {cap : Nat}
theorem vc_19p (h : MachAt w0 B0 g C c p m (.slice A m.frames.length cap) T ss) : V85p.vc w0.heap.size (Ahead w0 g (.slice A m.frames.length cap)) ⟨g,0,none⟩ w0 := by
 intro q1 h1 q3 h3
 rw [own_add]
 refine ⟨A,_,cap,h.cell (i := 6) rfl, ?_⟩
 refine call_yieldsX (Nat.le_refl _) (fun w1 e1 => yields128 A m.frames.length cap w1) fun w1 v w2 w' hs ⟨hv,hQ⟩ hsame he => ?_
 subst hv
 exact ⟨_,rfl,rfl,rfl,rfl,rfl,h1,h3,he,w1.heap.size,hs,rfl,by rw [hsame _ (Nat.le_refl _)]; exact hQ⟩
end
theorem code19 : ((Tryz.f85.body).getD .skip) = .seq (cL ((Tryz.f85.body).getD .skip)) (.seq (cL (cR ((Tryz.f85.body).getD .skip))) (.seq (cL (cR (cR ((Tryz.f85.body).getD .skip)))) (.seq (.seq (cL (cL (cR (cR (cR ((Tryz.f85.body).getD .skip)))))) (.block 0 (.rangeFunc (.tmp 14) #[15, 16] V85a.code V85b.code))) (.seq (.region 12 #[{ dst := some 46, op := .load 31 (.tmp 3), type := 31, pos := "absm.go:238", after := #[], guard := none }, { dst := some 2, op := .assign (.tmp 46), type := 31, pos := "absm.go:238", after := #[{ on := 0, ground := .data }, { on := 0, ground := .phase }], guard := none }] false) .ret)))) := by kernel_rfl
theorem zip_two (T : Array Value) (u v : Value) : (#[15,16].zip #[u,v]).foldl (fun t (x : Tmp × Value) => t.setIfInBounds x.fst x.snd) T = (T.setIfInBounds 15 u).setIfInBounds 16 v := by
 simp [Array.zip]
theorem getD_ne {T : Array Value} {i j : Nat} {v d : Value} (h : i ≠ j) : (T.setIfInBounds i v).getD j d = T.getD j d := by
 simp [Array.getD_eq_getD_getElem?,Array.getElem?_setIfInBounds,h]
theorem getD_eq {T : Array Value} {i : Nat} {v d : Value} (h : i < T.size) : (T.setIfInBounds i v).getD i d = v := by
 simp [Array.getD_eq_getD_getElem?,h]
theorem look3 {i a b c : Nat} {x y z : Value} {sv : SV} (h : look [(a,SV.v x),(b,SV.v y),(c,SV.v z)] i = some sv) : (i = a ∧ sv = .v x) ∨ (i = b ∧ sv = .v y) ∨ (i = c ∧ sv = .v z) := by
 rw [look_cons] at h
 split at h
 · rename_i e; cases h; exact .inl ⟨e,rfl⟩
 rw [look_cons] at h
 split at h
 · rename_i e; cases h; exact .inr (.inl ⟨e,rfl⟩)
 rw [look_cons] at h
 split at h
 · rename_i e; cases h; exact .inr (.inr ⟨e,rfl⟩)
 · cases h
theorem RtAt.drew {w0 W : World} {q1 q3 qs g : Nat} {F : Value} {ys : List Int} (h : RtAt w0 W q1 q3 qs g F ys) (n : Nat) : RtAt w0 { W with drawn := n } q1 q3 qs g F ys :=
 ⟨⟨h.below.os,h.below.tape,h.below.output,h.below.size,h.below.block⟩,h.m,h.s,h.out,h.new⟩
section
variable {w0 : World} {B0 g : Nat} {C : Option Addr} {c : Nat} {p : List Fnc} {m : Mach} {T : Value} {ss : List Sl} {A : Option Addr} {cap : Nat}
theorem round19 (h : MachAt w0 B0 g C c p m (.slice A m.frames.length cap) T ss) {k : Nat} {x : Frm} {s : Sl} (hx : m.frames[k]? = some x) (hs : ss[k]? = some s) (hr : RefsF p x) {q1 q3 qs l D : Nat} {r : Loop} {ys : List Int} {F : Value} (hys : ys.length ≤ 100000000)
   {W : World} (hI : RtAt w0 W q1 q3 qs g F ys) (hl : W.heap[l]? = some (.loop r)) (hD : W.heap[D]? = some (.deferred (some []))) (hlw : w0.heap.size ≤ l) (hDl : D ≠ l) {tmps : Array Value} (hsz : tmps.size = 47)
   (t1 : tmps.getD 1 undef = .pointer (some ⟨q1,0,none⟩)) (t3 : tmps.getD 3 undef = .pointer (some ⟨q3,0,none⟩)) (t16 : tmps.getD 16 undef = .agg ⟨frmC x s⟩) :
   V85a.code.wpIn (Fence.wide.inRound l) 0 Tryz.prog (Exit.then (fun a₁ W₁ => W₁.heap[l]? = some (.loop r) ∧
       ∀ r2 : Loop,V85b.code.wpIn (Fence.wide.inRound l) 0 Tryz.prog (fun e _ W₃ => e = .normal ∧ W₃.heap[l]? = some (.loop r2) ∧ W₃.heap[D]? = some (.deferred (some [])) ∧ RtAt w0 W₃ q1 q3 qs g F (ys ++ refsF p x))
         a₁ (W₁.putObj l (.loop r2))) (fun _ _ _ => False)) { tmps := tmps,defers := [] } W := by
 have hF := h.pcs.each.get hx hs
 obtain ⟨Dd,L,O,dc,lc,oc,hsl⟩ := hF.sl
 have hlB := (Array.getElem?_eq_some_iff.1 hl).1
 have hDB := (Array.getElem?_eq_some_iff.1 hD).1
 have hRep0 : Rep (V85a.cfg W.heap.size).n [(1,.v (.pointer (some ⟨q1,0,none⟩))),(3,.v (.pointer (some ⟨q3,0,none⟩))),(16,.v (.agg ⟨frmC x s⟩))] [] W { tmps := tmps,defers := [] } W :=
   rep_start hsz rfl fun i sv hi => by
     rcases look3 hi with ⟨rfl,rfl⟩ | ⟨rfl,rfl⟩ | ⟨rfl,rfl⟩
     · exact ⟨_,rfl,t1⟩
     · exact ⟨_,rfl,t3⟩
     · exact ⟨_,rfl,t16⟩
 have hb : ∀ r2 : Loop,BdAt w0 W.heap.size l D r2 (W.putObj l (.loop r2)) q1 q3 qs g F ys := fun r2 =>
   ⟨hI.put hl rfl hlw,⟨hI.below.size,hlB,hDB,by simp⟩,World.putObj_heap_same hlB,by rw [World.putObj_heap_other hDl]; exact hD⟩
 obtain ⟨R1,hR1⟩ : ∃ R1 : Addr → Addr → Nat → Int → Int → Int → Bool → Int → Option Addr → Nat → Nat → Option Addr → Nat → Nat → Option Addr → Nat → Nat → World → Prop,R1 = fun m1 out3 q5 f pc mode dfd val dA dl dc LA Ll Lc OA Ol Oc w => w = W ∧ ∀ r2 : Loop,V85b.vc W.heap.size (fun w => BdAt w0 W.heap.size l D r2 w q1 q3 qs g F (ys ++ refsF p x)) m1 out3 q5 f pc mode dfd val dA dl dc LA Ll Lc OA Ol Oc (W.putObj l (.loop r2)) := ⟨_,rfl⟩
 have hvA : V85a.vc W.heap.size R1 ⟨q1,0,none⟩ ⟨q3,0,none⟩ x.f x.pc x.mode x.dfd x.value Dd x.dfs.length dc L x.locals.length lc O x.ops.length oc W := by
   intro q5 _
   subst hR1
   exact ⟨rfl,fun r2 => vc_19b h hx hs hr hys (hb r2) hsl.D hsl.L hsl.O fun w hw => hw⟩
 have hwA := Eq.mpr (V85a.vc_eq W.heap.size R1 ⟨q1,0,none⟩ ⟨q3,0,none⟩ x.f x.pc x.mode x.dfd x.value Dd x.dfs.length dc L x.locals.length lc O x.ops.length oc W) hvA
 have hag : frmC x s = [.int .i64 x.f,.int .i64 x.pc,.int .i64 x.mode,.bool x.dfd,.int .u64 x.value,.slice Dd x.dfs.length dc,.slice L x.locals.length lc,.slice O x.ops.length oc] := by
   unfold frmC; rw [hsl.D,hsl.L,hsl.O]
 rw [hag] at hRep0
 refine wpIn_mono (piece_in (c := V85a.cfg W.heap.size) (V85a.cfgOk _) mixed V85a.codeIn (V85a.obl W.heap.size R1) hRep0 hwA) ?_
 rintro ex a2 W2 ⟨rfl,vs,bs,w2,hK,hall,hRep⟩
 revert hK hRep
 refine hall (fun vs bs w2 => (V85a.fin R1).K [] vs bs w2 → Rep (V85a.cfg W.heap.size).n (mkE (V85a.fin R1).slots vs (mkP (V85a.fin R1).keys)) (mkB (V85a.fin R1).keys bs) w2 a2 W2 → _) ?_
 intro m1 out3 q5 f pc mode dfd val dA dl dc2 LA Ll Lc OA Ol Oc w2 hK hRep
 have hK' : R1 m1 out3 q5 f pc mode dfd val dA dl dc2 LA Ll Lc OA Ol Oc w2 := hK
 rw [hR1] at hK'
 obtain ⟨rfl,hvB⟩ := hK'
 have hl2 : W2.heap[l]? = some (.loop r) := (hRep.pad.low l hlB).trans hl
 refine ⟨hl2,fun r2 => ?_⟩
 have hRep3 : Rep (V85b.cfg w2.heap.size).n [(1,.v (.pointer (some m1))),(3,.v (.pointer (some out3))),(5,.bx 5 0)] [(5,⟨q5,99,[.int .i64 f,.int .i64 pc,.int .i64 mode,.bool dfd,.int .u64 val,.slice dA dl dc2,.slice LA Ll Lc,.slice OA Ol Oc]⟩)] (w2.putObj l (.loop r2)) a2 (W2.putObj l (.loop r2)) :=
   hRep.putLow hl2 rfl rfl hlB
 refine wpIn_mono (piece_in (c := V85b.cfg w2.heap.size) (V85b.cfgOk _) mixed V85b.codeIn (V85b.obl w2.heap.size _) hRep3 (Eq.mpr (V85b.vc_eq w2.heap.size _ _ _ _ _ _ _ _ _ _ _ _ _ _ _ _ _ _ _) (hvB r2))) ?_
 rintro ex a3 W3 ⟨rfl,vs,bs,w3,hK3,_,hRep4⟩
 have hb3 : BdAt w0 w2.heap.size l D r2 w3 q1 q3 qs g F (ys ++ refsF p x) := hK3
 have hb4 := hb3.ext hRep4.pad
 exact ⟨rfl,hb4.lrec,hb4.dfr,hb4.rt⟩
end
theorem yields85 {w0 : World} {B0 g : Nat} {C : Option Addr} {c : Nat} {p : List Fnc} {m : Mach} {F T : Value} {ss : List Sl} (h0 : MachAt w0 B0 g C c p m F T ss) (hfr : ∀ x ∈ m.frames,RefsF p x) (hn : m.frames.length ≤ 100000) :
   Yields Tryz.prog 85 [.pointer (some ⟨g,0,none⟩)] w0 (RootsQ (rootsM p m) w0) := by
 obtain ⟨A,cap,hv⟩ := owns_slice0 h0.pcs.frames
 subst hv
 have h := h0
 refine calls_marks (c := ((Tryz.f85.body).getD .skip)) Tryz.func85 (by kernel_rfl) ?_
 rw [code19]
 have hvc := Eq.mpr (V85p.vc_eq w0.heap.size (Ahead w0 g (.slice A m.frames.length cap)) ⟨g,0,none⟩ w0) (vc_19p h)
 have hob := V85p.obl w0.heap.size (Ahead w0 g (.slice A m.frames.length cap))
 have hR0 : Rep (V85p.cfg w0.heap.size).n (argE 0 [.pointer (some ⟨g,0,none⟩)]) [] w0 { tmps := ⟨[.pointer (some ⟨g,0,none⟩)]⟩ ++ Array.replicate (Tryz.f85.ntmps - (⟨[.pointer (some ⟨g,0,none⟩)]⟩ : Array Value).size) undef,defers := [] } w0 :=
   rep_enter (by kernel_rfl) (by kernel_rfl) rfl
 refine nest4 (c := V85p.cfg w0.heap.size) rfl (V85p.cfgOk _) mixed (h1 := .z) (h2 := .s (.z) (.c (.s (.z) (.z)) (.z))) (h3 := .z) (h4 := .z) hob hR0 hvc fun a1 W1 hend => ?_
 obtain ⟨vs,bs,w1,hK,hall,hRep⟩ := hend
 revert hK hRep
 refine hall (fun vs bs w1 => (V85p.fin (Ahead w0 g (.slice A m.frames.length cap))).K [] vs bs w1 → Rep _ (mkE _ vs _) (mkB _ bs) w1 a1 W1 → _) ?_
 intro v14 q3 A3 l3 c3 q1 m1 w1 hK hRep
 have hK' : Ahead w0 g (.slice A m.frames.length cap) v14 q3 A3 l3 c3 q1 m1 w1 := hK
 obtain ⟨rfl,rfl,rfl,rfl,n1,n3,e1,qs,ns,rfl,hqs⟩ := hK'
 have s14 : a1.tmps.getD 14 undef = .func (.func 161) #[] #[.pointer (some ⟨qs,0,none⟩)] := (Option.some.inj (hRep.slots 14 _ rfl)).symm
 have s1 : a1.tmps.getD 1 undef = .pointer (some ⟨q1,0,none⟩) := (Option.some.inj (hRep.slots 1 (.bx 1 0) rfl)).symm
 have s3 : a1.tmps.getD 3 undef = .pointer (some ⟨q3,0,none⟩) := (Option.some.inj (hRep.slots 3 (.bx 3 0) rfl)).symm
 have b1 : W1.heap[q1]? = some (.cells ⟨[.pointer (some ⟨g,0,none⟩)]⟩ 75 (0,0)) := hRep.boxes 1 _ rfl
 have b3 : W1.heap[q3]? = some (.cells ⟨[.slice none 0 0]⟩ 31 (0,0)) := hRep.boxes 3 _ rfl
 have hsz : a1.tmps.size = 47 := hRep.size
 have hnd : a1.defers = [] := hRep.nodef
 have eW : Ext w0.heap.size w1 W1 := hRep.pad
 have hI0 : RtAt w0 W1 q1 q3 qs g (.slice A m.frames.length cap) [] := ⟨eW.after (e1.after (Below.refl _ _)),b1,eW.row _ _ _ _ hqs,⟨_,b3,World.ownsRow_nil _ _ _ _⟩,n1,n3,ns⟩
 have hlen := h.pcs.len
 refine wp_block ?_
 have hmx : m.frames.length ≤ maxLen := by simp only [maxLen]; omega
 have hrl : (rowsC m.frames ss).length = m.frames.length := by unfold rowsC; rw [List.length_zipWith,hlen]; omega
 have hh := hands56 (q := qs) (A := A) (n := m.frames.length) (c := cap) (xs := (rowsC m.frames ss).reverse) (by rw [List.length_reverse,hrl]) hmx (Src := fun W => W.cell? ⟨qs,0,none⟩ = some (.slice A m.frames.length cap) ∧ Below w0.heap.size w0 W) (fun W hW => hW.1) (fun W hW i row hi => by
   have hlt := (List.getElem?_eq_some_iff.1 hi).1
   rw [List.length_reverse,hrl] at hlt
   have hcells := h.pcs.frames
   obtain ⟨G,cap',hv,_,_⟩ := owns_some hcells (by omega)
   cases hv
   refine ⟨_,rfl,rowsC_len row (List.mem_of_getElem? hi),fun j v hv => ?_⟩
   rw [own_add,bx_add]
   refine below_keeps hW.2 _ _ (owns_cell hcells ?_)
   rw [stack_rows]
   exact flat_rows rowsC_len hi j v hv)
 rw [List.reverse_reverse] at hh
 have hroots : ∀ k,((m.frames.take k).flatMap (refsF p)).length ≤ 100000000 := fun k => by
   have : ∀ l : List Frm,(∀ x ∈ l,x ∈ m.frames) → (l.flatMap (refsF p)).length ≤ l.length * 1000 := by
     intro l
     induction l with
     | nil => intro _; exact Nat.le_refl _
     | cons x r ih =>
       intro hm
       rw [List.flatMap_cons,List.length_append,List.length_cons]
       have h1 := ih fun y hy => hm y (List.mem_cons_of_mem _ hy)
       obtain ⟨_,_,_,_,h4⟩ := hfr x (hm x List.mem_cons_self)
       have h2 : (refsF p x).length ≤ x.locals.length := by
         unfold refsF
         refine Nat.le_trans (List.length_filter_le _ _) ?_
         rw [List.length_drop]; omega
       omega
   have h1 := this (m.frames.take k) fun x hx => List.mem_of_mem_take hx
   rw [List.length_take] at h1
   have h2 : min k m.frames.length * 1000 ≤ 100000 * 1000 := Nat.mul_le_mul_right _ (by omega)
   omega
 have nW : w0.heap.size ≤ W1.heap.size := hI0.below.size
 refine wp_range_hands (gf := 161) (lb := #[.pointer (some ⟨qs,0,none⟩)]) s14 (enters_of Tryz.func161 (by kernel_rfl) rfl) hh (fun _ _ => rfl) (I := fun k W => RtAt w0 W q1 q3 qs g (.slice A m.frames.length cap) ((m.frames.take k).flatMap (refsF p)))
   (fun k W hI => ⟨at_cell hI.s rfl,hI.below⟩) (fun k W l o o' hI hl ho hoc _ => hI.put ho hoc (by omega)) (fun k W n hI => hI.drew n) (fun r => ?_) (fun k row W r hrow hI hl hD => ?_) fun W hI hD => ?_
 · have a1 := (alloc1 (.deferred (some [])) (Ext.refl w0.heap.size W1) nW).1
   exact (hI0.ext a1 (Nat.le_refl _)).ext (alloc1 (.loop r) (Ext.refl w0.heap.size _) (Nat.le_trans nW a1.size)).1 (Nat.le_refl _)
 · obtain ⟨x,s,hx,hs,rfl⟩ := rowsC_get hrow
   have htk : (m.frames.take (k + 1)).flatMap (refsF p) = (m.frames.take k).flatMap (refsF p) ++ refsF p x := by rw [take_get hx,List.flatMap_append]; simp
   simp only [htk]
   refine round19 h hx hs (hfr x (List.mem_of_getElem? hx)) (hroots k) hI hl hD (by omega) (by omega) ?_ ?_ ?_ ?_
   · rw [zip_two]
     simp [hsz]
   · rw [zip_two,getD_ne (by decide),getD_ne (by decide)]; exact s1
   · rw [zip_two,getD_ne (by decide),getD_ne (by decide)]; exact s3
   · rw [zip_two,getD_eq (by simp [hsz])]
 · rw [hrl,List.take_length] at hI
   obtain ⟨v,hv,ho⟩ := hI.out
   obtain ⟨o1, ho1⟩ : ∃ o : Oper, o = { dst := some 46, op := .load 31 (.tmp 3), type := 31, pos := "absm.go:238", after := #[], guard := none } := ⟨_, rfl⟩
   obtain ⟨o2, ho2⟩ : ∃ o : Oper, o = { dst := some 2, op := .assign (.tmp 46), type := 31, pos := "absm.go:238", after := #[{ on := 0, ground := .data }, { on := 0, ground := .phase }], guard := none } := ⟨_, rfl⟩
   show (Code.seq (.region 12 #[{ dst := some 46, op := .load 31 (.tmp 3), type := 31, pos := "absm.go:238", after := #[], guard := none }, { dst := some 2, op := .assign (.tmp 46), type := 31, pos := "absm.go:238", after := #[{ on := 0, ground := .data }, { on := 0, ground := .phase }], guard := none }] false) .ret).wp Tryz.prog _ _ W
   rw [← ho1, ← ho2]
   refine tail_load (a := { tmps := a1.tmps,defers := { target := .collected W1.heap.size,args := #[] } :: a1.defers }) (o1 := o1) (o2 := o2) (x := 3) (y := 46) (z := 2) (t := 31) (q := ⟨q3,0,none⟩) (v := v) (by rw [ho1]) (by rw [ho1]) (by rw [ho1]) (by rw [ho2]) (by rw [ho2]) (by rw [ho2]) Tryz.isAgg31 s3 (at_cell hv rfl) (by rw [hsz]; decide) ?_
   have hput := hI.put (o' := .deferred none) hD rfl nW
   obtain ⟨v',hv',ho'⟩ := hput.out
   have hvv : v' = v := by
     rw [World.putObj_heap_other (by
       rintro rfl
       rw [hv] at hD; cases hD),hv] at hv'
     cases hv'; rfl
   subst hvv
   refine ⟨rfl,W1.heap.size,v',by rw [hnd],hD, ?_,_,rfl,ho',hput.below⟩
   rw [results_tmp (t := 2) (by kernel_rfl),getD_eq (by simp [hsz])]
end Go.Proofs.YtidcpndlloppdaaGreat

/-
 Layer 18: frames held against frames; the document's example.
 Conditions: the frames lie in memory as told.
-/
set_option linter.unusedVariables false
set_option linter.unusedSimpArgs false
namespace Go.Proofs.YtidcpndlloppdaaGreat
open Go.RowKit
theorem gives54 {w : World} {x : Frm} {s t : Sls} (hx : FrmAt w x s) (hy : FrmAt w x t) : Gives Tryz.prog 54 [frmV x s,frmV x t] w (.bool true) := by
 refine gives_of (V54.sound ?_)
 intro q2 _ q3 _
 rw [if_pos (by simp),if_pos (by simp),if_pos (by simp),if_pos (by simp),if_pos (by simp),if_neg (by simp)]
 have loop : ∀ (k i : Nat) (w' : World),x.dfs.length < i + k → i ≤ x.dfs.length → Below w.heap.size w w' →
     V54.l0 w.heap.size (IsV w (.bool true)) k i q3 x.f x.pc x.mode x.dfd x.value t.D x.dfs.length t.dc t.L x.locals.length t.lc t.O x.ops.length t.oc q2 x.f x.pc x.mode x.dfd x.value s.D x.dfs.length s.dc s.L x.locals.length s.lc s.O x.ops.length s.oc w' := by
   intro k
   induction k with
   | zero => intros; omega
   | succ k ih =>
     intro i w' hk hi hw'
     have hx' := hx.keep (below_keeps hw')
     have hy' := hy.keep (below_keeps hw')
     dsimp -zeta only [V54.l0]
     by_cases hlt : i < x.dfs.length
     · rw [if_pos (by simpa using hlt)]
       obtain ⟨d,a,hd,ha,d0,A,c,d1,hargs⟩ := hx'.dfs.at hlt
       obtain ⟨e,a',he,ha',e0,A',c',e1,hargs'⟩ := hy'.dfs.at hlt
       rw [hd] at he; cases he
       refine ⟨a,ha,by omega,by omega,d.f,d0,a',ha',by omega,by omega,d.f,e0, ?_⟩
       rw [if_pos (by simp)]
       refine ⟨a,ha,by omega,by omega,A,d.args.length,c,d1,a',ha',by omega,by omega,A',d.args.length,c',e1, ?_⟩
       refine call_gives hw' (fun w1 e1 _ => gives84 (RowAt.keep (NumE.kept _) hargs (ext_keeps e1)) (RowAt.keep (NumE.kept _) hargs' (ext_keeps e1))) fun w1 e1 hw1 => ⟨_,rfl, ?_⟩
       rw [if_neg (by simp)]
       have hwi := wrap_succ hlt hx.dfs.small
       rw [hwi]
       exact ih (i + 1) w1 (by omega) (by omega) hw1
     · rw [if_neg (by simpa using hlt)]
       refine call_gives hw' (fun w1 e1 _ => gives84 (RowAt.keep (NumE.kept _) hx'.locals (ext_keeps e1)) (RowAt.keep (NumE.kept _) hy'.locals (ext_keeps e1))) fun w1 e1 hw1 => ⟨_,rfl, ?_⟩
       rw [if_pos (by simp)]
       refine call_gives hw1 (fun w2 e2 _ => gives84 (RowAt.keep (NumE.kept _) (RowAt.keep (NumE.kept _) hx'.ops (ext_keeps e1)) (ext_keeps e2)) (RowAt.keep (NumE.kept _) (RowAt.keep (NumE.kept _) hy'.ops (ext_keeps e1)) (ext_keeps e2))) fun w2 e2 hw2 => ⟨_,rfl,ret_is hw2 (by simp)⟩
 exact ⟨x.dfs.length + 1,loop (x.dfs.length + 1) 0 w (by omega) (by omega) (Below.refl _ _)⟩
end Go.Proofs.YtidcpndlloppdaaGreat
