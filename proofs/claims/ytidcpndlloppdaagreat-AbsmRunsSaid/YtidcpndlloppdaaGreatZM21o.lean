import Derived.Test.YtidcpndlloppdaaGreatZR21i
import Derived.Test.YtidcpndlloppdaaGreatZN21
/-
 Layers 21,29: the document's machine: a step.
 Conditions: the program is right.
-/
set_option linter.unusedVariables false
set_option linter.unusedSimpArgs false
set_option maxRecDepth 20000
namespace Go.Proofs.YtidcpndlloppdaaGreat
open Go.RowKit
section
variable {w : World} {B g : Nat} {P : Option Addr} {pc : Nat} {p : List Fnc} {m : Mach} {A : Option Addr} {c : Nat} {T : Value} {qs : List (Frm × Sls)} {Z : Nat → Prop}
theorem ref_after {w' : World} {v : Value} {m' : Mach} {A' : Option Addr} {c' : Nat} {T' : Value} {qs' : List (Frm × Sls)} {Z' : Nat → Prop} {z : World} (hc : Chg (MutR g T) w z) (he : ExtS w.heap.size (MutR g T) z w') (h' : RefAt w' B g P pc p m' A' c' T' qs' Z') (hT : ∀ k,T'.ownBlock = some k → T.ownBlock = some k ∨ z.heap.size ≤ k) (hZ : ∀ k,Z' k → Z k ∨ z.heap.size ≤ k) :
   Ret w.heap.size w' (IsT w (MutR g T) (fun u w' => u = v ∧ RefQ w B g P pc p T Z m' w') v) :=
 ref_ret (he.chg hc fun k _ hk => hk) h' (fun k hk => (hT k hk).imp id fun h => Nat.le_trans hc.size h) fun k hk => (hZ k hk).imp id fun h => Nat.le_trans hc.size h
theorem turns47 (hr : Rt p) (h : RefAt w B g P pc p m A c T qs Z) (ho : MOk p m) {n : Nat} (hl : Lim m n) (hn : n ≤ 80000) : RefT 47 [.pointer (some ⟨g,0,none⟩)] w B g P pc p T Z (.int .i64 (stepM p m).2) (stepM p m).1 := by
 have l1 := hl.refs
 have l2 := hl.frames
 have l3 := hl.trace
 refine turns_of (V47.sound ?_)
 unfold V47.vc
 simp only [own_add,bx_add,Nat.add_zero]
 refine ⟨m.ended,h.cell (i := 3) rfl, ?_⟩
 have same : Chg (MutR g T) w w := Chg.refl _ _
 unfold stepM
 by_cases he : m.ended = true
 · rw [if_pos he,if_pos he]
   exact ref_ret same h (fun k hk => .inl hk) fun k hk => .inl hk
 rw [if_neg he,if_neg he]
 refine ⟨m.parked,h.cell (i := 4) rfl, ?_⟩
 by_cases hp : m.parked = true
 · rw [if_pos hp,if_pos hp]
   exact ref_ret same h (fun k hk => .inl hk) fun k hk => .inl hk
 rw [if_neg hp,if_neg hp]
 refine ⟨m.begun,h.cell (i := 2) rfl, ?_⟩
 unfold goM
 cases hb : m.begun with
 | false =>
   rw [if_pos (by rfl),if_pos rfl]
   refine ⟨⟨_,h.cell (i := 2) rfl⟩,h.fz 2, ?_⟩
   have h1 := h.setHead (i := 2) (v := .bool true) (m' := { m with begun := true }) rfl rfl rfl
   have c1 : Chg (MutR g T) w (w.setCell ⟨g,2,none⟩ (.bool true)) := Chg.setCell (a := ⟨g,2,none⟩) same _ fun _ => .inl rfl
   refine ⟨m.first,h1.cell (i := 1) rfl, ?_⟩
   obtain ⟨fn,hfn,hpar⟩ := ho.first
   have hsz := sized_bd (hr.sized fn (fnAt_mem hfn).1)
   exact call_ref (bs := []) c1.size h1 (fun w2 _ h2 => turns87 (args := []) hr h2 (by show m.frames.length ≤ _; omega) hfn (nums_nil _ _) (by show (0 : Int) ≤ _; omega) false) fun w' A' c' T' qs' Z' h' he hT hZ => ⟨rfl,ref_after (m' := { m with begun := true,frames := newF p m.first [] false :: m.frames }) c1 he h' hT hZ⟩
 | true =>
   rw [if_neg (by simp),if_neg (by simp)]
   have hne : m.frames ≠ [] := fun e => he ((ho.gone hb).2 e)
   rcases hm : m.frames with _ | ⟨x,r⟩
   · exact absurd hm hne
   have hrl : r.length < n := by rw [hm] at l2; simp only [List.length_cons] at l2; omega
   have hqm := h.frames
   rw [hm] at hqm
   obtain ⟨qs2,s,rfl,hr1,hk2⟩ := top_split hqm
   have hlq : (qs2 ++ [(x,s)]).length = r.length + 1 := by rw [List.length_append,hk2]; rfl
   obtain ⟨a,ha,hcell⟩ := h.frs.get (last_at hk2)
   have c6 := h.cell (i := 6) rfl
   rw [hlq] at c6
   refine ⟨_,_,_,c6,_,_,_,c6,a,ha, ?_⟩
   rw [top_ix (by omega)]
   simp only [Int.toNat_natCast]
   refine ⟨by omega,by omega,x.mode,hcell 2 _ rfl, ?_⟩
   by_cases h0 : x.mode = 0
   · rw [if_pos (by simpa using h0),if_pos h0]
     exact call_ref (bs := []) (Nat.le_refl _) h (fun w1 _ h1 => turns88 hr h1 ho hm h0 (by omega) (by omega) (by omega)) fun w' A' c' T' qs' Z' h' he hT hZ => ⟨rfl,ref_after same he h' hT hZ⟩
   · rw [if_neg (by simpa using h0),if_neg h0]
     exact call_ref (bs := []) (Nat.le_refl _) h (fun w1 _ h1 => turns89 hr h1 ho hm h0 (by omega) (by omega)) fun w' A' c' T' qs' Z' h' he hT hZ => ⟨rfl,ref_after same he h' hT hZ⟩
end
end Go.Proofs.YtidcpndlloppdaaGreat

/-
 Layer 21: AbsmTrace's function returns true.
 Conditions: the arguments' memory says what their values are.
-/
set_option linter.unusedVariables false
set_option linter.unusedSimpArgs false
set_option maxRecDepth 20000
namespace Go.Proofs.YtidcpndlloppdaaGreat
open Go.RowKit
section
variable {p : List Fnc} {fn : Fnc} (hr : Rt p) (hf : fnAt p 0 = some fn) (h0 : fn.params = 0)
include hr hf h0
end
end Go.Proofs.YtidcpndlloppdaaGreat

/-
 Layer 21: Frames: copies of all frames,from the bottom on.
 Conditions: the machine lies in memory as told; frames have few words.
-/
set_option linter.unusedVariables false
set_option linter.unusedSimpArgs false
set_option maxRecDepth 20000
namespace Go.Proofs.YtidcpndlloppdaaGreat
open Go.RowKit
theorem stackC_at {x : Frm} {b : List Frm} : ∀ {a : List Frm} {ss : List Sl},ss.length = (a ++ x :: b).length → ∃ s,(∀ j v,(frmC x s)[j]? = some v → (stackC (a ++ x :: b) ss)[b.length * 8 + j]? = some v) ∧ ∀ w B,FrmsM w B (a ++ x :: b) ss → FrmM w B x s
 | [],s :: t,h => ⟨s,fun j v hv => stackC_top (by simpa using h) hv,fun w B hF => hF.1⟩
 | y :: a,s' :: t,h => by
   have h' : t.length = (a ++ x :: b).length := by simpa using h
   obtain ⟨s,h1,h2⟩ := stackC_at (a := a) h'
   refine ⟨s,fun j v hv => ?_,fun w B hF => h2 w B hF.2⟩
   show (stackC (a ++ x :: b) t ++ frmC y s')[_]? = _
   rw [List.getElem?_append_left (List.getElem?_eq_some_iff.1 (h1 j v hv)).1]
   exact h1 j v hv
 | [],[],h => by simp at h
 | _ :: _,[],h => by simp at h
def SmallF (x : Frm) : Prop := x.locals.length ≤ 1000 ∧ x.ops.length ≤ 1000 ∧ x.dfs.length ≤ 1000 ∧ ∀ d ∈ x.dfs,d.args.length ≤ 1000
def FramesQ (fs : List Frm) (w : World) : Value → World → Prop := fun v w' => ∃ ss,w'.ownsRow w.heap.size 99 8 v fs.length (stackC fs ss) ∧ FrmsM w' w.heap.size fs ss
theorem take_get {α : Type} {l : List α} {i : Nat} {x : α} (h : l[i]? = some x) : l.take (i + 1) = l.take i ++ [x] := by
 rw [List.take_add_one,h]; rfl
structure CopyAt (w0 w : World) (n1 : Nat) (x : Frm) (b : List Frm) (ss : List Sl) (vo vd vL vO : Value) (vs : List Value) (u : Nat) : Prop where
 below : Below w0.heap.size w0 w
 base : w0.heap.size ≤ n1
 size : n1 ≤ w.heap.size
 out : w.ownsRow w0.heap.size 99 8 vo b.length (stackC b ss)
 frs : FrmsM w w0.heap.size b ss
 old : ∀ k,InSls ss k → k < n1
 D : w.ownsRow n1 149 2 vd u (dfrsC (x.dfs.take u) vs)
 args : ArgsM w w0.heap.size (x.dfs.take u) vs
 L : w.ownsRow w0.heap.size 55 1 vL x.locals.length (u64s x.locals)
 O : w.ownsRow w0.heap.size 55 1 vO x.ops.length (u64s x.ops)
section
variable {w0 : World} {x : Frm} {s : Sl} {b : List Frm} {ss : List Sl} {n1 : Nat}
theorem CopyAt.ext {w w' : World} {vo vd vL vO : Value} {vs : List Value} {u : Nat} (h : CopyAt w0 w n1 x b ss vo vd vL vO vs u) (he : Ext w0.heap.size w w') : CopyAt w0 w' n1 x b ss vo vd vL vO vs u :=
 have c := chg1_ext he 0
 ⟨he.after h.below,h.base,Nat.le_trans h.size he.size,he.owns h.out,h.frs.chg c fun k _ e => (by cases e),h.old,he.owns h.D,h.args.same fun a ha k hk => (by
   obtain ⟨_,cc,ff,hh⟩ := h.args.ty a ha k hk
   rw [hh]; exact he.row _ _ _ _ hh),he.owns h.L,he.owns h.O⟩
theorem l1_83 {R : Value → World → Prop} {L : Option Addr → Nat → Nat → Option Addr → Nat → Nat → Int → Int → World → Prop} {D : Option Addr} {dc : Nat} (hx : SmallF x) (hb0 : b.length ≤ 100000) (hDs : s.D = .slice D x.dfs.length dc) {B0 : Nat} (hF : FrmM w0 B0 x s)
   {F : Option Addr} {Fn Fc : Nat} {nn : Int} {E : Nat} {IL IO : Option Addr} {lL cL lO cO : Nat}
   (hk : ∀ A c w' ss',Below w0.heap.size w0 w' → w'.ownsRow w0.heap.size 99 8 (.slice A (b.length + 1) c) (b.length + 1) (stackC (x :: b) ss') → FrmsM w' w0.heap.size (x :: b) ss' → L A (b.length + 1) c F Fn Fc nn ((b.length + 1 : Nat) : Int) w') :
   ∀ (k u : Nat) (w : World) (AO : Option Addr) (cOut : Nat) (AD : Option Addr) (cD : Nat) (vs : List Value),x.dfs.length < u + k → u ≤ x.dfs.length → CopyAt w0 w n1 x b ss (.slice AO b.length cOut) (.slice AD u cD) (.slice IL lL cL) (.slice IO lO cO) vs u →
     V83.l1 w0.heap.size R L k AO b.length cOut AD u cD F Fn Fc nn (b.length : Int) D x.dfs.length dc ((x.dfs.length : Nat) : Int) (u : Int) E x.f x.pc x.mode x.dfd x.value D x.dfs.length dc IL lL cL IO lO cO w
 | 0,u,w,AO,cOut,AD,cD,vs,hk',hu,_ => by omega
 | k + 1,u,w,AO,cOut,AD,cD,vs,hk',hu,h => by
   dsimp -zeta only [V83.l1]
   obtain ⟨hx1,hx2,hx3,hx4⟩ := hx
   by_cases hlt : u < x.dfs.length
   · rw [if_pos (by simp; omega)]
     obtain ⟨d,hd⟩ : ∃ d,x.dfs[u]? = some d := ⟨_,List.getElem?_eq_getElem hlt⟩
     obtain ⟨a,ha,hao⟩ := hF.args.get hd
     obtain ⟨k1,k2⟩ := dfrsC_get hd ha
     obtain ⟨A,ac,hav⟩ := owns_slice0 hao
     subst hav
     have hDo := hF.D
     rw [hDs] at hDo
     obtain ⟨gd,cd,hDv,_,_⟩ := owns_some hDo (by omega)
     cases hDv
     have low : ∀ {q v},w0.cell? q = some v → w.cell? q = some v := fun hq => below_keeps h.below _ _ hq
     refine ⟨_,rfl,by omega,by omega,d.f, ?_,A,d.args.length,ac, ?_,fun q1 _ => ?_⟩
     · simp only [Int.toNat_natCast,own_add,bx_add,Nat.zero_add,Nat.add_zero]; exact low (owns_cell hDo k1)
     · simp only [Int.toNat_natCast,own_add,bx_add,Nat.zero_add,Nat.add_zero]; exact low (owns_cell hDo k2)
     have hda := hx4 d (List.mem_of_getElem? hd)
     have hnum : Nums .u64 w A d.args.length d.args := RowAt.keep (NumE.kept .u64) (ownsU_nums hao (by omega)) (below_keeps h.below)
     refine cloned h.below.size hnum (by omega) fun A' c' w1 e1 ho1 => ⟨_,_,_,rfl, ?_⟩
     have h1 := h.ext e1
     refine expo_alloc h1.below.size fun w2 w3 hs2 e3 hlt3 ho3 => ?_
     have h3 := h1.ext e3
     have hrow3 := e3.owns (owns_down ho1 h.below.size)
     have hb : Tryz.t149.bytes = 32 := by kernel_rfl
     refine append_own (t := 97) (e := 149) (i := Tryz.t149) (z := .agg ⟨[.int .i64 0,.slice none 0 0]⟩) (size := 2) (bytes := 32) (by kernel_rfl) (by kernel_rfl) (by kernel_rfl) (by kernel_rfl) hb rfl (by omega) h3.D (m := 1) (news := [.int .i64 d.f,.slice A' d.args.length c']) rfl (fun j v hj => ?_) (fun v hv => ?_) (by simp only [maxLen]; omega) (by omega) h3.below.size h3.size fun D' w4 he ho' hn => ?_
     · rw [own_add]; exact at_cell ho3 hj
     · simp only [List.mem_cons,List.not_mem_nil,or_false] at hv
       rcases hv with rfl | rfl <;> rfl
     have hc := chg1_exts he h3.D
     obtain ⟨AD',cD',hv⟩ := owns_slice0 ho'
     subst hv
     refine ⟨AD',_,cD',rfl, ?_⟩
     rw [wrap_id (n := (u : Int) + 1) (by omega) (by omega)]
     refine l1_83 ⟨hx1,hx2,hx3,hx4⟩ hb0 hDs hF hk k (u + 1) w4 AO cOut AD' cD' (vs ++ [.slice A' d.args.length c']) (by omega) (by omega) ⟨?_,h.base,Nat.le_trans h3.size he.size,hc.ownT h3.out (by decide),h3.frs.chg hc fun k hk e => ?_,h.old, ?_, ?_,hc.ownT h3.L (by decide),hc.ownT h3.O (by decide)⟩
     · exact he.after (fun j hj => Nat.le_trans h.base (h3.D.lt j hj).1) h3.below
     · have := h.old k hk
       have := (h3.D.lt k e).1
       omega
     · rw [take_get hd,dfrsC_app h.args.len]; exact ho'
     · rw [take_get hd]
       refine ArgsM.app (hc.ownT hrow3 (by decide)) (h3.args.same fun a ha k hk => ?_)
       obtain ⟨_,cc,ff,hh⟩ := h3.args.ty a ha k hk
       exact hc.same (fun e => by obtain ⟨c2,f2,h2⟩ := hc.typ k e; rw [hh] at h2; cases h2) hh
   · have : u = x.dfs.length := by omega
     subst this
     rw [if_neg (by simp)]
     refine expo_alloc h.below.size fun w2 w3 hs2 e3 hlt3 ho3 => ?_
     have h3 := h.ext e3
     have hb : Tryz.t99.bytes = 112 := by kernel_rfl
     refine append_own (t := 40) (e := 99) (i := Tryz.t99) (z := .agg ⟨[.int .i64 0,.int .i64 0,.int .i64 0,.bool false,.int .u64 0,.slice none 0 0,.slice none 0 0,.slice none 0 0]⟩) (size := 8) (bytes := 112) (by kernel_rfl) (by kernel_rfl) (by kernel_rfl) (by kernel_rfl) hb rfl (by omega) h3.out (m := 1) (news := frmC x ⟨.slice AD x.dfs.length cD,.slice IL lL cL,.slice IO lO cO,vs⟩) rfl (fun j v hj => ?_) (fun v hv => ?_) (by simp only [maxLen]; omega) (by omega) h3.below.size h3.below.size fun v' w4 he ho' hn => ?_
     · rw [own_add]; exact at_cell ho3 hj
     · simp only [frmC,List.mem_cons,List.not_mem_nil,or_false] at hv
       rcases hv with rfl | rfl | rfl | rfl | rfl | rfl | rfl | rfl <;> rfl
     have hc := chg1_exts he h3.out
     obtain ⟨A',c',hv⟩ := owns_slice0 ho'
     subst hv
     refine ⟨A',_,c',rfl, ?_⟩
     rw [wrap_id (n := (b.length : Int) + 1) (by omega) (by omega)]
     have hD := h3.D
     have hA := h3.args
     rw [List.take_length] at hD hA
     have hFr : FrmM w3 w0.heap.size x ⟨.slice AD x.dfs.length cD,.slice IL lL cL,.slice IO lO cO,vs⟩ := ⟨owns_down hD h.base,hA,h3.L,h3.O⟩
     exact hk A' c' w4 (⟨.slice AD x.dfs.length cD,.slice IL lL cL,.slice IO lO cO,vs⟩ :: ss) (he.after (fun j hj => (h3.out.lt j hj).1) h3.below) ho' ⟨hFr.chgT hc (by decide) (by decide),h3.frs.chgT hc (by decide) (by decide)⟩
end
theorem ArgsM.down {w : World} {B B' : Nat} (hB : B' ≤ B) : ∀ {ds : List Dfr} {vs : List Value},ArgsM w B ds vs → ArgsM w B' ds vs
 | [],[],_ => trivial
 | d :: r,a :: u,h => ⟨owns_down h.1 hB,ArgsM.down hB h.2⟩
 | [],_ :: _,h => h.elim
 | _ :: _,[],h => h.elim
theorem FrmsM.down {w : World} {B B' : Nat} : ∀ {fs : List Frm} {ss : List Sl},FrmsM w B fs ss → B' ≤ B → FrmsM w B' fs ss
 | [],[],_,_ => trivial
 | x :: r,s :: t,h,hB => ⟨⟨owns_down h.1.D hB,ArgsM.down hB h.1.args,owns_down h.1.L hB,owns_down h.1.O hB⟩,FrmsM.down h.2 hB⟩
 | [],_ :: _,h,_ => h.elim
 | _ :: _,[],h,_ => h.elim
theorem FrmsM.mem {w : World} {B : Nat} : ∀ {fs : List Frm} {ss : List Sl},FrmsM w B fs ss → ∀ k,InSls ss k → k < w.heap.size := fun h k hk => by
 obtain ⟨_,e,c,f,h1,_⟩ := h.ty k hk
 exact lt_of_some h1
section
variable {w0 : World} {B g : Nat} {C : Option Addr} {c : Nat} {p : List Fnc} {m : Mach} {T : Value} {ss0 : List Sl} {A : Option Addr} {cap : Nat}
theorem l0_83 (h : MachAt w0 B g C c p m (.slice A m.frames.length cap) T ss0) (hsm : ∀ x ∈ m.frames,SmallF x) (hn : m.frames.length ≤ 100000) : ∀ (k i : Nat) (w : World) (AO : Option Addr) (cOut : Nat) (ss : List Sl),m.frames.length < i + k → i ≤ m.frames.length → Below w0.heap.size w0 w →
   w.ownsRow w0.heap.size 99 8 (.slice AO i cOut) i (stackC (m.frames.drop (m.frames.length - i)) ss) → FrmsM w w0.heap.size (m.frames.drop (m.frames.length - i)) ss →
   V83.l0 w0.heap.size (IsQ w0 (FramesQ m.frames w0)) k AO i cOut A m.frames.length cap (m.frames.length : Int) (i : Int) w
 | 0,i,w,AO,cOut,ss,hk,hi,_,_,_ => by omega
 | k + 1,i,w,AO,cOut,ss,hk,hi,hw,ho,hfs => by
   dsimp -zeta only [V83.l0]
   by_cases hlt : i < m.frames.length
   · rw [if_pos (by simp; omega)]
     obtain ⟨x,hxg⟩ : ∃ x,m.frames[m.frames.length - 1 - i]? = some x := ⟨_,List.getElem?_eq_getElem (by omega)⟩
     have hdrop : m.frames.drop (m.frames.length - 1 - i) = x :: m.frames.drop (m.frames.length - i) := by
       rw [drop_at hxg,show m.frames.length - 1 - i + 1 = m.frames.length - i by omega]
     have hsplit : m.frames = m.frames.take (m.frames.length - 1 - i) ++ x :: m.frames.drop (m.frames.length - i) := by rw [← hdrop,List.take_append_drop]
     have hbl : (m.frames.drop (m.frames.length - i)).length = i := by rw [List.length_drop]; omega
     have hsl := h.pcs.len
     have hcells := h.pcs.frames
     have hF := h.pcs.each
     have hxs := hsm x (List.mem_of_getElem? hxg)
     have ih := l0_83 h hsm hn k
     generalize m.frames.drop (m.frames.length - i) = b at *
     generalize m.frames.take (m.frames.length - 1 - i) = a at *
     rw [hsplit] at hsl hF
     obtain ⟨s,hs1,hs2⟩ := stackC_at (x := x) (b := b) (a := a) hsl
     have hfx := hs2 _ _ hF
     obtain ⟨D,L,O,dc,lc,oc,hs⟩ := hfx.sl
     obtain ⟨G,cap',hv,_,_⟩ := owns_some hcells (by omega)
     cases hv
     have cell : ∀ {j v},(frmC x s)[j]? = some v → w.cell? ⟨G,i * 8 + j,none⟩ = some v := fun {j v} hv => below_keeps hw _ _ (owns_cell hcells (by
       have := hs1 j v hv
       rw [← hsplit,hbl] at this
       exact this))
     have d5 := cell (j := 5) (v := .slice D x.dfs.length dc) (by show some s.D = _; rw [hs.D])
     have d6 := cell (j := 6) (v := .slice L x.locals.length lc) (by show some s.L = _; rw [hs.L])
     have d7 := cell (j := 7) (v := .slice O x.ops.length oc) (by show some s.O = _; rw [hs.O])
     simp only [Int.toNat_natCast,own_add,bx_add,Nat.add_zero,Nat.zero_add]
     refine ⟨_,rfl,by omega,by omega,x.f,by simpa only [own_add,bx_add,Nat.zero_add,Nat.add_zero] using cell (j := 0) rfl,x.pc,by simpa only [own_add,bx_add,Nat.zero_add] using cell (j := 1) rfl,x.mode,by simpa only [own_add,bx_add,Nat.zero_add] using cell (j := 2) rfl,x.dfd,by simpa only [own_add,bx_add,Nat.zero_add] using cell (j := 3) rfl,x.value,by simpa only [own_add,bx_add,Nat.zero_add] using cell (j := 4) rfl,D,_,dc,by simpa only [own_add,bx_add,Nat.zero_add] using d5,L,_,lc,by simpa only [own_add,bx_add,Nat.zero_add] using d6,O,_,oc,by simpa only [own_add,bx_add,Nat.zero_add] using d7,fun q1 _ => ?_⟩
     have hLo := hfx.L
     have hOo := hfx.O
     rw [hs.L] at hLo
     rw [hs.O] at hOo
     obtain ⟨hx1,hx2,hx3,hx4⟩ := hxs
     refine cloned hw.size (RowAt.keep (NumE.kept .u64) (ownsU_nums hLo (by omega)) (below_keeps hw)) (by omega) fun IL cL w1 e1 ho1 => ⟨_,_,_,rfl, ?_⟩
     have hw1 := e1.after hw
     refine cloned hw1.size (RowAt.keep (NumE.kept .u64) (ownsU_nums hOo (by omega)) (below_keeps hw1)) (by omega) fun IO cO w2 e2 ho2 => ⟨_,_,_,rfl, ?_⟩
     have hw2 := e2.after hw1
     have e12 := e1.trans e2
     have c12 := chg1_ext e12 0
     have hfs2 := hfs.chg c12 fun k _ e => by cases e
     have hcopy : CopyAt w0 w2 w2.heap.size x b ss (.slice AO b.length cOut) (.slice none 0 0) (.slice IL x.locals.length cL) (.slice IO x.ops.length cO) [] 0 :=
       ⟨hw2,hw2.size,Nat.le_refl _,by rw [hbl]; exact e12.owns ho,hfs2,hfs2.mem,World.ownsRow_nil _ _ _ _,trivial,e2.owns (owns_down ho1 hw.size),owns_down ho2 hw1.size⟩
     have := l1_83 (R := IsQ w0 (FramesQ m.frames w0)) (L := V83.l0 w0.heap.size (IsQ w0 (FramesQ m.frames w0)) k) (F := some ⟨G,0,none⟩) (Fn := m.frames.length) (Fc := cap) (nn := (m.frames.length : Int)) (E := q1) (s := s) ⟨hx1,hx2,hx3,hx4⟩ (by omega) hs.D hfx (fun A' c' w' ss' hw' ho' hfs' => by
       have hd' : m.frames.drop (m.frames.length - (b.length + 1)) = x :: b := by rw [hbl,show m.frames.length - (i + 1) = m.frames.length - 1 - i by omega]; exact hdrop
       exact ih (b.length + 1) w' A' c' ss' (by omega) (by omega) hw' (by rw [hd']; exact ho') (by rw [hd']; exact hfs')) (x.dfs.length + 1) 0 w2 AO cOut none 0 [] (by omega) (by omega) hcopy
     rw [hbl] at this
     exact ⟨x.dfs.length + 1,this⟩
   · have : i = m.frames.length := by omega
     subst this
     rw [if_neg (by simp)]
     rw [Nat.sub_self,List.drop_zero] at ho hfs
     exact ret_q hw fun w1 e1 => ⟨ss,e1.owns ho,hfs.chg (chg1_ext e1 0) fun k _ e => by cases e⟩
end
theorem yields83 {w : World} {B g : Nat} {C : Option Addr} {c : Nat} {p : List Fnc} {m : Mach} {F T : Value} {ss : List Sl} (h : MachAt w B g C c p m F T ss) (hsm : ∀ x ∈ m.frames,SmallF x) (hn : m.frames.length ≤ 100000) : Yields Tryz.prog 83 [.pointer (some ⟨g,0,none⟩)] w (FramesQ m.frames w) := by
 refine yields_of (V83.sound ?_)
 unfold V83.vc
 obtain ⟨A,cap,hv⟩ := owns_slice0 h.pcs.frames
 subst hv
 rw [own_add]
 refine ⟨A,_,cap,h.cell (i := 6) rfl,m.frames.length + 1, ?_⟩
 exact l0_83 h hsm hn (m.frames.length + 1) 0 w none 0 [] (by omega) (by omega) (Below.refl _ _) (by rw [Nat.sub_zero,List.drop_length]; exact World.ownsRow_nil _ _ _ _) (by rw [Nat.sub_zero,List.drop_length]; trivial)
theorem call_frames {w : World} {B g : Nat} {C : Option Addr} {c : Nat} {p : List Fnc} {m : Mach} {F T : Value} {ss : List Sl} {B0 : Nat} {bs : List Nat} {K : Value → World → Prop} (hB : B0 ≤ w.heap.size) (h : MachAt w B g C c p m F T ss) (hsm : ∀ x ∈ m.frames,SmallF x) (hn : m.frames.length ≤ 100000)
   (hk : ∀ A c' w' ss',Ext B0 w w' → w'.ownsRow w.heap.size 99 8 (.slice A m.frames.length c') m.frames.length (stackC m.frames ss') → FrmsM w' w.heap.size m.frames ss' → K (.slice A m.frames.length c') w') : CallK Tryz.prog 83 [.pointer (some ⟨g,0,none⟩)] B0 w bs K := by
 refine call_yieldsX (Q := fun w1 => FramesQ m.frames w1) hB (fun w1 e1 => yields83 (h.ext e1) hsm hn) fun w1 v w2 w' hs hQ hnew he => ?_
 obtain ⟨ss',ho,hfs⟩ := hQ
 obtain ⟨A,cap,hv⟩ := owns_slice0 ho
 subst hv
 have hfs' : FrmsM w' w1.heap.size m.frames ss' := hfs.same fun k hk => hnew k (hfs.ty k hk).1
 refine hk A cap w' ss' he (owns_down (owns_other ho fun j hj => hnew j (ho.lt j hj).1) hs) ?_
 exact hfs'.down hs
end Go.Proofs.YtidcpndlloppdaaGreat
