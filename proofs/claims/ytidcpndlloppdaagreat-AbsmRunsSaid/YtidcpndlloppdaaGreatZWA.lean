import Derived.Test.YtidcpndlloppdaaGreatRows
import Derived.Test.YtidcpndlloppdaaGreatZK17
import Derived.Test.YtidcpndlloppdaaGreatZEngD
import Derived.WalkKit
import Derived.ProofKit
import Derived.OpenShut
import Derived.ChangeOld
import Derived.Below
import Derived.SizedLaws
import Derived.Test.YtidcpndlloppdaaGreatZVA
import Derived.Test.YtidcpndlloppdaaGreatZEngC
import Derived.Test.YtidcpndlloppdaaGreatProg
/-
 Layers 21,22: what the arguments' memory says,read as programs.
 Conditions: none.
-/
set_option linter.unusedVariables false
set_option linter.unusedSimpArgs false
set_option maxRecDepth 100000
namespace Go.Proofs.YtidcpndlloppdaaGreat
open Go.ChangeShapes Go.WideShapes Go.ChangeAt Go.RowKit
theorem own17 : ownKnob Tryz.prog.godebug = none := by kernel_rfl
theorem laidOut17 : laidOutB Tryz.prog = true := by kernel_rfl
section
variable {H : Type} {enc : TypeId × Value → H} {w : World} {base : Nat} {spare : Nat → Bool} {held : Bool} {fuel : Nat}
theorem cells3 : Tryz.prog.cellsOf 3 = 1 := by kernel_rfl
theorem cells105 : Tryz.prog.cellsOf 105 = 3 := by kernel_rfl
theorem cells61 : Tryz.prog.cellsOf 61 = 1 := by kernel_rfl
theorem cells63 : Tryz.prog.cellsOf 63 = 4 := by kernel_rfl
theorem read_ins {cs : List Value} {x : DataW H × List MemPlace} (h : DataW.trod enc Tryz.prog w base spare held fuel 105 cs = some x) : ∃ i : Ins,cs = insV i := by
 obtain ⟨xs,n,_,_,hl,hx,hf⟩ := DataW.trod_struct Tryz.underlying105 h
 rw [cells105] at hl
 match cs,hl with
 | [a,b,c],_ =>
   have get : ∀ i (hi : i < 3),∃ y,xs[i]? = some y := fun i hi => ⟨_,List.getElem?_eq_getElem (by rw [hx]; exact hi)⟩
   obtain ⟨y0,h0⟩ := get 0 (by omega)
   obtain ⟨y1,h1⟩ := get 1 (by omega)
   obtain ⟨y2,h2⟩ := get 2 (by omega)
   have f0 := (hf 0 _ rfl).trans h0
   have f1 := (hf 1 _ rfl).trans h1
   have f2 := (hf 2 _ rfl).trans h2
   obtain ⟨n0,e0,_⟩ := DataW.trod_int Tryz.underlying3 f0
   obtain ⟨n1,e1,_⟩ := DataW.trod_int Tryz.underlying3 f1
   obtain ⟨n2,e2,_⟩ := DataW.trod_int Tryz.underlying3 f2
   replace e0 : List.take (Tryz.prog.cellsOf 3) (List.drop 0 [a,b,c]) = [.int .i64 n0] := e0
   replace e1 : List.take (Tryz.prog.cellsOf 3) (List.drop 1 [a,b,c]) = [.int .i64 n1] := e1
   replace e2 : List.take (Tryz.prog.cellsOf 3) (List.drop 2 [a,b,c]) = [.int .i64 n2] := e2
   rw [cells3] at e0 e1 e2
   cases e0
   cases e1
   cases e2
   exact ⟨⟨n0,n1,n2⟩,rfl⟩
theorem cellsq {a : Addr} {n : Nat} {cs : List Value} (h : w.cells? base a n = some cs) : cs.length = n ∧ ∀ i v,cs[i]? = some v → w.cell? (a.add i) = some v := by
 obtain ⟨_,hl,hc⟩ := World.cells?_some h
 exact ⟨hl,fun i v hv => by rw [hc i (by rw [← hl]; exact (List.getElem?_eq_some_iff.1 hv).1)]; exact hv⟩
theorem choose_list {α : Type} {n : Nat} {R : Nat → α → Prop} (h : ∀ i,i < n → ∃ x,R i x) : ∃ xs : List α,xs.length = n ∧ ∀ i x,xs[i]? = some x → R i x := by
 induction n with
 | zero => exact ⟨[],rfl,fun i x hx => by simp at hx⟩
 | succ n ih =>
   obtain ⟨xs,hl,hx⟩ := ih fun i hi => h i (by omega)
   obtain ⟨y,hy⟩ := h n (by omega)
   refine ⟨xs ++ [y],by simp [hl],fun i x hi => ?_⟩
   by_cases hin : i < n
   · exact hx i x (by rw [List.getElem?_append_left (by omega)] at hi; exact hi)
   · have := (List.getElem?_eq_some_iff.1 hi).1
     simp [hl] at this
     have hin : i = n := by omega
     subst hin
     rw [List.getElem?_append_right (by omega),hl] at hi
     simp at hi
     subst hi
     exact hy
theorem read_code {cs : List Value} {x : DataW H × List MemPlace} (h : DataW.trod enc Tryz.prog w base spare held fuel 61 cs = some x) : ∃ A c xs,cs = [.slice A xs.length c] ∧ CodeAt w A xs.length xs := by
 rcases DataW.trod_slice Tryz.underlying61 h with ⟨rfl,_⟩ | ⟨a,len,cap,elems,rest,n,_,rfl,_,_,hlc,hm,hl,hel,_⟩
 · exact ⟨none,0,[],rfl,rfl,Nat.zero_le _,fun i x h => by simp at h⟩
 · obtain ⟨xs,hxl,hx⟩ := choose_list (n := len) (R := fun i (x : Ins) => InsE w (a.add (i * 3)) x) fun i hi => by
     obtain ⟨y,hy⟩ : ∃ y,elems[i]? = some y := ⟨_,List.getElem?_eq_getElem (by rw [hl]; exact hi)⟩
     have := (hel i hi).trans hy
     rw [cells105,Option.bind_eq_some_iff] at this
     obtain ⟨c,hc,ht⟩ := this
     obtain ⟨i,rfl⟩ := read_ins ht
     obtain ⟨_,hg⟩ := cellsq hc
     exact ⟨i,hg 0 _ rfl,hg 1 _ rfl,hg 2 _ rfl⟩
   subst hxl
   exact ⟨some a,cap,xs,rfl,rfl,Nat.le_trans hlc hm,fun i x hi => ⟨a,rfl,hx i x hi⟩⟩
theorem read_fnc {cs : List Value} {x : DataW H × List MemPlace} (h : DataW.trod enc Tryz.prog w base spare held fuel 63 cs = some x) :
   ∃ (f : Fnc) (A : Option Addr) (c : Nat),cs = [.int .i64 f.params,.int .i64 f.locals,.int .i64 f.refs,.slice A f.code.length c] ∧ CodeAt w A f.code.length f.code := by
 obtain ⟨xs,n,_,_,hl,hx,hf⟩ := DataW.trod_struct Tryz.underlying63 h
 rw [cells63] at hl
 match cs,hl with
 | [a,b,c,d],_ =>
   have get : ∀ i (hi : i < 4),∃ y,xs[i]? = some y := fun i hi => ⟨_,List.getElem?_eq_getElem (by rw [hx]; exact hi)⟩
   obtain ⟨y0,h0⟩ := get 0 (by omega)
   obtain ⟨y1,h1⟩ := get 1 (by omega)
   obtain ⟨y2,h2⟩ := get 2 (by omega)
   obtain ⟨y3,h3⟩ := get 3 (by omega)
   have f0 := (hf 0 _ rfl).trans h0
   have f1 := (hf 1 _ rfl).trans h1
   have f2 := (hf 2 _ rfl).trans h2
   have f3 := (hf 3 _ rfl).trans h3
   obtain ⟨n0,e0,_⟩ := DataW.trod_int Tryz.underlying3 f0
   obtain ⟨n1,e1,_⟩ := DataW.trod_int Tryz.underlying3 f1
   obtain ⟨n2,e2,_⟩ := DataW.trod_int Tryz.underlying3 f2
   obtain ⟨A,cc,code,e3,hc⟩ := read_code f3
   replace e0 : List.take (Tryz.prog.cellsOf 3) (List.drop 0 [a,b,c,d]) = [.int .i64 n0] := e0
   replace e1 : List.take (Tryz.prog.cellsOf 3) (List.drop 1 [a,b,c,d]) = [.int .i64 n1] := e1
   replace e2 : List.take (Tryz.prog.cellsOf 3) (List.drop 2 [a,b,c,d]) = [.int .i64 n2] := e2
   replace e3 : List.take (Tryz.prog.cellsOf 61) (List.drop 3 [a,b,c,d]) = [.slice A code.length cc] := e3
   rw [cells3] at e0 e1 e2
   rw [cells61] at e3
   cases e0
   cases e1
   cases e2
   cases e3
   exact ⟨⟨n0,n1,n2,code⟩,A,cc,rfl,hc⟩
theorem read_prog {cs : List Value} {x : DataW H × List MemPlace} (h : DataW.trod enc Tryz.prog w base spare held fuel 24 cs = some x) : ∃ A c p,cs = [.slice A p.length c] ∧ ProgAt w A p.length p := by
 obtain ⟨xs,n,_,_,hl,hx,hf⟩ := DataW.trod_struct Tryz.underlying24 h
 have c24 : Tryz.prog.cellsOf 24 = 1 := by kernel_rfl
 rw [c24] at hl
 match cs,hl with
 | [a],_ =>
   obtain ⟨y0,h0⟩ : ∃ y,xs[0]? = some y := ⟨_,List.getElem?_eq_getElem (by rw [hx]; decide)⟩
   have f0 := (hf 0 _ rfl).trans h0
   rcases DataW.trod_slice (by kernel_rfl) f0 with ⟨e,_⟩ | ⟨a',len,cap,elems,rest,m,_,e,_,_,hlc,hm,hl,hel,_⟩
   · replace e : [a] = [.slice none 0 0] := e
     cases e
     exact ⟨none,0,[],rfl,rfl,Nat.zero_le _,fun i x h => by simp at h⟩
   · replace e : [a] = [.slice (some a') len cap] := e
     cases e
     obtain ⟨p,hpl,hp⟩ := choose_list (n := len) (R := fun i (f : Fnc) => FncE w (a'.add (i * 4)) f) fun i hi => by
       obtain ⟨y,hy⟩ : ∃ y,elems[i]? = some y := ⟨_,List.getElem?_eq_getElem (by rw [hl]; exact hi)⟩
       have := (hel i hi).trans hy
       rw [cells63,Option.bind_eq_some_iff] at this
       obtain ⟨c,hc,ht⟩ := this
       obtain ⟨f,A,cc,rfl,hcode⟩ := read_fnc ht
       obtain ⟨_,hg⟩ := cellsq hc
       exact ⟨f,hg 0 _ rfl,hg 1 _ rfl,hg 2 _ rfl,A,_,cc,hg 3 _ rfl,hcode⟩
     subst hpl
     exact ⟨some a',cap,p,rfl,rfl,Nat.le_trans hlc hm,fun i x hi => ⟨a',rfl,hp i x hi⟩⟩
end
theorem read_bytes {H : Type} {enc : TypeId × Value → H} {w : World} {base : Nat} {spare : Nat → Bool} {held : Bool} {fuel : Nat} {cs : List Value} {x : DataW H × List MemPlace} (h : DataW.trod enc Tryz.prog w base spare held fuel 25 cs = some x) :
   ∃ A l c ns,cs = [.slice A l c] ∧ BytesAt w A l c ns := by
 have c5 : Tryz.prog.cellsOf 5 = 1 := by kernel_rfl
 rcases DataW.trod_slice (e := 5) (by kernel_rfl) h with ⟨rfl,_⟩ | ⟨a,len,cap,elems,rest,n,_,rfl,_,_,hlc,hm,hl,hel,_⟩
 · exact ⟨none,0,0,[],rfl,⟨rfl,Nat.zero_le _,fun i x h => by simp at h⟩,fun n h => by (cases h),Nat.le_refl _⟩
 · obtain ⟨xs,hxl,hx⟩ := choose_list (n := len) (R := fun i (x : Int) => NumE .u8 w (a.add (i * 1)) x ∧ 0 ≤ x ∧ x < 256) fun i hi => by
     obtain ⟨y,hy⟩ : ∃ y,elems[i]? = some y := ⟨_,List.getElem?_eq_getElem (by rw [hl]; exact hi)⟩
     have := (hel i hi).trans hy
     rw [c5,Option.bind_eq_some_iff] at this
     obtain ⟨c,hc,ht⟩ := this
     obtain ⟨n,rfl,_,wn⟩ := DataW.trod_int Tryz.underlying5 ht
     have hn : 0 ≤ n ∧ n < 256 := by
       simp [Lit.wf,IntKind.min,IntKind.max,IntKind.bits,IntKind.signed] at wn
       omega
     exact ⟨n,cell_of_cells?_one hc,hn⟩
   refine ⟨some a,len,cap,xs,rfl,⟨hxl,Nat.le_trans hlc hm,fun i x hi => ⟨a,rfl,(hx i x hi).1⟩⟩,fun n hn => ?_,hlc⟩
   obtain ⟨i,hi⟩ := List.mem_iff_getElem?.1 hn
   exact (hx i n hi).2
theorem u16_bd {n : Int} (h : (Lit.int .u16 n).wf = true) : 0 ≤ n ∧ n < 65536 := by
 simp [Lit.wf,IntKind.min,IntKind.max,IntKind.bits,IntKind.signed] at h
 omega
end Go.Proofs.YtidcpndlloppdaaGreat

/-
 What the engine makes of the loaded functions 14,66,84,35,31,50,69,73,176,97,109,100: conditions under which a call returns as told,and proofs of that.
 Conditions: none. Printed by a program of this project.
-/
set_option linter.unusedVariables false
set_option maxRecDepth 100000
namespace Go.Proofs.YtidcpndlloppdaaGreat
def V14.l1 (B : Nat) (R : Value → World → Prop) : Nat → Option Addr → Nat → Nat → Addr → Option Addr → Nat → Nat → Int → World → Prop
 | 0 => fun _ _ _ _ _ _ _ _ _ => False
 | k + 1 => fun a c d f g i j l w =>
 if (decide (l < (c : Int))) = true
 then (if (decide (l < (i : Int))) = true
 then (∃ m : Addr,a = some m ∧ (0 : Int) ≤ l ∧ l < (c : Int) ∧
 ∃ n : Int,w.cell? (m.add l.toNat) = some (.int .u64 n) ∧
 ∃ o : Addr,g = some o ∧ (0 : Int) ≤ l ∧ l < (i : Int) ∧
 (∃ u,w.cell? ((o.add l.toNat).add 0) = some u) ∧ w.frozen? ((o.add l.toNat).add 0) = false ∧
 let p := w.setCell ((o.add l.toNat).add 0) (.int .u64 n);
 ∃ q : Addr,a = some q ∧ (0 : Int) ≤ l ∧ l < (c : Int) ∧
 ∃ r : Int,p.cell? (q.add l.toNat) = some (.int .u64 r) ∧
 CallK Tryz.prog 35 [.pointer (some f),.int .i64 l,.int .u64 r] B p [] fun v s => 
 ∃ t : Int,v = .int .i64 t ∧
 if (t != 0) = true
 then (Ret B s (R (.tuple ⟨[.pointer none,.slice none 0 0]⟩)))
 else ((V14.l1 B R k) a c d f g i j (IntKind.wrap .i64 (l + 1)) s))
 else (Ret B w (R (.tuple ⟨[.pointer (some f),.slice g i j]⟩))))
 else (Ret B w (R (.tuple ⟨[.pointer (some f),.slice g i j]⟩)))
def V84.l0 (B : Nat) (R : Value → World → Prop) : Nat → Option Addr → Nat → Nat → Option Addr → Nat → Nat → Int → World → Prop
 | 0 => fun _ _ _ _ _ _ _ _ => False
 | k + 1 => fun a c d f g i j w =>
 if (decide (j < (c : Int))) = true
 then (∃ l : Addr,a = some l ∧ (0 : Int) ≤ j ∧ j < (c : Int) ∧
 ∃ m : Int,w.cell? (l.add j.toNat) = some (.int .u64 m) ∧
 ∃ n : Addr,f = some n ∧ (0 : Int) ≤ j ∧ j < (g : Int) ∧
 ∃ o : Int,w.cell? (n.add j.toNat) = some (.int .u64 o) ∧
 if (m != o) = true
 then (Ret B w (R (.bool false)))
 else ((V84.l0 B R k) a c d f g i (IntKind.wrap .i64 (j + 1)) w))
 else (Ret B w (R (.bool true)))
def V84.vc (B : Nat) (R : Value → World → Prop) (a : Option Addr) (c d : Nat) (f : Option Addr) (g i : Nat) (w : World) : Prop :=
 if ((c : Int) != (g : Int)) = true
 then (Ret B w (R (.bool false)))
 else (∃ j,V84.l0 B R j a c d f g i 0 w)
noncomputable def V84.cfg (B : Nat) : Cfg := ⟨Tryz.prog,⟨26,B⟩,[],hasN [],hasN [],look []⟩
noncomputable def V84.code : Code := (Tryz.f84.body).getD .skip
noncomputable def V84.cuts (B : Nat) (R : Value → World → Prop) : Nat → Cut := nthC [⟨[(0,.one (.slice)),(1,.one (.slice)),(5,.one (.int .i64))],[],fun fs vs bs w => V84.l0 B R (nthN fs 0) (slA (nthV vs 0)) (slL (nthV vs 0)) (slC (nthV vs 0)) (slA (nthV vs 1)) (slL (nthV vs 1)) (slC (nthV vs 1)) (iV (nthV vs 2)) w⟩]
noncomputable def V84.h : H := .s (.z) (.s (.s (.z) (.c (.s (.z) (.z)) (.z))) (.s (.s (.z) (.b (.l 0 (.s (.s (.z) (.c (.z) (.z))) (.s (.b (.s (.r [[0,1,2,3,4,5,6,7,8]]) (.c (.s (.z) (.z)) (.z)))) (.z)))))) (.s (.z) (.z))))
theorem V84.vc_eq (B : Nat) (R : Value → World → Prop) (a : Option Addr) (c d : Nat) (f : Option Addr) (g i : Nat) (w : World) : wpf (V84.cfg B) (V84.cuts B R) V84.code V84.h [] (postOf Tryz.prog B (Tryz.f84.results.toList) R) (argE 0 [.slice a c d,.slice f g i]) [] w = V84.vc B R a c d f g i w := by kernel_rfl
theorem V84.obl (B : Nat) (R : Value → World → Prop) : oblP (V84.cfg B) (V84.cuts B R) V84.code V84.h [] (postOf Tryz.prog B (Tryz.f84.results.toList) R) := by
 have e : oblP (V84.cfg B) (V84.cuts B R) V84.code V84.h [] (postOf Tryz.prog B (Tryz.f84.results.toList) R) = (True ∧ ((True ∧ ((True ∧ True) ∧ True)) ∧ ((True ∧ ((∀ (a : Option Addr) (c d : Nat) (f : Option Addr) (g i : Nat) (j : Int) (w : World),¬ V84.l0 B R 0 a c d f g i j w) ∧ (∀ l,∀ (a : Option Addr) (c d : Nat) (f : Option Addr) (g i : Nat) (j : Int) (w : World),V84.l0 B R (l + 1) a c d f g i j w → V84.l0 B R (l + 1) a c d f g i j w) ∧ ∀ l : Nat,((True ∧ (True ∧ True)) ∧ (((true = true) ∧ ((True ∧ True) ∧ True)) ∧ True)))) ∧ (True ∧ True)))) := by kernel_rfl
 exact e.mpr (⟨trivial,⟨⟨trivial,⟨⟨trivial,trivial⟩,trivial⟩⟩,⟨⟨trivial,⟨fun a c d f g i j w h => h,fun _ a c d f g i j w h => h,fun l => ⟨⟨trivial,⟨trivial,trivial⟩⟩,⟨⟨rfl,⟨⟨trivial,trivial⟩,trivial⟩⟩,trivial⟩⟩⟩⟩,⟨trivial,trivial⟩⟩⟩⟩)
theorem V84.cfgOk (B : Nat) : CfgOk (V84.cfg B) := cfgOk_of (by kernel_rfl) (by kernel_rfl) extNil
theorem V84.sound {a : Option Addr} {d f : Nat} {g : Option Addr} {i j : Nat} {w : World} {R : Value → World → Prop} (h : V84.vc w.heap.size R a d f g i j w) : Calls Tryz.prog 84 ⟨[.slice a d f,.slice g i j]⟩ w fun e w' => ∃ v,e = .returned v ∧ R v w' :=
 calls_wpfP (c := V84.cfg w.heap.size) (fn := Tryz.f84) (x := V84.code) (V84.cuts w.heap.size R) V84.h (V84.cfgOk _) mixed Tryz.func84 (by kernel_rfl) (by kernel_rfl) (by kernel_rfl) rfl (V84.obl _ _) ((V84.vc_eq _ _ a d f g i j _).symm ▸ h)
def V100.vc (B : Nat) (R : Value → World → Prop) (a : Option Addr) (c d : Nat) (w : World) : Prop :=
 if (Option.isNone a) = true
 then (Ret B w (R (.slice none 0 0)))
 else (Expo B w [] fun f => 
 let g := f.alloc (.cells ⟨[]⟩ 55);
 RunK Tryz.prog (Builtin.append_ #[31,31] 31 ⟨[.slice (some ⟨f.heap.size,0,none⟩) 0 0,.slice a c d]⟩) B g [] fun v i => 
 ∃ (j : Option Addr) (l m : Nat),v = .slice j l m ∧
 Ret B i (R (.slice j l m)))
noncomputable def V100.cfg (B : Nat) : Cfg := ⟨Tryz.prog,⟨8,B⟩,[],hasN [],hasN [],look []⟩
noncomputable def V100.code : Code := (Tryz.f100.body).getD .skip
noncomputable def V100.cuts (B : Nat) (R : Value → World → Prop) : Nat → Cut := nthC []
noncomputable def V100.h : H := .s (.z) (.s (.s (.z) (.c (.s (.z) (.z)) (.z))) (.s (.z) (.z)))
theorem V100.vc_eq (B : Nat) (R : Value → World → Prop) (a : Option Addr) (c d : Nat) (w : World) : wpf (V100.cfg B) (V100.cuts B R) V100.code V100.h [] (postOf Tryz.prog B (Tryz.f100.results.toList) R) (argE 0 [.slice a c d]) [] w = V100.vc B R a c d w := by kernel_rfl
theorem V100.obl (B : Nat) (R : Value → World → Prop) : oblP (V100.cfg B) (V100.cuts B R) V100.code V100.h [] (postOf Tryz.prog B (Tryz.f100.results.toList) R) := by
 have e : oblP (V100.cfg B) (V100.cuts B R) V100.code V100.h [] (postOf Tryz.prog B (Tryz.f100.results.toList) R) = (True ∧ ((True ∧ ((True ∧ True) ∧ True)) ∧ (True ∧ True))) := by kernel_rfl
 exact e.mpr (⟨trivial,⟨⟨trivial,⟨⟨trivial,trivial⟩,trivial⟩⟩,⟨trivial,trivial⟩⟩⟩)
theorem V100.cfgOk (B : Nat) : CfgOk (V100.cfg B) := cfgOk_of (by kernel_rfl) (by kernel_rfl) extNil
theorem V100.sound {a : Option Addr} {d f : Nat} {w : World} {R : Value → World → Prop} (h : V100.vc w.heap.size R a d f w) : Calls Tryz.prog 100 ⟨[.slice a d f]⟩ w fun e w' => ∃ v,e = .returned v ∧ R v w' :=
 calls_wpfP (c := V100.cfg w.heap.size) (fn := Tryz.f100) (x := V100.code) (V100.cuts w.heap.size R) V100.h (V100.cfgOk _) mixed Tryz.func100 (by kernel_rfl) (by kernel_rfl) (by kernel_rfl) rfl (V100.obl _ _) ((V100.vc_eq _ _ a d f _).symm ▸ h)
end Go.Proofs.YtidcpndlloppdaaGreat
