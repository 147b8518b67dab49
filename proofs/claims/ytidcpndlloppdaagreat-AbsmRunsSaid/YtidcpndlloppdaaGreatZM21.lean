import Derived.Test.YtidcpndlloppdaaGreatZWH
import Derived.Test.YtidcpndlloppdaaGreatZG20
/-
 Layer 21: the machine in memory: its blocks,which are its own; what changes to one of them leave.
 Conditions: none.
-/
set_option linter.unusedVariables false
set_option linter.unusedSimpArgs false
set_option maxRecDepth 20000
namespace Go.Proofs.YtidcpndlloppdaaGreat
open Go.RowKit
def KeepsOff (S : Nat → Prop) (w w' : World) : Prop := ∀ q v,w.cell? q = some v → ¬ S q.block → w'.cell? q = some v
structure POff (S : Nat → Prop) (w : World) (C : Option Addr) (p : List Fnc) : Prop where
 at_ : ∃ w1,ProgAt w1 C p.length p ∧ ∀ q v,w1.cell? q = some v → w.cell? q = some v ∧ ¬ S q.block
theorem POff.prog {S : Nat → Prop} {w : World} {C : Option Addr} {p : List Fnc} (h : POff S w C p) : ProgAt w C p.length p := by
 obtain ⟨w1,h1,h2⟩ := h.at_
 exact RowAt.keep FncE.kept h1 fun q v hq => (h2 q v hq).1
theorem POff.keep {S S' : Nat → Prop} {w w' : World} {C : Option Addr} {p : List Fnc} (h : POff S w C p) (hk : KeepsOff S w w') (hS : ∀ k,S' k → S k ∨ w.heap.size ≤ k) : POff S' w' C p := by
 obtain ⟨w1,h1,h2⟩ := h.at_
 refine ⟨w1,h1,fun q v hq => ?_⟩
 obtain ⟨a,b⟩ := h2 q v hq
 refine ⟨hk q v a b,fun hs => ?_⟩
 rcases hS _ hs with hs | hs
 · exact b hs
 · have := cell_lt a; omega
theorem keepsOff_exts {B : Nat} {S : Nat → Prop} {w w' : World} (h : ExtS B S w w') : KeepsOff S w w' := fun q v hq hs => h.cell hq hs
theorem keepsOff_ext {B : Nat} {S : Nat → Prop} {w w' : World} (h : Ext B w w') : KeepsOff S w w' := fun q v hq _ => h.cell hq
theorem keepsOff_set {S : Nat → Prop} {w : World} {g i : Nat} {v : Value} (hS : S g) : KeepsOff S w (w.setCell ⟨g,i,none⟩ v) := fun q u hq hs => by
 have hne : q.block ≠ g := fun e => hs (e ▸ hS)
 exact (cell_same (at_other hne)).trans hq
theorem KeepsOff.mono {S T : Nat → Prop} {w w' : World} (h : KeepsOff S w w') (hS : ∀ k,S k → T k) : KeepsOff T w w' := fun q v hq hs => h q v hq fun hs' => hs (hS _ hs')
theorem owns_ty {w : World} {B : Nat} {e : TypeId} {size : Nat} {v : Value} {n : Nat} {xs : List Value} (h : w.ownsRow B e size v n xs) {k : Nat} (hk : v.ownBlock = some k) : B ≤ k ∧ ∃ c f,w.heap[k]? = some (.cells c e f) := by
 rcases h.2 with ⟨rfl,_⟩ | ⟨g,cap,cur,rfl,hb,hg,_⟩
 · cases hk
 · cases hk; exact ⟨hb,_,_,hg⟩
theorem owns_down {w : World} {B B' : Nat} {e : TypeId} {size : Nat} {v : Value} {n : Nat} {xs : List Value} (h : w.ownsRow B e size v n xs) (hB : B' ≤ B) : w.ownsRow B' e size v n xs := by
 refine ⟨h.1, ?_⟩
 rcases h.2 with hn | ⟨g,cap,cur,rfl,hb,rest⟩
 · exact .inl hn
 · exact .inr ⟨g,cap,cur,rfl,Nat.le_trans hB hb,rest⟩
theorem owns_cut {w : World} {B : Nat} {e : TypeId} {size : Nat} {A : Option Addr} {n c k : Nat} {xs : List Value} (h : w.ownsRow B e size (.slice A n c) n xs) (hk : k ≤ n) : w.ownsRow B e size (.slice A k c) k (xs.take (k * size)) ∧ n ≤ c := by
 have hl := h.1
 rcases h.2 with ⟨hv,h0⟩ | ⟨g,cap,cur,hv,hb,hg,hc,hm,hs,ht⟩
 · cases hv
   have : k = 0 := by omega
   subst this
   exact ⟨⟨by simp,.inl ⟨rfl,rfl⟩⟩,by omega⟩
 · cases hv
   refine ⟨⟨?_,.inr ⟨g,c,cur,rfl,hb,hg,by omega,hm,hs, ?_⟩⟩,hc⟩
   · rw [List.length_take,hl]
     have := Nat.mul_le_mul_right size hk
     omega
   · rw [← ht,List.take_take]
     have := Nat.mul_le_mul_right size hk
     rw [Nat.min_eq_left this]
theorem slice_cut (A : Option Addr) (c : Nat) : (if c = 0 then A else Option.map (fun a : Addr => a.add 0) A) = A := by
 split
 · rfl
 · cases A with
   | none => rfl
   | some a => simp [Addr.add]
structure Chg1 (b : Option Nat) (t : TypeId) (w w' : World) : Prop where
 row : ∀ (k : Nat) (c : Array Value) (e : TypeId) (f : Nat × Nat),b ≠ some k → w.heap[k]? = some (.cells c e f) → w'.heap[k]? = some (.cells c e f)
 typ : ∀ k,b = some k → ∃ c f,w.heap[k]? = some (.cells c t f)
theorem chg1_set {w : World} {g i : Nat} {v : Value} {t : TypeId} {c : Array Value} {f : Nat × Nat} (h : w.heap[g]? = some (.cells c t f)) : Chg1 (some g) t w (w.setCell ⟨g,i,none⟩ v) :=
 ⟨fun k c e f hne hk => by rw [at_other (fun e => hne (by rw [e]))]; exact hk,fun k hk => by cases hk; exact ⟨_,_,h⟩⟩
theorem chg1_exts {B B' : Nat} {w w' : World} {e : TypeId} {size : Nat} {v : Value} {n : Nat} {xs : List Value} (he : ExtS B (fun k => v.ownBlock = some k) w w') (h : w.ownsRow B' e size v n xs) : Chg1 v.ownBlock e w w' :=
 ⟨fun k c e f hne hk => he.row _ _ _ _ hne hk,fun k hk => (owns_ty h hk).2⟩
theorem chg1_ext {B : Nat} {w w' : World} (he : Ext B w w') (t : TypeId) : Chg1 none t w w' := ⟨fun k c e f _ hk => he.row _ _ _ _ hk,fun k hk => by cases hk⟩
theorem Chg1.own {b : Option Nat} {t : TypeId} {w w' : World} (h : Chg1 b t w w') {B : Nat} {e : TypeId} {size : Nat} {v : Value} {n : Nat} {xs : List Value} (ho : w.ownsRow B e size v n xs) (hne : ∀ k,v.ownBlock = some k → b ≠ some k) : w'.ownsRow B e size v n xs := by
 refine ⟨ho.1, ?_⟩
 rcases ho.2 with hn | ⟨g,cap,cur,rfl,hb,hg,rest⟩
 · exact .inl hn
 · exact .inr ⟨g,cap,cur,rfl,hb,h.row _ _ _ _ (hne g rfl) hg,rest⟩
theorem Chg1.ownT {b : Option Nat} {t : TypeId} {w w' : World} (h : Chg1 b t w w') {B : Nat} {e : TypeId} {size : Nat} {v : Value} {n : Nat} {xs : List Value} (ho : w.ownsRow B e size v n xs) (hne : e ≠ t) : w'.ownsRow B e size v n xs :=
 h.own ho fun k hk hb => by
   obtain ⟨_,c,f,h1⟩ := owns_ty ho hk
   obtain ⟨c',f',h2⟩ := h.typ k hb
   rw [h1] at h2; cases h2; exact hne rfl
structure Sl where
 D : Value
 L : Value
 O : Value
 args : List Value
def u64s (xs : List Int) : List Value := xs.map (.int .u64)
def dfrsC : List Dfr → List Value → List Value
 | d :: r,a :: t => [.int .i64 d.f,a] ++ dfrsC r t
 | _,_ => []
def ArgsM (w : World) (B : Nat) : List Dfr → List Value → Prop
 | [],[] => True
 | d :: r,a :: t => w.ownsRow B 55 1 a d.args.length (u64s d.args) ∧ ArgsM w B r t
 | _,_ => False
structure FrmM (w : World) (B : Nat) (x : Frm) (s : Sl) : Prop where
 D : w.ownsRow B 149 2 s.D x.dfs.length (dfrsC x.dfs s.args)
 args : ArgsM w B x.dfs s.args
 L : w.ownsRow B 55 1 s.L x.locals.length (u64s x.locals)
 O : w.ownsRow B 55 1 s.O x.ops.length (u64s x.ops)
def InSl (s : Sl) (k : Nat) : Prop := s.D.ownBlock = some k ∨ s.L.ownBlock = some k ∨ s.O.ownBlock = some k ∨ ∃ a ∈ s.args,a.ownBlock = some k
def InSls (ss : List Sl) (k : Nat) : Prop := ∃ s ∈ ss,InSl s k
def FrmsM (w : World) (B : Nat) : List Frm → List Sl → Prop
 | [],[] => True
 | x :: r,s :: t => FrmM w B x s ∧ FrmsM w B r t
 | _,_ => False
structure ApSl (s : Sl) : Prop where
 LO : ∀ k,s.L.ownBlock = some k → s.O.ownBlock ≠ some k
 LA : ∀ a ∈ s.args,∀ k,a.ownBlock = some k → s.L.ownBlock ≠ some k
 OA : ∀ a ∈ s.args,∀ k,a.ownBlock = some k → s.O.ownBlock ≠ some k
def ApS : List Sl → Prop
 | [] => True
 | s :: t => ApSl s ∧ (∀ k,InSl s k → ¬ InSls t k) ∧ ApS t
def frmC (x : Frm) (s : Sl) : List Value := [.int .i64 x.f,.int .i64 x.pc,.int .i64 x.mode,.bool x.dfd,.int .u64 x.value,s.D,s.L,s.O]
def stackC : List Frm → List Sl → List Value
 | x :: r,s :: t => stackC r t ++ frmC x s
 | _,_ => []
section
variable {b : Option Nat} {t : TypeId} {w w' : World} {B : Nat}
theorem ArgsM.same : ∀ {ds : List Dfr} {vs : List Value},ArgsM w B ds vs → (∀ a ∈ vs,∀ k,a.ownBlock = some k → w'.heap[k]? = w.heap[k]?) → ArgsM w' B ds vs
 | [],[],_,_ => trivial
 | d :: r,a :: u,hA,hne => ⟨owns_other hA.1 (hne a List.mem_cons_self),ArgsM.same hA.2 fun a ha => hne a (List.mem_cons_of_mem _ ha)⟩
 | [],_ :: _,hA,_ => hA.elim
 | _ :: _,[],hA,_ => hA.elim
theorem ArgsM.len : ∀ {ds : List Dfr} {vs : List Value},ArgsM w B ds vs → vs.length = ds.length
 | [],[],_ => rfl
 | d :: r,a :: u,hA => by simp [ArgsM.len hA.2]
 | [],_ :: _,hA => hA.elim
 | _ :: _,[],hA => hA.elim
theorem ArgsM.ty : ∀ {ds : List Dfr} {vs : List Value},ArgsM w B ds vs → ∀ a ∈ vs,∀ k,a.ownBlock = some k → B ≤ k ∧ ∃ c f,w.heap[k]? = some (.cells c 55 f)
 | [],[],_,a,ha,_,_ => by cases ha
 | d :: r,a :: u,hA,x,hx,k,hk => by
   rcases List.mem_cons.1 hx with rfl | hx
   · exact owns_ty hA.1 hk
   · exact ArgsM.ty hA.2 x hx k hk
 | [],_ :: _,hA,_,_,_,_ => hA.elim
 | _ :: _,[],hA,_,_,_,_ => hA.elim
theorem ArgsM.get : ∀ {ds : List Dfr} {vs : List Value} {i : Nat} {d : Dfr},ArgsM w B ds vs → ds[i]? = some d → ∃ a,vs[i]? = some a ∧ w.ownsRow B 55 1 a d.args.length (u64s d.args)
 | [],[],i,d,_,h => by simp at h
 | e :: r,a :: u,0,d,hA,h => by simp at h; subst h; exact ⟨a,rfl,hA.1⟩
 | e :: r,a :: u,i + 1,d,hA,h => by
   obtain ⟨b,h1,h2⟩ := ArgsM.get hA.2 (i := i) (d := d) (by simpa using h)
   exact ⟨b,by simpa using h1,h2⟩
 | [],_ :: _,_,_,hA,_ => hA.elim
 | _ :: _,[],_,_,hA,_ => hA.elim
theorem FrmM.same {x : Frm} {s : Sl} (hF : FrmM w B x s) (hne : ∀ k,InSl s k → w'.heap[k]? = w.heap[k]?) : FrmM w' B x s :=
 ⟨owns_other hF.D fun k hk => hne k (.inl hk),hF.args.same fun a ha k hk => hne k (.inr (.inr (.inr ⟨a,ha,hk⟩))),owns_other hF.L fun k hk => hne k (.inr (.inl hk)),owns_other hF.O fun k hk => hne k (.inr (.inr (.inl hk)))⟩
theorem FrmM.ty {x : Frm} {s : Sl} (hF : FrmM w B x s) {k : Nat} (hk : InSl s k) : B ≤ k ∧ ∃ e c f,w.heap[k]? = some (.cells c e f) ∧ (e = 55 ∨ e = 149) := by
 rcases hk with hk | hk | hk | ⟨a,ha,hk⟩
 · obtain ⟨h0,c,f,h1⟩ := owns_ty hF.D hk; exact ⟨h0,_,c,f,h1,.inr rfl⟩
 · obtain ⟨h0,c,f,h1⟩ := owns_ty hF.L hk; exact ⟨h0,_,c,f,h1,.inl rfl⟩
 · obtain ⟨h0,c,f,h1⟩ := owns_ty hF.O hk; exact ⟨h0,_,c,f,h1,.inl rfl⟩
 · obtain ⟨h0,c,f,h1⟩ := hF.args.ty a ha k hk; exact ⟨h0,_,c,f,h1,.inl rfl⟩
theorem FrmsM.same : ∀ {fs : List Frm} {ss : List Sl},FrmsM w B fs ss → (∀ k,InSls ss k → w'.heap[k]? = w.heap[k]?) → FrmsM w' B fs ss
 | [],[],_,_ => trivial
 | x :: r,s :: u,hF,hne => ⟨hF.1.same fun k hk => hne k ⟨s,List.mem_cons_self,hk⟩,FrmsM.same hF.2 fun k ⟨v,hv,hk⟩ => hne k ⟨v,List.mem_cons_of_mem _ hv,hk⟩⟩
 | [],_ :: _,hF,_ => hF.elim
 | _ :: _,[],hF,_ => hF.elim
theorem FrmsM.ty : ∀ {fs : List Frm} {ss : List Sl},FrmsM w B fs ss → ∀ k,InSls ss k → B ≤ k ∧ ∃ e c f,w.heap[k]? = some (.cells c e f) ∧ (e = 55 ∨ e = 149)
 | [],[],_,k,⟨s,hs,_⟩ => by cases hs
 | x :: r,s :: u,hF,k,⟨v,hv,hk⟩ => by
   rcases List.mem_cons.1 hv with rfl | hv
   · exact hF.1.ty hk
   · exact FrmsM.ty hF.2 k ⟨v,hv,hk⟩
 | [],_ :: _,hF,_,_ => hF.elim
 | _ :: _,[],hF,_,_ => hF.elim
theorem FrmsM.len : ∀ {fs : List Frm} {ss : List Sl},FrmsM w B fs ss → ss.length = fs.length
 | [],[],_ => rfl
 | x :: r,s :: u,hF => by simp [FrmsM.len hF.2]
 | [],_ :: _,hF => hF.elim
 | _ :: _,[],hF => hF.elim
theorem Chg1.same (h : Chg1 b t w w') {k : Nat} (hb : b ≠ some k) {c : Array Value} {e : TypeId} {f : Nat × Nat} (hk : w.heap[k]? = some (.cells c e f)) : w'.heap[k]? = w.heap[k]? := by rw [hk]; exact h.row _ _ _ _ hb hk
theorem FrmM.chg (h : Chg1 b t w w') {x : Frm} {s : Sl} (hF : FrmM w B x s) (hne : ∀ k,InSl s k → b ≠ some k) : FrmM w' B x s :=
 hF.same fun k hk => by obtain ⟨_,e,c,f,h1,_⟩ := hF.ty hk; exact h.same (hne k hk) h1
theorem FrmsM.chg (h : Chg1 b t w w') {fs : List Frm} {ss : List Sl} (hF : FrmsM w B fs ss) (hne : ∀ k,InSls ss k → b ≠ some k) : FrmsM w' B fs ss :=
 hF.same fun k hk => by obtain ⟨_,e,c,f,h1,_⟩ := hF.ty k hk; exact h.same (hne k hk) h1
theorem FrmsM.neT (h : Chg1 b t w w') {fs : List Frm} {ss : List Sl} (hF : FrmsM w B fs ss) (h28 : t ≠ 55) (h85 : t ≠ 149) : ∀ k,InSls ss k → b ≠ some k := fun k hk hb => by
 obtain ⟨_,e,c,f,h1,he⟩ := hF.ty k hk
 obtain ⟨c',f',h2⟩ := h.typ k hb
 rw [h1] at h2
 cases h2
 rcases he with he | he
 · exact h28 he
 · exact h85 he
theorem FrmsM.chgT (h : Chg1 b t w w') {fs : List Frm} {ss : List Sl} (hF : FrmsM w B fs ss) (h28 : t ≠ 55) (h85 : t ≠ 149) : FrmsM w' B fs ss := hF.chg h (hF.neT h h28 h85)
theorem FrmM.chgT (h : Chg1 b t w w') {x : Frm} {s : Sl} (hF : FrmM w B x s) (h28 : t ≠ 55) (h85 : t ≠ 149) : FrmM w' B x s :=
 hF.chg h fun k hk hb => by
   obtain ⟨_,e,c,f,h1,he⟩ := hF.ty hk
   obtain ⟨c',f',h2⟩ := h.typ k hb
   rw [h1] at h2
   cases h2
   rcases he with he | he
   · exact h28 he
   · exact h85 he
end
theorem frmC_len (x : Frm) (s : Sl) : (frmC x s).length = 8 := rfl
theorem stackC_len : ∀ {fs : List Frm} {ss : List Sl},ss.length = fs.length → (stackC fs ss).length = fs.length * 8
 | [],[],_ => rfl
 | x :: r,s :: t,h => by
   have := stackC_len (fs := r) (ss := t) (by simpa using h)
   simp only [stackC,List.length_append,frmC_len,this,List.length_cons]; omega
 | [],_ :: _,h => by simp at h
 | _ :: _,[],h => by simp at h
theorem stackC_top {x : Frm} {r : List Frm} {s : Sl} {t : List Sl} (h : t.length = r.length) {j : Nat} {v : Value} (hv : (frmC x s)[j]? = some v) : (stackC (x :: r) (s :: t))[r.length * 8 + j]? = some v := by
 show (stackC r t ++ frmC x s)[r.length * 8 + j]? = _
 rw [List.getElem?_append_right (by rw [stackC_len h]; omega),stackC_len h,show r.length * 8 + j - r.length * 8 = j by omega]
 exact hv
theorem stackC_set {x x' : Frm} {r : List Frm} {s s' : Sl} {t : List Sl} (h : t.length = r.length) {j : Nat} {v : Value} (hj : j < 8) (hv : (frmC x s).set j v = frmC x' s') : (stackC (x :: r) (s :: t)).set (r.length * 8 + j) v = stackC (x' :: r) (s' :: t) := by
 show (stackC r t ++ frmC x s).set (r.length * 8 + j) v = _
 rw [List.set_append_right _ _ (by rw [stackC_len h]; omega),stackC_len h,show r.length * 8 + j - r.length * 8 = j by omega,hv]; rfl
theorem stackC_und {x u : Frm} {r : List Frm} {s su : Sl} {t : List Sl} (h : t.length = r.length) {j : Nat} (hj : j < 8) {v : Value} (hv : (frmC u su)[j]? = some v) : (stackC (x :: u :: r) (s :: su :: t))[r.length * 8 + j]? = some v := by
 show (stackC (u :: r) (su :: t) ++ frmC x s)[r.length * 8 + j]? = _
 rw [List.getElem?_append_left (by rw [stackC_len (by simp [h])]; simp only [List.length_cons]; omega)]
 exact stackC_top h hv
theorem stackC_setU {x u u' : Frm} {r : List Frm} {s su su' : Sl} {t : List Sl} (h : t.length = r.length) {j : Nat} {v : Value} (hj : j < 8) (hv : (frmC u su).set j v = frmC u' su') : (stackC (x :: u :: r) (s :: su :: t)).set (r.length * 8 + j) v = stackC (x :: u' :: r) (s :: su' :: t) := by
 show (stackC (u :: r) (su :: t) ++ frmC x s).set (r.length * 8 + j) v = _
 rw [List.set_append_left _ _ (by rw [stackC_len (by simp [h])]; simp only [List.length_cons]; omega),stackC_set h hj hv]; rfl
theorem stackC_pop {x : Frm} {r : List Frm} {s : Sl} {t : List Sl} (h : t.length = r.length) : (stackC (x :: r) (s :: t)).take (r.length * 8) = stackC r t := by
 show (stackC r t ++ frmC x s).take (r.length * 8) = _
 rw [List.take_append_of_le_length (by rw [stackC_len h]; omega),List.take_of_length_le (by rw [stackC_len h]; omega)]
def headC (C F T : Value) (m : Mach) : List Value := [C,.int .i64 m.first,.bool m.begun,.bool m.ended,.bool m.parked,.int .u64 m.refs,F,T]
def Foot (g : Nat) (F T : Value) (ss : List Sl) (k : Nat) : Prop := k = g ∨ F.ownBlock = some k ∨ T.ownBlock = some k ∨ InSls ss k
structure Pcs (w : World) (B : Nat) (F T : Value) (fs : List Frm) (tr : List Mk) (ss : List Sl) : Prop where
 frames : w.ownsRow B 99 8 F fs.length (stackC fs ss)
 trace : w.ownsRow B 57 2 T tr.length (mcs tr)
 each : FrmsM w B fs ss
 apart : ApS ss
structure MachAt (w : World) (B g : Nat) (C : Option Addr) (c : Nat) (p : List Fnc) (m : Mach) (F T : Value) (ss : List Sl) : Prop where
 base : B ≤ g
 head : w.heap[g]? = some (.cells ⟨headC (.slice C p.length c) F T m⟩ 130 (0,0))
 pcs : Pcs w B F T m.frames m.trace ss
 prog : POff (Foot g F T ss) w C p
section
variable {w w' : World} {B g : Nat} {C : Option Addr} {c : Nat} {p : List Fnc} {m : Mach} {F T : Value} {ss : List Sl}
theorem MachAt.ty (h : MachAt w B g C c p m F T ss) {k : Nat} (hk : Foot g F T ss k) : B ≤ k ∧ k < w.heap.size ∧ ∃ c e f,w.heap[k]? = some (.cells c e f) := by
 have done : ∀ {e : TypeId} {c : Array Value} {f : Nat × Nat},w.heap[k]? = some (.cells c e f) → B ≤ k → B ≤ k ∧ k < w.heap.size ∧ ∃ c e f,w.heap[k]? = some (.cells c e f) := fun h1 h2 => ⟨h2,lt_of_some h1,_,_,_,h1⟩
 rcases hk with rfl | hk | hk | hk
 · exact done h.head h.base
 · obtain ⟨a,c,f,b⟩ := owns_ty h.pcs.frames hk; exact done b a
 · obtain ⟨a,c,f,b⟩ := owns_ty h.pcs.trace hk; exact done b a
 · obtain ⟨a,e,c,f,b,_⟩ := h.pcs.each.ty k hk; exact done b a
theorem Pcs.same (h : Pcs w B F T m.frames m.trace ss) (hs : ∀ k,F.ownBlock = some k ∨ T.ownBlock = some k ∨ InSls ss k → w'.heap[k]? = w.heap[k]?) : Pcs w' B F T m.frames m.trace ss :=
 ⟨owns_other h.frames fun k hk => hs k (.inl hk),owns_other h.trace fun k hk => hs k (.inr (.inl hk)),h.each.same fun k hk => hs k (.inr (.inr hk)),h.apart⟩
theorem MachAt.same (h : MachAt w B g C c p m F T ss) (hs : ∀ k,Foot g F T ss k → w'.heap[k]? = w.heap[k]?) (hk : KeepsOff (Foot g F T ss) w w') : MachAt w' B g C c p m F T ss :=
 ⟨h.base,by rw [hs g (.inl rfl)]; exact h.head,h.pcs.same fun k hk => hs k (.inr hk),h.prog.keep hk fun k hk => .inl hk⟩
theorem MachAt.ext {B' : Nat} (h : MachAt w B g C c p m F T ss) (he : Ext B' w w') : MachAt w' B g C c p m F T ss :=
 h.same (fun k hk => by obtain ⟨_,_,c,e,f,h1⟩ := h.ty hk; rw [h1]; exact he.row _ _ _ _ h1) (keepsOff_ext he)
theorem MachAt.cell (h : MachAt w B g C c p m F T ss) {i : Nat} {v : Value} (hv : (headC (.slice C p.length c) F T m)[i]? = some v) : w.cell? ⟨g,i,none⟩ = some v := at_cell h.head hv
theorem MachAt.frozen (h : MachAt w B g C c p m F T ss) (i : Nat) : w.frozen? ⟨g,i,none⟩ = false := at_frozen h.head i
end
end Go.Proofs.YtidcpndlloppdaaGreat
