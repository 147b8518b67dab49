import Derived.Test.YtidcpndlloppdaaGreatZM17
import Derived.Test.YtidcpndlloppdaaGreatZC2b
/-
 Layer 21,plain: the machine by lists: what it is,what one act does,what holds of it at any time.
 Conditions: none.
-/
set_option linter.unusedVariables false
set_option linter.unusedSimpArgs false
set_option maxRecDepth 20000
namespace Go.Proofs.YtidcpndlloppdaaGreat
def oddN (n : Int) : Nat := if n = 0 then NO else if n = 1 then 9218868437227405312 else if n = 2 then 18442240474082181120 else if n = 3 then SW else if n = 4 then 9218868437227405311 else 1
def bW (b : Bool) : Nat := if b = true then nw 1 else nw 0
def twoN (op : Int) (a b : Nat) : Nat :=
 if op = 5 then far .add a b else if op = 6 then far .sub a b else if op = 7 then far .mul a b else if op = 8 then far .quo a b else if op = 11 then mnF a b else if op = 12 then mxF a b
 else if op = 13 then bW (ltF a b) else bW (eqF a b)
structure Mach where
 first : Int
 begun : Bool
 ended : Bool
 parked : Bool
 refs : Int
 /-- the top one is ahead -/
 frames : List Frm
 trace : List Mk
def newM (f : Int) : Mach := ⟨f,false,false,false,0,[],[]⟩
def fnD (p : List Fnc) (f : Int) : Fnc := (fnAt p f).getD ⟨0,0,0,[]⟩
def locM (n : Int) (args : List Int) : List Int := (args ++ List.replicate n.toNat 0).take n.toNat
def newF (p : List Fnc) (f : Int) (args : List Int) (dfd : Bool) : Frm := ⟨f,0,0,dfd,0,[],locM (fnD p f).locals args,[]⟩
def pushF (y : Frm) (ws : List Int) : Frm := { y with ops := y.ops ++ ws }
def insAt (g : Fnc) (pc : Int) : Ins := (g.code[pc.toNat]?).getD ⟨0,0,0⟩
def recvM (m : Mach) (y : Frm) (r : List Frm) : Mach := match r with
 | u :: r' => if y.dfd = true ∧ u.mode = 2 then { m with frames := pushF y [u.value,(nw 1 : Nat)] :: { u with mode := 1,value := (nw 0 : Nat) } :: r',trace := m.trace ++ [⟨2,u.value.toNat⟩] }
   else { m with frames := pushF y [(nw 0 : Nat),(nw 0 : Nat)] :: u :: r' }
 | [] => { m with frames := [pushF y [(nw 0 : Nat),(nw 0 : Nat)]] }
def simM (i : Ins) (l : List Int) (y : Frm) : Frm :=
 if i.op = 1 then pushF y [(nw i.a : Nat)]
 else if i.op = 2 then pushF y [(oddN i.a : Nat)]
 else if i.op = 3 then pushF y [y.locals.getD i.a.toNat 0]
 else if i.op = 4 then { y with locals := y.locals.set i.a.toNat (l.getD 0 0) }
 else if i.op = 9 then pushF y [(neF (l.getD 0 0).toNat : Nat)]
 else if i.op = 10 then pushF y [(flF (l.getD 0 0).toNat : Nat)]
 else if i.op = 15 then { y with pc := i.a }
 else if i.op = 16 then if trF (l.getD 0 0).toNat = true then { y with pc := i.a } else y
 else if i.op = 18 then { y with value := l.getD 0 0,mode := 1 }
 else if i.op = 20 then { y with value := l.getD 0 0,mode := 2 }
 else if i.op = 19 then if y.dfs.length = 4 then { y with value := (oddN 1 : Nat),mode := 2 } else { y with dfs := y.dfs ++ [⟨i.a,l⟩] }
 else if i.op = 27 then y
 else pushF y [(twoN i.op (l.getD 0 0).toNat (l.getD 1 0).toNat : Nat)]
def refAt (g : Fnc) (y : Frm) (k : Int) : Nat := y.locals.length - g.refs.toNat + k.toNat
def actM (p : List Fnc) (m : Mach) (g : Fnc) (i : Ins) (l : List Int) (y : Frm) (r : List Frm) : Mach :=
 if i.op = 17 then { m with frames := newF p i.a l false :: y :: r }
 else if i.op = 21 then recvM m y r
 else if i.op = 22 then { m with frames := y :: r,trace := m.trace ++ [⟨1,(l.getD 0 0).toNat⟩] }
 else if i.op = 23 then { m with frames := { y with locals := y.locals.set (refAt g y i.a) (m.refs + 1) } :: r,refs := m.refs + 1 }
 else if i.op = 24 then { m with frames := { y with locals := y.locals.set (refAt g y i.a) (y.locals.getD (refAt g y i.b) 0) } :: r }
 else if i.op = 25 then { m with frames := { y with locals := y.locals.set (refAt g y i.a) 0 } :: r }
 else if i.op = 26 then { m with frames := y :: r,parked := true }
 else { m with frames := simM i l y :: r }
def popN (p : List Fnc) (i : Ins) : Nat := (popsM p i.op i.a).toNat
def popF (p : List Fnc) (i : Ins) (x : Frm) : Frm := { x with pc := x.pc + 1,ops := x.ops.take (x.ops.length - popN p i) }
def popL (p : List Fnc) (i : Ins) (x : Frm) : List Int := x.ops.drop (x.ops.length - popN p i)
def runMach (p : List Fnc) (m : Mach) (x : Frm) (r : List Frm) : Mach :=
 actM p m (fnD p x.f) (insAt (fnD p x.f) x.pc) (popL p (insAt (fnD p x.f) x.pc) x) (popF p (insAt (fnD p x.f) x.pc) x) r
def leaveM (p : List Fnc) (m : Mach) (x : Frm) (r : List Frm) : Mach :=
 match x.dfs.getLast? with
 | some d => { m with frames := newF p d.f d.args true :: { x with dfs := x.dfs.dropLast } :: r }
 | none => match r with
   | [] => { m with frames := [],ended := true,trace := m.trace ++ [⟨if x.mode = 2 then 4 else 3,x.value.toNat⟩] }
   | u :: r' => if x.mode = 2 then { m with frames := { u with mode := 2,value := x.value } :: r' } else if x.dfd = true then { m with frames := u :: r' } else { m with frames := pushF u [x.value] :: r' }
def goM (p : List Fnc) (m : Mach) : Mach :=
 if m.begun = false then { m with begun := true,frames := newF p m.first [] false :: m.frames } else
 match m.frames with
 | [] => m
 | x :: r => if x.mode = 0 then runMach p m x r else leaveM p m x r
def stepM (p : List Fnc) (m : Mach) : Mach × Int := if m.ended = true then (m,7) else if m.parked = true then (m,8) else (goM p m,0)
def wakeM (m : Mach) : Mach := { m with parked := false }
def callM (p : List Fnc) (m : Mach) : Option Int :=
 if m.ended = true ∨ m.parked = true then none else if m.begun = false then some m.first else
 match m.frames with
 | [] => none
 | x :: _ => if x.mode = 0 then (if (insAt (fnD p x.f) x.pc).op = 17 then some (insAt (fnD p x.f) x.pc).a else none) else x.dfs.getLast?.map Dfr.f
def sizeF' (g : Fnc) : Int := sizeM g.locals g.code
def needM (p : List Fnc) (m : Mach) : Int := match callM p m with
 | some f => sizeF' (fnD p f)
 | none => 0
def refsF (p : List Fnc) (x : Frm) : List Int := (x.locals.drop (x.locals.length - (fnD p x.f).refs.toNat)).filter fun w => w != 0
def rootsM (p : List Fnc) (m : Mach) : List Int := m.frames.flatMap (refsF p)
structure Rt (p : List Fnc) : Prop where
 few : 1 ≤ p.length ∧ p.length ≤ 8
 sized : ∀ f ∈ p,sizedF f = true
 shaped : ∀ f ∈ p,∀ x ∈ f.code,shapedI p.length f x = true
 flow : ∀ f ∈ p,∃ d,depthsM p f.code = .inr d
theorem rt_of {p : List Fnc} (h : (checkM p).1 = 0) : Rt p := by
 unfold checkM at h
 split at h
 · simp at h
 rename_i hl
 split at h
 · simp at h
 rename_i hs
 split at h
 · simp at h
 rename_i hsh
 split at h
 · simp at h
 rename_i hf
 exact ⟨by omega,firstNot_all hs,shapesM_all hsh,flowsM_all hf⟩
theorem Rt.check {p : List Fnc} (h : Rt p) : checkM p = (0,0,0) := check_zero h.few.1 h.few.2 h.sized h.shaped h.flow
theorem Rt.fewP {p : List Fnc} (h : Rt p) : Few p := (check_ok (by rw [h.check])).1
theorem Rt.jmp {p : List Fnc} (h : Rt p) : ∀ f ∈ p,∀ x ∈ f.code,x.op = 15 ∨ x.op = 16 → 0 ≤ x.a := (check_ok (by rw [h.check])).2.2.1
theorem fnAt_mem {p : List Fnc} {f : Int} {g : Fnc} (h : fnAt p f = some g) : g ∈ p ∧ 0 ≤ f ∧ p[f.toNat]? = some g ∧ f < (p.length : Int) := by
 unfold fnAt at h
 split at h
 · cases h
 · have := (List.getElem?_eq_some_iff.1 h).1
   exact ⟨List.mem_of_getElem? h,by omega,h,by omega⟩
theorem fnD_eq {p : List Fnc} {f : Int} {g : Fnc} (h : fnAt p f = some g) : fnD p f = g := by unfold fnD; rw [h]; rfl
theorem fnAt_in {p : List Fnc} {f : Int} (h0 : 0 ≤ f) (h1 : f < (p.length : Int)) : ∃ g,fnAt p f = some g := by
 refine ⟨p[f.toNat]'(by omega), ?_⟩
 unfold fnAt
 rw [if_neg (by omega)]
 exact List.getElem?_eq_getElem _
def depM (p : List Fnc) (f pc : Int) : Int := match depthsM p (fnD p f).code with
 | .inr d => d.getD pc.toNat 0
 | .inl _ => 0
theorem Rt.ins {p : List Fnc} (h : Rt p) {f : Int} {g : Fnc} (hg : fnAt p f = some g) {pc : Int} (h0 : 0 ≤ pc) (h1 : pc < (g.code.length : Int)) : g.code[pc.toNat]? = some (insAt g pc) ∧ insAt g pc ∈ g.code := by
 have : g.code[pc.toNat]? = some (g.code[pc.toNat]'(by omega)) := List.getElem?_eq_getElem _
 unfold insAt
 rw [this]
 exact ⟨rfl,List.getElem_mem _⟩
theorem Rt.steady {p : List Fnc} (h : Rt p) {f : Int} {g : Fnc} (hg : fnAt p f = some g) {pc : Int} (h0 : 0 ≤ pc) (h1 : pc < (g.code.length : Int)) (hd : 0 ≤ depM p f pc) :
   popsM p (insAt g pc).op (insAt g pc).a ≤ depM p f pc ∧ depM p f pc - popsM p (insAt g pc).op (insAt g pc).a + pushesI (insAt g pc).op ≤ 8 ∧
   ∀ t ∈ nextM pc.toNat (insAt g pc).op (insAt g pc).a,0 ≤ t ∧ t < (g.code.length : Int) ∧ depM p f t = depM p f pc - popsM p (insAt g pc).op (insAt g pc).a + pushesI (insAt g pc).op := by
 obtain ⟨hm,hf0,_,_⟩ := fnAt_mem hg
 obtain ⟨d,hdd⟩ := h.flow g hm
 obtain ⟨h2,h3,h4⟩ := depths_still h.fewP (h.jmp g hm) hdd
 obtain ⟨hi,him⟩ := h.ins hg h0 h1
 unfold depM at hd ⊢
 rw [fnD_eq hg,hdd] at hd ⊢
 simp only at hd ⊢
 obtain ⟨k1,k2,k3⟩ := h2 pc.toNat _ hi hd
 refine ⟨k1,k2,fun t ht => ⟨?_,(k3 t ht).1,(k3 t ht).2⟩⟩
 unfold nextM at ht
 split at ht
 · cases ht
 split at ht
 · rename_i h15
   rw [List.mem_singleton] at ht; subst ht
   exact h.jmp g hm _ him (.inl h15)
 split at ht
 · rename_i h16
   rcases List.mem_cons.1 ht with rfl | ht
   · exact h.jmp g hm _ him (.inr h16)
   · rw [List.mem_singleton] at ht; omega
 · rw [List.mem_singleton] at ht; omega
theorem Rt.dep0 {p : List Fnc} (h : Rt p) {f : Int} {g : Fnc} (hg : fnAt p f = some g) : depM p f 0 = 0 ∧ 0 < (g.code.length : Int) := by
 obtain ⟨hm,hf0,_,_⟩ := fnAt_mem hg
 obtain ⟨d,hdd⟩ := h.flow g hm
 obtain ⟨h2,h3,h4⟩ := depths_still h.fewP (h.jmp g hm) hdd
 have hs := sized_bd (h.sized g hm)
 unfold depM
 rw [fnD_eq hg,hdd]
 exact ⟨h4 hs.2.2.2.2.2.2.1,by omega⟩
theorem Rt.dep_bd {p : List Fnc} (h : Rt p) {f : Int} {g : Fnc} (hg : fnAt p f = some g) (pc : Int) : -1 ≤ depM p f pc ∧ depM p f pc ≤ 8 := by
 obtain ⟨hm,hf0,_,_⟩ := fnAt_mem hg
 obtain ⟨d,hdd⟩ := h.flow g hm
 obtain ⟨h2,h3,h4⟩ := depths_still h.fewP (h.jmp g hm) hdd
 unfold depM
 rw [fnD_eq hg,hdd]
 simp only
 by_cases hl : pc.toNat < d.length
 · rw [List.getD,List.getElem?_eq_getElem hl]
   exact h3.2 _ (List.getElem_mem hl)
 · rw [List.getD,List.getElem?_eq_none (by omega)]; simp
end Go.Proofs.YtidcpndlloppdaaGreat

/-
 Layer 21,plain: what holds of the machine at any time is kept by each act.
 Conditions: the program is right.
-/
set_option linter.unusedVariables false
set_option linter.unusedSimpArgs false
set_option maxRecDepth 20000
namespace Go.Proofs.YtidcpndlloppdaaGreat
structure FrOk (p : List Fnc) (x : Frm) : Prop where
 may : mayM p x = true
 wd : FrmWd x
structure FrIn (p : List Fnc) (x : Frm) (g : Fnc) : Prop where
 fn : fnAt p x.f = some g
 pc : 0 ≤ x.pc ∧ x.pc ≤ (g.code.length : Int)
 mode : 0 ≤ x.mode ∧ x.mode ≤ 2
 locals : (x.locals.length : Int) = g.locals
 ops : x.ops.length ≤ 8
 room : x.dfs.length ≤ roomM g
 dfs : ∀ d ∈ x.dfs,dfrM p d = true
theorem FrOk.inn {p : List Fnc} {x : Frm} (h : FrOk p x) : ∃ g,FrIn p x g := by
 have hm := h.may
 unfold mayM at hm
 split at hm
 · rename_i g hg
   rw [Bool.and_eq_true,decide_eq_true_eq,List.all_eq_true] at hm
   obtain ⟨⟨h1,h2,h3,h4,h5,h6,h7⟩,h8⟩ := hm
   exact ⟨g,hg,⟨h1,h2⟩,⟨h3,h4⟩,h5,h6,h7,h8⟩
 · cases hm
theorem FrIn.ok {p : List Fnc} {x : Frm} {g : Fnc} (h : FrIn p x g) (hw : FrmWd x) : FrOk p x := by
 refine ⟨?_,hw⟩
 unfold mayM
 rw [h.fn]
 simp only
 rw [Bool.and_eq_true,decide_eq_true_eq,List.all_eq_true]
 exact ⟨⟨h.pc.1,h.pc.2,h.mode.1,h.mode.2,h.locals,h.ops,h.room⟩,h.dfs⟩
theorem FrIn.wrap {p : List Fnc} {x : Frm} {g : Fnc} (h : FrIn p x g) (hr : Rt p) : g ∈ p ∧ sizedF g = true := ⟨(fnAt_mem h.fn).1,hr.sized g (fnAt_mem h.fn).1⟩
theorem w64_nat (n : Nat) (h : n < 18446744073709551616) : 0 ≤ ((n : Nat) : Int) ∧ ((n : Nat) : Int) < 18446744073709551616 := by omega
theorem locM_len {n : Int} (h : 0 ≤ n) (args : List Int) : ((locM n args).length : Int) = n := by
 unfold locM
 rw [List.length_take,List.length_append,List.length_replicate]
 omega
theorem locM_wd {n : Int} {args : List Int} (h : Wd args) : Wd (locM n args) := fun x hx => by
 unfold locM at hx
 rcases List.mem_append.1 (List.mem_of_mem_take hx) with hx | hx
 · exact h x hx
 · rw [(List.mem_replicate.1 hx).2]; omega
theorem newF_in {p : List Fnc} (hr : Rt p) {f : Int} {g : Fnc} (hg : fnAt p f = some g) (args : List Int) (dfd : Bool) : FrIn p (newF p f args dfd) g := by
 have hs := sized_bd (hr.sized g (fnAt_mem hg).1)
 refine ⟨hg,⟨by simp [newF],by simp [newF]⟩,⟨by simp [newF],by simp [newF]⟩, ?_,by simp [newF],by simp [newF],fun d hd => by simp [newF] at hd⟩
 show ((locM (fnD p f).locals args).length : Int) = g.locals
 rw [fnD_eq hg]
 exact locM_len (by omega) _
theorem newF_ok {p : List Fnc} (hr : Rt p) {f : Int} {g : Fnc} (hg : fnAt p f = some g) {args : List Int} (ha : Wd args) (dfd : Bool) : FrOk p (newF p f args dfd) :=
 (newF_in hr hg args dfd).ok ⟨by simp [newF],locM_wd ha,fun x hx => by simp [newF] at hx,fun d hd => by simp [newF] at hd⟩
structure At (p : List Fnc) (x : Frm) (k : Int) : Prop where
 pc : x.pc < ((fnD p x.f).code.length : Int)
 dep : depM p x.f x.pc = (x.ops.length : Int) + k
def TopOk (p : List Fnc) (x : Frm) : Prop := x.mode = 0 → At p x 0
structure Und (p : List Fnc) (u v : Frm) : Prop where
 run : u.mode = 0 → v.dfd = false ∧ At p u 1
 not : u.mode ≠ 0 → v.dfd = true
def Chn (p : List Fnc) : List Frm → Prop
 | [] => True
 | [x] => x.dfd = false
 | v :: u :: r => Und p u v ∧ Chn p (u :: r)
structure MOk (p : List Fnc) (m : Mach) : Prop where
 frames : ∀ x ∈ m.frames,FrOk p x
 top : ∀ x r,m.frames = x :: r → TopOk p x
 chain : Chn p m.frames
 first : ∃ g,fnAt p m.first = some g ∧ g.params = 0
 fresh : m.begun = false → m.frames = [] ∧ m.trace = []
 gone : m.begun = true → (m.ended = true ↔ m.frames = [])
 goneB : m.ended = true → m.begun = true
 refs : 0 ≤ m.refs
structure Lim (m : Mach) (n : Nat) : Prop where
 refs : m.refs ≤ n
 frames : m.frames.length ≤ n
 trace : m.trace.length ≤ n
theorem Chn.top {p : List Fnc} {x y : Frm} {r : List Frm} (h : Chn p (x :: r)) (hd : y.dfd = x.dfd) : Chn p (y :: r) := by
 cases r with
 | nil => exact hd.trans h
 | cons u r => exact ⟨⟨fun h0 => by rw [hd]; exact h.1.run h0,fun h0 => by rw [hd]; exact h.1.not h0⟩,h.2⟩
theorem newM_ok {p : List Fnc} {f : Int} {g : Fnc} (hg : fnAt p f = some g) (h0 : g.params = 0) : MOk p (newM f) :=
 ⟨fun x hx => by simp [newM] at hx,fun x r h => by simp [newM] at h,trivial,⟨g,hg,h0⟩,fun _ => ⟨rfl,rfl⟩,fun h => by simp [newM] at h,fun h => by simp [newM] at h,by simp [newM]⟩
structure InsIn (p : List Fnc) (g : Fnc) (i : Ins) (x : Frm) (n : Nat) : Prop where
 pops : popN p i = n
 enough : n ≤ x.ops.length
 after : (x.ops.length : Int) - n + pushesI i.op ≤ 8
 shape : shapedI p.length g i = true
 next : ∀ t ∈ nextM x.pc.toNat i.op i.a,0 ≤ t ∧ t < (g.code.length : Int) ∧ depM p x.f t = (x.ops.length : Int) - n + pushesI i.op
theorem ins_in {p : List Fnc} (hr : Rt p) {x : Frm} {g : Fnc} (h : FrIn p x g) (ht : At p x 0) : InsIn p g (insAt g x.pc) x (popN p (insAt g x.pc)) ∧ insAt g x.pc ∈ g.code := by
 have hpc := ht.pc
 rw [fnD_eq h.fn] at hpc
 have hd := ht.dep
 rw [Int.add_zero] at hd
 obtain ⟨h1,h2⟩ := hr.ins h.fn h.pc.1 hpc
 obtain ⟨k1,k2,k3⟩ := hr.steady h.fn h.pc.1 hpc (by omega)
 have hb := popsM_bd hr.fewP (insAt g x.pc).op (insAt g x.pc).a
 refine ⟨⟨rfl, ?_, ?_,hr.shaped g (fnAt_mem h.fn).1 _ h2,fun t htn => ?_⟩,h2⟩
 · unfold popN; omega
 · unfold popN; omega
 · obtain ⟨a,b,c⟩ := k3 t htn
   refine ⟨a,b, ?_⟩
   unfold popN; omega
theorem pop_wd {p : List Fnc} {i : Ins} {x : Frm} (h : FrmWd x) : FrmWd (popF p i x) := ⟨h.value,h.locals,fun y hy => h.ops y (List.mem_of_mem_take hy),h.args⟩
theorem popL_wd {p : List Fnc} {i : Ins} {x : Frm} (h : FrmWd x) : Wd (popL p i x) := fun y hy => h.ops y (List.mem_of_mem_drop hy)
theorem popL_len {p : List Fnc} {i : Ins} {x : Frm} (h : popN p i ≤ x.ops.length) : (popL p i x).length = popN p i := by unfold popL; rw [List.length_drop]; omega
theorem popF_len {p : List Fnc} {i : Ins} {x : Frm} (h : popN p i ≤ x.ops.length) : (popF p i x).ops.length = x.ops.length - popN p i := by unfold popF; simp only; rw [List.length_take]; omega
theorem getD_wdM {xs : List Int} (h : Wd xs) (i : Nat) : 0 ≤ xs.getD i 0 ∧ xs.getD i 0 < 18446744073709551616 := by
 by_cases hi : i < xs.length
 · rw [List.getD,List.getElem?_eq_getElem hi]; exact h _ (List.getElem_mem hi)
 · rw [List.getD,List.getElem?_eq_none (by omega)]; simp
theorem FrmWd.push {y : Frm} (h : FrmWd y) {ws : List Int} (hw : Wd ws) : FrmWd (pushF y ws) := ⟨h.value,h.locals,fun x hx => by
 rcases List.mem_append.1 hx with hx | hx
 · exact h.ops x hx
 · exact hw x hx,h.args⟩
theorem wd_one {n : Nat} (h : n < 18446744073709551616) : Wd [((n : Nat) : Int)] := fun x hx => by rw [List.mem_singleton] at hx; subst hx; omega
theorem wd_one' {n : Int} (h : 0 ≤ n ∧ n < 18446744073709551616) : Wd [n] := fun x hx => by rw [List.mem_singleton] at hx; subst hx; exact h
theorem wd_two {a b : Int} (h : 0 ≤ a ∧ a < 18446744073709551616) (h' : 0 ≤ b ∧ b < 18446744073709551616) : Wd [a,b] := fun x hx => by
 rcases List.mem_cons.1 hx with rfl | hx
 · exact h
 · rw [List.mem_singleton] at hx; subst hx; exact h'
theorem Wd.setM {xs : List Int} (h : Wd xs) (i : Nat) {x : Int} (hx : 0 ≤ x ∧ x < 18446744073709551616) : Wd (xs.set i x) := fun y hy => by
 rcases List.mem_or_eq_of_mem_set hy with hy | rfl
 · exact h y hy
 · exact hx
end Go.Proofs.YtidcpndlloppdaaGreat
