import Derived.Test.YtidcpndlloppdaaGreatZP21c
/-
 Layer 21,plain: what holds of the machine is kept by each act; counts grow by one at most.
 Conditions: the program is right.
-/
set_option linter.unusedVariables false
set_option linter.unusedSimpArgs false
set_option maxRecDepth 20000
namespace Go.Proofs.YtidcpndlloppdaaGreat
section
variable {p : List Fnc} {g : Fnc} {x : Frm}
theorem one_res (hr : Rt p) (h : FrIn p x g) (hw : FrmWd x) (ht : At p x 0) (h15 : (insAt g x.pc).op ≠ 15) (h16 : (insAt g x.pc).op ≠ 16) (h18 : (insAt g x.pc).op ≠ 18) (h20 : (insAt g x.pc).op ≠ 20) {ws ls : List Int} (hl : (ws.length : Int) = pushesI (insAt g x.pc).op) (hww : Wd ws) (hll : ls.length = x.locals.length) (hlw : Wd ls) :
   Res p g x (pushF { popF p (insAt g x.pc) x with locals := ls } ws) := by
 obtain ⟨hi,hmem⟩ := ins_in hr h ht
 have h0 := h.pc.1
 have hy := pop_wd (p := p) (i := insAt g x.pc) hw
 have hol := popF_len hi.enough
 have hen := hi.enough
 refine res_go h hi ((FrmWd.push (y := { popF p (insAt g x.pc) x with locals := ls }) ⟨hy.value,hlw,hy.ops,hy.args⟩ hww)) rfl rfl rfl hll rfl ?_ ?_
 · unfold pushF
   simp only
   rw [List.length_append,hol, ← hl]; omega
 · rw [next_one h15 h16 h18 h20]
   have : (pushF { popF p (insAt g x.pc) x with locals := ls } ws).pc = x.pc + 1 := rfl
   rw [this,List.mem_singleton]; omega
theorem push_nil (y : Frm) : pushF y [] = y := by unfold pushF; rw [List.append_nil]
theorem refAt_bd {y : Frm} (hs : sizedF g = true) (hl : (y.locals.length : Int) = g.locals) {k : Int} (hk : 0 ≤ k ∧ k < g.refs) : refAt g y k < y.locals.length ∧ ((refAt g y k : Nat) : Int) = (y.locals.length : Int) - g.refs + k := by
 have := sized_bd hs
 unfold refAt
 omega
end
theorem MOk.top1 {p : List Fnc} {m : Mach} (h : MOk p m) {x z : Frm} {r : List Frm} (hm : m.frames = x :: r) (hz : FrOk p z) (ht : TopOk p z) (hd : z.dfd = x.dfd) (hb : m.begun = true) (m' : Mach) (h1 : m'.frames = z :: r) (h2 : m'.first = m.first) (h3 : m'.begun = m.begun) (h4 : m'.ended = m.ended) (h5 : 0 ≤ m'.refs) : MOk p m' := by
 have hx := h.frames
 have hc := h.chain
 rw [hm] at hx hc
 refine ⟨fun y hy => ?_,fun y r' e => ?_,by rw [h1]; exact hc.top hd,by rw [h2]; exact h.first,fun e => (by rw [h3,hb] at e; cases e),fun _ => ?_,fun e => by rw [h3]; exact hb,h5⟩
 · rw [h1] at hy
   rcases List.mem_cons.1 hy with rfl | hy
   · exact hz
   · exact hx y (List.mem_cons_of_mem _ hy)
 · rw [h1] at e; cases e; exact ht
 · rw [h4,h1,h.gone hb,hm]
   simp
set_option maxHeartbeats 1000000 in
theorem run_ok {p : List Fnc} (hr : Rt p) {m : Mach} (h : MOk p m) {x : Frm} {r : List Frm} (hm : m.frames = x :: r) (hb : m.begun = true) (h0 : x.mode = 0) (hbig : m.refs < 1000000000000) : MOk p (runMach p m x r) ∧ (runMach p m x r).refs ≤ m.refs + 1 ∧ (runMach p m x r).frames.length ≤ m.frames.length + 1 ∧ (runMach p m x r).trace.length ≤ m.trace.length + 1 := by
 have hxo := h.frames x (by rw [hm]; exact List.mem_cons_self)
 obtain ⟨g,hg⟩ := hxo.inn
 have hw := hxo.wd
 have ht := h.top x r hm h0
 obtain ⟨hi,hmem⟩ := ins_in hr hg ht
 obtain ⟨hgp,hsz⟩ := hg.wrap hr
 have hrest : ∀ y ∈ r,FrOk p y := fun y hy => h.frames y (by rw [hm]; exact List.mem_cons_of_mem _ hy)
 have hchain := h.chain
 rw [hm] at hchain
 have hsh := shape_a hi.shape hsz
 have hpc0 := hg.pc.1
 have hlt := At.lt hg ht
 have hy := pop_wd (p := p) (i := insAt g x.pc) hw
 have hlw := popL_wd (p := p) (i := insAt g x.pc) hw
 have hol := popF_len hi.enough
 have hen := hi.enough
 have hrefs := h.refs
 unfold runMach
 rw [fnD_eq hg.fn]
 have one := fun (a : _) (b : _) (c : _) (d : _) {ws ls : List Int} => one_res (ws := ws) (ls := ls) hr hg hw ht a b c d
 have fin : ∀ {z : Frm} {m' : Mach},Res p g x z → m'.frames = z :: r → m'.first = m.first → m'.begun = m.begun → m'.ended = m.ended → 0 ≤ m'.refs → m'.refs ≤ m.refs + 1 → m'.trace.length ≤ m.trace.length + 1 → MOk p m' ∧ m'.refs ≤ m.refs + 1 ∧ m'.frames.length ≤ m.frames.length + 1 ∧ m'.trace.length ≤ m.trace.length + 1 := fun {z m'} hz e1 e2 e3 e4 e5 e6 e7 =>
   ⟨h.top1 hm (hz.inn.ok hz.wd) hz.top hz.dfd hb m' e1 e2 e3 e4 e5,e6,by rw [e1,hm]; simp,e7⟩
 have same : (popF p (insAt g x.pc) x).locals = x.locals := rfl
 have eta : ∀ (ls : List Int),pushF { popF p (insAt g x.pc) x with locals := ls } [] = { popF p (insAt g x.pc) x with locals := ls } := fun ls => push_nil _
 have eta' : { popF p (insAt g x.pc) x with locals := x.locals } = popF p (insAt g x.pc) x := rfl
 unfold actM
 by_cases c17 : (insAt g x.pc).op = 17
 · rw [if_pos c17]
   have ha := hsh.2.2.2.1 (by rw [c17]; rfl)
   obtain ⟨gd,hgd⟩ := fnAt_in ha.1 ha.2
   have hpc1 : x.pc + 1 ∈ nextM x.pc.toNat (insAt g x.pc).op (insAt g x.pc).a := by rw [next_one (by omega) (by omega) (by omega) (by omega)]; simp; omega
   obtain ⟨t0,t1,t2⟩ := hi.next _ hpc1
   rw [show pushesI (insAt g x.pc).op = 1 by rw [c17]; rfl] at t2
   have hzin : FrIn p (popF p (insAt g x.pc) x) g := ⟨hg.fn,⟨t0,by show x.pc + 1 ≤ _; omega⟩,hg.mode,hg.locals,by have := hg.ops; omega,hg.room,hg.dfs⟩
   have hz : FrOk p (popF p (insAt g x.pc) x) := hzin.ok hy
   have hn := newF_ok hr hgd hlw false
   refine ⟨⟨fun y hyy => ?_,fun y r' e => ?_, ?_,h.first,fun e => (by rw [hb] at e; cases e),fun _ => ?_,fun _ => hb,hrefs⟩,by simp; omega,by rw [hm]; simp,by simp⟩
   · rcases List.mem_cons.1 hyy with rfl | hyy
     · exact hn
     rcases List.mem_cons.1 hyy with rfl | hyy
     · exact hz
     · exact hrest y hyy
   · cases e
     intro _
     have hd0 := hr.dep0 hgd
     refine ⟨?_, ?_⟩
     · show (0 : Int) < ((fnD p (insAt g x.pc).a).code.length : Int)
       rw [fnD_eq hgd]; exact hd0.2
     · show depM p (insAt g x.pc).a 0 = ((([] : List Int).length : Nat) : Int) + 0
       rw [hd0.1]; simp
   · refine ⟨⟨fun _ => ⟨rfl, ?_, ?_⟩,fun hne => absurd h0 hne⟩,hchain.top rfl⟩
     · show x.pc + 1 < ((fnD p x.f).code.length : Int)
       rw [fnD_eq hg.fn]; exact t1
     · show depM p x.f (x.pc + 1) = ((popF p (insAt g x.pc) x).ops.length : Int) + 1
       rw [t2,hol]; omega
   · have := h.gone hb
     rw [hm] at this
     simp only [reduceCtorEq,iff_false] at this ⊢
     exact this
 rw [if_neg c17]
 by_cases c21 : (insAt g x.pc).op = 21
 · rw [if_pos c21]
   have h21 : pushesI (insAt g x.pc).op = 2 := by rw [c21]; rfl
   have res : ∀ {a b : Int},(0 ≤ a ∧ a < 18446744073709551616) → (0 ≤ b ∧ b < 18446744073709551616) → Res p g x (pushF (popF p (insAt g x.pc) x) [a,b]) := fun ha hb => one (by omega) (by omega) (by omega) (by omega) (ls := x.locals) (by rw [h21]; rfl) (wd_two ha hb) rfl hw.locals
   have hzero := w64_nat _ (nwM_lt 0)
   have hone := w64_nat _ (nwM_lt 1)
   unfold recvM
   cases r with
   | nil => exact fin (res hzero hzero) rfl rfl rfl rfl hrefs (by simp; omega) (by simp)
   | cons u r' =>
     simp only
     split
     · rename_i hc
       have hu := hrest u List.mem_cons_self
       obtain ⟨gu,hgu⟩ := hu.inn
       have hz := res hu.wd.value hone
       have hu' : FrOk p { u with mode := 1,value := (nw 0 : Nat) } := FrIn.ok (g := gu) ⟨hgu.fn,hgu.pc,⟨by simp,by simp⟩,hgu.locals,hgu.ops,hgu.room,hgu.dfs⟩ ⟨hzero,hu.wd.locals,hu.wd.ops,hu.wd.args⟩
       refine ⟨⟨fun y hyy => ?_,fun y r0 e => ?_, ?_,h.first,fun e => (by rw [hb] at e; cases e),fun _ => ?_,fun _ => hb,hrefs⟩,by simp; omega,by rw [hm]; simp,by simp⟩
       · rcases List.mem_cons.1 hyy with rfl | hyy
         · exact hz.inn.ok hz.wd
         rcases List.mem_cons.1 hyy with rfl | hyy
         · exact hu'
         · exact hrest y (List.mem_cons_of_mem _ hyy)
       · cases e; exact hz.top
       · refine ⟨⟨fun e => absurd e (by simp),fun _ => hc.1⟩, ?_⟩
         exact Chn.top (x := u) hchain.2 rfl
       · have := h.gone hb
         rw [hm] at this
         simp only [reduceCtorEq,iff_false] at this ⊢
         exact this
     · exact fin (res hzero hzero) rfl rfl rfl rfl hrefs (by simp; omega) (by simp)
 rw [if_neg c21]
 have stay : pushesI (insAt g x.pc).op = 0 → (insAt g x.pc).op ≠ 15 → (insAt g x.pc).op ≠ 16 → (insAt g x.pc).op ≠ 18 → (insAt g x.pc).op ≠ 20 → ∀ {ls : List Int},ls.length = x.locals.length → Wd ls → Res p g x { popF p (insAt g x.pc) x with locals := ls } := fun hp0 a b c d ls hl hlw => by
   have := one a b c d (ws := []) (ls := ls) (by rw [hp0]; rfl) (fun y hy => by cases hy) hl hlw
   rwa [eta] at this
 by_cases c22 : (insAt g x.pc).op = 22
 · rw [if_pos c22]
   exact fin (stay (by rw [c22]; rfl) (by omega) (by omega) (by omega) (by omega) (ls := x.locals) rfl hw.locals) rfl rfl rfl rfl hrefs (by simp; omega) (by simp)
 rw [if_neg c22]
 by_cases c23 : (insAt g x.pc).op = 23
 · rw [if_pos c23]
   · exact fin (stay (by rw [c23]; rfl) (by omega) (by omega) (by omega) (by omega) (ls := x.locals.set _ (m.refs + 1)) (by simp) (hw.locals.setM _ ⟨by omega,by omega⟩)) rfl rfl rfl rfl (by show 0 ≤ m.refs + 1; omega) (by simp) (by simp)
 rw [if_neg c23]
 by_cases c24 : (insAt g x.pc).op = 24
 · rw [if_pos c24]
   exact fin (stay (by rw [c24]; rfl) (by omega) (by omega) (by omega) (by omega) (ls := x.locals.set _ _) (by simp) (hw.locals.setM _ (getD_wdM hw.locals _))) rfl rfl rfl rfl hrefs (by simp; omega) (by simp)
 rw [if_neg c24]
 by_cases c25 : (insAt g x.pc).op = 25
 · rw [if_pos c25]
   exact fin (stay (by rw [c25]; rfl) (by omega) (by omega) (by omega) (by omega) (ls := x.locals.set _ 0) (by simp) (hw.locals.setM _ (by omega))) rfl rfl rfl rfl hrefs (by simp; omega) (by simp)
 rw [if_neg c25]
 by_cases c26 : (insAt g x.pc).op = 26
 · rw [if_pos c26]
   exact fin (stay (by rw [c26]; rfl) (by omega) (by omega) (by omega) (by omega) (ls := x.locals) rfl hw.locals) rfl rfl rfl rfl hrefs (by simp; omega) (by simp)
 rw [if_neg c26]
 exact fin (sim_res hr hg hw ht hmem ⟨c17,c21,c22,c23,c24,c25,c26⟩) rfl rfl rfl rfl hrefs (by simp; omega) (by simp)
theorem getLast_mem {α : Type} {l : List α} {d : α} (h : l.getLast? = some d) : d ∈ l ∧ l = l.dropLast ++ [d] := by
 cases l with
 | nil => cases h
 | cons a r =>
   rw [List.getLast?_eq_some_getLast (by simp)] at h
   cases h
   exact ⟨List.getLast_mem _,(List.dropLast_concat_getLast (by simp)).symm⟩
theorem leave_ok {p : List Fnc} (hr : Rt p) {m : Mach} (h : MOk p m) {x : Frm} {r : List Frm} (hm : m.frames = x :: r) (hb : m.begun = true) (h0 : x.mode ≠ 0) : MOk p (leaveM p m x r) ∧ (leaveM p m x r).refs ≤ m.refs + 1 ∧ (leaveM p m x r).frames.length ≤ m.frames.length + 1 ∧ (leaveM p m x r).trace.length ≤ m.trace.length + 1 := by
 have hxo := h.frames x (by rw [hm]; exact List.mem_cons_self)
 obtain ⟨g,hg⟩ := hxo.inn
 have hw := hxo.wd
 have hrest : ∀ y ∈ r,FrOk p y := fun y hy => h.frames y (by rw [hm]; exact List.mem_cons_of_mem _ hy)
 have hchain := h.chain
 rw [hm] at hchain
 have hrefs := h.refs
 have hne : ¬ m.ended = true := fun e => by have := (h.gone hb).1 e; rw [hm] at this; cases this
 unfold leaveM
 cases hl : x.dfs.getLast? with
 | some d =>
   simp only
   obtain ⟨hd,hdl⟩ := getLast_mem hl
   have hdm := hg.dfs d hd
   obtain ⟨gd,hgd⟩ : ∃ gd,fnAt p d.f = some gd := by
     unfold dfrM at hdm
     split at hdm
     · exact ⟨_,by assumption⟩
     · cases hdm
   have hx' : FrOk p { x with dfs := x.dfs.dropLast } := FrIn.ok (g := g) ⟨hg.fn,hg.pc,hg.mode,hg.locals,hg.ops,by have := hg.room; simp; omega,fun e he => hg.dfs e (List.dropLast_subset _ he)⟩ ⟨hw.value,hw.locals,hw.ops,fun e he => hw.args e (List.dropLast_subset _ he)⟩
   have hn := newF_ok hr hgd (hw.args d hd) true
   refine ⟨⟨fun y hyy => ?_,fun y r0 e => ?_,⟨⟨fun e => absurd e h0,fun _ => rfl⟩,Chn.top (x := x) hchain rfl⟩,h.first,fun e => (by rw [hb] at e; cases e),fun _ => ?_,fun _ => hb,hrefs⟩,by show m.refs ≤ m.refs + 1; omega,by rw [hm]; simp,by simp⟩
   · rcases List.mem_cons.1 hyy with rfl | hyy
     · exact hn
     rcases List.mem_cons.1 hyy with rfl | hyy
     · exact hx'
     · exact hrest y hyy
   · cases e
     intro _
     have hd0 := hr.dep0 hgd
     refine ⟨?_, ?_⟩
     · show (0 : Int) < ((fnD p d.f).code.length : Int)
       rw [fnD_eq hgd]; exact hd0.2
     · show depM p d.f 0 = ((([] : List Int).length : Nat) : Int) + 0
       rw [hd0.1]; simp
   · simp only [reduceCtorEq,iff_false]; exact hne
 | none =>
   simp only
   cases r with
   | nil =>
     simp only
     exact ⟨⟨fun y hy => by simp at hy,fun y r e => by simp at e,trivial,h.first,fun e => (by rw [hb] at e; cases e),fun _ => by simp,fun _ => hb,hrefs⟩,by show m.refs ≤ m.refs + 1; omega,by simp,by simp⟩
   | cons u r' =>
     have hu := hrest u List.mem_cons_self
     obtain ⟨gu,hgu⟩ := hu.inn
     have hund := hchain.1
     have main : ∀ {z : Frm} {m' : Mach},FrOk p z → TopOk p z → z.dfd = u.dfd → m'.frames = z :: r' → m'.first = m.first → m'.begun = m.begun → m'.ended = m.ended → m'.refs = m.refs → m'.trace = m.trace → MOk p m' ∧ m'.refs ≤ m.refs + 1 ∧ m'.frames.length ≤ m.frames.length + 1 ∧ m'.trace.length ≤ m.trace.length + 1 := fun {z m'} hz htz hdz e1 e2 e3 e4 e5 e6 => by
       refine ⟨⟨fun y hyy => ?_,fun y r0 e => ?_,by rw [e1]; exact Chn.top (x := u) hchain.2 hdz,by rw [e2]; exact h.first,fun e => (by rw [e3,hb] at e; cases e),fun _ => ?_,fun _ => by rw [e3]; exact hb,by rw [e5]; exact hrefs⟩,by omega,by rw [e1,hm]; simp,by rw [e6]; omega⟩
       · rw [e1] at hyy
         rcases List.mem_cons.1 hyy with rfl | hyy
         · exact hz
         · exact hrest y (List.mem_cons_of_mem _ hyy)
       · rw [e1] at e; cases e; exact htz
       · rw [e1,e4]; simp only [reduceCtorEq,iff_false]; exact hne
     simp only
     split
     · exact main (z := { u with mode := 2,value := x.value }) (FrIn.ok (g := gu) ⟨hgu.fn,hgu.pc,⟨by simp,by simp⟩,hgu.locals,hgu.ops,hgu.room,hgu.dfs⟩ ⟨hw.value,hu.wd.locals,hu.wd.ops,hu.wd.args⟩) (fun e => absurd e (by simp)) rfl rfl rfl rfl rfl rfl rfl
     · split
       · rename_i hd
         refine main (z := u) hu (fun hum => ?_) rfl rfl rfl rfl rfl rfl rfl
         have := (hund.run hum).1
         rw [hd] at this; cases this
       · rename_i hd
         have hum : u.mode = 0 := Classical.byContradiction fun hne => hd (hund.not hne)
         obtain ⟨hd',hat⟩ := hund.run hum
         have hb8 := hr.dep_bd hgu.fn u.pc
         have hdep := hat.dep
         refine main (z := pushF u [x.value]) (FrIn.ok (g := gu) ⟨hgu.fn,hgu.pc,hgu.mode,hgu.locals, ?_,hgu.room,hgu.dfs⟩ (hu.wd.push (wd_one' hw.value))) (fun _ => ⟨hat.pc, ?_⟩) rfl rfl rfl rfl rfl rfl rfl
         · unfold pushF
           simp only
           rw [List.length_append]; simp only [List.length_cons,List.length_nil]; omega
         · show depM p u.f u.pc = ((u.ops ++ [x.value]).length : Int) + 0
           rw [hdep,List.length_append]; simp
theorem step_ok {p : List Fnc} (hr : Rt p) {m : Mach} (h : MOk p m) {n : Nat} (hl : Lim m n) (hn : n < 1000000000) : MOk p (stepM p m).1 ∧ Lim (stepM p m).1 (n + 1) := by
 have up : Lim m (n + 1) := ⟨by have := hl.refs; omega,by have := hl.frames; omega,by have := hl.trace; omega⟩
 have l1 := hl.refs
 have l2 := hl.frames
 have l3 := hl.trace
 unfold stepM
 split
 · exact ⟨h,up⟩
 split
 · exact ⟨h,up⟩
 rename_i hne _
 unfold goM
 simp only
 split
 · rename_i hb
   obtain ⟨g,hg,h0⟩ := h.first
   obtain ⟨hf,ht⟩ := h.fresh hb
   have hn0 := newF_ok hr hg (args := []) (fun x hx => by cases hx) false
   have hd0 := hr.dep0 hg
   refine ⟨⟨fun x hx => ?_,fun x r e => ?_, ?_,⟨g,hg,h0⟩,fun e => by simp at e,fun _ => ?_,fun _ => rfl,h.refs⟩,⟨by show m.refs ≤ _; omega,by simp; omega,by show m.trace.length ≤ _; omega⟩⟩
   · rw [show (newF p m.first [] false :: m.frames) = [newF p m.first [] false] by rw [hf]] at hx
     rw [List.mem_singleton] at hx; subst hx; exact hn0
   · have e' : newF p m.first [] false :: m.frames = x :: r := e
     cases e'
     refine fun _ => ⟨?_, ?_⟩
     · show (0 : Int) < ((fnD p m.first).code.length : Int)
       rw [fnD_eq hg]; exact hd0.2
     · show depM p m.first 0 = ((([] : List Int).length : Nat) : Int) + 0
       rw [hd0.1]; simp
   · show Chn p (newF p m.first [] false :: m.frames)
     rw [hf]; rfl
   · show m.ended = true ↔ newF p m.first [] false :: m.frames = []
     simp only [reduceCtorEq,iff_false]; exact hne
 · rename_i hb
   have hb' : m.begun = true := by simpa using hb
   cases hm : m.frames with
   | nil => simp only; exact ⟨h,up⟩
   | cons x r =>
     simp only
     split
     · rename_i h0
       obtain ⟨a,b,c,d⟩ := run_ok hr h hm hb' h0 (by omega)
       exact ⟨a,⟨by omega,by omega,by omega⟩⟩
     · rename_i h0
       obtain ⟨a,b,c,d⟩ := leave_ok hr h hm hb' h0
       exact ⟨a,⟨by omega,by omega,by omega⟩⟩
theorem wake_ok {p : List Fnc} {m : Mach} (h : MOk p m) : MOk p (wakeM m) := ⟨h.frames,h.top,h.chain,h.first,h.fresh,h.gone,h.goneB,h.refs⟩
theorem wake_lim {m : Mach} {n : Nat} (h : Lim m n) : Lim (wakeM m) n := ⟨h.refs,h.frames,h.trace⟩
theorem newM_lim (f : Int) : Lim (newM f) 0 := ⟨by simp [newM],by simp [newM],by simp [newM]⟩
end Go.Proofs.YtidcpndlloppdaaGreat
