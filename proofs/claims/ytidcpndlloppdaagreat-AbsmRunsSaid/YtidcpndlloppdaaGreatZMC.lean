import Derived.Test.YtidcpndlloppdaaGreatZC17h
import Derived.Test.YtidcpndlloppdaaGreatZWH
import Derived.Test.YtidcpndlloppdaaGreatZMB
/-
 Layer 17: the reference's Check,and both Depths,return what one plain rule tells; the document's examples hold.
 Conditions: the arguments' memory says what their values are.
-/
set_option linter.unusedVariables false
set_option linter.unusedSimpArgs false
namespace Go.Proofs.YtidcpndlloppdaaGreat
open Go.RowKit
section
variable {w0 : World} {v : Int × Int × Int} {cP q1 : Nat} {A : Option Addr} {p : List Fnc}
theorem l3_36 (hp : ProgAt w0 A p.length p) (hfew : Few p) (hlen : ∀ f ∈ p,f.code.length ≤ 1000) (hjmp : ∀ f ∈ p,∀ x ∈ f.code,x.op = 15 ∨ x.op = 16 → 0 ≤ x.a) : ∀ (k i : Nat) (w : World),p.length < i + k ∧ 1 ≤ k → i ≤ p.length → Below w0.heap.size w0 w →
   (∀ a b,flowsM p (p.drop i) i = some (a,b) → v = (9,(a : Int),(b : Int))) → (flowsM p (p.drop i) i = none → v = (0,0,0)) → V36.l3 w0.heap.size (IsV w0 (tripV v)) k i q1 A p.length cP w
 | 0,i,w,hk,_,_,_,_ => by omega
 | k + 1,i,w,hk,hi,hw,h1,h2 => by
   dsimp -zeta only [V36.l3]
   by_cases h : i < p.length
   · rw [if_pos (by simpa using h)]
     obtain ⟨f,a,C,c,hf,ha,c0,c1,c2,c3,hc⟩ := prog_at (hp.keep hw) h
     rw [drop_at hf] at h1 h2
     unfold flowsM at h1 h2
     have hm := List.mem_of_getElem? hf
     refine ⟨a,ha,by omega,by omega,f.params,by simpa using c0,f.locals,by simpa using c1,f.refs,by simpa using c2,C,f.code.length,c,by simpa using c3, ?_⟩
     refine call_yields (Q := FlowQ p f.code) hw (fun w1 e1 hb => yields76 (hp.keep hb) hfew (RowAt.keep InsE.kept hc (ext_keeps e1)) (hjmp f hm) (hlen f hm) _ _ _) fun w4 u w5 w6 hs _ hQ _ hnew he6 hw6 => ?_
     unfold FlowQ at hQ
     cases hd : depthsM p f.code with
     | inl j =>
       simp only [hd] at hQ h1
       subst hQ
       refine ⟨none,0,0,j,rfl, ?_⟩
       rw [if_pos (by simp)]
       exact ret_is hw6 (by rw [h1 i j rfl]; rfl)
     | inr d =>
       simp only [hd] at hQ h1 h2
       obtain ⟨g,_,rfl,_⟩ := hQ
       refine ⟨_,_,_, -1,rfl, ?_⟩
       rw [if_neg (by simp),wrap_succ h hp.small]
       exact l3_36 hp hfew hlen hjmp k (i + 1) w6 ⟨by omega,by omega⟩ (by omega) hw6 h1 h2
   · rw [if_neg (by simpa using h)]
     rw [List.drop_eq_nil_of_le (by omega)] at h2
     exact ret_is hw (by rw [h2 rfl]; rfl)
theorem l2_36 {L1 : Int → Nat → Option Addr → Nat → Nat → World → Prop} (hp : ProgAt w0 A p.length p) {i : Nat} {f : Fnc} (hi : i < p.length) (hf : p[i]? = some f) : ∀ (k j : Nat) (w : World),f.code.length < j + k ∧ 1 ≤ k → j ≤ f.code.length → Below w0.heap.size w0 w →
   (∀ b,firstNot (shapedI p.length f) (f.code.drop j) j = some b → v = (6,(i : Int),(b : Int))) →
   (firstNot (shapedI p.length f) (f.code.drop j) j = none → ∀ w',Below w0.heap.size w0 w' → L1 (IntKind.wrap .i64 ((i : Int) + 1)) q1 A p.length cP w') →
   V36.l2 w0.heap.size (IsV w0 (tripV v)) L1 k i j q1 A p.length cP w
 | 0,j,w,hk,_,_,_,_ => by omega
 | k + 1,j,w,hk,hj,hw,h1,h2 => by
   dsimp -zeta only [V36.l2]
   obtain ⟨f',a,C,c,hf',ha,c0,c1,c2,c3,hc⟩ := prog_at (hp.keep hw) hi
   rw [hf] at hf'
   cases hf'
   refine ⟨a,ha,by omega,by omega,C,f.code.length,c,by simpa using c3, ?_⟩
   by_cases h : j < f.code.length
   · rw [if_pos (by simpa using h)]
     obtain ⟨x,b,hx,hb,he⟩ := hc.at h
     rw [drop_at hx] at h1 h2
     unfold firstNot at h1 h2
     refine ⟨a,ha,by omega,by omega,f.params,by simpa using c0,f.locals,by simpa using c1,f.refs,by simpa using c2,C,f.code.length,c,by simpa using c3,a,ha,by omega,by omega,C,f.code.length,c,by simpa using c3,
       b,hb,by omega,by omega,x.op,by simpa using he.1,x.a,by simpa using he.2.1,x.b,by simpa using he.2.2, ?_⟩
     refine call_gives hw (fun w1 _ hb => gives75 (hp.keep hb) _ _ _ _ _ _ _ _ _) fun w1 _ hw1 => ⟨_,rfl, ?_⟩
     by_cases hs : shapedI p.length f x = true
     · simp only [if_pos hs] at h1 h2
       have hs' : shapedM p.length f.locals f.refs f.code.length x.op x.a x.b = true := hs
       rw [if_neg (by rw [hs']; simp),wrap_succ h hc.small]
       exact l2_36 hp hi hf k (j + 1) w1 ⟨by omega,by omega⟩ (by omega) hw1 h1 h2
     · simp only [if_neg hs] at h1
       have hs' : ¬ shapedM p.length f.locals f.refs f.code.length x.op x.a x.b = true := hs
       rw [if_pos (by rw [Bool.eq_false_iff.2 hs']; simp)]
       exact ret_is hw1 (by rw [h1 j rfl]; rfl)
   · rw [if_neg (by simpa using h)]
     rw [List.drop_eq_nil_of_le (by omega)] at h2
     exact h2 rfl w hw
theorem l1_36 (hp : ProgAt w0 A p.length p) (hfew : Few p) (hlen : ∀ f ∈ p,f.code.length ≤ 1000) : ∀ (k i : Nat) (w : World),p.length < i + k ∧ 1 ≤ k → i ≤ p.length → Below w0.heap.size w0 w → (∀ f ∈ p.take i,∀ x ∈ f.code,x.op = 15 ∨ x.op = 16 → 0 ≤ x.a) →
   (∀ a b,shapesM p.length (p.drop i) i = some (a,b) → v = (6,(a : Int),(b : Int))) → (shapesM p.length (p.drop i) i = none → (∀ a b,flowsM p p 0 = some (a,b) → v = (9,(a : Int),(b : Int))) ∧ (flowsM p p 0 = none → v = (0,0,0))) →
   V36.l1 w0.heap.size (IsV w0 (tripV v)) k i q1 A p.length cP w
 | 0,i,w,hk,_,_,_,_,_ => by omega
 | k + 1,i,w,hk,hi,hw,hj,h1,h2 => by
   dsimp -zeta only [V36.l1]
   by_cases h : i < p.length
   · rw [if_pos (by simpa using h)]
     obtain ⟨f,a,C,c,hf,ha,c0,c1,c2,c3,hc⟩ := prog_at hp h
     rw [drop_at hf] at h1 h2
     unfold shapesM at h1 h2
     refine ⟨f.code.length + 1,l2_36 hp h hf (f.code.length + 1) 0 w ⟨by omega,by omega⟩ (by omega) hw ?_ ?_⟩
     · intro b hb
       rw [List.drop_zero] at hb
       simp only [hb] at h1
       exact h1 i b rfl
     · intro hb w' hw'
       rw [List.drop_zero] at hb
       simp only [hb] at h1 h2
       rw [wrap_succ h hp.small]
       refine l1_36 hp hfew hlen k (i + 1) w' ⟨by omega,by omega⟩ (by omega) hw' ?_ h1 h2
       intro f' hf' x hx ho
       rw [List.take_add_one,hf] at hf'
       rcases List.mem_append.1 hf' with hf' | hf'
       · exact hj f' hf' x hx ho
       · simp at hf'
         subst hf'
         exact shaped_jump (firstNot_all hb x hx) ho
   · rw [if_neg (by simpa using h)]
     rw [List.drop_eq_nil_of_le (by omega)] at h2
     rw [List.take_of_length_le (by omega)] at hj
     exact ⟨p.length + 1,l3_36 hp hfew hlen hj (p.length + 1) 0 w ⟨by omega,by omega⟩ (by omega) hw (h2 rfl).1 (h2 rfl).2⟩
theorem l0_36 (hp : ProgAt w0 A p.length p) : ∀ (k i : Nat) (w : World),p.length < i + k ∧ 1 ≤ k → i ≤ p.length → Below w0.heap.size w0 w →
   (∀ a,firstNot sizedF (p.drop i) i = some a → v = (1,(a : Int),0)) → (firstNot sizedF (p.drop i) i = none → ∀ w',Below w0.heap.size w0 w' → ∃ k_1,V36.l1 w0.heap.size (IsV w0 (tripV v)) k_1 0 q1 A p.length cP w') →
   V36.l0 w0.heap.size (IsV w0 (tripV v)) k i q1 A p.length cP w
 | 0,i,w,hk,_,_,_,_ => by omega
 | k + 1,i,w,hk,hi,hw,h1,h2 => by
   dsimp -zeta only [V36.l0]
   by_cases h : i < p.length
   · rw [if_pos (by simpa using h)]
     obtain ⟨f,a,C,c,hf,ha,c0,c1,c2,c3,hc⟩ := prog_at (hp.keep hw) h
     rw [drop_at hf] at h1 h2
     unfold firstNot at h1 h2
     refine ⟨a,ha,by omega,by omega,f.params,by simpa using c0,f.locals,by simpa using c1,f.refs,by simpa using c2,C,f.code.length,c,by simpa using c3, ?_⟩
     refine call_gives hw (fun w1 _ _ => gives74 _ _ _ _ _ _ _) fun w1 _ hw1 => ⟨_,rfl, ?_⟩
     by_cases hs : sizedF f = true
     · simp only [if_pos hs] at h1 h2
       have hs' : sizedM f.params f.locals f.refs f.code.length = true := hs
       rw [if_neg (by rw [hs']; simp),wrap_succ h hp.small]
       exact l0_36 hp k (i + 1) w1 ⟨by omega,by omega⟩ (by omega) hw1 h1 h2
     · simp only [if_neg hs] at h1
       have hs' : ¬ sizedM f.params f.locals f.refs f.code.length = true := hs
       rw [if_pos (by rw [Bool.eq_false_iff.2 hs']; simp)]
       exact ret_is hw1 (by rw [h1 i rfl]; rfl)
   · rw [if_neg (by simpa using h)]
     rw [List.drop_eq_nil_of_le (by omega)] at h2
     exact h2 rfl w hw
end
theorem gives36 {w : World} {A : Option Addr} {p : List Fnc} {c : Nat} (hp : ProgAt w A p.length p) : Gives Tryz.prog 36 [.agg ⟨[.slice A p.length c]⟩] w (tripV (checkM p)) := by
 refine gives_of (V36.sound ?_)
 intro q1 _
 by_cases h1 : p.length < 1
 · rw [if_neg (by simp; omega)]
   exact ret_is (Below.refl _ _) (by unfold checkM; rw [if_pos (.inl h1)]; rfl)
 · rw [if_pos (by simp; omega)]
   by_cases h8 : 8 < p.length
   · rw [if_pos (by simp; omega)]
     exact ret_is (Below.refl _ _) (by unfold checkM; rw [if_pos (.inr h8)]; rfl)
   · rw [if_neg (by simp; omega)]
     have hc : checkM p = match firstNot sizedF p 0 with
         | some i => (1,(i : Int),0)
         | none => match shapesM p.length p 0 with
           | some (i,j) => (6,(i : Int),(j : Int))
           | none => match flowsM p p 0 with
             | some (i,j) => (9,(i : Int),(j : Int))
             | none => (0,0,0) := by unfold checkM; rw [if_neg (fun h => h.elim h1 h8)]; rfl
     refine ⟨p.length + 1,l0_36 hp (p.length + 1) 0 w ⟨by omega,by omega⟩ (by omega) (Below.refl _ _) ?_ ?_⟩
     · intro a ha
       rw [List.drop_zero] at ha
       rw [hc,ha]
     · intro hs w' hw'
       rw [List.drop_zero] at hs
       rw [hs] at hc
       refine ⟨p.length + 1,l1_36 hp (sized_few hs) (fun f hf => sized_len hs hf) (p.length + 1) 0 w' ⟨by omega,by omega⟩ (by omega) hw' (fun f hf => by simp at hf) ?_ ?_⟩
       · intro a b hab
         rw [List.drop_zero] at hab
         rw [hc,hab]
       · intro hn
         rw [List.drop_zero] at hn
         rw [hn] at hc
         refine ⟨fun a b hab => by rw [hc,hab],fun hf => by rw [hc,hf]⟩
end Go.Proofs.YtidcpndlloppdaaGreat

/-
 Layer 21,plain: what is parked,what an act needs,the document's example.
 Conditions: the program is right.
-/
set_option linter.unusedVariables false
set_option linter.unusedSimpArgs false
set_option maxRecDepth 20000
namespace Go.Proofs.YtidcpndlloppdaaGreat
theorem call_in {p : List Fnc} (hr : Rt p) {m : Mach} (h : MOk p m) {f : Int} (hc : callM p m = some f) : ∃ g,fnAt p f = some g := by
 unfold callM at hc
 split at hc
 · cases hc
 split at hc
 · obtain ⟨g,hg,_⟩ := h.first
   cases hc; exact ⟨g,hg⟩
 split at hc
 · cases hc
 rename_i x r hm
 have hxo := h.frames x (by rw [hm]; exact List.mem_cons_self)
 obtain ⟨f',hx⟩ := hxo.inn
 split at hc
 · rename_i h0
   split at hc
   · rename_i h17
     cases hc
     have ht := h.top x r hm h0
     obtain ⟨hi,hmem⟩ := ins_in hr hx ht
     obtain ⟨hgp,hsz⟩ := hx.wrap hr
     have hsh := shape_a hi.shape hsz
     rw [fnD_eq hx.fn] at h17 ⊢
     have ha := hsh.2.2.2.1 (by rw [h17]; rfl)
     exact fnAt_in ha.1 ha.2
   · cases hc
 · rename_i h0
   cases hl : x.dfs.getLast? with
   | none => rw [hl] at hc; cases hc
   | some d =>
     rw [hl] at hc
     cases hc
     have hdm := hx.dfs d (getLast_mem hl).1
     unfold dfrM at hdm
     split at hdm
     · exact ⟨_,by assumption⟩
     · cases hdm
def outsP (a b : Int) : List Fnc := [⟨0,0,0,[⟨1,a,0⟩,⟨22,0,0⟩,⟨1,b,0⟩,⟨18,0,0⟩]⟩]
def goN (p : List Fnc) (m : Mach) : Nat → Mach
 | 0 => m
 | n + 1 => (stepM p (goN p m n)).1
theorem go_ok {p : List Fnc} (hr : Rt p) {m : Mach} (h : MOk p m) {k : Nat} (hl : Lim m k) : ∀ n,k + n < 1000000000 → MOk p (goN p m n) ∧ Lim (goN p m n) (k + n)
 | 0,_ => ⟨h,hl⟩
 | n + 1,hn => by
   obtain ⟨a,b⟩ := go_ok hr h hl n (by omega)
   exact step_ok (n := k + n) hr a b (by omega)
theorem outs_check : checkM (outsP 1 2) = (0,0,0) := by kernel_rfl
theorem outs_codes : ∀ i : Fin 6,(stepM (outsP 1 2) (goN (outsP 1 2) (newM 0) i.val)).2 = 0 := by decide
theorem outs_end : (goN (outsP 1 2) (newM 0) 6).ended = true ∧ (goN (outsP 1 2) (newM 0) 6).trace = [⟨1,nw 1⟩,⟨3,nw 2⟩] := ⟨by kernel_rfl,by kernel_rfl⟩
theorem outs_over : (stepM (outsP 1 2) (goN (outsP 1 2) (newM 0) 6)).2 = 7 := by kernel_rfl
theorem outs_first : fnAt (outsP 1 2) 0 = some ⟨0,0,0,[⟨1,1,0⟩,⟨22,0,0⟩,⟨1,2,0⟩,⟨18,0,0⟩]⟩ := rfl
end Go.Proofs.YtidcpndlloppdaaGreat

/-
 Layer 21,plain: the programs of AbsmRecovers and AbsmDefers,run.
 Conditions: none.
-/
set_option linter.unusedVariables false
set_option linter.unusedSimpArgs false
set_option maxRecDepth 20000
namespace Go.Proofs.YtidcpndlloppdaaGreat
def hF : Fnc := ⟨0,0,0,[⟨21,0,0⟩,⟨27,0,0⟩,⟨18,0,0⟩]⟩
end Go.Proofs.YtidcpndlloppdaaGreat

/-
 Layer 21,plain: the machine on the programs of AbsmDefers.
 Conditions: none.
-/
set_option linter.unusedVariables false
set_option maxRecDepth 20000
namespace Go.Proofs.YtidcpndlloppdaaGreat
end Go.Proofs.YtidcpndlloppdaaGreat

/-
 What the engine makes of the loaded functions 38,11,27,18,21: conditions under which a call returns as told,and proofs of that.
 Conditions: none. Printed by a program of this project.
-/
set_option linter.unusedVariables false
set_option maxRecDepth 100000
namespace Go.Proofs.YtidcpndlloppdaaGreat
def V38.vc (B : Nat) (R : Value → World → Prop) (a c : Int) (w : World) : Prop :=
 ∀ d : Nat,w.heap.size ≤ d →
 Expo B w [d] fun f => 
 Hide [d] (f.alloc (.cells ⟨[.int .i64 1,.int .i64 a,.int .i64 0,.int .i64 22,.int .i64 0,.int .i64 0,.int .i64 1,.int .i64 c,.int .i64 0,.int .i64 18,.int .i64 0,.int .i64 0]⟩ 105)) fun g => 
 Expo B g [d] fun i => 
 Hide [d] (i.alloc (.cells ⟨[.int .i64 0,.int .i64 0,.int .i64 0,.slice (some ⟨f.heap.size,0,none⟩) 4 4]⟩ 63)) fun j => 
 Ret B j (R (.agg ⟨[.slice (some ⟨i.heap.size,0,none⟩) 1 1]⟩))
noncomputable def V38.cfg (B : Nat) : Cfg := ⟨Tryz.prog,⟨15,B⟩,[],hasN [],hasN [],look []⟩
noncomputable def V38.code : Code := (Tryz.f38.body).getD .skip
noncomputable def V38.cuts (B : Nat) (R : Value → World → Prop) : Nat → Cut := nthC []
noncomputable def V38.h : H := .s (.z) (.s (.z) (.z))
theorem V38.vc_eq (B : Nat) (R : Value → World → Prop) (a c : Int) (w : World) : wpf (V38.cfg B) (V38.cuts B R) V38.code V38.h [] (postOf Tryz.prog B (Tryz.f38.results.toList) R) (argE 0 [.int .i64 a,.int .i64 c]) [] w = V38.vc B R a c w := by kernel_rfl
theorem V38.obl (B : Nat) (R : Value → World → Prop) : oblP (V38.cfg B) (V38.cuts B R) V38.code V38.h [] (postOf Tryz.prog B (Tryz.f38.results.toList) R) := by
 have e : oblP (V38.cfg B) (V38.cuts B R) V38.code V38.h [] (postOf Tryz.prog B (Tryz.f38.results.toList) R) = (True ∧ (True ∧ True)) := by kernel_rfl
 exact e.mpr (⟨trivial,⟨trivial,trivial⟩⟩)
theorem V38.cfgOk (B : Nat) : CfgOk (V38.cfg B) := cfgOk_of (by kernel_rfl) (by kernel_rfl) extNil
theorem V38.sound {a d : Int} {w : World} {R : Value → World → Prop} (h : V38.vc w.heap.size R a d w) : Calls Tryz.prog 38 ⟨[.int .i64 a,.int .i64 d]⟩ w fun e w' => ∃ v,e = .returned v ∧ R v w' :=
 calls_wpfP (c := V38.cfg w.heap.size) (fn := Tryz.f38) (x := V38.code) (V38.cuts w.heap.size R) V38.h (V38.cfgOk _) mixed Tryz.func38 (by kernel_rfl) (by kernel_rfl) (by kernel_rfl) rfl (V38.obl _ _) ((V38.vc_eq _ _ a d _).symm ▸ h)
def V11.l1 (B : Nat) (R : Value → World → Prop) : Nat → Addr → Int → World → Prop
 | 0 => fun _ _ _ => False
 | k + 1 => fun a c w =>
 if (decide (c < 6)) = true
 then (CallK Tryz.prog 39 [.pointer (some a)] B w [] fun v d => 
 ∃ f : Int,v = .int .i64 f ∧
 if (f != 0) = true
 then (Ret B d (R (.bool false)))
 else ((V11.l1 B R k) a (IntKind.wrap .i64 (c + 1)) d))
 else (CallK Tryz.prog 40 [.pointer (some a)] B w [] fun v d => 
 ∃ g : Bool,v = .bool g ∧
 if g = true
 then (CallK Tryz.prog 39 [.pointer (some a)] B d [] fun i j => 
 ∃ l : Int,i = .int .i64 l ∧
 if (l == 7) = true
 then (CallK Tryz.prog 41 [.pointer (some a)] B j [] fun m n => 
 ∃ (o : Option Addr) (p q : Nat),m = .slice o p q ∧
 CallK Tryz.prog 42 [.int .i64 1] B n [] fun r s => 
 ∃ t : Int,r = .int .u64 t ∧
 CallK Tryz.prog 42 [.int .i64 2] B s [] fun u x => 
 ∃ y : Int,u = .int .u64 y ∧
 Expo B x [] fun z => 
 let A := z.alloc (.cells ⟨[.int .i64 1,.int .u64 t,.int .i64 3,.int .u64 y]⟩ 57);
 CallK Tryz.prog 27 [.slice o p q,.slice (some ⟨z.heap.size,0,none⟩) 2 2] B A [] fun C D => 
 ∃ E : Bool,C = .bool E ∧
 Ret B D (R (.bool E)))
 else (Ret B j (R (.bool false))))
 else (Ret B d (R (.bool false))))
def V11.b0 (B : Nat) (R : Value → World → Prop) (a : Addr) (w : World) : Prop :=
 ∃ c,V11.l1 B R c a 0 w
def V11.vc (B : Nat) (R : Value → World → Prop) (w : World) : Prop :=
 CallK Tryz.prog 38 [.int .i64 1,.int .i64 2] B w [] fun v a => 
 ∃ (c : Option Addr) (d f : Nat),v = .agg ⟨[.slice c d f]⟩ ∧
 CallK Tryz.prog 37 [.agg ⟨[.slice c d f]⟩,.int .i64 0] B a [] fun g i => 
 ∃ j : Option Addr,g = .pointer j ∧
 caseP j
 (False)
 (fun l => V11.b0 B R l i)
noncomputable def V11.cfg (B : Nat) : Cfg := ⟨Tryz.prog,⟨31,B⟩,[],hasN [27,37,38,39,40,41,42],hasN [],look []⟩
noncomputable def V11.code : Code := (Tryz.f11.body).getD .skip
noncomputable def V11.cuts (B : Nat) (R : Value → World → Prop) : Nat → Cut := nthC [⟨[(1,.one (.ptr))],[],fun fs vs bs w => V11.b0 B R (pV (nthV vs 0)) w⟩,
 ⟨[(1,.one (.ptr)),(2,.one (.int .i64))],[],fun fs vs bs w => V11.l1 B R (nthN fs 0) (pV (nthV vs 0)) (iV (nthV vs 1)) w⟩]
noncomputable def V11.h : H := .s (.z) (.cut 0 (.z) (.s (.s (.z) (.c (.s (.z) (.z)) (.z))) (.s (.s (.z) (.b (.l 1 (.s (.s (.z) (.c (.z) (.z))) (.s (.b (.s (.z) (.c (.s (.z) (.z)) (.z)))) (.z)))))) (.s (.z) (.z)))))
theorem V11.vc_eq (B : Nat) (R : Value → World → Prop)  (w : World) : wpf (V11.cfg B) (V11.cuts B R) V11.code V11.h [] (postOf Tryz.prog B (Tryz.f11.results.toList) R) (argE 0 []) [] w = V11.vc B R  w := by kernel_rfl
theorem V11.obl (B : Nat) (R : Value → World → Prop) : oblP (V11.cfg B) (V11.cuts B R) V11.code V11.h [] (postOf Tryz.prog B (Tryz.f11.results.toList) R) := by
 have e : oblP (V11.cfg B) (V11.cuts B R) V11.code V11.h [] (postOf Tryz.prog B (Tryz.f11.results.toList) R) = (True ∧ (True ∧ (∀ (a : Addr) (w : World),V11.b0 B R a w → V11.b0 B R a w) ∧ ((True ∧ ((True ∧ True) ∧ True)) ∧ ((True ∧ ((∀ (a : Addr) (c : Int) (w : World),¬ V11.l1 B R 0 a c w) ∧ (∀ d,∀ (a : Addr) (c : Int) (w : World),V11.l1 B R (d + 1) a c w → V11.l1 B R (d + 1) a c w) ∧ ∀ d : Nat,((True ∧ (True ∧ True)) ∧ ((True ∧ ((True ∧ True) ∧ True)) ∧ True)))) ∧ (True ∧ True))))) := by kernel_rfl
 exact e.mpr (⟨trivial,⟨trivial,fun a w h => h,⟨⟨trivial,⟨⟨trivial,trivial⟩,trivial⟩⟩,⟨⟨trivial,⟨fun a c w h => h,fun _ a c w h => h,fun d => ⟨⟨trivial,⟨trivial,trivial⟩⟩,⟨⟨trivial,⟨⟨trivial,trivial⟩,trivial⟩⟩,trivial⟩⟩⟩⟩,⟨trivial,trivial⟩⟩⟩⟩⟩)
theorem V11.cfgOk (B : Nat) : CfgOk (V11.cfg B) := cfgOk_of (by kernel_rfl) (by kernel_rfl) extNil
theorem V11.sound  {w : World} {R : Value → World → Prop} (h : V11.vc w.heap.size R  w) : Calls Tryz.prog 11 ⟨[]⟩ w fun e w' => ∃ v,e = .returned v ∧ R v w' :=
 calls_wpfP (c := V11.cfg w.heap.size) (fn := Tryz.f11) (x := V11.code) (V11.cuts w.heap.size R) V11.h (V11.cfgOk _) mixed Tryz.func11 (by kernel_rfl) (by kernel_rfl) (by kernel_rfl) rfl (V11.obl _ _) ((V11.vc_eq _ _  _).symm ▸ h)
def V27.vc (B : Nat) (R : Value → World → Prop) (a : Option Addr) (c d : Nat) (f : Option Addr) (g i : Nat) (w : World) : Prop :=
 CallK Tryz.prog 18 [.slice a c d,.slice f g i] B w [] fun v j => 
 ∃ l : Bool,v = .bool l ∧
 Ret B j (R (.bool l))
noncomputable def V27.cfg (B : Nat) : Cfg := ⟨Tryz.prog,⟨8,B⟩,[],hasN [18],hasN [],look []⟩
noncomputable def V27.code : Code := (Tryz.f27.body).getD .skip
noncomputable def V27.cuts (B : Nat) (R : Value → World → Prop) : Nat → Cut := nthC []
noncomputable def V27.h : H := .s (.z) (.s (.z) (.z))
theorem V27.vc_eq (B : Nat) (R : Value → World → Prop) (a : Option Addr) (c d : Nat) (f : Option Addr) (g i : Nat) (w : World) : wpf (V27.cfg B) (V27.cuts B R) V27.code V27.h [] (postOf Tryz.prog B (Tryz.f27.results.toList) R) (argE 0 [.slice a c d,.slice f g i]) [] w = V27.vc B R a c d f g i w := by kernel_rfl
theorem V27.obl (B : Nat) (R : Value → World → Prop) : oblP (V27.cfg B) (V27.cuts B R) V27.code V27.h [] (postOf Tryz.prog B (Tryz.f27.results.toList) R) := by
 have e : oblP (V27.cfg B) (V27.cuts B R) V27.code V27.h [] (postOf Tryz.prog B (Tryz.f27.results.toList) R) = (True ∧ (True ∧ True)) := by kernel_rfl
 exact e.mpr (⟨trivial,⟨trivial,trivial⟩⟩)
theorem V27.cfgOk (B : Nat) : CfgOk (V27.cfg B) := cfgOk_of (by kernel_rfl) (by kernel_rfl) extNil
theorem V27.sound {a : Option Addr} {d f : Nat} {g : Option Addr} {i j : Nat} {w : World} {R : Value → World → Prop} (h : V27.vc w.heap.size R a d f g i j w) : Calls Tryz.prog 27 ⟨[.slice a d f,.slice g i j]⟩ w fun e w' => ∃ v,e = .returned v ∧ R v w' :=
 calls_wpfP (c := V27.cfg w.heap.size) (fn := Tryz.f27) (x := V27.code) (V27.cuts w.heap.size R) V27.h (V27.cfgOk _) mixed Tryz.func27 (by kernel_rfl) (by kernel_rfl) (by kernel_rfl) rfl (V27.obl _ _) ((V27.vc_eq _ _ a d f g i j _).symm ▸ h)
def V18.vc (B : Nat) (R : Value → World → Prop) (a : Option Addr) (c d : Nat) (f : Option Addr) (g i : Nat) (w : World) : Prop :=
 if ((c : Int) == (g : Int)) = true
 then (CallK Tryz.prog 21 [.slice a c d,.slice f g i] B w [] fun v j => 
 ∃ l : Bool,v = .bool l ∧
 Ret B j (R (.bool l)))
 else (Ret B w (R (.bool false)))
noncomputable def V18.cfg (B : Nat) : Cfg := ⟨Tryz.prog,⟨15,B⟩,[],hasN [21],hasN [],look []⟩
noncomputable def V18.code : Code := (Tryz.f18.body).getD .skip
noncomputable def V18.cuts (B : Nat) (R : Value → World → Prop) : Nat → Cut := nthC []
noncomputable def V18.h : H := .s (.z) (.s (.z) (.z))
theorem V18.vc_eq (B : Nat) (R : Value → World → Prop) (a : Option Addr) (c d : Nat) (f : Option Addr) (g i : Nat) (w : World) : wpf (V18.cfg B) (V18.cuts B R) V18.code V18.h [] (postOf Tryz.prog B (Tryz.f18.results.toList) R) (argE 0 [.slice a c d,.slice f g i]) [] w = V18.vc B R a c d f g i w := by kernel_rfl
theorem V18.obl (B : Nat) (R : Value → World → Prop) : oblP (V18.cfg B) (V18.cuts B R) V18.code V18.h [] (postOf Tryz.prog B (Tryz.f18.results.toList) R) := by
 have e : oblP (V18.cfg B) (V18.cuts B R) V18.code V18.h [] (postOf Tryz.prog B (Tryz.f18.results.toList) R) = (True ∧ (True ∧ True)) := by kernel_rfl
 exact e.mpr (⟨trivial,⟨trivial,trivial⟩⟩)
theorem V18.cfgOk (B : Nat) : CfgOk (V18.cfg B) := cfgOk_of (by kernel_rfl) (by kernel_rfl) extNil
theorem V18.sound {a : Option Addr} {d f : Nat} {g : Option Addr} {i j : Nat} {w : World} {R : Value → World → Prop} (h : V18.vc w.heap.size R a d f g i j w) : Calls Tryz.prog 18 ⟨[.slice a d f,.slice g i j]⟩ w fun e w' => ∃ v,e = .returned v ∧ R v w' :=
 calls_wpfP (c := V18.cfg w.heap.size) (fn := Tryz.f18) (x := V18.code) (V18.cuts w.heap.size R) V18.h (V18.cfgOk _) mixed Tryz.func18 (by kernel_rfl) (by kernel_rfl) (by kernel_rfl) rfl (V18.obl _ _) ((V18.vc_eq _ _ a d f g i j _).symm ▸ h)
def V21.l0 (B : Nat) (R : Value → World → Prop) : Nat → Option Addr → Nat → Nat → Option Addr → Nat → Nat → Int → World → Prop
 | 0 => fun _ _ _ _ _ _ _ _ => False
 | k + 1 => fun a c d f g i j w =>
 if (decide (j < (c : Int))) = true
 then (∃ l : Addr,a = some l ∧ (0 : Int) ≤ j ∧ j < (c : Int) ∧
 ∃ m : Int,w.cell? ((l.add (j.toNat * 2)).add 0) = some (.int .i64 m) ∧
 ∃ n : Int,w.cell? ((l.add (j.toNat * 2)).add 1) = some (.int .u64 n) ∧
 ∃ o : Addr,f = some o ∧ (0 : Int) ≤ j ∧ j < (g : Int) ∧
 ∃ p : Int,w.cell? ((o.add (j.toNat * 2)).add 0) = some (.int .i64 p) ∧
 ∃ q : Int,w.cell? ((o.add (j.toNat * 2)).add 1) = some (.int .u64 q) ∧
 if (!((m == p) && (n == q))) = true
 then (Ret B w (R (.bool false)))
 else ((V21.l0 B R k) a c d f g i (IntKind.wrap .i64 (j + 1)) w))
 else (Ret B w (R (.bool true)))
def V21.vc (B : Nat) (R : Value → World → Prop) (a : Option Addr) (c d : Nat) (f : Option Addr) (g i : Nat) (w : World) : Prop :=
 if (decide ((c : Int) > (g : Int))) = true
 then (Ret B w (R (.bool false)))
 else (∃ j,V21.l0 B R j a c d f g i 0 w)
noncomputable def V21.cfg (B : Nat) : Cfg := ⟨Tryz.prog,⟨26,B⟩,[],hasN [],hasN [57],look []⟩
noncomputable def V21.code : Code := (Tryz.f21.body).getD .skip
noncomputable def V21.cuts (B : Nat) (R : Value → World → Prop) : Nat → Cut := nthC [⟨[(0,.one (.slice)),(1,.one (.slice)),(5,.one (.int .i64))],[],fun fs vs bs w => V21.l0 B R (nthN fs 0) (slA (nthV vs 0)) (slL (nthV vs 0)) (slC (nthV vs 0)) (slA (nthV vs 1)) (slL (nthV vs 1)) (slC (nthV vs 1)) (iV (nthV vs 2)) w⟩]
noncomputable def V21.h : H := .s (.z) (.s (.s (.z) (.c (.s (.z) (.z)) (.z))) (.s (.s (.z) (.b (.l 0 (.s (.s (.z) (.c (.z) (.z))) (.s (.b (.s (.r [[0,1,2,3,4,5,6,7,8]]) (.c (.s (.z) (.z)) (.z)))) (.z)))))) (.s (.z) (.z))))
theorem V21.vc_eq (B : Nat) (R : Value → World → Prop) (a : Option Addr) (c d : Nat) (f : Option Addr) (g i : Nat) (w : World) : wpf (V21.cfg B) (V21.cuts B R) V21.code V21.h [] (postOf Tryz.prog B (Tryz.f21.results.toList) R) (argE 0 [.slice a c d,.slice f g i]) [] w = V21.vc B R a c d f g i w := by kernel_rfl
theorem V21.obl (B : Nat) (R : Value → World → Prop) : oblP (V21.cfg B) (V21.cuts B R) V21.code V21.h [] (postOf Tryz.prog B (Tryz.f21.results.toList) R) := by
 have e : oblP (V21.cfg B) (V21.cuts B R) V21.code V21.h [] (postOf Tryz.prog B (Tryz.f21.results.toList) R) = (True ∧ ((True ∧ ((True ∧ True) ∧ True)) ∧ ((True ∧ ((∀ (a : Option Addr) (c d : Nat) (f : Option Addr) (g i : Nat) (j : Int) (w : World),¬ V21.l0 B R 0 a c d f g i j w) ∧ (∀ l,∀ (a : Option Addr) (c d : Nat) (f : Option Addr) (g i : Nat) (j : Int) (w : World),V21.l0 B R (l + 1) a c d f g i j w → V21.l0 B R (l + 1) a c d f g i j w) ∧ ∀ l : Nat,((True ∧ (True ∧ True)) ∧ (((true = true) ∧ ((True ∧ True) ∧ True)) ∧ True)))) ∧ (True ∧ True)))) := by kernel_rfl
 exact e.mpr (⟨trivial,⟨⟨trivial,⟨⟨trivial,trivial⟩,trivial⟩⟩,⟨⟨trivial,⟨fun a c d f g i j w h => h,fun _ a c d f g i j w h => h,fun l => ⟨⟨trivial,⟨trivial,trivial⟩⟩,⟨⟨rfl,⟨⟨trivial,trivial⟩,trivial⟩⟩,trivial⟩⟩⟩⟩,⟨trivial,trivial⟩⟩⟩⟩)
theorem V21.cfgOk (B : Nat) : CfgOk (V21.cfg B) := cfgOk_of (by kernel_rfl) (by kernel_rfl) extNil
theorem V21.sound {a : Option Addr} {d f : Nat} {g : Option Addr} {i j : Nat} {w : World} {R : Value → World → Prop} (h : V21.vc w.heap.size R a d f g i j w) : Calls Tryz.prog 21 ⟨[.slice a d f,.slice g i j]⟩ w fun e w' => ∃ v,e = .returned v ∧ R v w' :=
 calls_wpfP (c := V21.cfg w.heap.size) (fn := Tryz.f21) (x := V21.code) (V21.cuts w.heap.size R) V21.h (V21.cfgOk _) mixed Tryz.func21 (by kernel_rfl) (by kernel_rfl) (by kernel_rfl) rfl (V21.obl _ _) ((V21.vc_eq _ _ a d f g i j _).symm ▸ h)
end Go.Proofs.YtidcpndlloppdaaGreat
