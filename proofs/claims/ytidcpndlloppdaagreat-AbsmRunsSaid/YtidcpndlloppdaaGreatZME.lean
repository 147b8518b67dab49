import Derived.Test.YtidcpndlloppdaaGreatZMB
/-
 What the engine makes of the loaded functions 43,136,87,47,130,137,88,89,132,10: conditions under which a call returns as told,and proofs of that.
 Conditions: none. Printed by a program of this project.
-/
set_option linter.unusedVariables false
set_option maxRecDepth 100000
namespace Go.Proofs.YtidcpndlloppdaaGreat
def V43.vc (B : Nat) (R : Value → World → Prop) (a : Option Addr) (c d : Nat) (f : Int) (w : World) : Prop :=
 ∀ g : Nat,w.heap.size ≤ g →
 if (decide (f < 0)) = false
 then (if (decide (f ≥ (c : Int))) = false
 then (∃ i : Addr,a = some i ∧ (0 : Int) ≤ f ∧ f < (c : Int) ∧
 ∃ j : Int,w.cell? ((i.add (f.toNat * 4)).add 0) = some (.int .i64 j) ∧
 if (j != 0) = true
 then (Ret B w (R (.pointer none)))
 else (Expo B w [g] fun l => 
 Hide [g] (l.alloc (.cells ⟨[.slice a c d,.int .i64 f,.bool false,.bool false,.bool false,.int .i64 0,.slice none 0 0,.slice none 0 0]⟩ 85)) fun m => 
 Ret B m (R (.pointer (some (⟨l.heap.size,0,none⟩ : Addr))))))
 else (Ret B w (R (.pointer none))))
 else (Ret B w (R (.pointer none)))
noncomputable def V43.cfg (B : Nat) : Cfg := ⟨Tryz.prog,⟨27,B⟩,[26],hasN [],hasN [],look []⟩
noncomputable def V43.code : Code := (Tryz.f43.body).getD .skip
noncomputable def V43.cuts (B : Nat) (R : Value → World → Prop) : Nat → Cut := nthC []
noncomputable def V43.h : H := .s (.z) (.s (.s (.z) (.c (.s (.z) (.z)) (.z))) (.s (.z) (.z)))
theorem V43.vc_eq (B : Nat) (R : Value → World → Prop) (a : Option Addr) (c d : Nat) (f : Int) (w : World) : wpf (V43.cfg B) (V43.cuts B R) V43.code V43.h [] (postOf Tryz.prog B (Tryz.f43.results.toList) R) (argE 0 [.agg ⟨[.slice a c d]⟩,.int .i64 f]) [] w = V43.vc B R a c d f w := by kernel_rfl
theorem V43.obl (B : Nat) (R : Value → World → Prop) : oblP (V43.cfg B) (V43.cuts B R) V43.code V43.h [] (postOf Tryz.prog B (Tryz.f43.results.toList) R) := by
 have e : oblP (V43.cfg B) (V43.cuts B R) V43.code V43.h [] (postOf Tryz.prog B (Tryz.f43.results.toList) R) = (True ∧ ((True ∧ ((True ∧ True) ∧ True)) ∧ (True ∧ True))) := by kernel_rfl
 exact e.mpr (⟨trivial,⟨⟨trivial,⟨⟨trivial,trivial⟩,trivial⟩⟩,⟨trivial,trivial⟩⟩⟩)
theorem V43.cfgOk (B : Nat) : CfgOk (V43.cfg B) := cfgOk_of (by kernel_rfl) (by kernel_rfl) extNil
theorem V43.sound {a : Option Addr} {d f : Nat} {g : Int} {w : World} {R : Value → World → Prop} (h : V43.vc w.heap.size R a d f g w) : Calls Tryz.prog 43 ⟨[.agg ⟨[.slice a d f]⟩,.int .i64 g]⟩ w fun e w' => ∃ v,e = .returned v ∧ R v w' :=
 calls_wpfP (c := V43.cfg w.heap.size) (fn := Tryz.f43) (x := V43.code) (V43.cuts w.heap.size R) V43.h (V43.cfgOk _) mixed Tryz.func43 (by kernel_rfl) (by kernel_rfl) (by kernel_rfl) rfl (V43.obl _ _) ((V43.vc_eq _ _ a d f g _).symm ▸ h)
def V136.vc (B : Nat) (R : Value → World → Prop) (a : Addr) (c d : Int) (w : World) : Prop :=
 ∃ (f : Option Addr) (g i : Nat),w.cell? (a.add 7) = some (.slice f g i) ∧
 Expo B w [] fun j => 
 let l := j.alloc (.cells ⟨[.int .i64 c,.int .u64 d]⟩ 57);
 RunK Tryz.prog (Builtin.append_ #[45,45] 45 ⟨[.slice f g i,.slice (some ⟨j.heap.size,0,none⟩) 1 1]⟩) B l [] fun v m => 
 ∃ (n : Option Addr) (o p : Nat),v = .slice n o p ∧
 (∃ u,m.cell? ((a.add 7).add 0) = some u) ∧ m.frozen? ((a.add 7).add 0) = false ∧
 let q := m.setCell ((a.add 7).add 0) (.slice n o p);
 Ret B q (R (.tuple ⟨[]⟩))
noncomputable def V136.cfg (B : Nat) : Cfg := ⟨Tryz.prog,⟨18,B⟩,[],hasN [],hasN [],look []⟩
noncomputable def V136.code : Code := (Tryz.f136.body).getD .skip
noncomputable def V136.cuts (B : Nat) (R : Value → World → Prop) : Nat → Cut := nthC []
noncomputable def V136.h : H := .z
theorem V136.vc_eq (B : Nat) (R : Value → World → Prop) (a : Addr) (c d : Int) (w : World) : wpf (V136.cfg B) (V136.cuts B R) V136.code V136.h [] (postOf Tryz.prog B (Tryz.f136.results.toList) R) (argE 0 [.pointer (some a),.int .i64 c,.int .u64 d]) [] w = V136.vc B R a c d w := by kernel_rfl
theorem V136.obl (B : Nat) (R : Value → World → Prop) : oblP (V136.cfg B) (V136.cuts B R) V136.code V136.h [] (postOf Tryz.prog B (Tryz.f136.results.toList) R) := by
 have e : oblP (V136.cfg B) (V136.cuts B R) V136.code V136.h [] (postOf Tryz.prog B (Tryz.f136.results.toList) R) = True := by kernel_rfl
 exact e.mpr (trivial)
theorem V136.cfgOk (B : Nat) : CfgOk (V136.cfg B) := cfgOk_of (by kernel_rfl) (by kernel_rfl) extNil
theorem V136.sound {a : Addr} {d f : Int} {w : World} {R : Value → World → Prop} (h : V136.vc w.heap.size R a d f w) : Calls Tryz.prog 136 ⟨[.pointer (some a),.int .i64 d,.int .u64 f]⟩ w fun e w' => ∃ v,e = .returned v ∧ R v w' :=
 calls_wpfP (c := V136.cfg w.heap.size) (fn := Tryz.f136) (x := V136.code) (V136.cuts w.heap.size R) V136.h (V136.cfgOk _) mixed Tryz.func136 (by kernel_rfl) (by kernel_rfl) (by kernel_rfl) rfl (V136.obl _ _) ((V136.vc_eq _ _ a d f _).symm ▸ h)
def V87.b1 (B : Nat) (R : Value → World → Prop) (a : Addr) (c : Int) (d : Bool) (f : Option Addr) (g i : Nat) (w : World) : Prop :=
 Expo B w [] fun j => 
 let l := j.alloc (.cells ⟨[]⟩ 99);
 ∃ (m : Option Addr) (n o : Nat),l.cell? (a.add 6) = some (.slice m n o) ∧
 RunK Tryz.prog (Builtin.append_ #[40,40] 40 ⟨[.slice (some ⟨j.heap.size,0,none⟩) 0 0,.slice m n o]⟩) B l [] fun v p => 
 ∃ (q : Option Addr) (r s : Nat),v = .slice q r s ∧
 Expo B p [] fun t => 
 let x := t.alloc (.cells ⟨[.int .i64 c,.int .i64 0,.int .i64 0,.bool d,.int .u64 0,.slice none 0 0,.slice f g i,.slice none 0 0]⟩ 99);
 RunK Tryz.prog (Builtin.append_ #[40,40] 40 ⟨[.slice q r s,.slice (some ⟨t.heap.size,0,none⟩) 1 1]⟩) B x [] fun y z => 
 ∃ (A : Option Addr) (C D : Nat),y = .slice A C D ∧
 (∃ u,z.cell? ((a.add 6).add 0) = some u) ∧ z.frozen? ((a.add 6).add 0) = false ∧
 let E := z.setCell ((a.add 6).add 0) (.slice A C D);
 Ret B E (R (.tuple ⟨[]⟩))
def V87.l0 (B : Nat) (R : Value → World → Prop) : Nat → Addr → Int → Option Addr → Nat → Nat → Bool → Option Addr → Nat → Nat → Int → World → Prop
 | 0 => fun _ _ _ _ _ _ _ _ _ _ _ => False
 | k + 1 => fun a c d f g i j l m n w =>
 if (decide (n < (f : Int))) = true
 then (if (decide (n < (l : Int))) = true
 then (∃ o : Addr,d = some o ∧ (0 : Int) ≤ n ∧ n < (f : Int) ∧
 ∃ p : Int,w.cell? (o.add n.toNat) = some (.int .u64 p) ∧
 ∃ q : Addr,j = some q ∧ (0 : Int) ≤ n ∧ n < (l : Int) ∧
 (∃ u,w.cell? ((q.add n.toNat).add 0) = some u) ∧ w.frozen? ((q.add n.toNat).add 0) = false ∧
 let r := w.setCell ((q.add n.toNat).add 0) (.int .u64 p);
 (V87.l0 B R k) a c d f g i j l m (IntKind.wrap .i64 (n + 1)) r)
 else (V87.b1 B R a c i j l m w))
 else (V87.b1 B R a c i j l m w)
def V87.vc (B : Nat) (R : Value → World → Prop) (a : Addr) (c : Int) (d : Option Addr) (f g : Nat) (i : Bool) (w : World) : Prop :=
 ∃ (j : Option Addr) (l m : Nat),w.cell? ((a.add 0).add 0) = some (.slice j l m) ∧
 ∃ n : Addr,j = some n ∧ (0 : Int) ≤ c ∧ c < (l : Int) ∧
 ∃ o : Int,w.cell? ((n.add (c.toNat * 4)).add 1) = some (.int .i64 o) ∧
 RunK Tryz.prog (Instr.makeSlice 31 (.int .i64 o) (.int .i64 o)) B w [] fun v p => 
 ∃ (q : Option Addr) (r s : Nat),v = .slice q r s ∧
 ∃ t,V87.l0 B R t a c d f g i q r s 0 p
noncomputable def V87.cfg (B : Nat) : Cfg := ⟨Tryz.prog,⟨54,B⟩,[],hasN [],hasN [],look []⟩
noncomputable def V87.code : Code := (Tryz.f87.body).getD .skip
noncomputable def V87.cuts (B : Nat) (R : Value → World → Prop) : Nat → Cut := nthC [⟨[(0,.one (.ptr)),(1,.one (.int .i64)),(2,.one (.slice)),(3,.one (.bool)),(8,.one (.slice)),(9,.one (.int .i64))],[],fun fs vs bs w => V87.l0 B R (nthN fs 0) (pV (nthV vs 0)) (iV (nthV vs 1)) (slA (nthV vs 2)) (slL (nthV vs 2)) (slC (nthV vs 2)) (bV (nthV vs 3)) (slA (nthV vs 4)) (slL (nthV vs 4)) (slC (nthV vs 4)) (iV (nthV vs 5)) w⟩,
 ⟨[(0,.one (.ptr)),(1,.one (.int .i64)),(3,.one (.bool)),(8,.one (.slice))],[],fun fs vs bs w => V87.b1 B R (pV (nthV vs 0)) (iV (nthV vs 1)) (bV (nthV vs 2)) (slA (nthV vs 3)) (slL (nthV vs 3)) (slC (nthV vs 3)) w⟩]
noncomputable def V87.h : H := .s (.z) (.cut 1 (.s (.z) (.b (.l 0 (.s (.s (.z) (.c (.z) (.z))) (.s (.b (.z)) (.z)))))) (.z))
theorem V87.vc_eq (B : Nat) (R : Value → World → Prop) (a : Addr) (c : Int) (d : Option Addr) (f g : Nat) (i : Bool) (w : World) : wpf (V87.cfg B) (V87.cuts B R) V87.code V87.h [] (postOf Tryz.prog B (Tryz.f87.results.toList) R) (argE 0 [.pointer (some a),.int .i64 c,.slice d f g,.bool i]) [] w = V87.vc B R a c d f g i w := by kernel_rfl
theorem V87.obl (B : Nat) (R : Value → World → Prop) : oblP (V87.cfg B) (V87.cuts B R) V87.code V87.h [] (postOf Tryz.prog B (Tryz.f87.results.toList) R) := by
 have e : oblP (V87.cfg B) (V87.cuts B R) V87.code V87.h [] (postOf Tryz.prog B (Tryz.f87.results.toList) R) = (True ∧ ((True ∧ ((∀ (a : Addr) (c : Int) (d : Option Addr) (f g : Nat) (i : Bool) (j : Option Addr) (l m : Nat) (n : Int) (w : World),¬ V87.l0 B R 0 a c d f g i j l m n w) ∧ (∀ o,∀ (a : Addr) (c : Int) (d : Option Addr) (f g : Nat) (i : Bool) (j : Option Addr) (l m : Nat) (n : Int) (w : World),V87.l0 B R (o + 1) a c d f g i j l m n w → V87.l0 B R (o + 1) a c d f g i j l m n w) ∧ ∀ o : Nat,((True ∧ (True ∧ True)) ∧ (True ∧ True)))) ∧ (∀ (a : Addr) (c : Int) (i : Bool) (j : Option Addr) (l m : Nat) (w : World),V87.b1 B R a c i j l m w → V87.b1 B R a c i j l m w) ∧ True)) := by kernel_rfl
 exact e.mpr (⟨trivial,⟨⟨trivial,⟨fun a c d f g i j l m n w h => h,fun _ a c d f g i j l m n w h => h,fun o => ⟨⟨trivial,⟨trivial,trivial⟩⟩,⟨trivial,trivial⟩⟩⟩⟩,fun a c i j l m w h => h,trivial⟩⟩)
theorem V87.cfgOk (B : Nat) : CfgOk (V87.cfg B) := cfgOk_of (by kernel_rfl) (by kernel_rfl) extNil
theorem V87.sound {a : Addr} {d : Int} {f : Option Addr} {g i : Nat} {j : Bool} {w : World} {R : Value → World → Prop} (h : V87.vc w.heap.size R a d f g i j w) : Calls Tryz.prog 87 ⟨[.pointer (some a),.int .i64 d,.slice f g i,.bool j]⟩ w fun e w' => ∃ v,e = .returned v ∧ R v w' :=
 calls_wpfP (c := V87.cfg w.heap.size) (fn := Tryz.f87) (x := V87.code) (V87.cuts w.heap.size R) V87.h (V87.cfgOk _) mixed Tryz.func87 (by kernel_rfl) (by kernel_rfl) (by kernel_rfl) rfl (V87.obl _ _) ((V87.vc_eq _ _ a d f g i j _).symm ▸ h)
def V47.vc (B : Nat) (R : Value → World → Prop) (a : Addr) (w : World) : Prop :=
 ∃ c : Bool,w.cell? (a.add 3) = some (.bool c) ∧
 if c = true
 then (Ret B w (R (.int .i64 7)))
 else (∃ d : Bool,w.cell? (a.add 4) = some (.bool d) ∧
 if d = true
 then (Ret B w (R (.int .i64 8)))
 else (∃ f : Bool,w.cell? (a.add 2) = some (.bool f) ∧
 if (!f) = true
 then ((∃ u,w.cell? ((a.add 2).add 0) = some u) ∧ w.frozen? ((a.add 2).add 0) = false ∧
 let g := w.setCell ((a.add 2).add 0) (.bool true);
 ∃ i : Int,g.cell? (a.add 1) = some (.int .i64 i) ∧
 CallK Tryz.prog 87 [.pointer (some a),.int .i64 i,.slice none 0 0,.bool false] B g [] fun v j => 
 v = .tuple ⟨[]⟩ ∧
 Ret B j (R (.int .i64 0)))
 else (∃ (l : Option Addr) (m n : Nat),w.cell? (a.add 6) = some (.slice l m n) ∧
 ∃ (o : Option Addr) (p q : Nat),w.cell? (a.add 6) = some (.slice o p q) ∧
 ∃ r : Addr,l = some r ∧ (0 : Int) ≤ IntKind.wrap .i64 ((p : Int) - 1) ∧ IntKind.wrap .i64 ((p : Int) - 1) < (m : Int) ∧
 ∃ s : Int,w.cell? ((r.add ((IntKind.wrap .i64 ((p : Int) - 1)).toNat * 8)).add 2) = some (.int .i64 s) ∧
 if (s == 0) = true
 then (CallK Tryz.prog 88 [.pointer (some a)] B w [] fun v g => 
 v = .tuple ⟨[]⟩ ∧
 Ret B g (R (.int .i64 0)))
 else (CallK Tryz.prog 89 [.pointer (some a)] B w [] fun v g => 
 v = .tuple ⟨[]⟩ ∧
 Ret B g (R (.int .i64 0))))))
noncomputable def V47.cfg (B : Nat) : Cfg := ⟨Tryz.prog,⟨43,B⟩,[],hasN [87,88,89],hasN [],look []⟩
noncomputable def V47.code : Code := (Tryz.f47.body).getD .skip
noncomputable def V47.cuts (B : Nat) (R : Value → World → Prop) : Nat → Cut := nthC []
noncomputable def V47.h : H := .s (.z) (.s (.s (.z) (.c (.s (.z) (.z)) (.z))) (.s (.s (.z) (.c (.s (.z) (.z)) (.z))) (.s (.s (.z) (.c (.s (.z) (.s (.z) (.s (.z) (.z)))) (.z))) (.s (.s (.r [[0,1,2,3,4,5,6,7,8,9,10,11,12,13]]) (.c (.z) (.z))) (.s (.z) (.z))))))
theorem V47.vc_eq (B : Nat) (R : Value → World → Prop) (a : Addr) (w : World) : wpf (V47.cfg B) (V47.cuts B R) V47.code V47.h [] (postOf Tryz.prog B (Tryz.f47.results.toList) R) (argE 0 [.pointer (some a)]) [] w = V47.vc B R a w := by kernel_rfl
theorem V47.obl (B : Nat) (R : Value → World → Prop) : oblP (V47.cfg B) (V47.cuts B R) V47.code V47.h [] (postOf Tryz.prog B (Tryz.f47.results.toList) R) := by
 have e : oblP (V47.cfg B) (V47.cuts B R) V47.code V47.h [] (postOf Tryz.prog B (Tryz.f47.results.toList) R) = (True ∧ ((True ∧ ((True ∧ True) ∧ True)) ∧ ((True ∧ ((True ∧ True) ∧ True)) ∧ ((True ∧ ((True ∧ (True ∧ (True ∧ True))) ∧ True)) ∧ (((true = true) ∧ (True ∧ True)) ∧ (True ∧ True)))))) := by kernel_rfl
 exact e.mpr (⟨trivial,⟨⟨trivial,⟨⟨trivial,trivial⟩,trivial⟩⟩,⟨⟨trivial,⟨⟨trivial,trivial⟩,trivial⟩⟩,⟨⟨trivial,⟨⟨trivial,⟨trivial,⟨trivial,trivial⟩⟩⟩,trivial⟩⟩,⟨⟨rfl,⟨trivial,trivial⟩⟩,⟨trivial,trivial⟩⟩⟩⟩⟩⟩)
theorem V47.cfgOk (B : Nat) : CfgOk (V47.cfg B) := cfgOk_of (by kernel_rfl) (by kernel_rfl) extNil
theorem V47.sound {a : Addr} {w : World} {R : Value → World → Prop} (h : V47.vc w.heap.size R a w) : Calls Tryz.prog 47 ⟨[.pointer (some a)]⟩ w fun e w' => ∃ v,e = .returned v ∧ R v w' :=
 calls_wpfP (c := V47.cfg w.heap.size) (fn := Tryz.f47) (x := V47.code) (V47.cuts w.heap.size R) V47.h (V47.cfgOk _) mixed Tryz.func47 (by kernel_rfl) (by kernel_rfl) (by kernel_rfl) rfl (V47.obl _ _) ((V47.vc_eq _ _ a _).symm ▸ h)
def V130.vc (B : Nat) (R : Value → World → Prop) (a c d : Int) (f : Bool) (g : Int) (i : Option Addr) (j l : Nat) (m : Option Addr) (n o : Nat) (p : Option Addr) (q r : Nat) (w : World) : Prop :=
 ∀ s : Nat,w.heap.size ≤ s →
 ∀ t : Nat,w.heap.size ≤ t →
 Expo B w [t,s] fun u => 
 Hide [t,s] (u.alloc (.cells ⟨[]⟩ 55)) fun x => 
 RunK Tryz.prog (Builtin.append_ #[31,31] 31 ⟨[.slice (some ⟨u.heap.size,0,none⟩) 0 0,.slice m n o]⟩) B x [t,s] fun v y => 
 ∃ (z : Option Addr) (A C : Nat),v = .slice z A C ∧
 Expo B y [t,s] fun D => 
 Hide [t,s] (D.alloc (.cells ⟨[]⟩ 55)) fun E => 
 RunK Tryz.prog (Builtin.append_ #[31,31] 31 ⟨[.slice (some ⟨D.heap.size,0,none⟩) 0 0,.slice p q r]⟩) B E [t,s] fun F G => 
 ∃ (I : Option Addr) (J L : Nat),F = .slice I J L ∧
 Expo B G [t,s] fun M => 
 Hide [t,s] (M.alloc (.cells ⟨[]⟩ 149)) fun N => 
 RunK Tryz.prog (Builtin.append_ #[97,97] 97 ⟨[.slice (some ⟨M.heap.size,0,none⟩) 0 0,.slice i j l]⟩) B N [t,s] fun O P => 
 ∃ (Q : Option Addr) (S T : Nat),O = .slice Q S T ∧
 Ret B P (R (.agg ⟨[.int .i64 a,.int .i64 c,.int .i64 d,.bool f,.int .u64 g,.slice Q S T,.slice z A C,.slice I J L]⟩))
noncomputable def V130.cfg (B : Nat) : Cfg := ⟨Tryz.prog,⟨19,B⟩,[],hasN [],hasN [],look []⟩
noncomputable def V130.code : Code := (Tryz.f130.body).getD .skip
noncomputable def V130.cuts (B : Nat) (R : Value → World → Prop) : Nat → Cut := nthC []
noncomputable def V130.h : H := .s (.z) (.s (.z) (.s (.z) (.s (.z) (.s (.z) (.z)))))
theorem V130.vc_eq (B : Nat) (R : Value → World → Prop) (a c d : Int) (f : Bool) (g : Int) (i : Option Addr) (j l : Nat) (m : Option Addr) (n o : Nat) (p : Option Addr) (q r : Nat) (w : World) : wpf (V130.cfg B) (V130.cuts B R) V130.code V130.h [] (postOf Tryz.prog B (Tryz.f130.results.toList) R) (argE 0 [.agg ⟨[.int .i64 a,.int .i64 c,.int .i64 d,.bool f,.int .u64 g,.slice i j l,.slice m n o,.slice p q r]⟩]) [] w = V130.vc B R a c d f g i j l m n o p q r w := by kernel_rfl
theorem V130.obl (B : Nat) (R : Value → World → Prop) : oblP (V130.cfg B) (V130.cuts B R) V130.code V130.h [] (postOf Tryz.prog B (Tryz.f130.results.toList) R) := by
 have e : oblP (V130.cfg B) (V130.cuts B R) V130.code V130.h [] (postOf Tryz.prog B (Tryz.f130.results.toList) R) = (True ∧ (True ∧ (True ∧ (True ∧ (True ∧ True))))) := by kernel_rfl
 exact e.mpr (⟨trivial,⟨trivial,⟨trivial,⟨trivial,⟨trivial,trivial⟩⟩⟩⟩⟩)
theorem V130.cfgOk (B : Nat) : CfgOk (V130.cfg B) := cfgOk_of (by kernel_rfl) (by kernel_rfl) extNil
theorem V130.sound {a d f : Int} {g : Bool} {i : Int} {j : Option Addr} {l m : Nat} {n : Option Addr} {o p : Nat} {q : Option Addr} {r s : Nat} {w : World} {R : Value → World → Prop} (h : V130.vc w.heap.size R a d f g i j l m n o p q r s w) : Calls Tryz.prog 130 ⟨[.agg ⟨[.int .i64 a,.int .i64 d,.int .i64 f,.bool g,.int .u64 i,.slice j l m,.slice n o p,.slice q r s]⟩]⟩ w fun e w' => ∃ v,e = .returned v ∧ R v w' :=
 calls_wpfP (c := V130.cfg w.heap.size) (fn := Tryz.f130) (x := V130.code) (V130.cuts w.heap.size R) V130.h (V130.cfgOk _) mixed Tryz.func130 (by kernel_rfl) (by kernel_rfl) (by kernel_rfl) rfl (V130.obl _ _) ((V130.vc_eq _ _ a d f g i j l m n o p q r s _).symm ▸ h)
def V137.b0 (B : Nat) (R : Value → World → Prop) (a : Bool) (w : World) : Prop :=
 if a = true
 then (CallK Tryz.prog 131 [.int .i64 1] B w [] fun v c => 
 ∃ d : Int,v = .int .u64 d ∧
 Ret B c (R (.int .u64 d)))
 else (CallK Tryz.prog 131 [.int .i64 0] B w [] fun v c => 
 ∃ f : Int,v = .int .u64 f ∧
 Ret B c (R (.int .u64 f)))
def V137.vc (B : Nat) (R : Value → World → Prop) (a c d : Int) (w : World) : Prop :=
 if (a == 5) = true
 then (CallK Tryz.prog 165 [.int .u64 c,.int .u64 d] B w [] fun v f => 
 ∃ g : Int,v = .int .u64 g ∧
 Ret B f (R (.int .u64 g)))
 else (if (a == 6) = true
 then (CallK Tryz.prog 166 [.int .u64 c,.int .u64 d] B w [] fun v f => 
 ∃ i : Int,v = .int .u64 i ∧
 Ret B f (R (.int .u64 i)))
 else (if (a == 7) = true
 then (CallK Tryz.prog 167 [.int .u64 c,.int .u64 d] B w [] fun v f => 
 ∃ j : Int,v = .int .u64 j ∧
 Ret B f (R (.int .u64 j)))
 else (if (a == 8) = true
 then (CallK Tryz.prog 168 [.int .u64 c,.int .u64 d] B w [] fun v f => 
 ∃ l : Int,v = .int .u64 l ∧
 Ret B f (R (.int .u64 l)))
 else (if (a == 11) = true
 then (CallK Tryz.prog 169 [.int .u64 c,.int .u64 d] B w [] fun v f => 
 ∃ m : Int,v = .int .u64 m ∧
 Ret B f (R (.int .u64 m)))
 else (if (a == 12) = true
 then (CallK Tryz.prog 170 [.int .u64 c,.int .u64 d] B w [] fun v f => 
 ∃ n : Int,v = .int .u64 n ∧
 Ret B f (R (.int .u64 n)))
 else (if (a == 13) = true
 then (CallK Tryz.prog 171 [.int .u64 c,.int .u64 d] B w [] fun v f => 
 ∃ o : Bool,v = .bool o ∧
 V137.b0 B R o f)
 else (if (a == 14) = true
 then (CallK Tryz.prog 172 [.int .u64 c,.int .u64 d] B w [] fun v f => 
 ∃ p : Bool,v = .bool p ∧
 V137.b0 B R p f)
 else (V137.b0 B R false w))))))))
noncomputable def V137.cfg (B : Nat) : Cfg := ⟨Tryz.prog,⟨52,B⟩,[],hasN [131,165,166,167,168,169,170,171,172],hasN [],look []⟩
noncomputable def V137.code : Code := (Tryz.f137.body).getD .skip
noncomputable def V137.cuts (B : Nat) (R : Value → World → Prop) : Nat → Cut := nthC [⟨[(7,.one (.bool))],[],fun fs vs bs w => V137.b0 B R (bV (nthV vs 0)) w⟩]
noncomputable def V137.h : H := .s (.z) (.s (.z) (.cut 0 (.s (.z) (.b (.s (.z) (.c (.s (.z) (.z)) (.s (.z) (.c (.s (.z) (.z)) (.s (.z) (.c (.s (.z) (.z)) (.s (.z) (.c (.s (.z) (.z)) (.s (.z) (.c (.s (.z) (.z)) (.s (.z) (.c (.s (.z) (.z)) (.s (.z) (.c (.z) (.s (.z) (.c (.z) (.z))))))))))))))))))) (.s (.s (.z) (.c (.s (.z) (.z)) (.z))) (.s (.z) (.z)))))
theorem V137.vc_eq (B : Nat) (R : Value → World → Prop) (a c d : Int) (w : World) : wpf (V137.cfg B) (V137.cuts B R) V137.code V137.h [] (postOf Tryz.prog B (Tryz.f137.results.toList) R) (argE 0 [.int .i64 a,.int .u64 c,.int .u64 d]) [] w = V137.vc B R a c d w := by kernel_rfl
theorem V137.obl (B : Nat) (R : Value → World → Prop) : oblP (V137.cfg B) (V137.cuts B R) V137.code V137.h [] (postOf Tryz.prog B (Tryz.f137.results.toList) R) := by
 have e : oblP (V137.cfg B) (V137.cuts B R) V137.code V137.h [] (postOf Tryz.prog B (Tryz.f137.results.toList) R) = (True ∧ (True ∧ ((True ∧ (True ∧ ((True ∧ True) ∧ (True ∧ ((True ∧ True) ∧ (True ∧ ((True ∧ True) ∧ (True ∧ ((True ∧ True) ∧ (True ∧ ((True ∧ True) ∧ (True ∧ ((True ∧ True) ∧ (True ∧ (True ∧ (True ∧ (True ∧ True))))))))))))))))) ∧ (∀ (a : Bool) (w : World),V137.b0 B R a w → V137.b0 B R a w) ∧ ((True ∧ ((True ∧ True) ∧ True)) ∧ (True ∧ True))))) := by kernel_rfl
 exact e.mpr (⟨trivial,⟨trivial,⟨⟨trivial,⟨trivial,⟨⟨trivial,trivial⟩,⟨trivial,⟨⟨trivial,trivial⟩,⟨trivial,⟨⟨trivial,trivial⟩,⟨trivial,⟨⟨trivial,trivial⟩,⟨trivial,⟨⟨trivial,trivial⟩,⟨trivial,⟨⟨trivial,trivial⟩,⟨trivial,⟨trivial,⟨trivial,⟨trivial,trivial⟩⟩⟩⟩⟩⟩⟩⟩⟩⟩⟩⟩⟩⟩⟩⟩⟩,fun a w h => h,⟨⟨trivial,⟨⟨trivial,trivial⟩,trivial⟩⟩,⟨trivial,trivial⟩⟩⟩⟩⟩)
theorem V137.cfgOk (B : Nat) : CfgOk (V137.cfg B) := cfgOk_of (by kernel_rfl) (by kernel_rfl) extNil
theorem V137.sound {a d f : Int} {w : World} {R : Value → World → Prop} (h : V137.vc w.heap.size R a d f w) : Calls Tryz.prog 137 ⟨[.int .i64 a,.int .u64 d,.int .u64 f]⟩ w fun e w' => ∃ v,e = .returned v ∧ R v w' :=
 calls_wpfP (c := V137.cfg w.heap.size) (fn := Tryz.f137) (x := V137.code) (V137.cuts w.heap.size R) V137.h (V137.cfgOk _) mixed Tryz.func137 (by kernel_rfl) (by kernel_rfl) (by kernel_rfl) rfl (V137.obl _ _) ((V137.vc_eq _ _ a d f _).symm ▸ h)
def V88.b1 (B : Nat) (R : Value → World → Prop) (a : Addr) (c : Int) (d : Option Addr) (f g : Nat) (i : Bool) (j : Nat) (l m n : Int) (o : Nat) (p q r : Int) (s : Bool) (t : Int) (x : Option Addr) (y z : Nat) (A : Option Addr) (C D : Nat) (E : Option Addr) (F G : Nat) (w : World) : Prop :=
 ∃ (I : Option Addr) (J L : Nat),w.cell? (a.add 6) = some (.slice I J L) ∧
 ∃ M : Addr,I = some M ∧ (0 : Int) ≤ c ∧ c < (J : Int) ∧
 (∃ u,w.cell? ((M.add (c.toNat * 8)).add 0) = some u) ∧ w.frozen? ((M.add (c.toNat * 8)).add 0) = false ∧
 let N := w.setCell ((M.add (c.toNat * 8)).add 0) (.int .i64 p);
 (∃ u_1,N.cell? ((M.add (c.toNat * 8)).add 1) = some u_1) ∧ N.frozen? ((M.add (c.toNat * 8)).add 1) = false ∧
 let O := N.setCell ((M.add (c.toNat * 8)).add 1) (.int .i64 q);
 (∃ u_2,O.cell? ((M.add (c.toNat * 8)).add 2) = some u_2) ∧ O.frozen? ((M.add (c.toNat * 8)).add 2) = false ∧
 let P := O.setCell ((M.add (c.toNat * 8)).add 2) (.int .i64 r);
 (∃ u_3,P.cell? ((M.add (c.toNat * 8)).add 3) = some u_3) ∧ P.frozen? ((M.add (c.toNat * 8)).add 3) = false ∧
 let Q := P.setCell ((M.add (c.toNat * 8)).add 3) (.bool s);
 (∃ u_4,Q.cell? ((M.add (c.toNat * 8)).add 4) = some u_4) ∧ Q.frozen? ((M.add (c.toNat * 8)).add 4) = false ∧
 let S := Q.setCell ((M.add (c.toNat * 8)).add 4) (.int .u64 t);
 (∃ u_5,S.cell? ((M.add (c.toNat * 8)).add 5) = some u_5) ∧ S.frozen? ((M.add (c.toNat * 8)).add 5) = false ∧
 let T := S.setCell ((M.add (c.toNat * 8)).add 5) (.slice x y z);
 (∃ u_6,T.cell? ((M.add (c.toNat * 8)).add 6) = some u_6) ∧ T.frozen? ((M.add (c.toNat * 8)).add 6) = false ∧
 let U := T.setCell ((M.add (c.toNat * 8)).add 6) (.slice A C D);
 (∃ u_7,U.cell? ((M.add (c.toNat * 8)).add 7) = some u_7) ∧ U.frozen? ((M.add (c.toNat * 8)).add 7) = false ∧
 let W := U.setCell ((M.add (c.toNat * 8)).add 7) (.slice E F G);
 if i = true
 then (CallK Tryz.prog 87 [.pointer (some a),.int .i64 m,.slice d f g,.bool false] B W [j,o] fun v X => 
 v = .tuple ⟨[]⟩ ∧
 Ret B X (R (.tuple ⟨[]⟩)))
 else (Ret B W (R (.tuple ⟨[]⟩)))
def V88.b0 (B : Nat) (R : Value → World → Prop) (a : Addr) (c : Int) (d : Option Addr) (f g : Nat) (i j : Bool) (l : Nat) (m n o : Int) (p : Nat) (q r s : Int) (t : Bool) (x : Int) (y : Option Addr) (z A : Nat) (C : Option Addr) (D E : Nat) (F : Option Addr) (G I : Nat) (w : World) : Prop :=
 if j = true
 then (∃ (J : Option Addr) (L M : Nat),w.cell? (a.add 6) = some (.slice J L M) ∧
 ∃ N : Addr,J = some N ∧ (0 : Int) ≤ IntKind.wrap .i64 (c - 1) ∧ IntKind.wrap .i64 (c - 1) < (L : Int) ∧
 ∃ O : Int,w.cell? ((N.add ((IntKind.wrap .i64 (c - 1)).toNat * 8)).add 4) = some (.int .u64 O) ∧
 CallK Tryz.prog 131 [.int .i64 1] B w [l,p] fun v P => 
 ∃ Q : Int,v = .int .u64 Q ∧
 Expo B P [l,p] fun S => 
 Hide [l,p] (S.alloc (.cells ⟨[.int .u64 O,.int .u64 Q]⟩ 55)) fun T => 
 RunK Tryz.prog (Builtin.append_ #[31,31] 31 ⟨[.slice F G I,.slice (some ⟨S.heap.size,0,none⟩) 2 2]⟩) B T [l,p] fun U W => 
 ∃ (X : Option Addr) (Y Z : Nat),U = .slice X Y Z ∧
 CallK Tryz.prog 136 [.pointer (some a),.int .i64 2,.int .u64 O] B W [l,p] fun a0 a1 => 
 a0 = .tuple ⟨[]⟩ ∧
 ∃ (a2 : Option Addr) (a3 a4 : Nat),a1.cell? (a.add 6) = some (.slice a2 a3 a4) ∧
 ∃ a5 : Addr,a2 = some a5 ∧ (0 : Int) ≤ IntKind.wrap .i64 (c - 1) ∧ IntKind.wrap .i64 (c - 1) < (a3 : Int) ∧
 (∃ u,a1.cell? (((a5.add ((IntKind.wrap .i64 (c - 1)).toNat * 8)).add 2).add 0) = some u) ∧ a1.frozen? (((a5.add ((IntKind.wrap .i64 (c - 1)).toNat * 8)).add 2).add 0) = false ∧
 let a6 := a1.setCell (((a5.add ((IntKind.wrap .i64 (c - 1)).toNat * 8)).add 2).add 0) (.int .i64 1);
 ∃ (a7 : Option Addr) (a8 a9 : Nat),a6.cell? (a.add 6) = some (.slice a7 a8 a9) ∧
 CallK Tryz.prog 131 [.int .i64 0] B a6 [l,p] fun c0 c1 => 
 ∃ c2 : Int,c0 = .int .u64 c2 ∧ c1.cell? (a.add 6) = some (.slice a7 a8 a9) ∧
 ∃ c3 : Addr,a7 = some c3 ∧ (0 : Int) ≤ IntKind.wrap .i64 (c - 1) ∧ IntKind.wrap .i64 (c - 1) < (a8 : Int) ∧
 (∃ u_1,c1.cell? (((c3.add ((IntKind.wrap .i64 (c - 1)).toNat * 8)).add 4).add 0) = some u_1) ∧ c1.frozen? (((c3.add ((IntKind.wrap .i64 (c - 1)).toNat * 8)).add 4).add 0) = false ∧
 let c4 := c1.setCell (((c3.add ((IntKind.wrap .i64 (c - 1)).toNat * 8)).add 4).add 0) (.int .u64 c2);
 V88.b1 B R a c d f g i l m n o p q r s t x y z A C D E X Y Z c4)
 else (CallK Tryz.prog 131 [.int .i64 0] B w [l,p] fun v P => 
 ∃ c5 : Int,v = .int .u64 c5 ∧
 CallK Tryz.prog 131 [.int .i64 0] B P [l,p] fun U S => 
 ∃ c6 : Int,U = .int .u64 c6 ∧
 Expo B S [l,p] fun T => 
 Hide [l,p] (T.alloc (.cells ⟨[.int .u64 c5,.int .u64 c6]⟩ 55)) fun W => 
 RunK Tryz.prog (Builtin.append_ #[31,31] 31 ⟨[.slice F G I,.slice (some ⟨T.heap.size,0,none⟩) 2 2]⟩) B W [l,p] fun a0 a1 => 
 ∃ (c7 : Option Addr) (c8 c9 : Nat),a0 = .slice c7 c8 c9 ∧
 V88.b1 B R a c d f g i l m n o p q r s t x y z A C D E c7 c8 c9 a1)
def V88.vc (B : Nat) (R : Value → World → Prop) (c : Addr) (w : World) : Prop :=
 ∃ (d : Option Addr) (f g : Nat),w.cell? (c.add 6) = some (.slice d f g) ∧
 ∃ (i : Option Addr) (j l : Nat),w.cell? (c.add 6) = some (.slice i j l) ∧
 ∃ m : Addr,i = some m ∧ (0 : Int) ≤ IntKind.wrap .i64 ((f : Int) - 1) ∧ IntKind.wrap .i64 ((f : Int) - 1) < (j : Int) ∧
 ∃ n : Int,w.cell? ((m.add ((IntKind.wrap .i64 ((f : Int) - 1)).toNat * 8)).add 0) = some (.int .i64 n) ∧
 ∃ o : Int,w.cell? ((m.add ((IntKind.wrap .i64 ((f : Int) - 1)).toNat * 8)).add 1) = some (.int .i64 o) ∧
 ∃ p : Int,w.cell? ((m.add ((IntKind.wrap .i64 ((f : Int) - 1)).toNat * 8)).add 2) = some (.int .i64 p) ∧
 ∃ q : Bool,w.cell? ((m.add ((IntKind.wrap .i64 ((f : Int) - 1)).toNat * 8)).add 3) = some (.bool q) ∧
 ∃ r : Int,w.cell? ((m.add ((IntKind.wrap .i64 ((f : Int) - 1)).toNat * 8)).add 4) = some (.int .u64 r) ∧
 ∃ (s : Option Addr) (t x : Nat),w.cell? ((m.add ((IntKind.wrap .i64 ((f : Int) - 1)).toNat * 8)).add 5) = some (.slice s t x) ∧
 ∃ (y : Option Addr) (z A : Nat),w.cell? ((m.add ((IntKind.wrap .i64 ((f : Int) - 1)).toNat * 8)).add 6) = some (.slice y z A) ∧
 ∃ (C : Option Addr) (D E : Nat),w.cell? ((m.add ((IntKind.wrap .i64 ((f : Int) - 1)).toNat * 8)).add 7) = some (.slice C D E) ∧
 CallK Tryz.prog 130 [.agg ⟨[.int .i64 n,.int .i64 o,.int .i64 p,.bool q,.int .u64 r,.slice s t x,.slice y z A,.slice C D E]⟩] B w [] fun v F => 
 ∃ (G I J : Int) (L : Bool) (M : Int) (N : Option Addr) (O P : Nat) (Q : Option Addr) (S T : Nat) (U : Option Addr) (W X : Nat),v = .agg ⟨[.int .i64 G,.int .i64 I,.int .i64 J,.bool L,.int .u64 M,.slice N O P,.slice Q S T,.slice U W X]⟩ ∧
 ∀ Y : Nat,F.heap.size ≤ Y →
 ∃ (Z : Option Addr) (a0 a1 : Nat),F.cell? ((c.add 0).add 0) = some (.slice Z a0 a1) ∧
 ∃ a2 : Addr,Z = some a2 ∧ (0 : Int) ≤ G ∧ G < (a0 : Int) ∧
 ∃ a3 : Int,F.cell? ((a2.add (G.toNat * 4)).add 0) = some (.int .i64 a3) ∧
 ∃ a4 : Int,F.cell? ((a2.add (G.toNat * 4)).add 1) = some (.int .i64 a4) ∧
 ∃ a5 : Int,F.cell? ((a2.add (G.toNat * 4)).add 2) = some (.int .i64 a5) ∧
 ∃ (a6 : Option Addr) (a7 a8 : Nat),F.cell? ((a2.add (G.toNat * 4)).add 3) = some (.slice a6 a7 a8) ∧
 ∀ q4 : Nat,F.heap.size ≤ q4 → F.cell? ((a2.add (G.toNat * 4)).add 0) = some (.int .i64 a3) ∧ F.cell? ((a2.add (G.toNat * 4)).add 1) = some (.int .i64 a4) ∧ F.cell? ((a2.add (G.toNat * 4)).add 2) = some (.int .i64 a5) ∧ F.cell? ((a2.add (G.toNat * 4)).add 3) = some (.slice a6 a7 a8) ∧ F.cell? ((c.add 0).add 0) = some (.slice Z a0 a1) ∧
 ∃ c0 : Addr,a6 = some c0 ∧ (0 : Int) ≤ I ∧ I < (a7 : Int) ∧
 ∃ c1 : Int,F.cell? ((c0.add (I.toNat * 3)).add 0) = some (.int .i64 c1) ∧
 ∃ c2 : Int,F.cell? ((c0.add (I.toNat * 3)).add 1) = some (.int .i64 c2) ∧
 ∃ c3 : Int,F.cell? ((c0.add (I.toNat * 3)).add 2) = some (.int .i64 c3) ∧
 ∀ q5 : Nat,F.heap.size ≤ q5 →
 ∃ (c5 : Option Addr) (c6 c7 : Nat),F.cell? ((c.add 0).add 0) = some (.slice c5 c6 c7) ∧
 CallK Tryz.prog 117 [.agg ⟨[.slice c5 c6 c7]⟩,.agg ⟨[.int .i64 c1,.int .i64 c2,.int .i64 c3]⟩] B F [q5,q4,Y] fun c8 c9 => 
 ∃ d0 : Int,c8 = .int .i64 d0 ∧
 Expo B c9 [q5,q4,Y] fun d1 => 
 Hide [q5,q4,Y] (d1.alloc (.cells ⟨[]⟩ 55)) fun d2 => 
 (0 : Int) ≤ IntKind.wrap .i64 ((W : Int) - d0) ∧ IntKind.wrap .i64 ((W : Int) - d0) ≤ (W : Int) ∧
 RunK Tryz.prog (Builtin.append_ #[31,31] 31 ⟨[.slice (some ⟨d1.heap.size,0,none⟩) 0 0,.slice (if X = (IntKind.wrap .i64 ((W : Int) - d0)).toNat then U else Option.map (fun a => a.add ((IntKind.wrap .i64 ((W : Int) - d0)).toNat)) U) (W - ((IntKind.wrap .i64 ((W : Int) - d0)).toNat)) (X - ((IntKind.wrap .i64 ((W : Int) - d0)).toNat))]⟩) B d2 [q5,q4,Y] fun d3 d4 => 
 ∃ (d5 : Option Addr) (d6 d7 : Nat),d3 = .slice d5 d6 d7 ∧ (0 : Int) ≤ IntKind.wrap .i64 ((W : Int) - d0) ∧ IntKind.wrap .i64 ((W : Int) - d0) ≤ (X : Int) ∧
 Expo B d4 [q5,q4,Y] fun d8 => 
 Hide [q5,q4,Y] (d8.alloc (.cells ⟨[]⟩ 99)) fun d9 => 
 ∃ (f0 : Option Addr) (f1 f2 : Nat),d9.cell? (c.add 6) = some (.slice f0 f1 f2) ∧
 RunK Tryz.prog (Builtin.append_ #[40,40] 40 ⟨[.slice (some ⟨d8.heap.size,0,none⟩) 0 0,.slice f0 f1 f2]⟩) B d9 [q5,q4,Y] fun f3 f4 => 
 ∃ (f5 : Option Addr) (f6 f7 : Nat),f3 = .slice f5 f6 f7 ∧
 (∃ u,f4.cell? ((c.add 6).add 0) = some u) ∧ f4.frozen? ((c.add 6).add 0) = false ∧
 let f8 := f4.setCell ((c.add 6).add 0) (.slice f5 f6 f7);
 if (c1 == 1) = true
 then (CallK Tryz.prog 131 [.int .i64 c2] B f8 [q5,q4,Y] fun f9 g0 => 
 ∃ g1 : Int,f9 = .int .u64 g1 ∧
 Expo B g0 [q5,q4,Y] fun g2 => 
 Hide [q5,q4,Y] (g2.alloc (.cells ⟨[.int .u64 g1]⟩ 55)) fun g3 => 
 RunK Tryz.prog (Builtin.append_ #[31,31] 31 ⟨[.slice (if X = 0 then U else Option.map (fun a => a.add 0) U) (((IntKind.wrap .i64 ((W : Int) - d0)).toNat) - 0) (X - 0),.slice (some ⟨g2.heap.size,0,none⟩) 1 1]⟩) B g3 [q5,q4,Y] fun g4 g5 => 
 ∃ (g6 : Option Addr) (g7 g8 : Nat),g4 = .slice g6 g7 g8 ∧
 V88.b1 B R c (IntKind.wrap .i64 ((f : Int) - 1)) d5 d6 d7 false q5 c1 c2 c3 Y G (IntKind.wrap .i64 (I + 1)) J L M N O P Q S T g6 g7 g8 g5)
 else (if (c1 == 2) = true
 then (CallK Tryz.prog 132 [.int .i64 c2] B f8 [q5,q4,Y] fun f9 g0 => 
 ∃ g9 : Int,f9 = .int .u64 g9 ∧
 Expo B g0 [q5,q4,Y] fun g2 => 
 Hide [q5,q4,Y] (g2.alloc (.cells ⟨[.int .u64 g9]⟩ 55)) fun g3 => 
 RunK Tryz.prog (Builtin.append_ #[31,31] 31 ⟨[.slice (if X = 0 then U else Option.map (fun a => a.add 0) U) (((IntKind.wrap .i64 ((W : Int) - d0)).toNat) - 0) (X - 0),.slice (some ⟨g2.heap.size,0,none⟩) 1 1]⟩) B g3 [q5,q4,Y] fun g4 g5 => 
 ∃ (i0 : Option Addr) (i1 i2 : Nat),g4 = .slice i0 i1 i2 ∧
 V88.b1 B R c (IntKind.wrap .i64 ((f : Int) - 1)) d5 d6 d7 false q5 c1 c2 c3 Y G (IntKind.wrap .i64 (I + 1)) J L M N O P Q S T i0 i1 i2 g5)
 else (if (c1 == 3) = true
 then (∃ i3 : Addr,Q = some i3 ∧ (0 : Int) ≤ c2 ∧ c2 < (S : Int) ∧
 ∃ i4 : Int,f8.cell? (i3.add c2.toNat) = some (.int .u64 i4) ∧
 Expo B f8 [q5,q4,Y] fun g0 => 
 Hide [q5,q4,Y] (g0.alloc (.cells ⟨[.int .u64 i4]⟩ 55)) fun g2 => 
 RunK Tryz.prog (Builtin.append_ #[31,31] 31 ⟨[.slice (if X = 0 then U else Option.map (fun a => a.add 0) U) (((IntKind.wrap .i64 ((W : Int) - d0)).toNat) - 0) (X - 0),.slice (some ⟨g0.heap.size,0,none⟩) 1 1]⟩) B g2 [q5,q4,Y] fun f9 g3 => 
 ∃ (i5 : Option Addr) (i6 i7 : Nat),f9 = .slice i5 i6 i7 ∧
 V88.b1 B R c (IntKind.wrap .i64 ((f : Int) - 1)) d5 d6 d7 false q5 c1 c2 c3 Y G (IntKind.wrap .i64 (I + 1)) J L M N O P Q S T i5 i6 i7 g3)
 else (if (c1 == 4) = true
 then (∃ i8 : Addr,d5 = some i8 ∧ (0 : Int) ≤ 0 ∧ (0 : Int) < (d6 : Int) ∧
 ∃ i9 : Int,f8.cell? (i8.add 0) = some (.int .u64 i9) ∧
 ∃ j0 : Addr,Q = some j0 ∧ (0 : Int) ≤ c2 ∧ c2 < (S : Int) ∧
 (∃ u_1,f8.cell? ((j0.add c2.toNat).add 0) = some u_1) ∧ f8.frozen? ((j0.add c2.toNat).add 0) = false ∧
 let g0 := f8.setCell ((j0.add c2.toNat).add 0) (.int .u64 i9);
 V88.b1 B R c (IntKind.wrap .i64 ((f : Int) - 1)) d5 d6 d7 false q5 c1 c2 c3 Y G (IntKind.wrap .i64 (I + 1)) J L M N O P Q S T (if X = 0 then U else Option.map (fun a => a.add 0) U) (((IntKind.wrap .i64 ((W : Int) - d0)).toNat) - 0) (X - 0) g0)
 else (if (c1 == 9) = true
 then (∃ j1 : Addr,d5 = some j1 ∧ (0 : Int) ≤ 0 ∧ (0 : Int) < (d6 : Int) ∧
 ∃ j2 : Int,f8.cell? (j1.add 0) = some (.int .u64 j2) ∧
 CallK Tryz.prog 133 [.int .u64 j2] B f8 [q5,q4,Y] fun f9 g0 => 
 ∃ j3 : Int,f9 = .int .u64 j3 ∧
 Expo B g0 [q5,q4,Y] fun g2 => 
 Hide [q5,q4,Y] (g2.alloc (.cells ⟨[.int .u64 j3]⟩ 55)) fun g3 => 
 RunK Tryz.prog (Builtin.append_ #[31,31] 31 ⟨[.slice (if X = 0 then U else Option.map (fun a => a.add 0) U) (((IntKind.wrap .i64 ((W : Int) - d0)).toNat) - 0) (X - 0),.slice (some ⟨g2.heap.size,0,none⟩) 1 1]⟩) B g3 [q5,q4,Y] fun g4 g5 => 
 ∃ (j4 : Option Addr) (j5 j6 : Nat),g4 = .slice j4 j5 j6 ∧
 V88.b1 B R c (IntKind.wrap .i64 ((f : Int) - 1)) d5 d6 d7 false q5 c1 c2 c3 Y G (IntKind.wrap .i64 (I + 1)) J L M N O P Q S T j4 j5 j6 g5)
 else (if (c1 == 10) = true
 then (∃ j7 : Addr,d5 = some j7 ∧ (0 : Int) ≤ 0 ∧ (0 : Int) < (d6 : Int) ∧
 ∃ j8 : Int,f8.cell? (j7.add 0) = some (.int .u64 j8) ∧
 CallK Tryz.prog 134 [.int .u64 j8] B f8 [q5,q4,Y] fun f9 g0 => 
 ∃ j9 : Int,f9 = .int .u64 j9 ∧
 Expo B g0 [q5,q4,Y] fun g2 => 
 Hide [q5,q4,Y] (g2.alloc (.cells ⟨[.int .u64 j9]⟩ 55)) fun g3 => 
 RunK Tryz.prog (Builtin.append_ #[31,31] 31 ⟨[.slice (if X = 0 then U else Option.map (fun a => a.add 0) U) (((IntKind.wrap .i64 ((W : Int) - d0)).toNat) - 0) (X - 0),.slice (some ⟨g2.heap.size,0,none⟩) 1 1]⟩) B g3 [q5,q4,Y] fun g4 g5 => 
 ∃ (l0 : Option Addr) (l1 l2 : Nat),g4 = .slice l0 l1 l2 ∧
 V88.b1 B R c (IntKind.wrap .i64 ((f : Int) - 1)) d5 d6 d7 false q5 c1 c2 c3 Y G (IntKind.wrap .i64 (I + 1)) J L M N O P Q S T l0 l1 l2 g5)
 else (if (c1 == 15) = true
 then (V88.b1 B R c (IntKind.wrap .i64 ((f : Int) - 1)) d5 d6 d7 false q5 c1 c2 c3 Y G c2 J L M N O P Q S T (if X = 0 then U else Option.map (fun a => a.add 0) U) (((IntKind.wrap .i64 ((W : Int) - d0)).toNat) - 0) (X - 0) f8)
 else (if (c1 == 16) = true
 then (∃ l3 : Addr,d5 = some l3 ∧ (0 : Int) ≤ 0 ∧ (0 : Int) < (d6 : Int) ∧
 ∃ l4 : Int,f8.cell? (l3.add 0) = some (.int .u64 l4) ∧
 CallK Tryz.prog 135 [.int .u64 l4] B f8 [q5,q4,Y] fun f9 g0 => 
 ∃ l5 : Bool,f9 = .bool l5 ∧
 if l5 = true
 then (V88.b1 B R c (IntKind.wrap .i64 ((f : Int) - 1)) d5 d6 d7 false q5 c1 c2 c3 Y G c2 J L M N O P Q S T (if X = 0 then U else Option.map (fun a => a.add 0) U) (((IntKind.wrap .i64 ((W : Int) - d0)).toNat) - 0) (X - 0) g0)
 else (V88.b1 B R c (IntKind.wrap .i64 ((f : Int) - 1)) d5 d6 d7 false q5 c1 c2 c3 Y G (IntKind.wrap .i64 (I + 1)) J L M N O P Q S T (if X = 0 then U else Option.map (fun a => a.add 0) U) (((IntKind.wrap .i64 ((W : Int) - d0)).toNat) - 0) (X - 0) g0))
 else (if (c1 == 17) = true
 then (V88.b1 B R c (IntKind.wrap .i64 ((f : Int) - 1)) d5 d6 d7 true q5 c1 c2 c3 Y G (IntKind.wrap .i64 (I + 1)) J L M N O P Q S T (if X = 0 then U else Option.map (fun a => a.add 0) U) (((IntKind.wrap .i64 ((W : Int) - d0)).toNat) - 0) (X - 0) f8)
 else (if (c1 == 18) = true
 then (∃ l6 : Addr,d5 = some l6 ∧ (0 : Int) ≤ 0 ∧ (0 : Int) < (d6 : Int) ∧
 ∃ l7 : Int,f8.cell? (l6.add 0) = some (.int .u64 l7) ∧
 V88.b1 B R c (IntKind.wrap .i64 ((f : Int) - 1)) d5 d6 d7 false q5 c1 c2 c3 Y G (IntKind.wrap .i64 (I + 1)) 1 L l7 N O P Q S T (if X = 0 then U else Option.map (fun a => a.add 0) U) (((IntKind.wrap .i64 ((W : Int) - d0)).toNat) - 0) (X - 0) f8)
 else (if (c1 == 19) = true
 then (if (decide ((O : Int) ≥ 4)) = true
 then (CallK Tryz.prog 132 [.int .i64 1] B f8 [q5,q4,Y] fun f9 g0 => 
 ∃ l8 : Int,f9 = .int .u64 l8 ∧
 V88.b1 B R c (IntKind.wrap .i64 ((f : Int) - 1)) d5 d6 d7 false q5 c1 c2 c3 Y G (IntKind.wrap .i64 (I + 1)) 2 L l8 N O P Q S T (if X = 0 then U else Option.map (fun a => a.add 0) U) (((IntKind.wrap .i64 ((W : Int) - d0)).toNat) - 0) (X - 0) g0)
 else (Expo B f8 [q5,q4,Y] fun g0 => 
 Hide [q5,q4,Y] (g0.alloc (.cells ⟨[.int .i64 c2,.slice d5 d6 d7]⟩ 149)) fun g2 => 
 RunK Tryz.prog (Builtin.append_ #[97,97] 97 ⟨[.slice N O P,.slice (some ⟨g0.heap.size,0,none⟩) 1 1]⟩) B g2 [q5,q4,Y] fun f9 g3 => 
 ∃ (l9 : Option Addr) (m1 m2 : Nat),f9 = .slice l9 m1 m2 ∧
 V88.b1 B R c (IntKind.wrap .i64 ((f : Int) - 1)) d5 d6 d7 false q5 c1 c2 c3 Y G (IntKind.wrap .i64 (I + 1)) J L M l9 m1 m2 Q S T (if X = 0 then U else Option.map (fun a => a.add 0) U) (((IntKind.wrap .i64 ((W : Int) - d0)).toNat) - 0) (X - 0) g3))
 else (if (c1 == 20) = true
 then (∃ m3 : Addr,d5 = some m3 ∧ (0 : Int) ≤ 0 ∧ (0 : Int) < (d6 : Int) ∧
 ∃ m4 : Int,f8.cell? (m3.add 0) = some (.int .u64 m4) ∧
 V88.b1 B R c (IntKind.wrap .i64 ((f : Int) - 1)) d5 d6 d7 false q5 c1 c2 c3 Y G (IntKind.wrap .i64 (I + 1)) 2 L m4 N O P Q S T (if X = 0 then U else Option.map (fun a => a.add 0) U) (((IntKind.wrap .i64 ((W : Int) - d0)).toNat) - 0) (X - 0) f8)
 else (if (c1 == 21) = true
 then (if L = true
 then (if (decide (IntKind.wrap .i64 ((f : Int) - 1) > 0)) = true
 then (∃ (m5 : Option Addr) (m6 m7 : Nat),f8.cell? (c.add 6) = some (.slice m5 m6 m7) ∧
 ∃ m8 : Addr,m5 = some m8 ∧ (0 : Int) ≤ IntKind.wrap .i64 (IntKind.wrap .i64 ((f : Int) - 1) - 1) ∧ IntKind.wrap .i64 (IntKind.wrap .i64 ((f : Int) - 1) - 1) < (m6 : Int) ∧
 ∃ m9 : Int,f8.cell? ((m8.add ((IntKind.wrap .i64 (IntKind.wrap .i64 ((f : Int) - 1) - 1)).toNat * 8)).add 2) = some (.int .i64 m9) ∧
 V88.b0 B R c (IntKind.wrap .i64 ((f : Int) - 1)) d5 d6 d7 false (m9 == 2) q5 c1 c2 c3 Y G (IntKind.wrap .i64 (I + 1)) J L M N O P Q S T (if X = 0 then U else Option.map (fun a => a.add 0) U) (((IntKind.wrap .i64 ((W : Int) - d0)).toNat) - 0) (X - 0) f8)
 else (V88.b0 B R c (IntKind.wrap .i64 ((f : Int) - 1)) d5 d6 d7 false false q5 c1 c2 c3 Y G (IntKind.wrap .i64 (I + 1)) J L M N O P Q S T (if X = 0 then U else Option.map (fun a => a.add 0) U) (((IntKind.wrap .i64 ((W : Int) - d0)).toNat) - 0) (X - 0) f8))
 else (V88.b0 B R c (IntKind.wrap .i64 ((f : Int) - 1)) d5 d6 d7 false false q5 c1 c2 c3 Y G (IntKind.wrap .i64 (I + 1)) J L M N O P Q S T (if X = 0 then U else Option.map (fun a => a.add 0) U) (((IntKind.wrap .i64 ((W : Int) - d0)).toNat) - 0) (X - 0) f8))
 else (if (c1 == 22) = true
 then (∃ n0 : Addr,d5 = some n0 ∧ (0 : Int) ≤ 0 ∧ (0 : Int) < (d6 : Int) ∧
 ∃ n1 : Int,f8.cell? (n0.add 0) = some (.int .u64 n1) ∧
 CallK Tryz.prog 136 [.pointer (some c),.int .i64 1,.int .u64 n1] B f8 [q5,q4,Y] fun f9 g0 => 
 f9 = .tuple ⟨[]⟩ ∧
 V88.b1 B R c (IntKind.wrap .i64 ((f : Int) - 1)) d5 d6 d7 false q5 c1 c2 c3 Y G (IntKind.wrap .i64 (I + 1)) J L M N O P Q S T (if X = 0 then U else Option.map (fun a => a.add 0) U) (((IntKind.wrap .i64 ((W : Int) - d0)).toNat) - 0) (X - 0) g0)
 else (if (c1 == 23) = true
 then (∃ n2 : Int,f8.cell? (c.add 5) = some (.int .i64 n2) ∧
 (∃ u_1,f8.cell? ((c.add 5).add 0) = some u_1) ∧ f8.frozen? ((c.add 5).add 0) = false ∧
 let g0 := f8.setCell ((c.add 5).add 0) (.int .i64 (IntKind.wrap .i64 (n2 + 1)));
 ∃ n3 : Int,g0.cell? (c.add 5) = some (.int .i64 n3) ∧
 ∃ n4 : Addr,Q = some n4 ∧ (0 : Int) ≤ IntKind.wrap .i64 (IntKind.wrap .i64 (a4 - a5) + c2) ∧ IntKind.wrap .i64 (IntKind.wrap .i64 (a4 - a5) + c2) < (S : Int) ∧
 (∃ u_2,g0.cell? ((n4.add ((IntKind.wrap .i64 (IntKind.wrap .i64 (a4 - a5) + c2)).toNat)).add 0) = some u_2) ∧ g0.frozen? ((n4.add ((IntKind.wrap .i64 (IntKind.wrap .i64 (a4 - a5) + c2)).toNat)).add 0) = false ∧
 let g2 := g0.setCell ((n4.add ((IntKind.wrap .i64 (IntKind.wrap .i64 (a4 - a5) + c2)).toNat)).add 0) (.int .u64 (IntKind.wrap .u64 n3));
 V88.b1 B R c (IntKind.wrap .i64 ((f : Int) - 1)) d5 d6 d7 false q5 c1 c2 c3 Y G (IntKind.wrap .i64 (I + 1)) J L M N O P Q S T (if X = 0 then U else Option.map (fun a => a.add 0) U) (((IntKind.wrap .i64 ((W : Int) - d0)).toNat) - 0) (X - 0) g2)
 else (if (c1 == 24) = true
 then (∃ n5 : Addr,Q = some n5 ∧ (0 : Int) ≤ IntKind.wrap .i64 (IntKind.wrap .i64 (a4 - a5) + c3) ∧ IntKind.wrap .i64 (IntKind.wrap .i64 (a4 - a5) + c3) < (S : Int) ∧
 ∃ n6 : Int,f8.cell? (n5.add ((IntKind.wrap .i64 (IntKind.wrap .i64 (a4 - a5) + c3)).toNat)) = some (.int .u64 n6) ∧
 ∃ n7 : Addr,Q = some n7 ∧ (0 : Int) ≤ IntKind.wrap .i64 (IntKind.wrap .i64 (a4 - a5) + c2) ∧ IntKind.wrap .i64 (IntKind.wrap .i64 (a4 - a5) + c2) < (S : Int) ∧
 (∃ u_1,f8.cell? ((n7.add ((IntKind.wrap .i64 (IntKind.wrap .i64 (a4 - a5) + c2)).toNat)).add 0) = some u_1) ∧ f8.frozen? ((n7.add ((IntKind.wrap .i64 (IntKind.wrap .i64 (a4 - a5) + c2)).toNat)).add 0) = false ∧
 let g0 := f8.setCell ((n7.add ((IntKind.wrap .i64 (IntKind.wrap .i64 (a4 - a5) + c2)).toNat)).add 0) (.int .u64 n6);
 V88.b1 B R c (IntKind.wrap .i64 ((f : Int) - 1)) d5 d6 d7 false q5 c1 c2 c3 Y G (IntKind.wrap .i64 (I + 1)) J L M N O P Q S T (if X = 0 then U else Option.map (fun a => a.add 0) U) (((IntKind.wrap .i64 ((W : Int) - d0)).toNat) - 0) (X - 0) g0)
 else (if (c1 == 25) = true
 then (∃ n8 : Addr,Q = some n8 ∧ (0 : Int) ≤ IntKind.wrap .i64 (IntKind.wrap .i64 (a4 - a5) + c2) ∧ IntKind.wrap .i64 (IntKind.wrap .i64 (a4 - a5) + c2) < (S : Int) ∧
 (∃ u_1,f8.cell? ((n8.add ((IntKind.wrap .i64 (IntKind.wrap .i64 (a4 - a5) + c2)).toNat)).add 0) = some u_1) ∧ f8.frozen? ((n8.add ((IntKind.wrap .i64 (IntKind.wrap .i64 (a4 - a5) + c2)).toNat)).add 0) = false ∧
 let g0 := f8.setCell ((n8.add ((IntKind.wrap .i64 (IntKind.wrap .i64 (a4 - a5) + c2)).toNat)).add 0) (.int .u64 0);
 V88.b1 B R c (IntKind.wrap .i64 ((f : Int) - 1)) d5 d6 d7 false q5 c1 c2 c3 Y G (IntKind.wrap .i64 (I + 1)) J L M N O P Q S T (if X = 0 then U else Option.map (fun a => a.add 0) U) (((IntKind.wrap .i64 ((W : Int) - d0)).toNat) - 0) (X - 0) g0)
 else (if (c1 == 26) = true
 then ((∃ u_1,f8.cell? ((c.add 4).add 0) = some u_1) ∧ f8.frozen? ((c.add 4).add 0) = false ∧
 let g0 := f8.setCell ((c.add 4).add 0) (.bool true);
 V88.b1 B R c (IntKind.wrap .i64 ((f : Int) - 1)) d5 d6 d7 false q5 c1 c2 c3 Y G (IntKind.wrap .i64 (I + 1)) J L M N O P Q S T (if X = 0 then U else Option.map (fun a => a.add 0) U) (((IntKind.wrap .i64 ((W : Int) - d0)).toNat) - 0) (X - 0) g0)
 else (if (c1 == 27) = true
 then (V88.b1 B R c (IntKind.wrap .i64 ((f : Int) - 1)) d5 d6 d7 false q5 c1 c2 c3 Y G (IntKind.wrap .i64 (I + 1)) J L M N O P Q S T (if X = 0 then U else Option.map (fun a => a.add 0) U) (((IntKind.wrap .i64 ((W : Int) - d0)).toNat) - 0) (X - 0) f8)
 else (∃ n9 : Addr,d5 = some n9 ∧ (0 : Int) ≤ 0 ∧ (0 : Int) < (d6 : Int) ∧
 ∃ o0 : Int,f8.cell? (n9.add 0) = some (.int .u64 o0) ∧
 ∃ o1 : Addr,d5 = some o1 ∧ (0 : Int) ≤ 1 ∧ (1 : Int) < (d6 : Int) ∧
 ∃ o2 : Int,f8.cell? (o1.add 1) = some (.int .u64 o2) ∧
 CallK Tryz.prog 137 [.int .i64 c1,.int .u64 o0,.int .u64 o2] B f8 [q5,q4,Y] fun f9 g0 => 
 ∃ o3 : Int,f9 = .int .u64 o3 ∧
 Expo B g0 [q5,q4,Y] fun g2 => 
 Hide [q5,q4,Y] (g2.alloc (.cells ⟨[.int .u64 o3]⟩ 55)) fun g3 => 
 RunK Tryz.prog (Builtin.append_ #[31,31] 31 ⟨[.slice (if X = 0 then U else Option.map (fun a => a.add 0) U) (((IntKind.wrap .i64 ((W : Int) - d0)).toNat) - 0) (X - 0),.slice (some ⟨g2.heap.size,0,none⟩) 1 1]⟩) B g3 [q5,q4,Y] fun g4 g5 => 
 ∃ (o4 : Option Addr) (o5 o6 : Nat),g4 = .slice o4 o5 o6 ∧
 V88.b1 B R c (IntKind.wrap .i64 ((f : Int) - 1)) d5 d6 d7 false q5 c1 c2 c3 Y G (IntKind.wrap .i64 (I + 1)) J L M N O P Q S T o4 o5 o6 g5)))))))))))))))))))
noncomputable def V88.cfg (B : Nat) : Cfg := ⟨Tryz.prog,⟨349,B⟩,[],hasN [87,117,130,131,132,133,134,135,136,137],hasN [],look []⟩
noncomputable def V88.code : Code := (Tryz.f88.body).getD .skip
noncomputable def V88.cuts (B : Nat) (R : Value → World → Prop) : Nat → Cut := nthC [⟨[(0,.one (.ptr)),(2,.one (.int .i64)),(8,.one (.slice)),(9,.one (.bool)),(231,.one (.bool))],[(5,105,[.int .i64,.int .i64,.int .i64]),(3,99,[.int .i64,.int .i64,.int .i64,.bool,.int .u64,.slice,.slice,.slice])],fun fs vs bs w => V88.b0 B R (pV (nthV vs 0)) (iV (nthV vs 1)) (slA (nthV vs 2)) (slL (nthV vs 2)) (slC (nthV vs 2)) (bV (nthV vs 3)) (bV (nthV vs 4)) (nthB bs 0).blk (iV (nthV (nthB bs 0).cells 0)) (iV (nthV (nthB bs 0).cells 1)) (iV (nthV (nthB bs 0).cells 2)) (nthB bs 1).blk (iV (nthV (nthB bs 1).cells 0)) (iV (nthV (nthB bs 1).cells 1)) (iV (nthV (nthB bs 1).cells 2)) (bV (nthV (nthB bs 1).cells 3)) (iV (nthV (nthB bs 1).cells 4)) (slA (nthV (nthB bs 1).cells 5)) (slL (nthV (nthB bs 1).cells 5)) (slC (nthV (nthB bs 1).cells 5)) (slA (nthV (nthB bs 1).cells 6)) (slL (nthV (nthB bs 1).cells 6)) (slC (nthV (nthB bs 1).cells 6)) (slA (nthV (nthB bs 1).cells 7)) (slL (nthV (nthB bs 1).cells 7)) (slC (nthV (nthB bs 1).cells 7)) w⟩,
 ⟨[(0,.one (.ptr)),(2,.one (.int .i64)),(8,.one (.slice)),(9,.one (.bool))],[(5,105,[.int .i64,.int .i64,.int .i64]),(3,99,[.int .i64,.int .i64,.int .i64,.bool,.int .u64,.slice,.slice,.slice])],fun fs vs bs w => V88.b1 B R (pV (nthV vs 0)) (iV (nthV vs 1)) (slA (nthV vs 2)) (slL (nthV vs 2)) (slC (nthV vs 2)) (bV (nthV vs 3)) (nthB bs 0).blk (iV (nthV (nthB bs 0).cells 0)) (iV (nthV (nthB bs 0).cells 1)) (iV (nthV (nthB bs 0).cells 2)) (nthB bs 1).blk (iV (nthV (nthB bs 1).cells 0)) (iV (nthV (nthB bs 1).cells 1)) (iV (nthV (nthB bs 1).cells 2)) (bV (nthV (nthB bs 1).cells 3)) (iV (nthV (nthB bs 1).cells 4)) (slA (nthV (nthB bs 1).cells 5)) (slL (nthV (nthB bs 1).cells 5)) (slC (nthV (nthB bs 1).cells 5)) (slA (nthV (nthB bs 1).cells 6)) (slL (nthV (nthB bs 1).cells 6)) (slC (nthV (nthB bs 1).cells 6)) (slA (nthV (nthB bs 1).cells 7)) (slL (nthV (nthB bs 1).cells 7)) (slC (nthV (nthB bs 1).cells 7)) w⟩]
noncomputable def V88.h : H := .s (.z) (.s (.z) (.s (.r [[0,1,2,3,4,5,6,7,8,9,10]]) (.s (.z) (.s (.z) (.s (.z) (.s (.r [[0,1,2,3,4,5,6]]) (.s (.z) (.s (.z) (.s (.z) (.s (.z) (.cut 1 (.s (.z) (.b (.s (.z) (.c (.r [[0,1,2,3,4,5,6,7,8]]) (.s (.z) (.c (.r [[0,1,2,3,4,5,6,7,8]]) (.s (.z) (.c (.r [[0,1,2,3,4,5,6,7,8,9,10,11]]) (.s (.z) (.c (.r [[0,1,2,3,4,5,6,7,8]]) (.s (.z) (.c (.r [[0,1,2,3,4,5,6,7,8,9]]) (.s (.z) (.c (.r [[0,1,2,3,4,5,6,7,8,9]]) (.s (.z) (.c (.z) (.s (.z) (.c (.s (.z) (.c (.z) (.z))) (.s (.z) (.c (.z) (.s (.z) (.c (.s (.z) (.z)) (.s (.z) (.c (.s (.z) (.c (.s (.z) (.z)) (.z))) (.s (.z) (.c (.s (.z) (.z)) (.s (.z) (.c (.cut 0 (.z) (.c (.s (.z) (.s (.r [[0,1,2,3,4,5,6,7]]) (.s (.z) (.s (.z) (.r [[0,1,2,3,4,5,6,7,8,9]]))))) (.r [[0,1,2,3,4,5,6,7]]))) (.s (.z) (.c (.z) (.s (.z) (.c (.s (.z) (.r [[0,1,2,3,4,5,6,7,8,9,10,11,12]])) (.s (.z) (.c (.r [[0,1,2,3,4,5,6,7,8,9,10,11,12,13,14,15]]) (.s (.z) (.c (.z) (.s (.z) (.c (.z) (.s (.z) (.c (.z) (.r [[0,1,2,3,4,5,6,7,8,9,10,11,12,13,14]]))))))))))))))))))))))))))))))))))))))))) (.s (.r [[0,1,2,3,4,5,6,7]]) (.s (.z) (.c (.z) (.z)))))))))))))))
theorem V88.vc_eq (B : Nat) (R : Value → World → Prop) (a : Addr) (w : World) : wpf (V88.cfg B) (V88.cuts B R) V88.code V88.h [] (postOf Tryz.prog B (Tryz.f88.results.toList) R) (argE 0 [.pointer (some a)]) [] w = V88.vc B R a w := by kernel_rfl
theorem V88.obl (B : Nat) (R : Value → World → Prop) : oblP (V88.cfg B) (V88.cuts B R) V88.code V88.h [] (postOf Tryz.prog B (Tryz.f88.results.toList) R) := by
 have e : oblP (V88.cfg B) (V88.cuts B R) V88.code V88.h [] (postOf Tryz.prog B (Tryz.f88.results.toList) R) = (True ∧ (True ∧ ((true = true) ∧ (True ∧ (True ∧ (True ∧ ((true = true) ∧ (True ∧ (True ∧ (True ∧ (True ∧ ((True ∧ (True ∧ ((true = true) ∧ (True ∧ ((true = true) ∧ (True ∧ ((true = true) ∧ (True ∧ ((true = true) ∧ (True ∧ ((true = true) ∧ (True ∧ ((true = true) ∧ (True ∧ (True ∧ (True ∧ ((True ∧ (True ∧ True)) ∧ (True ∧ (True ∧ (True ∧ ((True ∧ True) ∧ (True ∧ ((True ∧ ((True ∧ True) ∧ True)) ∧ (True ∧ ((True ∧ True) ∧ (True ∧ ((True ∧ (∀ (a : Addr) (c : Int) (d : Option Addr) (f g : Nat) (i j : Bool) (l : Nat) (m n o : Int) (p : Nat) (q r s : Int) (t : Bool) (u : Int) (x : Option Addr) (y z : Nat) (A : Option Addr) (C D : Nat) (E : Option Addr) (F G : Nat) (w : World),V88.b0 B R a c d f g i j l m n o p q r s t u x y z A C D E F G w → V88.b0 B R a c d f g i j l m n o p q r s t u x y z A C D E F G w) ∧ ((True ∧ ((true = true) ∧ (True ∧ (True ∧ (true = true))))) ∧ (true = true))) ∧ (True ∧ (True ∧ (True ∧ ((True ∧ (true = true)) ∧ (True ∧ ((true = true) ∧ (True ∧ (True ∧ (True ∧ (True ∧ (True ∧ (True ∧ (true = true)))))))))))))))))))))))))))))))))))))))) ∧ (∀ (a : Addr) (c : Int) (d : Option Addr) (f g : Nat) (i : Bool) (l : Nat) (m n o : Int) (p : Nat) (q r s : Int) (t : Bool) (u : Int) (x : Option Addr) (y z : Nat) (A : Option Addr) (C D : Nat) (E : Option Addr) (F G : Nat) (w : World),V88.b1 B R a c d f g i l m n o p q r s t u x y z A C D E F G w → V88.b1 B R a c d f g i l m n o p q r s t u x y z A C D E F G w) ∧ ((true = true) ∧ (True ∧ (True ∧ True))))))))))))))) := by kernel_rfl
 exact e.mpr (⟨trivial,⟨trivial,⟨rfl,⟨trivial,⟨trivial,⟨trivial,⟨rfl,⟨trivial,⟨trivial,⟨trivial,⟨trivial,⟨⟨trivial,⟨trivial,⟨rfl,⟨trivial,⟨rfl,⟨trivial,⟨rfl,⟨trivial,⟨rfl,⟨trivial,⟨rfl,⟨trivial,⟨rfl,⟨trivial,⟨trivial,⟨trivial,⟨⟨trivial,⟨trivial,trivial⟩⟩,⟨trivial,⟨trivial,⟨trivial,⟨⟨trivial,trivial⟩,⟨trivial,⟨⟨trivial,⟨⟨trivial,trivial⟩,trivial⟩⟩,⟨trivial,⟨⟨trivial,trivial⟩,⟨trivial,⟨⟨trivial,fun a c d f g i j l m n o p q r s t u x y z A C D E F G w h => h,⟨⟨trivial,⟨rfl,⟨trivial,⟨trivial,rfl⟩⟩⟩⟩,rfl⟩⟩,⟨trivial,⟨trivial,⟨trivial,⟨⟨trivial,rfl⟩,⟨trivial,⟨rfl,⟨trivial,⟨trivial,⟨trivial,⟨trivial,⟨trivial,⟨trivial,rfl⟩⟩⟩⟩⟩⟩⟩⟩⟩⟩⟩⟩⟩⟩⟩⟩⟩⟩⟩⟩⟩⟩⟩⟩⟩⟩⟩⟩⟩⟩⟩⟩⟩⟩⟩⟩⟩⟩⟩,fun a c d f g i l m n o p q r s t u x y z A C D E F G w h => h,⟨rfl,⟨trivial,⟨trivial,trivial⟩⟩⟩⟩⟩⟩⟩⟩⟩⟩⟩⟩⟩⟩⟩)
theorem V88.cfgOk (B : Nat) : CfgOk (V88.cfg B) := cfgOk_of (by kernel_rfl) (by kernel_rfl) extNil
theorem V88.sound {a : Addr} {w : World} {R : Value → World → Prop} (h : V88.vc w.heap.size R a w) : Calls Tryz.prog 88 ⟨[.pointer (some a)]⟩ w fun e w' => ∃ v,e = .returned v ∧ R v w' :=
 calls_wpfP (c := V88.cfg w.heap.size) (fn := Tryz.f88) (x := V88.code) (V88.cuts w.heap.size R) V88.h (V88.cfgOk _) mixed Tryz.func88 (by kernel_rfl) (by kernel_rfl) (by kernel_rfl) rfl (V88.obl _ _) ((V88.vc_eq _ _ a _).symm ▸ h)
def V89.b0 (B : Nat) (R : Value → World → Prop) (a : Addr) (c : Int) (d : Bool) (f : Nat) (g i j : Int) (l : Bool) (m : Int) (n : Option Addr) (o p : Nat) (q : Option Addr) (r s : Nat) (t : Option Addr) (x y : Nat) (w : World) : Prop :=
 if d = true
 then ((∃ u,w.cell? ((a.add 3).add 0) = some u) ∧ w.frozen? ((a.add 3).add 0) = false ∧
 let z := w.setCell ((a.add 3).add 0) (.bool true);
 CallK Tryz.prog 136 [.pointer (some a),.int .i64 3,.int .u64 m] B z [f] fun v A => 
 v = .tuple ⟨[]⟩ ∧
 Ret B A (R (.tuple ⟨[]⟩)))
 else (if (c == 0) = true
 then ((∃ u,w.cell? ((a.add 3).add 0) = some u) ∧ w.frozen? ((a.add 3).add 0) = false ∧
 let z := w.setCell ((a.add 3).add 0) (.bool true);
 CallK Tryz.prog 136 [.pointer (some a),.int .i64 4,.int .u64 m] B z [f] fun v A => 
 v = .tuple ⟨[]⟩ ∧
 Ret B A (R (.tuple ⟨[]⟩)))
 else (if (j == 2) = true
 then (∃ (C : Option Addr) (D E : Nat),w.cell? (a.add 6) = some (.slice C D E) ∧
 ∃ F : Addr,C = some F ∧ (0 : Int) ≤ IntKind.wrap .i64 (c - 1) ∧ IntKind.wrap .i64 (c - 1) < (D : Int) ∧
 (∃ u,w.cell? (((F.add ((IntKind.wrap .i64 (c - 1)).toNat * 8)).add 2).add 0) = some u) ∧ w.frozen? (((F.add ((IntKind.wrap .i64 (c - 1)).toNat * 8)).add 2).add 0) = false ∧
 let z := w.setCell (((F.add ((IntKind.wrap .i64 (c - 1)).toNat * 8)).add 2).add 0) (.int .i64 2);
 ∃ (G : Option Addr) (I J : Nat),z.cell? (a.add 6) = some (.slice G I J) ∧
 ∃ L : Addr,G = some L ∧ (0 : Int) ≤ IntKind.wrap .i64 (c - 1) ∧ IntKind.wrap .i64 (c - 1) < (I : Int) ∧
 (∃ u_1,z.cell? (((L.add ((IntKind.wrap .i64 (c - 1)).toNat * 8)).add 4).add 0) = some u_1) ∧ z.frozen? (((L.add ((IntKind.wrap .i64 (c - 1)).toNat * 8)).add 4).add 0) = false ∧
 let A := z.setCell (((L.add ((IntKind.wrap .i64 (c - 1)).toNat * 8)).add 4).add 0) (.int .u64 m);
 Ret B A (R (.tuple ⟨[]⟩)))
 else (if (!l) = true
 then (∃ (M : Option Addr) (N O : Nat),w.cell? (a.add 6) = some (.slice M N O) ∧
 ∃ P : Addr,M = some P ∧ (0 : Int) ≤ IntKind.wrap .i64 (c - 1) ∧ IntKind.wrap .i64 (c - 1) < (N : Int) ∧
 ∃ Q : Int,w.cell? ((P.add ((IntKind.wrap .i64 (c - 1)).toNat * 8)).add 0) = some (.int .i64 Q) ∧
 ∃ S : Int,w.cell? ((P.add ((IntKind.wrap .i64 (c - 1)).toNat * 8)).add 1) = some (.int .i64 S) ∧
 ∃ T : Int,w.cell? ((P.add ((IntKind.wrap .i64 (c - 1)).toNat * 8)).add 2) = some (.int .i64 T) ∧
 ∃ U : Bool,w.cell? ((P.add ((IntKind.wrap .i64 (c - 1)).toNat * 8)).add 3) = some (.bool U) ∧
 ∃ W : Int,w.cell? ((P.add ((IntKind.wrap .i64 (c - 1)).toNat * 8)).add 4) = some (.int .u64 W) ∧
 ∃ (X : Option Addr) (Y Z : Nat),w.cell? ((P.add ((IntKind.wrap .i64 (c - 1)).toNat * 8)).add 5) = some (.slice X Y Z) ∧
 ∃ (a0 : Option Addr) (a1 a2 : Nat),w.cell? ((P.add ((IntKind.wrap .i64 (c - 1)).toNat * 8)).add 6) = some (.slice a0 a1 a2) ∧
 ∃ (a3 : Option Addr) (a4 a5 : Nat),w.cell? ((P.add ((IntKind.wrap .i64 (c - 1)).toNat * 8)).add 7) = some (.slice a3 a4 a5) ∧
 CallK Tryz.prog 130 [.agg ⟨[.int .i64 Q,.int .i64 S,.int .i64 T,.bool U,.int .u64 W,.slice X Y Z,.slice a0 a1 a2,.slice a3 a4 a5]⟩] B w [f] fun v z => 
 ∃ (a6 a7 a8 : Int) (a9 : Bool) (c0 : Int) (c1 : Option Addr) (c2 c3 : Nat) (c4 : Option Addr) (c5 c6 : Nat) (c7 : Option Addr) (c8 c9 : Nat),v = .agg ⟨[.int .i64 a6,.int .i64 a7,.int .i64 a8,.bool a9,.int .u64 c0,.slice c1 c2 c3,.slice c4 c5 c6,.slice c7 c8 c9]⟩ ∧
 ∀ q6 : Nat,z.heap.size ≤ q6 →
 Expo B z [q6,f] fun A => 
 Hide [q6,f] (A.alloc (.cells ⟨[.int .u64 m]⟩ 55)) fun d1 => 
 RunK Tryz.prog (Builtin.append_ #[31,31] 31 ⟨[.slice c7 c8 c9,.slice (some ⟨A.heap.size,0,none⟩) 1 1]⟩) B d1 [q6,f] fun d2 d3 => 
 ∃ (d4 : Option Addr) (d5 d6 : Nat),d2 = .slice d4 d5 d6 ∧
 ∃ (d7 : Option Addr) (d8 d9 : Nat),d3.cell? (a.add 6) = some (.slice d7 d8 d9) ∧
 ∃ f0 : Addr,d7 = some f0 ∧ (0 : Int) ≤ IntKind.wrap .i64 (c - 1) ∧ IntKind.wrap .i64 (c - 1) < (d8 : Int) ∧
 (∃ u,d3.cell? ((f0.add ((IntKind.wrap .i64 (c - 1)).toNat * 8)).add 0) = some u) ∧ d3.frozen? ((f0.add ((IntKind.wrap .i64 (c - 1)).toNat * 8)).add 0) = false ∧
 let f1 := d3.setCell ((f0.add ((IntKind.wrap .i64 (c - 1)).toNat * 8)).add 0) (.int .i64 a6);
 (∃ u_1,f1.cell? ((f0.add ((IntKind.wrap .i64 (c - 1)).toNat * 8)).add 1) = some u_1) ∧ f1.frozen? ((f0.add ((IntKind.wrap .i64 (c - 1)).toNat * 8)).add 1) = false ∧
 let f2 := f1.setCell ((f0.add ((IntKind.wrap .i64 (c - 1)).toNat * 8)).add 1) (.int .i64 a7);
 (∃ u_2,f2.cell? ((f0.add ((IntKind.wrap .i64 (c - 1)).toNat * 8)).add 2) = some u_2) ∧ f2.frozen? ((f0.add ((IntKind.wrap .i64 (c - 1)).toNat * 8)).add 2) = false ∧
 let f3 := f2.setCell ((f0.add ((IntKind.wrap .i64 (c - 1)).toNat * 8)).add 2) (.int .i64 a8);
 (∃ u_3,f3.cell? ((f0.add ((IntKind.wrap .i64 (c - 1)).toNat * 8)).add 3) = some u_3) ∧ f3.frozen? ((f0.add ((IntKind.wrap .i64 (c - 1)).toNat * 8)).add 3) = false ∧
 let f4 := f3.setCell ((f0.add ((IntKind.wrap .i64 (c - 1)).toNat * 8)).add 3) (.bool a9);
 (∃ u_4,f4.cell? ((f0.add ((IntKind.wrap .i64 (c - 1)).toNat * 8)).add 4) = some u_4) ∧ f4.frozen? ((f0.add ((IntKind.wrap .i64 (c - 1)).toNat * 8)).add 4) = false ∧
 let f5 := f4.setCell ((f0.add ((IntKind.wrap .i64 (c - 1)).toNat * 8)).add 4) (.int .u64 c0);
 (∃ u_5,f5.cell? ((f0.add ((IntKind.wrap .i64 (c - 1)).toNat * 8)).add 5) = some u_5) ∧ f5.frozen? ((f0.add ((IntKind.wrap .i64 (c - 1)).toNat * 8)).add 5) = false ∧
 let f6 := f5.setCell ((f0.add ((IntKind.wrap .i64 (c - 1)).toNat * 8)).add 5) (.slice c1 c2 c3);
 (∃ u_6,f6.cell? ((f0.add ((IntKind.wrap .i64 (c - 1)).toNat * 8)).add 6) = some u_6) ∧ f6.frozen? ((f0.add ((IntKind.wrap .i64 (c - 1)).toNat * 8)).add 6) = false ∧
 let f7 := f6.setCell ((f0.add ((IntKind.wrap .i64 (c - 1)).toNat * 8)).add 6) (.slice c4 c5 c6);
 (∃ u_7,f7.cell? ((f0.add ((IntKind.wrap .i64 (c - 1)).toNat * 8)).add 7) = some u_7) ∧ f7.frozen? ((f0.add ((IntKind.wrap .i64 (c - 1)).toNat * 8)).add 7) = false ∧
 let f8 := f7.setCell ((f0.add ((IntKind.wrap .i64 (c - 1)).toNat * 8)).add 7) (.slice d4 d5 d6);
 Ret B f8 (R (.tuple ⟨[]⟩)))
 else (Ret B w (R (.tuple ⟨[]⟩))))))
def V89.vc (B : Nat) (R : Value → World → Prop) (c : Addr) (w : World) : Prop :=
 ∃ (d : Option Addr) (f g : Nat),w.cell? (c.add 6) = some (.slice d f g) ∧
 ∃ (i : Option Addr) (j l : Nat),w.cell? (c.add 6) = some (.slice i j l) ∧
 ∃ m : Addr,i = some m ∧ (0 : Int) ≤ IntKind.wrap .i64 ((f : Int) - 1) ∧ IntKind.wrap .i64 ((f : Int) - 1) < (j : Int) ∧
 ∃ n : Int,w.cell? ((m.add ((IntKind.wrap .i64 ((f : Int) - 1)).toNat * 8)).add 0) = some (.int .i64 n) ∧
 ∃ o : Int,w.cell? ((m.add ((IntKind.wrap .i64 ((f : Int) - 1)).toNat * 8)).add 1) = some (.int .i64 o) ∧
 ∃ p : Int,w.cell? ((m.add ((IntKind.wrap .i64 ((f : Int) - 1)).toNat * 8)).add 2) = some (.int .i64 p) ∧
 ∃ q : Bool,w.cell? ((m.add ((IntKind.wrap .i64 ((f : Int) - 1)).toNat * 8)).add 3) = some (.bool q) ∧
 ∃ r : Int,w.cell? ((m.add ((IntKind.wrap .i64 ((f : Int) - 1)).toNat * 8)).add 4) = some (.int .u64 r) ∧
 ∃ (s : Option Addr) (t x : Nat),w.cell? ((m.add ((IntKind.wrap .i64 ((f : Int) - 1)).toNat * 8)).add 5) = some (.slice s t x) ∧
 ∃ (y : Option Addr) (z A : Nat),w.cell? ((m.add ((IntKind.wrap .i64 ((f : Int) - 1)).toNat * 8)).add 6) = some (.slice y z A) ∧
 ∃ (C : Option Addr) (D E : Nat),w.cell? ((m.add ((IntKind.wrap .i64 ((f : Int) - 1)).toNat * 8)).add 7) = some (.slice C D E) ∧
 CallK Tryz.prog 130 [.agg ⟨[.int .i64 n,.int .i64 o,.int .i64 p,.bool q,.int .u64 r,.slice s t x,.slice y z A,.slice C D E]⟩] B w [] fun v F => 
 ∃ (G I J : Int) (L : Bool) (M : Int) (N : Option Addr) (O P : Nat) (Q : Option Addr) (S T : Nat) (U : Option Addr) (W X : Nat),v = .agg ⟨[.int .i64 G,.int .i64 I,.int .i64 J,.bool L,.int .u64 M,.slice N O P,.slice Q S T,.slice U W X]⟩ ∧
 ∀ Y : Nat,F.heap.size ≤ Y →
 if (decide ((O : Int) > 0)) = true
 then (∃ Z : Addr,N = some Z ∧ (0 : Int) ≤ IntKind.wrap .i64 ((O : Int) - 1) ∧ IntKind.wrap .i64 ((O : Int) - 1) < (O : Int) ∧
 ∃ a0 : Int,F.cell? ((Z.add ((IntKind.wrap .i64 ((O : Int) - 1)).toNat * 2)).add 0) = some (.int .i64 a0) ∧
 ∃ (a1 : Option Addr) (a2 a3 : Nat),F.cell? ((Z.add ((IntKind.wrap .i64 ((O : Int) - 1)).toNat * 2)).add 1) = some (.slice a1 a2 a3) ∧
 ∀ q5 : Nat,F.heap.size ≤ q5 → (0 : Int) ≤ IntKind.wrap .i64 ((O : Int) - 1) ∧ IntKind.wrap .i64 ((O : Int) - 1) ≤ (P : Int) ∧
 (∃ (a5 : Option Addr) (a6 a7 : Nat),F.cell? (c.add 6) = some (.slice a5 a6 a7) ∧ (0 : Int) ≤ IntKind.wrap .i64 ((f : Int) - 1) ∧ IntKind.wrap .i64 ((f : Int) - 1) ≤ (a7 : Int) ∧
 Expo B F [q5,Y] fun a8 => 
 Hide [q5,Y] (a8.alloc (.cells ⟨[]⟩ 99)) fun a9 => 
 a9.cell? (c.add 6) = some (.slice a5 a6 a7) ∧
 RunK Tryz.prog (Builtin.append_ #[40,40] 40 ⟨[.slice (some ⟨a8.heap.size,0,none⟩) 0 0,.slice (if a7 = 0 then a5 else Option.map (fun a => a.add (0 * 8)) a5) (((IntKind.wrap .i64 ((f : Int) - 1)).toNat) - 0) (a7 - 0)]⟩) B a9 [q5,Y] fun c0 c1 => 
 ∃ (c2 : Option Addr) (c3 c4 : Nat),c0 = .slice c2 c3 c4 ∧
 Expo B c1 [q5,Y] fun c5 => 
 Hide [q5,Y] (c5.alloc (.cells ⟨[.int .i64 G,.int .i64 I,.int .i64 J,.bool L,.int .u64 M,.slice (if P = 0 then N else Option.map (fun a => a.add (0 * 2)) N) (((IntKind.wrap .i64 ((O : Int) - 1)).toNat) - 0) (P - 0),.slice Q S T,.slice U W X]⟩ 99)) fun c6 => 
 RunK Tryz.prog (Builtin.append_ #[40,40] 40 ⟨[.slice c2 c3 c4,.slice (some ⟨c5.heap.size,0,none⟩) 1 1]⟩) B c6 [q5,Y] fun c7 c8 => 
 ∃ (c9 : Option Addr) (d0 d1 : Nat),c7 = .slice c9 d0 d1 ∧
 (∃ u,c8.cell? ((c.add 6).add 0) = some u) ∧ c8.frozen? ((c.add 6).add 0) = false ∧
 let d2 := c8.setCell ((c.add 6).add 0) (.slice c9 d0 d1);
 CallK Tryz.prog 87 [.pointer (some c),.int .i64 a0,.slice a1 a2 a3,.bool true] B d2 [q5,Y] fun d3 d4 => 
 d3 = .tuple ⟨[]⟩ ∧
 Ret B d4 (R (.tuple ⟨[]⟩))) ∧
 (∃ (a5 : Option Addr) (a6 a7 : Nat),F.cell? (c.add 6) = some (.slice a5 a6 a7) ∧ (0 : Int) ≤ IntKind.wrap .i64 ((f : Int) - 1) ∧ IntKind.wrap .i64 ((f : Int) - 1) ≤ (a7 : Int) ∧
 Expo B F [q5,Y] fun a8 => 
 Hide [q5,Y] (a8.alloc (.cells ⟨[]⟩ 99)) fun a9 => 
 a9.cell? (c.add 6) = some (.slice a5 a6 a7) ∧
 Expo B a9 [q5,Y] fun c1 => 
 Hide [q5,Y] (c1.alloc (.cells ⟨[.int .i64 G,.int .i64 I,.int .i64 J,.bool L,.int .u64 M,.slice (if P = 0 then N else Option.map (fun a => a.add (0 * 2)) N) (((IntKind.wrap .i64 ((O : Int) - 1)).toNat) - 0) (P - 0),.slice Q S T,.slice U W X]⟩ 99)) fun c5 => 
 c5.cell? (c.add 6) = some (.slice a5 a6 a7) ∧
 RunK Tryz.prog (Builtin.append_ #[40,40] 40 ⟨[.slice (some ⟨a8.heap.size,0,none⟩) 0 0,.slice (if a7 = 0 then a5 else Option.map (fun a => a.add (0 * 8)) a5) (((IntKind.wrap .i64 ((f : Int) - 1)).toNat) - 0) (a7 - 0)]⟩) B c5 [q5,Y] fun c0 c6 => 
 ∃ (c2 : Option Addr) (c3 c4 : Nat),c0 = .slice c2 c3 c4 ∧
 RunK Tryz.prog (Builtin.append_ #[40,40] 40 ⟨[.slice c2 c3 c4,.slice (some ⟨c1.heap.size,0,none⟩) 1 1]⟩) B c6 [q5,Y] fun c7 c8 => 
 ∃ (c9 : Option Addr) (d0 d1 : Nat),c7 = .slice c9 d0 d1 ∧
 (∃ u,c8.cell? ((c.add 6).add 0) = some u) ∧ c8.frozen? ((c.add 6).add 0) = false ∧
 let d2 := c8.setCell ((c.add 6).add 0) (.slice c9 d0 d1);
 CallK Tryz.prog 87 [.pointer (some c),.int .i64 a0,.slice a1 a2 a3,.bool true] B d2 [q5,Y] fun d3 d4 => 
 d3 = .tuple ⟨[]⟩ ∧
 Ret B d4 (R (.tuple ⟨[]⟩))) ∧
 (∃ (a5 : Option Addr) (a6 a7 : Nat),F.cell? (c.add 6) = some (.slice a5 a6 a7) ∧ (0 : Int) ≤ IntKind.wrap .i64 ((f : Int) - 1) ∧ IntKind.wrap .i64 ((f : Int) - 1) ≤ (a7 : Int) ∧
 Expo B F [q5,Y] fun a8 => 
 Hide [q5,Y] (a8.alloc (.cells ⟨[.int .i64 G,.int .i64 I,.int .i64 J,.bool L,.int .u64 M,.slice (if P = 0 then N else Option.map (fun a => a.add (0 * 2)) N) (((IntKind.wrap .i64 ((O : Int) - 1)).toNat) - 0) (P - 0),.slice Q S T,.slice U W X]⟩ 99)) fun a9 => 
 a9.cell? (c.add 6) = some (.slice a5 a6 a7) ∧
 Expo B a9 [q5,Y] fun c1 => 
 Hide [q5,Y] (c1.alloc (.cells ⟨[]⟩ 99)) fun c5 => 
 c5.cell? (c.add 6) = some (.slice a5 a6 a7) ∧
 RunK Tryz.prog (Builtin.append_ #[40,40] 40 ⟨[.slice (some ⟨c1.heap.size,0,none⟩) 0 0,.slice (if a7 = 0 then a5 else Option.map (fun a => a.add (0 * 8)) a5) (((IntKind.wrap .i64 ((f : Int) - 1)).toNat) - 0) (a7 - 0)]⟩) B c5 [q5,Y] fun c0 c6 => 
 ∃ (c2 : Option Addr) (c3 c4 : Nat),c0 = .slice c2 c3 c4 ∧
 RunK Tryz.prog (Builtin.append_ #[40,40] 40 ⟨[.slice c2 c3 c4,.slice (some ⟨a8.heap.size,0,none⟩) 1 1]⟩) B c6 [q5,Y] fun c7 c8 => 
 ∃ (c9 : Option Addr) (d0 d1 : Nat),c7 = .slice c9 d0 d1 ∧
 (∃ u,c8.cell? ((c.add 6).add 0) = some u) ∧ c8.frozen? ((c.add 6).add 0) = false ∧
 let d2 := c8.setCell ((c.add 6).add 0) (.slice c9 d0 d1);
 CallK Tryz.prog 87 [.pointer (some c),.int .i64 a0,.slice a1 a2 a3,.bool true] B d2 [q5,Y] fun d3 d4 => 
 d3 = .tuple ⟨[]⟩ ∧
 Ret B d4 (R (.tuple ⟨[]⟩))))
 else (Expo B F [Y] fun a8 => 
 Hide [Y] (a8.alloc (.cells ⟨[]⟩ 99)) fun a9 => 
 ∃ (d5 : Option Addr) (d6 d7 : Nat),a9.cell? (c.add 6) = some (.slice d5 d6 d7) ∧ (0 : Int) ≤ IntKind.wrap .i64 ((f : Int) - 1) ∧ IntKind.wrap .i64 ((f : Int) - 1) ≤ (d7 : Int) ∧
 RunK Tryz.prog (Builtin.append_ #[40,40] 40 ⟨[.slice (some ⟨a8.heap.size,0,none⟩) 0 0,.slice (if d7 = 0 then d5 else Option.map (fun a => a.add (0 * 8)) d5) (((IntKind.wrap .i64 ((f : Int) - 1)).toNat) - 0) (d7 - 0)]⟩) B a9 [Y] fun c0 c1 => 
 ∃ (d8 : Option Addr) (d9 f0 : Nat),c0 = .slice d8 d9 f0 ∧
 (∃ u,c1.cell? ((c.add 6).add 0) = some u) ∧ c1.frozen? ((c.add 6).add 0) = false ∧
 let c5 := c1.setCell ((c.add 6).add 0) (.slice d8 d9 f0);
 if (IntKind.wrap .i64 ((f : Int) - 1) == 0) = true
 then (V89.b0 B R c (IntKind.wrap .i64 ((f : Int) - 1)) (J == 1) Y G I J L M N O P Q S T U W X c5)
 else (V89.b0 B R c (IntKind.wrap .i64 ((f : Int) - 1)) false Y G I J L M N O P Q S T U W X c5))
noncomputable def V89.cfg (B : Nat) : Cfg := ⟨Tryz.prog,⟨144,B⟩,[],hasN [87,130,136],hasN [],look []⟩
noncomputable def V89.code : Code := (Tryz.f89.body).getD .skip
noncomputable def V89.cuts (B : Nat) (R : Value → World → Prop) : Nat → Cut := nthC [⟨[(0,.one (.ptr)),(2,.one (.int .i64)),(69,.one (.bool))],[(3,99,[.int .i64,.int .i64,.int .i64,.bool,.int .u64,.slice,.slice,.slice])],fun fs vs bs w => V89.b0 B R (pV (nthV vs 0)) (iV (nthV vs 1)) (bV (nthV vs 2)) (nthB bs 0).blk (iV (nthV (nthB bs 0).cells 0)) (iV (nthV (nthB bs 0).cells 1)) (iV (nthV (nthB bs 0).cells 2)) (bV (nthV (nthB bs 0).cells 3)) (iV (nthV (nthB bs 0).cells 4)) (slA (nthV (nthB bs 0).cells 5)) (slL (nthV (nthB bs 0).cells 5)) (slC (nthV (nthB bs 0).cells 5)) (slA (nthV (nthB bs 0).cells 6)) (slL (nthV (nthB bs 0).cells 6)) (slC (nthV (nthB bs 0).cells 6)) (slA (nthV (nthB bs 0).cells 7)) (slL (nthV (nthB bs 0).cells 7)) (slC (nthV (nthB bs 0).cells 7)) w⟩]
noncomputable def V89.h : H := .s (.z) (.s (.z) (.s (.s (.z) (.s (.z) (.c (.s (.z) (.s (.z) (.s (.r [[0,2,3,4,5,6,7,9,1,8,10,11,12,13,14],[0,2,3,4,5,6,7,9,1,10,8,11,12,13,14],[0,2,3,4,5,6,7,9,10,1,8,11,12,13,14]]) (.s (.z) (.z))))) (.z)))) (.s (.z) (.b (.cut 0 (.z) (.c (.s (.z) (.z)) (.s (.z) (.c (.s (.z) (.z)) (.s (.z) (.c (.s (.z) (.r [[0,1,2,3,4,5,6,7,8,9,10]])) (.s (.z) (.c (.s (.z) (.s (.z) (.r [[0,1,2,3,4,5,6,7,8]]))) (.z)))))))))))))
theorem V89.vc_eq (B : Nat) (R : Value → World → Prop) (a : Addr) (w : World) : wpf (V89.cfg B) (V89.cuts B R) V89.code V89.h [] (postOf Tryz.prog B (Tryz.f89.results.toList) R) (argE 0 [.pointer (some a)]) [] w = V89.vc B R a w := by kernel_rfl
theorem V89.obl (B : Nat) (R : Value → World → Prop) : oblP (V89.cfg B) (V89.cuts B R) V89.code V89.h [] (postOf Tryz.prog B (Tryz.f89.results.toList) R) := by
 have e : oblP (V89.cfg B) (V89.cuts B R) V89.code V89.h [] (postOf Tryz.prog B (Tryz.f89.results.toList) R) = (True ∧ (True ∧ ((True ∧ (True ∧ ((True ∧ (True ∧ ((true = true) ∧ (True ∧ True)))) ∧ True))) ∧ (True ∧ (True ∧ (∀ (a : Addr) (c : Int) (d : Bool) (f : Nat) (g i j : Int) (l : Bool) (m : Int) (n : Option Addr) (o p : Nat) (q : Option Addr) (r s : Nat) (t : Option Addr) (u x : Nat) (w : World),V89.b0 B R a c d f g i j l m n o p q r s t u x w → V89.b0 B R a c d f g i j l m n o p q r s t u x w) ∧ ((True ∧ True) ∧ (True ∧ ((True ∧ True) ∧ (True ∧ ((True ∧ (true = true)) ∧ (True ∧ ((True ∧ (True ∧ (true = true))) ∧ True)))))))))))) := by kernel_rfl
 exact e.mpr (⟨trivial,⟨trivial,⟨⟨trivial,⟨trivial,⟨⟨trivial,⟨trivial,⟨rfl,⟨trivial,trivial⟩⟩⟩⟩,trivial⟩⟩⟩,⟨trivial,⟨trivial,fun a c d f g i j l m n o p q r s t u x w h => h,⟨⟨trivial,trivial⟩,⟨trivial,⟨⟨trivial,trivial⟩,⟨trivial,⟨⟨trivial,rfl⟩,⟨trivial,⟨⟨trivial,⟨trivial,rfl⟩⟩,trivial⟩⟩⟩⟩⟩⟩⟩⟩⟩⟩⟩⟩)
theorem V89.cfgOk (B : Nat) : CfgOk (V89.cfg B) := cfgOk_of (by kernel_rfl) (by kernel_rfl) extNil
theorem V89.sound {a : Addr} {w : World} {R : Value → World → Prop} (h : V89.vc w.heap.size R a w) : Calls Tryz.prog 89 ⟨[.pointer (some a)]⟩ w fun e w' => ∃ v,e = .returned v ∧ R v w' :=
 calls_wpfP (c := V89.cfg w.heap.size) (fn := Tryz.f89) (x := V89.code) (V89.cuts w.heap.size R) V89.h (V89.cfgOk _) mixed Tryz.func89 (by kernel_rfl) (by kernel_rfl) (by kernel_rfl) rfl (V89.obl _ _) ((V89.vc_eq _ _ a _).symm ▸ h)
def V132.vc (B : Nat) (R : Value → World → Prop) (a : Int) (w : World) : Prop :=
 Expo B w [] fun c => 
 let d := c.alloc (.cells ⟨[.int .u64 9221120237041090560,.int .u64 9218868437227405312,.int .u64 18442240474082181120,.int .u64 9223372036854775808,.int .u64 9218868437227405311,.int .u64 1]⟩ 55);
 if (decide (a < 0)) = false
 then (if (decide (a ≥ ((6 : Nat) : Int))) = true
 then (Ret B d (R (.int .u64 0)))
 else (∃ f : Addr,(some ⟨c.heap.size,0,none⟩) = some f ∧ (0 : Int) ≤ a ∧ a < ((6 : Nat) : Int) ∧
 ∃ g : Int,d.cell? (f.add a.toNat) = some (.int .u64 g) ∧
 Ret B d (R (.int .u64 g))))
 else (Ret B d (R (.int .u64 0)))
noncomputable def V132.cfg (B : Nat) : Cfg := ⟨Tryz.prog,⟨17,B⟩,[],hasN [],hasN [],look []⟩
noncomputable def V132.code : Code := (Tryz.f132.body).getD .skip
noncomputable def V132.cuts (B : Nat) (R : Value → World → Prop) : Nat → Cut := nthC []
noncomputable def V132.h : H := .s (.z) (.s (.z) (.s (.s (.z) (.c (.s (.z) (.z)) (.z))) (.s (.z) (.z))))
theorem V132.vc_eq (B : Nat) (R : Value → World → Prop) (a : Int) (w : World) : wpf (V132.cfg B) (V132.cuts B R) V132.code V132.h [] (postOf Tryz.prog B (Tryz.f132.results.toList) R) (argE 0 [.int .i64 a]) [] w = V132.vc B R a w := by kernel_rfl
theorem V132.obl (B : Nat) (R : Value → World → Prop) : oblP (V132.cfg B) (V132.cuts B R) V132.code V132.h [] (postOf Tryz.prog B (Tryz.f132.results.toList) R) := by
 have e : oblP (V132.cfg B) (V132.cuts B R) V132.code V132.h [] (postOf Tryz.prog B (Tryz.f132.results.toList) R) = (True ∧ (True ∧ ((True ∧ ((True ∧ True) ∧ True)) ∧ (True ∧ True)))) := by kernel_rfl
 exact e.mpr (⟨trivial,⟨trivial,⟨⟨trivial,⟨⟨trivial,trivial⟩,trivial⟩⟩,⟨trivial,trivial⟩⟩⟩⟩)
theorem V132.cfgOk (B : Nat) : CfgOk (V132.cfg B) := cfgOk_of (by kernel_rfl) (by kernel_rfl) extNil
theorem V132.sound {a : Int} {w : World} {R : Value → World → Prop} (h : V132.vc w.heap.size R a w) : Calls Tryz.prog 132 ⟨[.int .i64 a]⟩ w fun e w' => ∃ v,e = .returned v ∧ R v w' :=
 calls_wpfP (c := V132.cfg w.heap.size) (fn := Tryz.f132) (x := V132.code) (V132.cuts w.heap.size R) V132.h (V132.cfgOk _) mixed Tryz.func132 (by kernel_rfl) (by kernel_rfl) (by kernel_rfl) rfl (V132.obl _ _) ((V132.vc_eq _ _ a _).symm ▸ h)
def V10.vc (B : Nat) (R : Value → World → Prop) (a : Option Addr) (c d : Nat) (w : World) : Prop :=
 ∀ f : Nat,w.heap.size ≤ f →
 CallK Tryz.prog 36 [.agg ⟨[.slice a c d]⟩] B w [f] fun v g => 
 ∃ i j l : Int,v = .tuple ⟨[.int .i64 i,.int .i64 j,.int .i64 l]⟩ ∧
 Ret B g (R (.bool (i == 0)))
noncomputable def V10.cfg (B : Nat) : Cfg := ⟨Tryz.prog,⟨14,B⟩,[],hasN [36],hasN [],look []⟩
noncomputable def V10.code : Code := (Tryz.f10.body).getD .skip
noncomputable def V10.cuts (B : Nat) (R : Value → World → Prop) : Nat → Cut := nthC []
noncomputable def V10.h : H := .s (.z) (.s (.z) (.s (.z) (.z)))
theorem V10.vc_eq (B : Nat) (R : Value → World → Prop) (a : Option Addr) (c d : Nat) (w : World) : wpf (V10.cfg B) (V10.cuts B R) V10.code V10.h [] (postOf Tryz.prog B (Tryz.f10.results.toList) R) (argE 0 [.agg ⟨[.slice a c d]⟩]) [] w = V10.vc B R a c d w := by kernel_rfl
theorem V10.obl (B : Nat) (R : Value → World → Prop) : oblP (V10.cfg B) (V10.cuts B R) V10.code V10.h [] (postOf Tryz.prog B (Tryz.f10.results.toList) R) := by
 have e : oblP (V10.cfg B) (V10.cuts B R) V10.code V10.h [] (postOf Tryz.prog B (Tryz.f10.results.toList) R) = (True ∧ (True ∧ (True ∧ True))) := by kernel_rfl
 exact e.mpr (⟨trivial,⟨trivial,⟨trivial,trivial⟩⟩⟩)
theorem V10.cfgOk (B : Nat) : CfgOk (V10.cfg B) := cfgOk_of (by kernel_rfl) (by kernel_rfl) extNil
theorem V10.sound {a : Option Addr} {d f : Nat} {w : World} {R : Value → World → Prop} (h : V10.vc w.heap.size R a d f w) : Calls Tryz.prog 10 ⟨[.agg ⟨[.slice a d f]⟩]⟩ w fun e w' => ∃ v,e = .returned v ∧ R v w' :=
 calls_wpfP (c := V10.cfg w.heap.size) (fn := Tryz.f10) (x := V10.code) (V10.cuts w.heap.size R) V10.h (V10.cfgOk _) mixed Tryz.func10 (by kernel_rfl) (by kernel_rfl) (by kernel_rfl) rfl (V10.obl _ _) ((V10.vc_eq _ _ a d f _).symm ▸ h)
end Go.Proofs.YtidcpndlloppdaaGreat
