import Derived.Test.YtidcpndlloppdaaGreatDoorZVA
/-
  What the engine makes of the loaded functions 14, 25, 26, 43, 44, 45, 74, 75: conditions under which a call returns as told, and proofs of that.
  Conditions: none. Printed by a program of this project.
-/
set_option linter.unusedVariables false
set_option maxRecDepth 100000
namespace Go.Proofs.YtidcpndlloppdaaGreatDoor
def V14.b1 (B : Nat) (R : Value → World → Prop) (a : Addr → Int → Int → Nat → Option Addr → Nat → Nat → World → Prop) (c : Addr) (d f : Int) (g : Nat) (i j l : Int) (m : Option Addr) (n o p : Nat) (q : Option Addr) (r s : Nat) (w : World) : Prop :=
  CallK Tryz.prog 25 [.pointer (some c)] B w [g, p] fun v t => 
  ∃ x : Int, v = .int .i64 x ∧ (5 : Int) ≠ 0 ∧ (5 : Int) ≠ 0 ∧ (5 : Int) ≠ 0 ∧ (4 : Int) ≠ 0 ∧
  ∃ (y : Option Addr) (z A : Nat), t.cell? ((c.add 1).add 0) = some (.slice y z A) ∧
  Expo B t [g, p] fun C => 
  Hide [g, p] (C.alloc (.cells ⟨[.int .i64 i, .int .i64 (IntKind.wrap .i64 (i + Int.tmod x 5)), .int .i64 (if Int.tmod (IntKind.wrap .i64 (Int.tdiv x 5)) 4 < Int.tmod x 5 then Int.tmod (IntKind.wrap .i64 (Int.tdiv x 5)) 4 else Int.tmod x 5), .slice m n o]⟩ 63)) fun D => 
  D.cell? ((c.add 1).add 0) = some (.slice y z A) ∧
  RunK Tryz.prog (Builtin.append_ #[22, 22] 22 ⟨[.slice y z A, .slice (some ⟨C.heap.size, 0, none⟩) 1 1]⟩) B D [g, p] fun E F => 
  ∃ (G : Option Addr) (I J : Nat), E = .slice G I J ∧
  (∃ u, F.cell? (((c.add 1).add 0).add 0) = some u) ∧ F.frozen? (((c.add 1).add 0).add 0) = false ∧
  let L := F.setCell (((c.add 1).add 0).add 0) (.slice G I J);
  a c d (IntKind.wrap .i64 (f + 1)) p q r s L
def V14.l2 (B : Nat) (R : Value → World → Prop) : Nat → Addr → Int → Int → Nat → Option Addr → Nat → Nat → World → Prop
  | 0 => fun _ _ _ _ _ _ _ _ => False
  | k + 1 => fun a c d f g i j w =>
    if (decide (d < c)) = true
    then ((∃ u, w.cell? ((a.add 2).add 0) = some u) ∧ w.frozen? ((a.add 2).add 0) = false ∧
    let l := w.setCell ((a.add 2).add 0) (.int .i64 d);
    CallK Tryz.prog 26 [.pointer (some a)] B l [f] fun v m => 
     v = .tuple ⟨[]⟩ ∧ (V14.l2 B R k) a c (IntKind.wrap .i64 (d + 1)) f g i j m)
    else (∃ (n : Option Addr) (o p : Nat), w.cell? ((a.add 1).add 0) = some (.slice n o p) ∧
    Ret B w (R (.agg ⟨[.slice n o p]⟩)))
def V14.l0 (B : Nat) (R : Value → World → Prop) : Nat → Addr → Int → Int → Nat → Option Addr → Nat → Nat → World → Prop
  | 0 => fun _ _ _ _ _ _ _ _ => False
  | k + 1 => fun a c d f g i j w =>
    if (decide (d < c)) = true
    then (∀ l : Nat, w.heap.size ≤ l →
    if (decide (d > 0)) = true
     then (CallK Tryz.prog 25 [.pointer (some a)] B w [l, f] fun v m => 
      ∃ n : Int, v = .int .i64 n ∧ (4 : Int) ≠ 0 ∧
      V14.b1 B R (V14.l0 B R k) a c d l (Int.tmod n 4) 0 0 none 0 0 f g i j m)
     else (V14.b1 B R (V14.l0 B R k) a c d l 0 0 0 none 0 0 f g i j w))
    else (∃ o, V14.l2 B R o a c 0 f g i j w)
def V14.vc (B : Nat) (R : Value → World → Prop) (a : Option Addr) (c d : Nat) (w : World) : Prop :=
  ∀ f : Nat, w.heap.size ≤ f →
  Expo B w [f] fun g => 
  Hide [f] (g.alloc (.cells ⟨[.slice a c d, .slice none 0 0, .int .i64 0, .slice none 0 0, .int .i64 0]⟩ 59)) fun i => 
  CallK Tryz.prog 25 [.pointer (some (⟨g.heap.size, 0, none⟩ : Addr))] B i [f] fun v j => 
  ∃ l : Int, v = .int .i64 l ∧ (5 : Int) ≠ 0 ∧
  ∃ m, V14.l0 B R m (⟨g.heap.size, 0, none⟩ : Addr) (IntKind.wrap .i64 (1 + Int.tmod l 5)) 0 f none 0 0 j
noncomputable def V14.cfg (B : Nat) : Cfg := ⟨Tryz.prog, ⟨70, B⟩, [11], hasN [25, 26], hasN [], look []⟩
noncomputable def V14.code : Code := (Tryz.f14.body).getD .skip
noncomputable def V14.cuts (B : Nat) (R : Value → World → Prop) : Nat → Cut := nthC [⟨[(3, .one (.ptr)), (4, .one (.int .i64)), (5, .one (.int .i64))], [(2, 24, [.slice])], fun fs vs bs w => V14.l0 B R (nthN fs 0) (pV (nthV vs 0)) (iV (nthV vs 1)) (iV (nthV vs 2)) (nthB bs 0).blk (slA (nthV (nthB bs 0).cells 0)) (slL (nthV (nthB bs 0).cells 0)) (slC (nthV (nthB bs 0).cells 0)) w⟩,
  ⟨[(3, .one (.ptr)), (4, .one (.int .i64)), (5, .one (.int .i64))], [(6, 63, [.int .i64, .int .i64, .int .i64, .slice]), (2, 24, [.slice])], fun fs vs bs w => V14.b1 B R (V14.l0 B R (nthN fs 0)) (pV (nthV vs 0)) (iV (nthV vs 1)) (iV (nthV vs 2)) (nthB bs 0).blk (iV (nthV (nthB bs 0).cells 0)) (iV (nthV (nthB bs 0).cells 1)) (iV (nthV (nthB bs 0).cells 2)) (slA (nthV (nthB bs 0).cells 3)) (slL (nthV (nthB bs 0).cells 3)) (slC (nthV (nthB bs 0).cells 3)) (nthB bs 1).blk (slA (nthV (nthB bs 1).cells 0)) (slL (nthV (nthB bs 1).cells 0)) (slC (nthV (nthB bs 1).cells 0)) w⟩,
  ⟨[(3, .one (.ptr)), (4, .one (.int .i64)), (8, .one (.int .i64))], [(2, 24, [.slice])], fun fs vs bs w => V14.l2 B R (nthN fs 0) (pV (nthV vs 0)) (iV (nthV vs 1)) (iV (nthV vs 2)) (nthB bs 0).blk (slA (nthV (nthB bs 0).cells 0)) (slL (nthV (nthB bs 0).cells 0)) (slC (nthV (nthB bs 0).cells 0)) w⟩]
noncomputable def V14.h : H := .s (.z) (.s (.z) (.s (.z) (.s (.s (.z) (.b (.l 0 (.s (.s (.z) (.c (.z) (.z))) (.s (.b (.s (.z) (.cut 1 (.s (.z) (.c (.z) (.z))) (.s (.z) (.s (.z) (.s (.z) (.r [[0, 1, 2, 3, 4, 5, 6, 7, 8, 9, 10, 11, 12]]))))))) (.z)))))) (.s (.s (.z) (.b (.l 2 (.s (.s (.z) (.c (.z) (.z))) (.s (.b (.s (.z) (.z))) (.z)))))) (.s (.z) (.z))))))
theorem V14.vc_eq (B : Nat) (R : Value → World → Prop) (a : Option Addr) (c d : Nat) (w : World) : wpf (V14.cfg B) (V14.cuts B R) V14.code V14.h [] (postOf Tryz.prog B (Tryz.f14.results.toList) R) (argE 0 [.slice a c d]) [] w = V14.vc B R a c d w := by kernel_rfl
theorem V14.obl (B : Nat) (R : Value → World → Prop) : oblP (V14.cfg B) (V14.cuts B R) V14.code V14.h [] (postOf Tryz.prog B (Tryz.f14.results.toList) R) := by
  have e : oblP (V14.cfg B) (V14.cuts B R) V14.code V14.h [] (postOf Tryz.prog B (Tryz.f14.results.toList) R) = (True ∧ (True ∧ (True ∧ ((True ∧ ((∀ (a : Addr) (c d : Int) (f : Nat) (g : Option Addr) (i j : Nat) (w : World), ¬ V14.l0 B R 0 a c d f g i j w) ∧ (∀ l, ∀ (a : Addr) (c d : Int) (f : Nat) (g : Option Addr) (i j : Nat) (w : World), V14.l0 B R (l + 1) a c d f g i j w → V14.l0 B R (l + 1) a c d f g i j w) ∧ ∀ l : Nat, ((True ∧ (True ∧ True)) ∧ ((True ∧ ((True ∧ (True ∧ True)) ∧ (∀ (a : Addr) (c d : Int) (m : Nat) (n o p : Int) (q : Option Addr) (r s f : Nat) (g : Option Addr) (i j : Nat) (w : World), V14.b1 B R (V14.l0 B R l) a c d m n o p q r s f g i j w → V14.b1 B R (V14.l0 B R l) a c d m n o p q r s f g i j w) ∧ (True ∧ (True ∧ (True ∧ (true = true)))))) ∧ True)))) ∧ ((True ∧ ((∀ (a : Addr) (c t : Int) (f : Nat) (g : Option Addr) (i j : Nat) (w : World), ¬ V14.l2 B R 0 a c t f g i j w) ∧ (∀ u, ∀ (a : Addr) (c t : Int) (f : Nat) (g : Option Addr) (i j : Nat) (w : World), V14.l2 B R (u + 1) a c t f g i j w → V14.l2 B R (u + 1) a c t f g i j w) ∧ ∀ u : Nat, ((True ∧ (True ∧ True)) ∧ ((True ∧ True) ∧ True)))) ∧ (True ∧ True)))))) := by kernel_rfl
  exact e.mpr (⟨trivial, ⟨trivial, ⟨trivial, ⟨⟨trivial, ⟨fun a c d f g i j w h => h, fun _ a c d f g i j w h => h, fun l => ⟨⟨trivial, ⟨trivial, trivial⟩⟩, ⟨⟨trivial, ⟨⟨trivial, ⟨trivial, trivial⟩⟩, fun a c d m n o p q r s f g i j w h => h, ⟨trivial, ⟨trivial, ⟨trivial, rfl⟩⟩⟩⟩⟩, trivial⟩⟩⟩⟩, ⟨⟨trivial, ⟨fun a c t f g i j w h => h, fun _ a c t f g i j w h => h, fun u => ⟨⟨trivial, ⟨trivial, trivial⟩⟩, ⟨⟨trivial, trivial⟩, trivial⟩⟩⟩⟩, ⟨trivial, trivial⟩⟩⟩⟩⟩⟩)
theorem V14.cfgOk (B : Nat) : CfgOk (V14.cfg B) := cfgOk_of (by kernel_rfl) (by kernel_rfl) extNil
theorem V14.sound {a : Option Addr} {d f : Nat} {w : World} {R : Value → World → Prop} (h : V14.vc w.heap.size R a d f w) : Calls Tryz.prog 14 ⟨[.slice a d f]⟩ w fun e w' => ∃ v, e = .returned v ∧ R v w' :=
  calls_wpfP (c := V14.cfg w.heap.size) (fn := Tryz.f14) (x := V14.code) (V14.cuts w.heap.size R) V14.h (V14.cfgOk _) mixed Tryz.func14 (by kernel_rfl) (by kernel_rfl) (by kernel_rfl) rfl (V14.obl _ _) ((V14.vc_eq _ _ a d f _).symm ▸ h)
def V25.vc (B : Nat) (R : Value → World → Prop) (c : Addr) (w : World) : Prop :=
  ∃ (d : Option Addr) (f g : Nat), w.cell? (c.add 0) = some (.slice d f g) ∧
  if ((f : Int) == 0) = true
  then (Ret B w (R (.int .i64 0)))
  else (∃ (i : Option Addr) (j l : Nat), w.cell? (c.add 0) = some (.slice i j l) ∧
  ∃ m : Addr, i = some m ∧ (0 : Int) ≤ 0 ∧ (0 : Int) < (j : Int) ∧
  ∃ n : Int, w.cell? (m.add 0) = some (.int .u8 n) ∧
  ∃ (o : Option Addr) (p q : Nat), w.cell? (c.add 0) = some (.slice o p q) ∧ (0 : Int) ≤ 1 ∧ (1 : Int) ≤ (p : Int) ∧
  (∃ u, w.cell? ((c.add 0).add 0) = some u) ∧ w.frozen? ((c.add 0).add 0) = false ∧
  let r := w.setCell ((c.add 0).add 0) (.slice (if q = 1 then o else Option.map (fun a => a.add 1) o) (p - 1) (q - 1));
  Ret B r (R (.int .i64 (IntKind.wrap .i64 n))))
noncomputable def V25.cfg (B : Nat) : Cfg := ⟨Tryz.prog, ⟨26, B⟩, [], hasN [], hasN [], look []⟩
noncomputable def V25.code : Code := (Tryz.f25.body).getD .skip
noncomputable def V25.cuts (B : Nat) (R : Value → World → Prop) : Nat → Cut := nthC []
noncomputable def V25.h : H := .s (.z) (.s (.s (.z) (.c (.s (.z) (.z)) (.z))) (.s (.z) (.s (.z) (.s (.z) (.z)))))
theorem V25.vc_eq (B : Nat) (R : Value → World → Prop) (a : Addr) (w : World) : wpf (V25.cfg B) (V25.cuts B R) V25.code V25.h [] (postOf Tryz.prog B (Tryz.f25.results.toList) R) (argE 0 [.pointer (some a)]) [] w = V25.vc B R a w := by kernel_rfl
theorem V25.obl (B : Nat) (R : Value → World → Prop) : oblP (V25.cfg B) (V25.cuts B R) V25.code V25.h [] (postOf Tryz.prog B (Tryz.f25.results.toList) R) := by
  have e : oblP (V25.cfg B) (V25.cuts B R) V25.code V25.h [] (postOf Tryz.prog B (Tryz.f25.results.toList) R) = (True ∧ ((True ∧ ((True ∧ True) ∧ True)) ∧ (True ∧ (True ∧ (True ∧ True))))) := by kernel_rfl
  exact e.mpr (⟨trivial, ⟨⟨trivial, ⟨⟨trivial, trivial⟩, trivial⟩⟩, ⟨trivial, ⟨trivial, ⟨trivial, trivial⟩⟩⟩⟩⟩)
theorem V25.cfgOk (B : Nat) : CfgOk (V25.cfg B) := cfgOk_of (by kernel_rfl) (by kernel_rfl) extNil
theorem V25.sound {a : Addr} {w : World} {R : Value → World → Prop} (h : V25.vc w.heap.size R a w) : Calls Tryz.prog 25 ⟨[.pointer (some a)]⟩ w fun e w' => ∃ v, e = .returned v ∧ R v w' :=
  calls_wpfP (c := V25.cfg w.heap.size) (fn := Tryz.f25) (x := V25.code) (V25.cuts w.heap.size R) V25.h (V25.cfgOk _) mixed Tryz.func25 (by kernel_rfl) (by kernel_rfl) (by kernel_rfl) rfl (V25.obl _ _) ((V25.vc_eq _ _ a _).symm ▸ h)
def V26.b2 (B : Nat) (R : Value → World → Prop) (a : Addr) (w : World) : Prop :=
  ∃ c : Int, w.cell? (a.add 4) = some (.int .i64 c) ∧
  if (c == 0) = true
  then (CallK Tryz.prog 43 [.pointer (some a), .int .i64 1, .int .i64 7, .int .i64 0] B w [] fun v d => 
   v = .tuple ⟨[]⟩ ∧
   CallK Tryz.prog 43 [.pointer (some a), .int .i64 18, .int .i64 0, .int .i64 0] B d [] fun f g => 
   f = .tuple ⟨[]⟩ ∧
   Ret B g (R (.tuple ⟨[]⟩)))
  else (CallK Tryz.prog 43 [.pointer (some a), .int .i64 18, .int .i64 0, .int .i64 0] B w [] fun v d => 
   v = .tuple ⟨[]⟩ ∧
   Ret B d (R (.tuple ⟨[]⟩)))
def V26.l1 (B : Nat) (R : Value → World → Prop) : Nat → Addr → Int → Int → World → Prop
  | 0 => fun _ _ _ _ => False
  | k + 1 => fun a c d w =>
    if (decide (d < c)) = true
    then (CallK Tryz.prog 44 [.pointer (some a)] B w [] fun v f => 
     ∃ g : Int, v = .int .i64 g ∧
     if (decide (g < 54)) = true
     then (CallK Tryz.prog 25 [.pointer (some a)] B f [] fun i j => 
      ∃ l : Int, i = .int .i64 l ∧ (20 : Int) ≠ 0 ∧
      CallK Tryz.prog 25 [.pointer (some a)] B j [] fun m n => 
      ∃ o : Int, m = .int .i64 o ∧
      CallK Tryz.prog 45 [.pointer (some a), .int .i64 (Int.tmod l 20), .int .i64 o] B n [] fun p q => 
      ∃ r : Bool, p = .bool r ∧
      if r = true
      then ((V26.l1 B R k) a c (IntKind.wrap .i64 (d + 1)) q)
      else (∃ s : Int, q.cell? (a.add 4) = some (.int .i64 s) ∧
      if (decide (s < 8)) = true
       then ((9 : Int) ≠ 0 ∧
       CallK Tryz.prog 43 [.pointer (some a), .int .i64 1, .int .i64 (Int.tmod o 9), .int .i64 0] B q [] fun t u => 
        t = .tuple ⟨[]⟩ ∧ (V26.l1 B R k) a c (IntKind.wrap .i64 (d + 1)) u)
       else (CallK Tryz.prog 43 [.pointer (some a), .int .i64 27, .int .i64 0, .int .i64 0] B q [] fun t u => 
        t = .tuple ⟨[]⟩ ∧ (V26.l1 B R k) a c (IntKind.wrap .i64 (d + 1)) u)))
     else (V26.b2 B R a f))
    else (V26.b2 B R a w)
def V26.b0 (B : Nat) (R : Value → World → Prop) (a : Addr) (w : World) : Prop :=
  CallK Tryz.prog 25 [.pointer (some a)] B w [] fun v c => 
  ∃ d : Int, v = .int .i64 d ∧ (16 : Int) ≠ 0 ∧
  ∃ f, V26.l1 B R f a (Int.tmod d 16) 0 c
def V26.vc (B : Nat) (R : Value → World → Prop) (a : Addr) (w : World) : Prop :=
  (∃ u, w.cell? ((a.add 3).add 0) = some u) ∧ w.frozen? ((a.add 3).add 0) = false ∧
  let c := w.setCell ((a.add 3).add 0) (.slice none 0 0);
  (∃ u_1, c.cell? ((a.add 4).add 0) = some u_1) ∧ c.frozen? ((a.add 4).add 0) = false ∧
  let d := c.setCell ((a.add 4).add 0) (.int .i64 0);
  ∃ (f : Option Addr) (g i : Nat), d.cell? ((a.add 1).add 0) = some (.slice f g i) ∧
  ∃ j : Int, d.cell? (a.add 2) = some (.int .i64 j) ∧
  ∃ l : Addr, f = some l ∧ (0 : Int) ≤ j ∧ j < (g : Int) ∧
  ∃ m : Int, d.cell? ((l.add (j.toNat * 4)).add 0) = some (.int .i64 m) ∧
  if (decide (m > 0)) = true
  then (CallK Tryz.prog 43 [.pointer (some a), .int .i64 3, .int .i64 0, .int .i64 0] B d [] fun v n => 
   v = .tuple ⟨[]⟩ ∧
   CallK Tryz.prog 43 [.pointer (some a), .int .i64 16, .int .i64 4, .int .i64 0] B n [] fun o p => 
   o = .tuple ⟨[]⟩ ∧
   ∃ q : Int, p.cell? (a.add 2) = some (.int .i64 q) ∧
   CallK Tryz.prog 43 [.pointer (some a), .int .i64 1, .int .i64 q, .int .i64 0] B p [] fun r s => 
   r = .tuple ⟨[]⟩ ∧
   CallK Tryz.prog 43 [.pointer (some a), .int .i64 18, .int .i64 0, .int .i64 0] B s [] fun t x => 
   t = .tuple ⟨[]⟩ ∧
   (∃ u_2, x.cell? ((a.add 4).add 0) = some u_2) ∧ x.frozen? ((a.add 4).add 0) = false ∧
   let y := x.setCell ((a.add 4).add 0) (.int .i64 0);
   V26.b0 B R a y)
  else (V26.b0 B R a d)
noncomputable def V26.cfg (B : Nat) : Cfg := ⟨Tryz.prog, ⟨82, B⟩, [], hasN [25, 43, 44, 45], hasN [], look []⟩
noncomputable def V26.code : Code := (Tryz.f26.body).getD .skip
noncomputable def V26.cuts (B : Nat) (R : Value → World → Prop) : Nat → Cut := nthC [⟨[(0, .one (.ptr))], [], fun fs vs bs w => V26.b0 B R (pV (nthV vs 0)) w⟩,
  ⟨[(0, .one (.ptr)), (2, .one (.int .i64)), (3, .one (.int .i64))], [], fun fs vs bs w => V26.l1 B R (nthN fs 0) (pV (nthV vs 0)) (iV (nthV vs 1)) (iV (nthV vs 2)) w⟩,
  ⟨[(0, .one (.ptr))], [], fun fs vs bs w => V26.b2 B R (pV (nthV vs 0)) w⟩]
noncomputable def V26.h : H := .s (.z) (.cut 0 (.s (.r [[0, 1, 2, 3, 4, 5, 6, 7, 8, 9, 10, 11, 12]]) (.c (.s (.z) (.s (.z) (.s (.z) (.s (.z) (.z))))) (.z))) (.s (.z) (.cut 2 (.s (.z) (.b (.l 1 (.s (.s (.z) (.c (.z) (.z))) (.s (.b (.s (.z) (.s (.s (.z) (.c (.z) (.z))) (.s (.z) (.c (.z) (.z)))))) (.z)))))) (.s (.s (.z) (.c (.z) (.z))) (.z)))))
theorem V26.vc_eq (B : Nat) (R : Value → World → Prop) (a : Addr) (w : World) : wpf (V26.cfg B) (V26.cuts B R) V26.code V26.h [] (postOf Tryz.prog B (Tryz.f26.results.toList) R) (argE 0 [.pointer (some a)]) [] w = V26.vc B R a w := by kernel_rfl
theorem V26.obl (B : Nat) (R : Value → World → Prop) : oblP (V26.cfg B) (V26.cuts B R) V26.code V26.h [] (postOf Tryz.prog B (Tryz.f26.results.toList) R) := by
  have e : oblP (V26.cfg B) (V26.cuts B R) V26.code V26.h [] (postOf Tryz.prog B (Tryz.f26.results.toList) R) = (True ∧ (((true = true) ∧ ((True ∧ (True ∧ (True ∧ (True ∧ True)))) ∧ True)) ∧ (∀ (a : Addr) (w : World), V26.b0 B R a w → V26.b0 B R a w) ∧ (True ∧ ((True ∧ ((∀ (a : Addr) (c d : Int) (w : World), ¬ V26.l1 B R 0 a c d w) ∧ (∀ f, ∀ (a : Addr) (c d : Int) (w : World), V26.l1 B R (f + 1) a c d w → V26.l1 B R (f + 1) a c d w) ∧ ∀ f : Nat, ((True ∧ (True ∧ True)) ∧ ((True ∧ ((True ∧ (True ∧ True)) ∧ (True ∧ (True ∧ True)))) ∧ True)))) ∧ (∀ (a : Addr) (w : World), V26.b2 B R a w → V26.b2 B R a w) ∧ ((True ∧ (True ∧ True)) ∧ True))))) := by kernel_rfl
  exact e.mpr (⟨trivial, ⟨⟨rfl, ⟨⟨trivial, ⟨trivial, ⟨trivial, ⟨trivial, trivial⟩⟩⟩⟩, trivial⟩⟩, fun a w h => h, ⟨trivial, ⟨⟨trivial, ⟨fun a c d w h => h, fun _ a c d w h => h, fun f => ⟨⟨trivial, ⟨trivial, trivial⟩⟩, ⟨⟨trivial, ⟨⟨trivial, ⟨trivial, trivial⟩⟩, ⟨trivial, ⟨trivial, trivial⟩⟩⟩⟩, trivial⟩⟩⟩⟩, fun a w h => h, ⟨⟨trivial, ⟨trivial, trivial⟩⟩, trivial⟩⟩⟩⟩⟩)
theorem V26.cfgOk (B : Nat) : CfgOk (V26.cfg B) := cfgOk_of (by kernel_rfl) (by kernel_rfl) extNil
theorem V26.sound {a : Addr} {w : World} {R : Value → World → Prop} (h : V26.vc w.heap.size R a w) : Calls Tryz.prog 26 ⟨[.pointer (some a)]⟩ w fun e w' => ∃ v, e = .returned v ∧ R v w' :=
  calls_wpfP (c := V26.cfg w.heap.size) (fn := Tryz.f26) (x := V26.code) (V26.cuts w.heap.size R) V26.h (V26.cfgOk _) mixed Tryz.func26 (by kernel_rfl) (by kernel_rfl) (by kernel_rfl) rfl (V26.obl _ _) ((V26.vc_eq _ _ a _).symm ▸ h)
def V43.vc (B : Nat) (R : Value → World → Prop) (a : Addr) (c d f : Int) (w : World) : Prop :=
  ∀ g : Nat, w.heap.size ≤ g →
  ∃ (i : Option Addr) (j l : Nat), w.cell? ((a.add 1).add 0) = some (.slice i j l) ∧
  ∃ m : Int, w.cell? (a.add 2) = some (.int .i64 m) ∧
  ∃ (n : Option Addr) (o p : Nat), w.cell? ((a.add 1).add 0) = some (.slice n o p) ∧
  ∃ q : Int, w.cell? (a.add 2) = some (.int .i64 q) ∧
  ∃ r : Addr, n = some r ∧ (0 : Int) ≤ q ∧ q < (o : Int) ∧
  ∃ (s : Option Addr) (t x : Nat), w.cell? ((r.add (q.toNat * 4)).add 3) = some (.slice s t x) ∧
  Expo B w [g] fun y => 
  Hide [g] (y.alloc (.cells ⟨[.int .i64 c, .int .i64 d, .int .i64 f]⟩ 67)) fun z => 
  z.cell? ((r.add (q.toNat * 4)).add 3) = some (.slice s t x) ∧ z.cell? (a.add 2) = some (.int .i64 q) ∧ z.cell? ((a.add 1).add 0) = some (.slice n o p) ∧ z.cell? (a.add 2) = some (.int .i64 m) ∧ z.cell? ((a.add 1).add 0) = some (.slice i j l) ∧
  RunK Tryz.prog (Builtin.append_ #[61, 61] 61 ⟨[.slice s t x, .slice (some ⟨y.heap.size, 0, none⟩) 1 1]⟩) B z [g] fun v A => 
  ∃ (C : Option Addr) (D E : Nat), v = .slice C D E ∧ A.cell? (a.add 2) = some (.int .i64 m) ∧ A.cell? ((a.add 1).add 0) = some (.slice i j l) ∧
  ∃ F : Addr, i = some F ∧ (0 : Int) ≤ m ∧ m < (j : Int) ∧
  (∃ u, A.cell? (((F.add (m.toNat * 4)).add 3).add 0) = some u) ∧ A.frozen? (((F.add (m.toNat * 4)).add 3).add 0) = false ∧
  let G := A.setCell (((F.add (m.toNat * 4)).add 3).add 0) (.slice C D E);
  ∃ (I : Option Addr) (J L : Nat), G.cell? (a.add 3) = some (.slice I J L) ∧
  ∃ M : Int, G.cell? (a.add 4) = some (.int .i64 M) ∧
  Expo B G [g] fun N => 
  Hide [g] (N.alloc (.cells ⟨[.int .i64 M]⟩ 3)) fun O => 
  O.cell? (a.add 3) = some (.slice I J L) ∧
  RunK Tryz.prog (Builtin.append_ #[57, 57] 57 ⟨[.slice I J L, .slice (some ⟨N.heap.size, 0, none⟩) 1 1]⟩) B O [g] fun P Q => 
  ∃ (S : Option Addr) (T U : Nat), P = .slice S T U ∧
  (∃ u_1, Q.cell? ((a.add 3).add 0) = some u_1) ∧ Q.frozen? ((a.add 3).add 0) = false ∧
  let W := Q.setCell ((a.add 3).add 0) (.slice S T U);
  ∃ X : Int, W.cell? (a.add 4) = some (.int .i64 X) ∧
  ∃ (Y : Option Addr) (Z a0 : Nat), W.cell? ((a.add 1).add 0) = some (.slice Y Z a0) ∧
  CallK Tryz.prog 48 [.agg ⟨[.slice Y Z a0]⟩, .agg ⟨[.int .i64 c, .int .i64 d, .int .i64 f]⟩] B W [g] fun a1 a3 => 
  ∃ a4 : Int, a1 = .int .i64 a4 ∧ a3.cell? (a.add 4) = some (.int .i64 X) ∧
  CallK Tryz.prog 49 [.agg ⟨[.int .i64 c, .int .i64 d, .int .i64 f]⟩] B a3 [g] fun a5 a6 => 
  ∃ a7 : Int, a5 = .int .i64 a7 ∧ a6.cell? (a.add 4) = some (.int .i64 X) ∧
  (∃ u_2, a6.cell? ((a.add 4).add 0) = some u_2) ∧ a6.frozen? ((a.add 4).add 0) = false ∧
  let a8 := a6.setCell ((a.add 4).add 0) (.int .i64 (IntKind.wrap .i64 (IntKind.wrap .i64 (X - a4) + a7)));
  Ret B a8 (R (.tuple ⟨[]⟩))
noncomputable def V43.cfg (B : Nat) : Cfg := ⟨Tryz.prog, ⟨69, B⟩, [], hasN [48, 49], hasN [], look []⟩
noncomputable def V43.code : Code := (Tryz.f43.body).getD .skip
noncomputable def V43.cuts (B : Nat) (R : Value → World → Prop) : Nat → Cut := nthC []
noncomputable def V43.h : H := .s (.z) (.s (.r [[0, 1, 2, 3, 4, 5, 6, 7, 8, 9, 10, 11, 12, 13, 14, 15, 16, 17, 18, 19, 20, 21, 22, 23, 24, 25, 26]]) (.s (.r [[0, 1, 2, 3, 4, 5, 6, 7, 8, 9, 10, 11, 12, 13]]) (.r [[0, 1, 2, 3, 4, 5, 6, 7, 8, 9, 12, 10, 11, 13, 14, 15, 16, 17]])))
theorem V43.vc_eq (B : Nat) (R : Value → World → Prop) (a : Addr) (c d f : Int) (w : World) : wpf (V43.cfg B) (V43.cuts B R) V43.code V43.h [] (postOf Tryz.prog B (Tryz.f43.results.toList) R) (argE 0 [.pointer (some a), .int .i64 c, .int .i64 d, .int .i64 f]) [] w = V43.vc B R a c d f w := by kernel_rfl
theorem V43.obl (B : Nat) (R : Value → World → Prop) : oblP (V43.cfg B) (V43.cuts B R) V43.code V43.h [] (postOf Tryz.prog B (Tryz.f43.results.toList) R) := by
  have e : oblP (V43.cfg B) (V43.cuts B R) V43.code V43.h [] (postOf Tryz.prog B (Tryz.f43.results.toList) R) = (True ∧ ((true = true) ∧ ((true = true) ∧ (true = true)))) := by kernel_rfl
  exact e.mpr (⟨trivial, ⟨rfl, ⟨rfl, rfl⟩⟩⟩)
theorem V43.cfgOk (B : Nat) : CfgOk (V43.cfg B) := cfgOk_of (by kernel_rfl) (by kernel_rfl) extNil
theorem V43.sound {a : Addr} {d f g : Int} {w : World} {R : Value → World → Prop} (h : V43.vc w.heap.size R a d f g w) : Calls Tryz.prog 43 ⟨[.pointer (some a), .int .i64 d, .int .i64 f, .int .i64 g]⟩ w fun e w' => ∃ v, e = .returned v ∧ R v w' :=
  calls_wpfP (c := V43.cfg w.heap.size) (fn := Tryz.f43) (x := V43.code) (V43.cuts w.heap.size R) V43.h (V43.cfgOk _) mixed Tryz.func43 (by kernel_rfl) (by kernel_rfl) (by kernel_rfl) rfl (V43.obl _ _) ((V43.vc_eq _ _ a d f g _).symm ▸ h)
def V44.vc (B : Nat) (R : Value → World → Prop) (a : Addr) (w : World) : Prop :=
  ∃ (c : Option Addr) (d f : Nat), w.cell? (a.add 3) = some (.slice c d f) ∧
  Ret B w (R (.int .i64 (d : Int)))
noncomputable def V44.cfg (B : Nat) : Cfg := ⟨Tryz.prog, ⟨8, B⟩, [], hasN [], hasN [], look []⟩
noncomputable def V44.code : Code := (Tryz.f44.body).getD .skip
noncomputable def V44.cuts (B : Nat) (R : Value → World → Prop) : Nat → Cut := nthC []
noncomputable def V44.h : H := .s (.z) (.s (.z) (.z))
theorem V44.vc_eq (B : Nat) (R : Value → World → Prop) (a : Addr) (w : World) : wpf (V44.cfg B) (V44.cuts B R) V44.code V44.h [] (postOf Tryz.prog B (Tryz.f44.results.toList) R) (argE 0 [.pointer (some a)]) [] w = V44.vc B R a w := by kernel_rfl
theorem V44.obl (B : Nat) (R : Value → World → Prop) : oblP (V44.cfg B) (V44.cuts B R) V44.code V44.h [] (postOf Tryz.prog B (Tryz.f44.results.toList) R) := by
  have e : oblP (V44.cfg B) (V44.cuts B R) V44.code V44.h [] (postOf Tryz.prog B (Tryz.f44.results.toList) R) = (True ∧ (True ∧ True)) := by kernel_rfl
  exact e.mpr (⟨trivial, ⟨trivial, trivial⟩⟩)
theorem V44.cfgOk (B : Nat) : CfgOk (V44.cfg B) := cfgOk_of (by kernel_rfl) (by kernel_rfl) extNil
theorem V44.sound {a : Addr} {w : World} {R : Value → World → Prop} (h : V44.vc w.heap.size R a w) : Calls Tryz.prog 44 ⟨[.pointer (some a)]⟩ w fun e w' => ∃ v, e = .returned v ∧ R v w' :=
  calls_wpfP (c := V44.cfg w.heap.size) (fn := Tryz.f44) (x := V44.code) (V44.cuts w.heap.size R) V44.h (V44.cfgOk _) mixed Tryz.func44 (by kernel_rfl) (by kernel_rfl) (by kernel_rfl) rfl (V44.obl _ _) ((V44.vc_eq _ _ a _).symm ▸ h)
def V45.b7 (B : Nat) (R : Value → World → Prop) (a : Addr) (c d f g : Int) (i : Bool) (w : World) : Prop :=
  if i = true
  then (CallK Tryz.prog 74 [.pointer (some a), .int .i64 g, .int .i64 d] B w [] fun v j => 
   v = .tuple ⟨[]⟩ ∧
   CallK Tryz.prog 43 [.pointer (some a), .int .i64 19, .int .i64 f, .int .i64 0] B j [] fun l m => 
   l = .tuple ⟨[]⟩ ∧
   Ret B m (R (.bool true)))
  else (CallK Tryz.prog 75 [.pointer (some a), .int .i64 c, .int .i64 d] B w [] fun v j => 
   ∃ n : Bool, v = .bool n ∧
   Ret B j (R (.bool n)))
def V45.b6 (B : Nat) (R : Value → World → Prop) (a : Addr) (c d f g : Int) (i : Bool) (w : World) : Prop :=
  if i = true
  then (CallK Tryz.prog 43 [.pointer (some a), .int .i64 3, .int .i64 0, .int .i64 0] B w [] fun v j => 
   v = .tuple ⟨[]⟩ ∧
   CallK Tryz.prog 43 [.pointer (some a), .int .i64 1, .int .i64 1, .int .i64 0] B j [] fun l m => 
   l = .tuple ⟨[]⟩ ∧
   CallK Tryz.prog 43 [.pointer (some a), .int .i64 6, .int .i64 0, .int .i64 0] B m [] fun n o => 
   n = .tuple ⟨[]⟩ ∧
   CallK Tryz.prog 74 [.pointer (some a), .int .i64 (IntKind.wrap .i64 (g - 1)), .int .i64 d] B o [] fun p q => 
   p = .tuple ⟨[]⟩ ∧
   CallK Tryz.prog 43 [.pointer (some a), .int .i64 17, .int .i64 f, .int .i64 0] B q [] fun r s => 
   r = .tuple ⟨[]⟩ ∧
   Ret B s (R (.bool true)))
  else (if (c == 19) = true
   then (∃ t : Int, w.cell? (a.add 4) = some (.int .i64 t) ∧
   V45.b7 B R a c d f g (decide (IntKind.wrap .i64 (t + g) ≤ 8)) w)
   else (V45.b7 B R a c d f g false w))
def V45.b5 (B : Nat) (R : Value → World → Prop) (a : Addr) (c d f g : Int) (i : Bool) (w : World) : Prop :=
  if i = true
  then (CallK Tryz.prog 74 [.pointer (some a), .int .i64 g, .int .i64 d] B w [] fun v j => 
   v = .tuple ⟨[]⟩ ∧
   CallK Tryz.prog 43 [.pointer (some a), .int .i64 17, .int .i64 f, .int .i64 0] B j [] fun l m => 
   l = .tuple ⟨[]⟩ ∧
   Ret B m (R (.bool true)))
  else (if (c == 18) = true
   then (if (decide (g > 0)) = true
    then (∃ n : Int, w.cell? (a.add 4) = some (.int .i64 n) ∧
    if (decide (IntKind.wrap .i64 (n + (if 2 > g then 2 else g)) ≤ 8)) = true
     then (∃ (o : Option Addr) (p q : Nat), w.cell? ((a.add 1).add 0) = some (.slice o p q) ∧
     ∃ r : Int, w.cell? (a.add 2) = some (.int .i64 r) ∧
     ∃ s : Addr, o = some s ∧ (0 : Int) ≤ r ∧ r < (p : Int) ∧
     ∃ t : Int, w.cell? ((s.add (r.toNat * 4)).add 0) = some (.int .i64 t) ∧
     V45.b6 B R a c d f g (decide (t > 0)) w)
     else (V45.b6 B R a c d f g false w))
    else (V45.b6 B R a c d f g false w))
   else (V45.b6 B R a c d f g false w))
def V45.b4 (B : Nat) (R : Value → World → Prop) (a : Addr) (c d f g : Int) (i : Bool) (w : World) : Prop :=
  if i = true
  then ((3 : Int) ≠ 0 ∧
  CallK Tryz.prog 43 [.pointer (some a), .int .i64 1, .int .i64 (Int.tmod d 3), .int .i64 0] B w [] fun v j => 
   v = .tuple ⟨[]⟩ ∧
   CallK Tryz.prog 44 [.pointer (some a)] B j [] fun l m => 
   ∃ n : Int, l = .int .i64 n ∧
   CallK Tryz.prog 43 [.pointer (some a), .int .i64 16, .int .i64 (IntKind.wrap .i64 (n + 3)), .int .i64 0] B m [] fun o p => 
   o = .tuple ⟨[]⟩ ∧
   CallK Tryz.prog 43 [.pointer (some a), .int .i64 1, .int .i64 d, .int .i64 0] B p [] fun q r => 
   q = .tuple ⟨[]⟩ ∧
   Expo B r [] fun s => 
   let t := s.alloc (.cells ⟨[.int .i64 20, .int .i64 18]⟩ 3);
   ∃ u : Addr, (some ⟨s.heap.size, 0, none⟩) = some u ∧ (0 : Int) ≤ IntKind.wrap .i64 (c - 15) ∧ IntKind.wrap .i64 (c - 15) < ((2 : Nat) : Int) ∧
   ∃ x : Int, t.cell? (u.add ((IntKind.wrap .i64 (c - 15)).toNat)) = some (.int .i64 x) ∧
   CallK Tryz.prog 43 [.pointer (some a), .int .i64 x, .int .i64 0, .int .i64 0] B t [] fun y z => 
   y = .tuple ⟨[]⟩ ∧
   Ret B z (R (.bool true)))
  else (if (c == 17) = true
   then (∃ A : Int, w.cell? (a.add 4) = some (.int .i64 A) ∧
   if (decide (IntKind.wrap .i64 (A + g) ≤ 8)) = true
    then (∃ C : Int, w.cell? (a.add 4) = some (.int .i64 C) ∧
    V45.b5 B R a c d f g (decide (C < 8)) w)
    else (V45.b5 B R a c d f g false w))
   else (V45.b5 B R a c d f g false w))
def V45.l3 (B : Nat) (R : Value → World → Prop) : Nat → Addr → Int → World → Prop
  | 0 => fun _ _ _ => False
  | k + 1 => fun a c w =>
    if (decide (c ≥ 0)) = true
    then (∃ (d : Option Addr) (f g : Nat), w.cell? (a.add 3) = some (.slice d f g) ∧
    ∃ i : Addr, d = some i ∧ (0 : Int) ≤ c ∧ c < (f : Int) ∧
    ∃ j : Int, w.cell? (i.add c.toNat) = some (.int .i64 j) ∧
    ∃ l : Int, w.cell? (a.add 4) = some (.int .i64 l) ∧
    if (j == IntKind.wrap .i64 (l - 1)) = true
     then (CallK Tryz.prog 43 [.pointer (some a), .int .i64 16, .int .i64 c, .int .i64 0] B w [] fun v m => 
      v = .tuple ⟨[]⟩ ∧
      Ret B m (R (.bool true)))
     else ((V45.l3 B R k) a (IntKind.wrap .i64 (c - 1)) w))
    else (Ret B w (R (.bool false)))
def V45.b2 (B : Nat) (R : Value → World → Prop) (a : Addr) (c d f g : Int) (i : Bool) (w : World) : Prop :=
  if i = true
  then (CallK Tryz.prog 44 [.pointer (some a)] B w [] fun v j => 
   ∃ l : Int, v = .int .i64 l ∧ (7 : Int) ≠ 0 ∧
   ∃ m, V45.l3 B R m a (IntKind.wrap .i64 (IntKind.wrap .i64 (l - 1) - Int.tmod d 7)) j)
  else (if (c == 15) = false
   then (if (c == 16) = true
    then (∃ n : Int, w.cell? (a.add 4) = some (.int .i64 n) ∧
    V45.b4 B R a c d f g (decide (n < 8)) w)
    else (V45.b4 B R a c d f g false w))
   else (∃ n : Int, w.cell? (a.add 4) = some (.int .i64 n) ∧
   V45.b4 B R a c d f g (decide (n < 8)) w))
def V45.b1 (B : Nat) (R : Value → World → Prop) (a : Addr) (c d f g : Int) (i : Bool) (w : World) : Prop :=
  if i = true
  then (CallK Tryz.prog 43 [.pointer (some a), .int .i64 19, .int .i64 f, .int .i64 0] B w [] fun v j => 
   v = .tuple ⟨[]⟩ ∧
   Ret B j (R (.bool true)))
  else (if (c == 14) = true
   then (∃ l : Int, w.cell? (a.add 4) = some (.int .i64 l) ∧
   V45.b2 B R a c d f g (decide (l > 0)) w)
   else (V45.b2 B R a c d f g false w))
def V45.b0 (B : Nat) (R : Value → World → Prop) (a : Addr) (c d f g : Int) (i : Bool) (w : World) : Prop :=
  if i = true
  then (CallK Tryz.prog 43 [.pointer (some a), .int .i64 17, .int .i64 f, .int .i64 0] B w [] fun v j => 
   v = .tuple ⟨[]⟩ ∧
   Ret B j (R (.bool true)))
  else (if (c == 10) = true
   then (∃ l : Int, w.cell? (a.add 4) = some (.int .i64 l) ∧
   V45.b1 B R a c d f g (decide (l ≥ g)) w)
   else (V45.b1 B R a c d f g false w))
def V45.vc (B : Nat) (R : Value → World → Prop) (a : Addr) (c d : Int) (w : World) : Prop :=
  ∃ (f : Option Addr) (g i : Nat), w.cell? ((a.add 1).add 0) = some (.slice f g i) ∧ (g : Int) ≠ 0 ∧
  ∃ (j : Option Addr) (l m : Nat), w.cell? ((a.add 1).add 0) = some (.slice j l m) ∧
  ∃ n : Addr, j = some n ∧ (0 : Int) ≤ Int.tmod d (g : Int) ∧ Int.tmod d (g : Int) < (l : Int) ∧
  ∃ o : Int, w.cell? ((n.add ((Int.tmod d (g : Int)).toNat * 4)).add 0) = some (.int .i64 o) ∧
  if (c == 9) = true
  then (∃ p : Int, w.cell? (a.add 4) = some (.int .i64 p) ∧
  if (decide (p ≥ o)) = true
   then (∃ q : Int, w.cell? (a.add 4) = some (.int .i64 q) ∧
   V45.b0 B R a c d (Int.tmod d (g : Int)) o (decide (IntKind.wrap .i64 (q - o) < 8)) w)
   else (V45.b0 B R a c d (Int.tmod d (g : Int)) o false w))
  else (V45.b0 B R a c d (Int.tmod d (g : Int)) o false w)
noncomputable def V45.cfg (B : Nat) : Cfg := ⟨Tryz.prog, ⟨228, B⟩, [], hasN [43, 44, 74, 75], hasN [], look []⟩
noncomputable def V45.code : Code := (Tryz.f45.body).getD .skip
noncomputable def V45.cuts (B : Nat) (R : Value → World → Prop) : Nat → Cut := nthC [⟨[(0, .one (.ptr)), (1, .one (.int .i64)), (2, .one (.int .i64)), (7, .one (.int .i64)), (8, .one (.int .i64)), (31, .one (.bool))], [], fun fs vs bs w => V45.b0 B R (pV (nthV vs 0)) (iV (nthV vs 1)) (iV (nthV vs 2)) (iV (nthV vs 3)) (iV (nthV vs 4)) (bV (nthV vs 5)) w⟩,
  ⟨[(0, .one (.ptr)), (1, .one (.int .i64)), (2, .one (.int .i64)), (7, .one (.int .i64)), (8, .one (.int .i64)), (54, .one (.bool))], [], fun fs vs bs w => V45.b1 B R (pV (nthV vs 0)) (iV (nthV vs 1)) (iV (nthV vs 2)) (iV (nthV vs 3)) (iV (nthV vs 4)) (bV (nthV vs 5)) w⟩,
  ⟨[(0, .one (.ptr)), (1, .one (.int .i64)), (2, .one (.int .i64)), (7, .one (.int .i64)), (8, .one (.int .i64)), (68, .one (.bool))], [], fun fs vs bs w => V45.b2 B R (pV (nthV vs 0)) (iV (nthV vs 1)) (iV (nthV vs 2)) (iV (nthV vs 3)) (iV (nthV vs 4)) (bV (nthV vs 5)) w⟩,
  ⟨[(0, .one (.ptr)), (9, .one (.int .i64))], [], fun fs vs bs w => V45.l3 B R (nthN fs 0) (pV (nthV vs 0)) (iV (nthV vs 1)) w⟩,
  ⟨[(0, .one (.ptr)), (1, .one (.int .i64)), (2, .one (.int .i64)), (7, .one (.int .i64)), (8, .one (.int .i64)), (104, .one (.bool))], [], fun fs vs bs w => V45.b4 B R (pV (nthV vs 0)) (iV (nthV vs 1)) (iV (nthV vs 2)) (iV (nthV vs 3)) (iV (nthV vs 4)) (bV (nthV vs 5)) w⟩,
  ⟨[(0, .one (.ptr)), (1, .one (.int .i64)), (2, .one (.int .i64)), (7, .one (.int .i64)), (8, .one (.int .i64)), (137, .one (.bool))], [], fun fs vs bs w => V45.b5 B R (pV (nthV vs 0)) (iV (nthV vs 1)) (iV (nthV vs 2)) (iV (nthV vs 3)) (iV (nthV vs 4)) (bV (nthV vs 5)) w⟩,
  ⟨[(0, .one (.ptr)), (1, .one (.int .i64)), (2, .one (.int .i64)), (7, .one (.int .i64)), (8, .one (.int .i64)), (163, .one (.bool))], [], fun fs vs bs w => V45.b6 B R (pV (nthV vs 0)) (iV (nthV vs 1)) (iV (nthV vs 2)) (iV (nthV vs 3)) (iV (nthV vs 4)) (bV (nthV vs 5)) w⟩,
  ⟨[(0, .one (.ptr)), (1, .one (.int .i64)), (2, .one (.int .i64)), (7, .one (.int .i64)), (8, .one (.int .i64)), (209, .one (.bool))], [], fun fs vs bs w => V45.b7 B R (pV (nthV vs 0)) (iV (nthV vs 1)) (iV (nthV vs 2)) (iV (nthV vs 3)) (iV (nthV vs 4)) (bV (nthV vs 5)) w⟩]
noncomputable def V45.h : H := .s (.z) (.s (.z) (.s (.z) (.s (.b (.cut 0 (.z) (.c (.z) (.cut 1 (.z) (.c (.z) (.cut 2 (.z) (.c (.s (.s (.z) (.b (.l 3 (.s (.s (.z) (.c (.z) (.z))) (.s (.b (.s (.r [[0, 1, 2, 3, 4, 5, 6, 7, 8, 9, 10, 11, 12]]) (.c (.s (.z) (.s (.z) (.z))) (.z)))) (.z)))))) (.s (.z) (.z))) (.cut 4 (.z) (.c (.s (.z) (.s (.z) (.s (.z) (.z)))) (.cut 5 (.z) (.c (.s (.z) (.z)) (.cut 6 (.r [[0, 1, 2, 3, 4, 5, 6, 7, 8, 9, 10, 11, 12, 13, 14, 15, 16, 17, 18, 19, 20, 21, 22, 23, 24, 25, 26, 27, 28, 29, 30, 31]]) (.c (.s (.z) (.s (.z) (.s (.z) (.s (.z) (.z))))) (.cut 7 (.z) (.c (.s (.z) (.z)) (.s (.z) (.z))))))))))))))))) (.s (.z) (.z)))))
theorem V45.vc_eq (B : Nat) (R : Value → World → Prop) (a : Addr) (c d : Int) (w : World) : wpf (V45.cfg B) (V45.cuts B R) V45.code V45.h [] (postOf Tryz.prog B (Tryz.f45.results.toList) R) (argE 0 [.pointer (some a), .int .i64 c, .int .i64 d]) [] w = V45.vc B R a c d w := by kernel_rfl
theorem V45.obl (B : Nat) (R : Value → World → Prop) : oblP (V45.cfg B) (V45.cuts B R) V45.code V45.h [] (postOf Tryz.prog B (Tryz.f45.results.toList) R) := by
  have e : oblP (V45.cfg B) (V45.cuts B R) V45.code V45.h [] (postOf Tryz.prog B (Tryz.f45.results.toList) R) = (True ∧ (True ∧ (True ∧ ((True ∧ (∀ (a : Addr) (c d f g : Int) (i : Bool) (w : World), V45.b0 B R a c d f g i w → V45.b0 B R a c d f g i w) ∧ (True ∧ (True ∧ (∀ (a : Addr) (c d f g : Int) (j : Bool) (w : World), V45.b1 B R a c d f g j w → V45.b1 B R a c d f g j w) ∧ (True ∧ (True ∧ (∀ (a : Addr) (c d f g : Int) (l : Bool) (w : World), V45.b2 B R a c d f g l w → V45.b2 B R a c d f g l w) ∧ (((True ∧ ((∀ (a : Addr) (m : Int) (w : World), ¬ V45.l3 B R 0 a m w) ∧ (∀ n, ∀ (a : Addr) (m : Int) (w : World), V45.l3 B R (n + 1) a m w → V45.l3 B R (n + 1) a m w) ∧ ∀ n : Nat, ((True ∧ (True ∧ True)) ∧ (((true = true) ∧ ((True ∧ (True ∧ True)) ∧ True)) ∧ True)))) ∧ (True ∧ True)) ∧ (True ∧ (∀ (a : Addr) (c d f g : Int) (o : Bool) (w : World), V45.b4 B R a c d f g o w → V45.b4 B R a c d f g o w) ∧ ((True ∧ (True ∧ (True ∧ True))) ∧ (True ∧ (∀ (a : Addr) (c d f g : Int) (p : Bool) (w : World), V45.b5 B R a c d f g p w → V45.b5 B R a c d f g p w) ∧ ((True ∧ True) ∧ ((true = true) ∧ (∀ (a : Addr) (c d f g : Int) (q : Bool) (w : World), V45.b6 B R a c d f g q w → V45.b6 B R a c d f g q w) ∧ ((True ∧ (True ∧ (True ∧ (True ∧ True)))) ∧ (True ∧ (∀ (a : Addr) (c d f g : Int) (r : Bool) (w : World), V45.b7 B R a c d f g r w → V45.b7 B R a c d f g r w) ∧ ((True ∧ True) ∧ (True ∧ True))))))))))))))) ∧ (True ∧ True))))) := by kernel_rfl
  exact e.mpr (⟨trivial, ⟨trivial, ⟨trivial, ⟨⟨trivial, fun a c d f g i w h => h, ⟨trivial, ⟨trivial, fun a c d f g j w h => h, ⟨trivial, ⟨trivial, fun a c d f g l w h => h, ⟨⟨⟨trivial, ⟨fun a m w h => h, fun _ a m w h => h, fun n => ⟨⟨trivial, ⟨trivial, trivial⟩⟩, ⟨⟨rfl, ⟨⟨trivial, ⟨trivial, trivial⟩⟩, trivial⟩⟩, trivial⟩⟩⟩⟩, ⟨trivial, trivial⟩⟩, ⟨trivial, fun a c d f g o w h => h, ⟨⟨trivial, ⟨trivial, ⟨trivial, trivial⟩⟩⟩, ⟨trivial, fun a c d f g p w h => h, ⟨⟨trivial, trivial⟩, ⟨rfl, fun a c d f g q w h => h, ⟨⟨trivial, ⟨trivial, ⟨trivial, ⟨trivial, trivial⟩⟩⟩⟩, ⟨trivial, fun a c d f g r w h => h, ⟨⟨trivial, trivial⟩, ⟨trivial, trivial⟩⟩⟩⟩⟩⟩⟩⟩⟩⟩⟩⟩⟩⟩⟩, ⟨trivial, trivial⟩⟩⟩⟩⟩)
theorem V45.cfgOk (B : Nat) : CfgOk (V45.cfg B) := cfgOk_of (by kernel_rfl) (by kernel_rfl) extNil
theorem V45.sound {a : Addr} {d f : Int} {w : World} {R : Value → World → Prop} (h : V45.vc w.heap.size R a d f w) : Calls Tryz.prog 45 ⟨[.pointer (some a), .int .i64 d, .int .i64 f]⟩ w fun e w' => ∃ v, e = .returned v ∧ R v w' :=
  calls_wpfP (c := V45.cfg w.heap.size) (fn := Tryz.f45) (x := V45.code) (V45.cuts w.heap.size R) V45.h (V45.cfgOk _) mixed Tryz.func45 (by kernel_rfl) (by kernel_rfl) (by kernel_rfl) rfl (V45.obl _ _) ((V45.vc_eq _ _ a d f _).symm ▸ h)
def V74.l0 (B : Nat) (R : Value → World → Prop) : Nat → Addr → Int → Int → Int → World → Prop
  | 0 => fun _ _ _ _ _ => False
  | k + 1 => fun a c d f w =>
    if (decide (f < c)) = true
    then ((12 : Int) ≠ 0 ∧
    CallK Tryz.prog 43 [.pointer (some a), .int .i64 1, .int .i64 (Int.tmod (IntKind.wrap .i64 (d + f)) 12), .int .i64 0] B w [] fun v g => 
     v = .tuple ⟨[]⟩ ∧ (V74.l0 B R k) a c d (IntKind.wrap .i64 (f + 1)) g)
    else (Ret B w (R (.tuple ⟨[]⟩)))
def V74.vc (B : Nat) (R : Value → World → Prop) (a : Addr) (c d : Int) (w : World) : Prop :=
  ∃ f, V74.l0 B R f a c d 0 w
noncomputable def V74.cfg (B : Nat) : Cfg := ⟨Tryz.prog, ⟨18, B⟩, [], hasN [43], hasN [], look []⟩
noncomputable def V74.code : Code := (Tryz.f74.body).getD .skip
noncomputable def V74.cuts (B : Nat) (R : Value → World → Prop) : Nat → Cut := nthC [⟨[(0, .one (.ptr)), (1, .one (.int .i64)), (2, .one (.int .i64)), (6, .one (.int .i64))], [], fun fs vs bs w => V74.l0 B R (nthN fs 0) (pV (nthV vs 0)) (iV (nthV vs 1)) (iV (nthV vs 2)) (iV (nthV vs 3)) w⟩]
noncomputable def V74.h : H := .s (.z) (.b (.l 0 (.s (.s (.z) (.c (.z) (.z))) (.s (.b (.z)) (.z)))))
theorem V74.vc_eq (B : Nat) (R : Value → World → Prop) (a : Addr) (c d : Int) (w : World) : wpf (V74.cfg B) (V74.cuts B R) V74.code V74.h [] (postOf Tryz.prog B (Tryz.f74.results.toList) R) (argE 0 [.pointer (some a), .int .i64 c, .int .i64 d]) [] w = V74.vc B R a c d w := by kernel_rfl
theorem V74.obl (B : Nat) (R : Value → World → Prop) : oblP (V74.cfg B) (V74.cuts B R) V74.code V74.h [] (postOf Tryz.prog B (Tryz.f74.results.toList) R) := by
  have e : oblP (V74.cfg B) (V74.cuts B R) V74.code V74.h [] (postOf Tryz.prog B (Tryz.f74.results.toList) R) = (True ∧ ((∀ (a : Addr) (c d f : Int) (w : World), ¬ V74.l0 B R 0 a c d f w) ∧ (∀ g, ∀ (a : Addr) (c d f : Int) (w : World), V74.l0 B R (g + 1) a c d f w → V74.l0 B R (g + 1) a c d f w) ∧ ∀ g : Nat, ((True ∧ (True ∧ True)) ∧ (True ∧ True)))) := by kernel_rfl
  exact e.mpr (⟨trivial, ⟨fun a c d f w h => h, fun _ a c d f w h => h, fun g => ⟨⟨trivial, ⟨trivial, trivial⟩⟩, ⟨trivial, trivial⟩⟩⟩⟩)
theorem V74.cfgOk (B : Nat) : CfgOk (V74.cfg B) := cfgOk_of (by kernel_rfl) (by kernel_rfl) extNil
theorem V74.sound {a : Addr} {d f : Int} {w : World} {R : Value → World → Prop} (h : V74.vc w.heap.size R a d f w) : Calls Tryz.prog 74 ⟨[.pointer (some a), .int .i64 d, .int .i64 f]⟩ w fun e w' => ∃ v, e = .returned v ∧ R v w' :=
  calls_wpfP (c := V74.cfg w.heap.size) (fn := Tryz.f74) (x := V74.code) (V74.cuts w.heap.size R) V74.h (V74.cfgOk _) mixed Tryz.func74 (by kernel_rfl) (by kernel_rfl) (by kernel_rfl) rfl (V74.obl _ _) ((V74.vc_eq _ _ a d f _).symm ▸ h)
def V75.b10 (B : Nat) (R : Value → World → Prop) (a : Addr) (c : Int) (d : Bool) (w : World) : Prop :=
  if d = true
  then (CallK Tryz.prog 43 [.pointer (some a), .int .i64 26, .int .i64 0, .int .i64 0] B w [] fun v f => 
   v = .tuple ⟨[]⟩ ∧
   Ret B f (R (.bool true)))
  else (if (c == 13) = true
   then (CallK Tryz.prog 44 [.pointer (some a)] B w [] fun v f => 
    ∃ g : Int, v = .int .i64 g ∧
    CallK Tryz.prog 43 [.pointer (some a), .int .i64 15, .int .i64 (IntKind.wrap .i64 (g + 1)), .int .i64 0] B f [] fun i j => 
    i = .tuple ⟨[]⟩ ∧
    Ret B j (R (.bool true)))
   else (Ret B w (R (.bool false))))
def V75.b9 (B : Nat) (R : Value → World → Prop) (a : Addr) (c d : Int) (f : Bool) (g : Nat) (i j l : Int) (m : Option Addr) (n o : Nat) (w : World) : Prop :=
  if f = true
  then ((5 : Int) ≠ 0 ∧
  if (Int.tmod d 5 == 0) = true
   then ((5 : Int) ≠ 0 ∧ l ≠ 0 ∧
   CallK Tryz.prog 43 [.pointer (some a), .int .i64 25, .int .i64 (Int.tmod (IntKind.wrap .i64 (Int.tdiv d 5)) l), .int .i64 0] B w [g] fun v p => 
    v = .tuple ⟨[]⟩ ∧
    Ret B p (R (.bool true)))
   else (if (Int.tmod d 5 == 1) = true
    then ((5 : Int) ≠ 0 ∧ l ≠ 0 ∧ (7 : Int) ≠ 0 ∧ l ≠ 0 ∧
    CallK Tryz.prog 43 [.pointer (some a), .int .i64 24, .int .i64 (Int.tmod (IntKind.wrap .i64 (Int.tdiv d 5)) l), .int .i64 (Int.tmod (IntKind.wrap .i64 (Int.tdiv d 7)) l)] B w [g] fun v p => 
     v = .tuple ⟨[]⟩ ∧
     Ret B p (R (.bool true)))
    else ((5 : Int) ≠ 0 ∧ l ≠ 0 ∧
    CallK Tryz.prog 43 [.pointer (some a), .int .i64 23, .int .i64 (Int.tmod (IntKind.wrap .i64 (Int.tdiv d 5)) l), .int .i64 0] B w [g] fun v p => 
     v = .tuple ⟨[]⟩ ∧
     Ret B p (R (.bool true)))))
  else (if (c == 13) = true
   then ((3 : Int) ≠ 0 ∧
   V75.b10 B R a c (Int.tmod d 3 == 0) w)
   else (V75.b10 B R a c false w))
def V75.b8 (B : Nat) (R : Value → World → Prop) (a : Addr) (c d : Int) (f : Bool) (g : Nat) (i j l : Int) (m : Option Addr) (n o : Nat) (w : World) : Prop :=
  if f = true
  then (CallK Tryz.prog 43 [.pointer (some a), .int .i64 21, .int .i64 0, .int .i64 0] B w [g] fun v p => 
   v = .tuple ⟨[]⟩ ∧
   Ret B p (R (.bool true)))
  else (if (c == 12) = true
   then (V75.b9 B R a c d (decide (l > 0)) g i j l m n o w)
   else (V75.b9 B R a c d false g i j l m n o w))
def V75.b7 (B : Nat) (R : Value → World → Prop) (a : Addr) (c d : Int) (f : Bool) (g : Nat) (i j l : Int) (m : Option Addr) (n o : Nat) (w : World) : Prop :=
  if f = true
  then (Expo B w [g] fun p => 
   Hide [g] (p.alloc (.cells ⟨[.int .i64 27, .int .i64 22]⟩ 3)) fun q => 
   (2 : Int) ≠ 0 ∧
   ∃ r : Addr, (some ⟨p.heap.size, 0, none⟩) = some r ∧ (0 : Int) ≤ Int.tmod d 2 ∧ Int.tmod d 2 < ((2 : Nat) : Int) ∧
   ∃ s : Int, q.cell? (r.add ((Int.tmod d 2).toNat)) = some (.int .i64 s) ∧
   CallK Tryz.prog 43 [.pointer (some a), .int .i64 s, .int .i64 0, .int .i64 0] B q [g] fun v t => 
   v = .tuple ⟨[]⟩ ∧
   Ret B t (R (.bool true)))
  else (if (c == 11) = true
   then (∃ u : Int, w.cell? (a.add 4) = some (.int .i64 u) ∧
   V75.b8 B R a c d (decide (IntKind.wrap .i64 (u + 2) ≤ 8)) g i j l m n o w)
   else (V75.b8 B R a c d false g i j l m n o w))
def V75.b6 (B : Nat) (R : Value → World → Prop) (a : Addr) (c d : Int) (f : Bool) (g : Nat) (i j l : Int) (m : Option Addr) (n o : Nat) (w : World) : Prop :=
  if f = true
  then (CallK Tryz.prog 43 [.pointer (some a), .int .i64 22, .int .i64 0, .int .i64 0] B w [g] fun v p => 
   v = .tuple ⟨[]⟩ ∧
   Ret B p (R (.bool true)))
  else (if (c == 8) = true
   then (∃ q : Int, w.cell? (a.add 4) = some (.int .i64 q) ∧
   V75.b7 B R a c d (decide (q > 0)) g i j l m n o w)
   else (V75.b7 B R a c d false g i j l m n o w))
def V75.b5 (B : Nat) (R : Value → World → Prop) (a : Addr) (c d : Int) (f : Bool) (g : Nat) (i j l : Int) (m : Option Addr) (n o : Nat) (w : World) : Prop :=
  if f = true
  then ((2 : Int) ≠ 0 ∧
  CallK Tryz.prog 43 [.pointer (some a), .int .i64 (IntKind.wrap .i64 (9 + Int.tmod d 2)), .int .i64 0, .int .i64 0] B w [g] fun v p => 
   v = .tuple ⟨[]⟩ ∧
   Ret B p (R (.bool true)))
  else (if (c == 7) = true
   then (∃ q : Int, w.cell? (a.add 4) = some (.int .i64 q) ∧
   V75.b6 B R a c d (decide (q > 0)) g i j l m n o w)
   else (V75.b6 B R a c d false g i j l m n o w))
def V75.b4 (B : Nat) (R : Value → World → Prop) (a : Addr) (c d : Int) (f : Bool) (g : Nat) (i j l : Int) (m : Option Addr) (n o : Nat) (w : World) : Prop :=
  if f = true
  then (Expo B w [g] fun p => 
   Hide [g] (p.alloc (.cells ⟨[.int .i64 5, .int .i64 6, .int .i64 7, .int .i64 8, .int .i64 11, .int .i64 12, .int .i64 13, .int .i64 14]⟩ 3)) fun q => 
   (8 : Int) ≠ 0 ∧
   ∃ r : Addr, (some ⟨p.heap.size, 0, none⟩) = some r ∧ (0 : Int) ≤ Int.tmod d 8 ∧ Int.tmod d 8 < ((8 : Nat) : Int) ∧
   ∃ s : Int, q.cell? (r.add ((Int.tmod d 8).toNat)) = some (.int .i64 s) ∧
   CallK Tryz.prog 43 [.pointer (some a), .int .i64 s, .int .i64 0, .int .i64 0] B q [g] fun v t => 
   v = .tuple ⟨[]⟩ ∧
   Ret B t (R (.bool true)))
  else (if (c == 6) = true
   then (∃ u : Int, w.cell? (a.add 4) = some (.int .i64 u) ∧
   V75.b5 B R a c d (decide (u > 0)) g i j l m n o w)
   else (V75.b5 B R a c d false g i j l m n o w))
def V75.b3 (B : Nat) (R : Value → World → Prop) (a : Addr) (c d f : Int) (g : Bool) (i : Nat) (j l m : Int) (n : Option Addr) (o p : Nat) (w : World) : Prop :=
  if g = true
  then (f ≠ 0 ∧
  CallK Tryz.prog 43 [.pointer (some a), .int .i64 4, .int .i64 (Int.tmod d f), .int .i64 0] B w [i] fun v q => 
   v = .tuple ⟨[]⟩ ∧
   Ret B q (R (.bool true)))
  else (if (c == 4) = false
   then (if (c == 5) = true
    then (∃ r : Int, w.cell? (a.add 4) = some (.int .i64 r) ∧
    V75.b4 B R a c d (decide (r > 1)) i j l m n o p w)
    else (V75.b4 B R a c d false i j l m n o p w))
   else (∃ r : Int, w.cell? (a.add 4) = some (.int .i64 r) ∧
   V75.b4 B R a c d (decide (r > 1)) i j l m n o p w))
def V75.b2 (B : Nat) (R : Value → World → Prop) (a : Addr) (c d f : Int) (g : Bool) (i : Nat) (j l m : Int) (n : Option Addr) (o p : Nat) (w : World) : Prop :=
  if g = true
  then (f ≠ 0 ∧
  CallK Tryz.prog 43 [.pointer (some a), .int .i64 3, .int .i64 (Int.tmod d f), .int .i64 0] B w [i] fun v q => 
   v = .tuple ⟨[]⟩ ∧
   Ret B q (R (.bool true)))
  else (if (c == 3) = true
   then (∃ r : Int, w.cell? (a.add 4) = some (.int .i64 r) ∧
   if (decide (r > 0)) = true
    then (V75.b3 B R a c d f (decide (f > 0)) i j l m n o p w)
    else (V75.b3 B R a c d f false i j l m n o p w))
   else (V75.b3 B R a c d f false i j l m n o p w))
def V75.b1 (B : Nat) (R : Value → World → Prop) (a : Addr) (c d f : Int) (g : Bool) (i : Nat) (j l m : Int) (n : Option Addr) (o p : Nat) (w : World) : Prop :=
  if g = true
  then ((6 : Int) ≠ 0 ∧
  CallK Tryz.prog 43 [.pointer (some a), .int .i64 2, .int .i64 (Int.tmod d 6), .int .i64 0] B w [i] fun v q => 
   v = .tuple ⟨[]⟩ ∧
   Ret B q (R (.bool true)))
  else (if (c == 2) = true
   then (∃ r : Int, w.cell? (a.add 4) = some (.int .i64 r) ∧
   if (decide (r < 8)) = true
    then (V75.b2 B R a c d f (decide (f > 0)) i j l m n o p w)
    else (V75.b2 B R a c d f false i j l m n o p w))
   else (V75.b2 B R a c d f false i j l m n o p w))
def V75.b0 (B : Nat) (R : Value → World → Prop) (a : Addr) (c d f : Int) (g : Bool) (i : Nat) (j l m : Int) (n : Option Addr) (o p : Nat) (w : World) : Prop :=
  if g = true
  then (CallK Tryz.prog 43 [.pointer (some a), .int .i64 1, .int .i64 (IntKind.wrap .i64 (d - 100)), .int .i64 0] B w [i] fun v q => 
   v = .tuple ⟨[]⟩ ∧
   Ret B q (R (.bool true)))
  else (if (c == 1) = true
   then (∃ r : Int, w.cell? (a.add 4) = some (.int .i64 r) ∧
   V75.b1 B R a c d f (decide (r < 8)) i j l m n o p w)
   else (V75.b1 B R a c d f false i j l m n o p w))
def V75.vc (B : Nat) (R : Value → World → Prop) (a : Addr) (c d : Int) (w : World) : Prop :=
  ∃ (f : Option Addr) (g i : Nat), w.cell? ((a.add 1).add 0) = some (.slice f g i) ∧
  ∃ j : Int, w.cell? (a.add 2) = some (.int .i64 j) ∧
  ∃ l : Addr, f = some l ∧ (0 : Int) ≤ j ∧ j < (g : Int) ∧
  ∃ m : Int, w.cell? ((l.add (j.toNat * 4)).add 0) = some (.int .i64 m) ∧
  ∃ n : Int, w.cell? ((l.add (j.toNat * 4)).add 1) = some (.int .i64 n) ∧
  ∃ o : Int, w.cell? ((l.add (j.toNat * 4)).add 2) = some (.int .i64 o) ∧
  ∃ (p : Option Addr) (q r : Nat), w.cell? ((l.add (j.toNat * 4)).add 3) = some (.slice p q r) ∧
  ∀ s : Nat, w.heap.size ≤ s → w.cell? ((l.add (j.toNat * 4)).add 0) = some (.int .i64 m) ∧ w.cell? ((l.add (j.toNat * 4)).add 1) = some (.int .i64 n) ∧ w.cell? ((l.add (j.toNat * 4)).add 2) = some (.int .i64 o) ∧ w.cell? ((l.add (j.toNat * 4)).add 3) = some (.slice p q r) ∧ w.cell? (a.add 2) = some (.int .i64 j) ∧ w.cell? ((a.add 1).add 0) = some (.slice f g i) ∧
  if (c == 0) = true
  then (∃ t : Int, w.cell? (a.add 4) = some (.int .i64 t) ∧
  V75.b0 B R a c d (IntKind.wrap .i64 (n - o)) (decide (t < 8)) s m n o p q r w)
  else (V75.b0 B R a c d (IntKind.wrap .i64 (n - o)) false s m n o p q r w)
noncomputable def V75.cfg (B : Nat) : Cfg := ⟨Tryz.prog, ⟨227, B⟩, [], hasN [43, 44], hasN [], look []⟩
noncomputable def V75.code : Code := (Tryz.f75.body).getD .skip
noncomputable def V75.cuts (B : Nat) (R : Value → World → Prop) : Nat → Cut := nthC [⟨[(0, .one (.ptr)), (1, .one (.int .i64)), (2, .one (.int .i64)), (8, .one (.int .i64)), (25, .one (.bool))], [(7, 63, [.int .i64, .int .i64, .int .i64, .slice])], fun fs vs bs w => V75.b0 B R (pV (nthV vs 0)) (iV (nthV vs 1)) (iV (nthV vs 2)) (iV (nthV vs 3)) (bV (nthV vs 4)) (nthB bs 0).blk (iV (nthV (nthB bs 0).cells 0)) (iV (nthV (nthB bs 0).cells 1)) (iV (nthV (nthB bs 0).cells 2)) (slA (nthV (nthB bs 0).cells 3)) (slL (nthV (nthB bs 0).cells 3)) (slC (nthV (nthB bs 0).cells 3)) w⟩,
  ⟨[(0, .one (.ptr)), (1, .one (.int .i64)), (2, .one (.int .i64)), (8, .one (.int .i64)), (39, .one (.bool))], [(7, 63, [.int .i64, .int .i64, .int .i64, .slice])], fun fs vs bs w => V75.b1 B R (pV (nthV vs 0)) (iV (nthV vs 1)) (iV (nthV vs 2)) (iV (nthV vs 3)) (bV (nthV vs 4)) (nthB bs 0).blk (iV (nthV (nthB bs 0).cells 0)) (iV (nthV (nthB bs 0).cells 1)) (iV (nthV (nthB bs 0).cells 2)) (slA (nthV (nthB bs 0).cells 3)) (slL (nthV (nthB bs 0).cells 3)) (slC (nthV (nthB bs 0).cells 3)) w⟩,
  ⟨[(0, .one (.ptr)), (1, .one (.int .i64)), (2, .one (.int .i64)), (8, .one (.int .i64)), (53, .one (.bool))], [(7, 63, [.int .i64, .int .i64, .int .i64, .slice])], fun fs vs bs w => V75.b2 B R (pV (nthV vs 0)) (iV (nthV vs 1)) (iV (nthV vs 2)) (iV (nthV vs 3)) (bV (nthV vs 4)) (nthB bs 0).blk (iV (nthV (nthB bs 0).cells 0)) (iV (nthV (nthB bs 0).cells 1)) (iV (nthV (nthB bs 0).cells 2)) (slA (nthV (nthB bs 0).cells 3)) (slL (nthV (nthB bs 0).cells 3)) (slC (nthV (nthB bs 0).cells 3)) w⟩,
  ⟨[(0, .one (.ptr)), (1, .one (.int .i64)), (2, .one (.int .i64)), (8, .one (.int .i64)), (72, .one (.bool))], [(7, 63, [.int .i64, .int .i64, .int .i64, .slice])], fun fs vs bs w => V75.b3 B R (pV (nthV vs 0)) (iV (nthV vs 1)) (iV (nthV vs 2)) (iV (nthV vs 3)) (bV (nthV vs 4)) (nthB bs 0).blk (iV (nthV (nthB bs 0).cells 0)) (iV (nthV (nthB bs 0).cells 1)) (iV (nthV (nthB bs 0).cells 2)) (slA (nthV (nthB bs 0).cells 3)) (slL (nthV (nthB bs 0).cells 3)) (slC (nthV (nthB bs 0).cells 3)) w⟩,
  ⟨[(0, .one (.ptr)), (1, .one (.int .i64)), (2, .one (.int .i64)), (91, .one (.bool))], [(7, 63, [.int .i64, .int .i64, .int .i64, .slice])], fun fs vs bs w => V75.b4 B R (pV (nthV vs 0)) (iV (nthV vs 1)) (iV (nthV vs 2)) (bV (nthV vs 3)) (nthB bs 0).blk (iV (nthV (nthB bs 0).cells 0)) (iV (nthV (nthB bs 0).cells 1)) (iV (nthV (nthB bs 0).cells 2)) (slA (nthV (nthB bs 0).cells 3)) (slL (nthV (nthB bs 0).cells 3)) (slC (nthV (nthB bs 0).cells 3)) w⟩,
  ⟨[(0, .one (.ptr)), (1, .one (.int .i64)), (2, .one (.int .i64)), (112, .one (.bool))], [(7, 63, [.int .i64, .int .i64, .int .i64, .slice])], fun fs vs bs w => V75.b5 B R (pV (nthV vs 0)) (iV (nthV vs 1)) (iV (nthV vs 2)) (bV (nthV vs 3)) (nthB bs 0).blk (iV (nthV (nthB bs 0).cells 0)) (iV (nthV (nthB bs 0).cells 1)) (iV (nthV (nthB bs 0).cells 2)) (slA (nthV (nthB bs 0).cells 3)) (slL (nthV (nthB bs 0).cells 3)) (slC (nthV (nthB bs 0).cells 3)) w⟩,
  ⟨[(0, .one (.ptr)), (1, .one (.int .i64)), (2, .one (.int .i64)), (127, .one (.bool))], [(7, 63, [.int .i64, .int .i64, .int .i64, .slice])], fun fs vs bs w => V75.b6 B R (pV (nthV vs 0)) (iV (nthV vs 1)) (iV (nthV vs 2)) (bV (nthV vs 3)) (nthB bs 0).blk (iV (nthV (nthB bs 0).cells 0)) (iV (nthV (nthB bs 0).cells 1)) (iV (nthV (nthB bs 0).cells 2)) (slA (nthV (nthB bs 0).cells 3)) (slL (nthV (nthB bs 0).cells 3)) (slC (nthV (nthB bs 0).cells 3)) w⟩,
  ⟨[(0, .one (.ptr)), (1, .one (.int .i64)), (2, .one (.int .i64)), (139, .one (.bool))], [(7, 63, [.int .i64, .int .i64, .int .i64, .slice])], fun fs vs bs w => V75.b7 B R (pV (nthV vs 0)) (iV (nthV vs 1)) (iV (nthV vs 2)) (bV (nthV vs 3)) (nthB bs 0).blk (iV (nthV (nthB bs 0).cells 0)) (iV (nthV (nthB bs 0).cells 1)) (iV (nthV (nthB bs 0).cells 2)) (slA (nthV (nthB bs 0).cells 3)) (slL (nthV (nthB bs 0).cells 3)) (slC (nthV (nthB bs 0).cells 3)) w⟩,
  ⟨[(0, .one (.ptr)), (1, .one (.int .i64)), (2, .one (.int .i64)), (156, .one (.bool))], [(7, 63, [.int .i64, .int .i64, .int .i64, .slice])], fun fs vs bs w => V75.b8 B R (pV (nthV vs 0)) (iV (nthV vs 1)) (iV (nthV vs 2)) (bV (nthV vs 3)) (nthB bs 0).blk (iV (nthV (nthB bs 0).cells 0)) (iV (nthV (nthB bs 0).cells 1)) (iV (nthV (nthB bs 0).cells 2)) (slA (nthV (nthB bs 0).cells 3)) (slL (nthV (nthB bs 0).cells 3)) (slC (nthV (nthB bs 0).cells 3)) w⟩,
  ⟨[(0, .one (.ptr)), (1, .one (.int .i64)), (2, .one (.int .i64)), (169, .one (.bool))], [(7, 63, [.int .i64, .int .i64, .int .i64, .slice])], fun fs vs bs w => V75.b9 B R (pV (nthV vs 0)) (iV (nthV vs 1)) (iV (nthV vs 2)) (bV (nthV vs 3)) (nthB bs 0).blk (iV (nthV (nthB bs 0).cells 0)) (iV (nthV (nthB bs 0).cells 1)) (iV (nthV (nthB bs 0).cells 2)) (slA (nthV (nthB bs 0).cells 3)) (slL (nthV (nthB bs 0).cells 3)) (slC (nthV (nthB bs 0).cells 3)) w⟩,
  ⟨[(0, .one (.ptr)), (1, .one (.int .i64)), (209, .one (.bool))], [], fun fs vs bs w => V75.b10 B R (pV (nthV vs 0)) (iV (nthV vs 1)) (bV (nthV vs 2)) w⟩]
noncomputable def V75.h : H := .s (.z) (.s (.r [[0, 1, 2, 3, 4, 5, 6, 7, 8, 9, 10, 11, 12]]) (.s (.z) (.s (.b (.cut 0 (.z) (.c (.z) (.cut 1 (.z) (.c (.z) (.cut 2 (.z) (.c (.z) (.cut 3 (.z) (.c (.z) (.cut 4 (.z) (.c (.z) (.cut 5 (.z) (.c (.z) (.cut 6 (.z) (.c (.z) (.cut 7 (.z) (.c (.z) (.cut 8 (.z) (.c (.z) (.cut 9 (.z) (.c (.s (.z) (.b (.s (.z) (.c (.z) (.s (.z) (.c (.r [[0, 1, 2, 3, 4, 5, 6, 7, 8, 9, 10, 11]]) (.z))))))) (.cut 10 (.z) (.c (.z) (.s (.z) (.c (.z) (.s (.z) (.z))))))))))))))))))))))))))) (.s (.z) (.z)))))
theorem V75.vc_eq (B : Nat) (R : Value → World → Prop) (a : Addr) (c d : Int) (w : World) : wpf (V75.cfg B) (V75.cuts B R) V75.code V75.h [] (postOf Tryz.prog B (Tryz.f75.results.toList) R) (argE 0 [.pointer (some a), .int .i64 c, .int .i64 d]) [] w = V75.vc B R a c d w := by kernel_rfl
theorem V75.obl (B : Nat) (R : Value → World → Prop) : oblP (V75.cfg B) (V75.cuts B R) V75.code V75.h [] (postOf Tryz.prog B (Tryz.f75.results.toList) R) := by
  have e : oblP (V75.cfg B) (V75.cuts B R) V75.code V75.h [] (postOf Tryz.prog B (Tryz.f75.results.toList) R) = (True ∧ ((true = true) ∧ (True ∧ ((True ∧ (∀ (a : Addr) (c d f : Int) (g : Bool) (i : Nat) (j l m : Int) (n : Option Addr) (o p : Nat) (w : World), V75.b0 B R a c d f g i j l m n o p w → V75.b0 B R a c d f g i j l m n o p w) ∧ (True ∧ (True ∧ (∀ (a : Addr) (c d f : Int) (q : Bool) (i : Nat) (j l m : Int) (n : Option Addr) (o p : Nat) (w : World), V75.b1 B R a c d f q i j l m n o p w → V75.b1 B R a c d f q i j l m n o p w) ∧ (True ∧ (True ∧ (∀ (a : Addr) (c d f : Int) (r : Bool) (i : Nat) (j l m : Int) (n : Option Addr) (o p : Nat) (w : World), V75.b2 B R a c d f r i j l m n o p w → V75.b2 B R a c d f r i j l m n o p w) ∧ (True ∧ (True ∧ (∀ (a : Addr) (c d f : Int) (s : Bool) (i : Nat) (j l m : Int) (n : Option Addr) (o p : Nat) (w : World), V75.b3 B R a c d f s i j l m n o p w → V75.b3 B R a c d f s i j l m n o p w) ∧ (True ∧ (True ∧ (∀ (a : Addr) (c d : Int) (t : Bool) (i : Nat) (j l m : Int) (n : Option Addr) (o p : Nat) (w : World), V75.b4 B R a c d t i j l m n o p w → V75.b4 B R a c d t i j l m n o p w) ∧ (True ∧ (True ∧ (∀ (a : Addr) (c d : Int) (u : Bool) (i : Nat) (j l m : Int) (n : Option Addr) (o p : Nat) (w : World), V75.b5 B R a c d u i j l m n o p w → V75.b5 B R a c d u i j l m n o p w) ∧ (True ∧ (True ∧ (∀ (a : Addr) (c d : Int) (x : Bool) (i : Nat) (j l m : Int) (n : Option Addr) (o p : Nat) (w : World), V75.b6 B R a c d x i j l m n o p w → V75.b6 B R a c d x i j l m n o p w) ∧ (True ∧ (True ∧ (∀ (a : Addr) (c d : Int) (y : Bool) (i : Nat) (j l m : Int) (n : Option Addr) (o p : Nat) (w : World), V75.b7 B R a c d y i j l m n o p w → V75.b7 B R a c d y i j l m n o p w) ∧ (True ∧ (True ∧ (∀ (a : Addr) (c d : Int) (z : Bool) (i : Nat) (j l m : Int) (n : Option Addr) (o p : Nat) (w : World), V75.b8 B R a c d z i j l m n o p w → V75.b8 B R a c d z i j l m n o p w) ∧ (True ∧ (True ∧ (∀ (a : Addr) (c d : Int) (A : Bool) (i : Nat) (j l m : Int) (n : Option Addr) (o p : Nat) (w : World), V75.b9 B R a c d A i j l m n o p w → V75.b9 B R a c d A i j l m n o p w) ∧ ((True ∧ (True ∧ (True ∧ (True ∧ ((true = true) ∧ True))))) ∧ (True ∧ (∀ (a : Addr) (c : Int) (C : Bool) (w : World), V75.b10 B R a c C w → V75.b10 B R a c C w) ∧ (True ∧ (True ∧ (True ∧ (True ∧ True))))))))))))))))))))))))) ∧ (True ∧ True))))) := by kernel_rfl
  exact e.mpr (⟨trivial, ⟨rfl, ⟨trivial, ⟨⟨trivial, fun a c d f g i j l m n o p w h => h, ⟨trivial, ⟨trivial, fun a c d f q i j l m n o p w h => h, ⟨trivial, ⟨trivial, fun a c d f r i j l m n o p w h => h, ⟨trivial, ⟨trivial, fun a c d f s i j l m n o p w h => h, ⟨trivial, ⟨trivial, fun a c d t i j l m n o p w h => h, ⟨trivial, ⟨trivial, fun a c d u i j l m n o p w h => h, ⟨trivial, ⟨trivial, fun a c d x i j l m n o p w h => h, ⟨trivial, ⟨trivial, fun a c d y i j l m n o p w h => h, ⟨trivial, ⟨trivial, fun a c d z i j l m n o p w h => h, ⟨trivial, ⟨trivial, fun a c d A i j l m n o p w h => h, ⟨⟨trivial, ⟨trivial, ⟨trivial, ⟨trivial, ⟨rfl, trivial⟩⟩⟩⟩⟩, ⟨trivial, fun a c C w h => h, ⟨trivial, ⟨trivial, ⟨trivial, ⟨trivial, trivial⟩⟩⟩⟩⟩⟩⟩⟩⟩⟩⟩⟩⟩⟩⟩⟩⟩⟩⟩⟩⟩⟩⟩⟩⟩, ⟨trivial, trivial⟩⟩⟩⟩⟩)
theorem V75.cfgOk (B : Nat) : CfgOk (V75.cfg B) := cfgOk_of (by kernel_rfl) (by kernel_rfl) extNil
theorem V75.sound {a : Addr} {d f : Int} {w : World} {R : Value → World → Prop} (h : V75.vc w.heap.size R a d f w) : Calls Tryz.prog 75 ⟨[.pointer (some a), .int .i64 d, .int .i64 f]⟩ w fun e w' => ∃ v, e = .returned v ∧ R v w' :=
  calls_wpfP (c := V75.cfg w.heap.size) (fn := Tryz.f75) (x := V75.code) (V75.cuts w.heap.size R) V75.h (V75.cfgOk _) mixed Tryz.func75 (by kernel_rfl) (by kernel_rfl) (by kernel_rfl) rfl (V75.obl _ _) ((V75.vc_eq _ _ a d f _).symm ▸ h)
end Go.Proofs.YtidcpndlloppdaaGreatDoor
