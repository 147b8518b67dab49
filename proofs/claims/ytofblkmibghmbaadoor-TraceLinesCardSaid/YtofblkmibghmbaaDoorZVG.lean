/-
  What the engine makes of the loaded functions 16, 17, 18, 68, 69, 70, 71, 72, 102, 103, 104: conditions under which a call returns as told, and proofs of that.
  Conditions: none. Printed by a program of this project.
-/
import Derived.Test.YtofblkmibghmbaaDoorZVF
set_option linter.unusedVariables false
set_option maxRecDepth 100000
namespace Go.Proofs.YtofblkmibghmbaaDoor
def V17.b2 (B : Nat) (R : Value → World → Prop) (a : Int) (c : Option Addr) (d f : Nat) (g : Option Addr) (i j : Nat) (l : ByteArray) (m : Int) (n o : ByteArray) (w : World) : Prop :=
  if (m == IntKind.wrap .i64 ((d : Int) + (i : Int))) = true
  then (CallK Tryd.prog 71 [.slice c d f] B w [] fun v p => 
   ∃ q : ByteArray, v = .string q ∧
   CallK Tryd.prog 71 [.slice g i j] B p [] fun r s => 
   ∃ t : ByteArray, r = .string t ∧ q.size + t.size ≤ 9223372036854775807 ∧
   if (l.toList == (q ++ t).toList) = true
   then (if (n.toList == o.toList) = true
    then (Expo B s [] fun u => 
     let x := u.alloc (.cells ⟨[.int .i64 2, .int .u64 a]⟩ 73);
     CallK Tryd.prog 71 [.slice (some ⟨u.heap.size, 0, none⟩) 1 1] B x [] fun y z => 
     ∃ A : ByteArray, y = .string A ∧
     CallK Tryd.prog 19 [.int .u64 a] B z [] fun C D => 
     ∃ E : ByteArray, C = .string E ∧ ({ data := #[103, 111, 116, 32] } : ByteArray).size + E.size ≤ 9223372036854775807 ∧ (({ data := #[103, 111, 116, 32] } : ByteArray) ++ E).size + ({ data := #[10] } : ByteArray).size ≤ 9223372036854775807 ∧
     if (A.toList == ((({ data := #[103, 111, 116, 32] } : ByteArray) ++ E) ++ ({ data := #[10] } : ByteArray)).toList) = true
     then (CallK Tryd.prog 71 [.slice none 0 0] B D [] fun F G => 
      ∃ I : ByteArray, F = .string I ∧
      if (I.toList == ({ data := #[] } : ByteArray).toList) = true
      then (CallK Tryd.prog 70 [] B G [] fun J L => 
       ∃ M : Bool, J = .bool M ∧
       Ret B L (R (.bool M)))
      else (Ret B G (R (.bool false))))
     else (Ret B D (R (.bool false))))
    else (Ret B s (R (.bool false))))
   else (Ret B s (R (.bool false))))
  else (Ret B w (R (.bool false)))
def V17.b1 (B : Nat) (R : Value → World → Prop) (a c : Int) (d : Option Addr) (f g : Nat) (i : Option Addr) (j l : Nat) (m : ByteArray) (n : Int) (w : World) : Prop :=
  Expo B w [] fun o => 
  let p := o.alloc (.cells ⟨[.int .i64 a, .int .u64 c]⟩ 73);
  CallK Tryd.prog 71 [.slice (some ⟨o.heap.size, 0, none⟩) 1 1] B p [] fun v q => 
  ∃ r : ByteArray, v = .string r ∧
  if (a == 5) = true
  then (V17.b2 B R c d f g i j l m n r ({ data := #[111, 111, 109, 10] } : ByteArray) q)
  else (if (a == 6) = true
   then (V17.b2 B R c d f g i j l m n r ({ data := #[108, 105, 109, 105, 116, 10] } : ByteArray) q)
   else (V17.b2 B R c d f g i j l m n r ({ data := #[63, 10] } : ByteArray) q))
def V17.l0 (B : Nat) (R : Value → World → Prop) : Nat → Int → Int → Option Addr → Nat → Nat → Option Addr → Nat → Nat → ByteArray → Int → Int → World → Prop
  | 0 => fun _ _ _ _ _ _ _ _ _ _ _ _ => False
  | k + 1 => fun a c d f g i j l m n o w =>
    if (decide (o < ((m.size : Nat) : Int))) = true
    then (∃ p : UInt8, (0 : Int) ≤ o ∧ m[o.toNat]? = some p ∧
    if (((p.toNat : Nat) : Int) == 10) = true
     then ((V17.l0 B R k) a c d f g i j l m (IntKind.wrap .i64 (n + 1)) (IntKind.wrap .i64 (o + 1)) w)
     else ((V17.l0 B R k) a c d f g i j l m n (IntKind.wrap .i64 (o + 1)) w))
    else (if (decide (a ≥ 1)) = true
     then (if (decide (a ≤ 4)) = true
      then (V17.b1 B R (IntKind.wrap .i64 (a + 4)) c d f g i j l m n w)
      else (V17.b1 B R a c d f g i j l m n w))
     else (V17.b1 B R a c d f g i j l m n w))
def V17.vc (B : Nat) (R : Value → World → Prop) (a : Option Addr) (c d : Nat) (f : Option Addr) (g i : Nat) (j l : Int) (w : World) : Prop :=
  CallK Tryd.prog 68 [.slice a c d] B w [] fun v m => 
  ∃ (n : Option Addr) (o p : Nat), v = .slice n o p ∧
  CallK Tryd.prog 68 [.slice f g i] B m [] fun q r => 
  ∃ (s : Option Addr) (t u : Nat), q = .slice s t u ∧
  Expo B r [] fun x => 
  let y := x.alloc (.cells ⟨[]⟩ 73);
  RunK Tryd.prog (Builtin.append_ #[70, 70] 70 ⟨[.slice (some ⟨x.heap.size, 0, none⟩) 0 0, .slice n o p]⟩) B y [] fun z A => 
  ∃ (C : Option Addr) (D E : Nat), z = .slice C D E ∧
  RunK Tryd.prog (Builtin.append_ #[70, 70] 70 ⟨[.slice C D E, .slice s t u]⟩) B A [] fun F G => 
  ∃ (I : Option Addr) (J L : Nat), F = .slice I J L ∧
  CallK Tryd.prog 71 [.slice I J L] B G [] fun M N => 
  ∃ O : ByteArray, M = .string O ∧
  ∃ P, V17.l0 B R P j l n o p s t u O 0 0 N
noncomputable def V17.cfg (B : Nat) : Cfg := ⟨Tryd.prog, ⟨95, B⟩, [], hasN [19, 68, 70, 71], hasN [], look []⟩
noncomputable def V17.code : Code := (Tryd.f17.body).getD .skip
noncomputable def V17.cuts (B : Nat) (R : Value → World → Prop) : Nat → Cut := nthC [⟨[(2, .one (.int .i64)), (3, .one (.int .u64)), (9, .one (.slice)), (10, .one (.slice)), (11, .one (.str)), (12, .one (.int .i64)), (13, .one (.int .i64))], [], fun fs vs bs w => V17.l0 B R (nthN fs 0) (iV (nthV vs 0)) (iV (nthV vs 1)) (slA (nthV vs 2)) (slL (nthV vs 2)) (slC (nthV vs 2)) (slA (nthV vs 3)) (slL (nthV vs 3)) (slC (nthV vs 3)) (sV (nthV vs 4)) (iV (nthV vs 5)) (iV (nthV vs 6)) w⟩,
  ⟨[(2, .one (.int .i64)), (3, .one (.int .u64)), (9, .one (.slice)), (10, .one (.slice)), (11, .one (.str)), (12, .one (.int .i64))], [], fun fs vs bs w => V17.b1 B R (iV (nthV vs 0)) (iV (nthV vs 1)) (slA (nthV vs 2)) (slL (nthV vs 2)) (slC (nthV vs 2)) (slA (nthV vs 3)) (slL (nthV vs 3)) (slC (nthV vs 3)) (sV (nthV vs 4)) (iV (nthV vs 5)) w⟩,
  ⟨[(3, .one (.int .u64)), (9, .one (.slice)), (10, .one (.slice)), (11, .one (.str)), (12, .one (.int .i64)), (14, .one (.str)), (15, .one (.str))], [], fun fs vs bs w => V17.b2 B R (iV (nthV vs 0)) (slA (nthV vs 1)) (slL (nthV vs 1)) (slC (nthV vs 1)) (slA (nthV vs 2)) (slL (nthV vs 2)) (slC (nthV vs 2)) (sV (nthV vs 3)) (iV (nthV vs 4)) (sV (nthV vs 5)) (sV (nthV vs 6)) w⟩]
noncomputable def V17.h : H := .s (.z) (.s (.z) (.s (.z) (.s (.z) (.s (.s (.z) (.b (.l 0 (.s (.s (.z) (.c (.z) (.z))) (.s (.b (.s (.z) (.c (.z) (.z)))) (.z)))))) (.cut 1 (.s (.z) (.c (.z) (.z))) (.s (.z) (.s (.z) (.cut 2 (.s (.z) (.b (.s (.z) (.c (.z) (.s (.z) (.c (.z) (.z))))))) (.s (.z) (.z))))))))))
theorem V17.vc_eq (B : Nat) (R : Value → World → Prop) (a : Option Addr) (c d : Nat) (f : Option Addr) (g i : Nat) (j l : Int) (w : World) : wpf (V17.cfg B) (V17.cuts B R) V17.code V17.h [] (postOf Tryd.prog B (Tryd.f17.results.toList) R) (argE 0 [.slice a c d, .slice f g i, .int .i64 j, .int .u64 l]) [] w = V17.vc B R a c d f g i j l w := by kernel_rfl
theorem V17.obl (B : Nat) (R : Value → World → Prop) : oblP (V17.cfg B) (V17.cuts B R) V17.code V17.h [] (postOf Tryd.prog B (Tryd.f17.results.toList) R) := by
  have e : oblP (V17.cfg B) (V17.cuts B R) V17.code V17.h [] (postOf Tryd.prog B (Tryd.f17.results.toList) R) = (True ∧ (True ∧ (True ∧ (True ∧ ((True ∧ ((∀ (a c : Int) (d : Option Addr) (f g : Nat) (i : Option Addr) (j l : Nat) (m : ByteArray) (n o : Int) (w : World), ¬ V17.l0 B R 0 a c d f g i j l m n o w) ∧ (∀ p, ∀ (a c : Int) (d : Option Addr) (f g : Nat) (i : Option Addr) (j l : Nat) (m : ByteArray) (n o : Int) (w : World), V17.l0 B R (p + 1) a c d f g i j l m n o w → V17.l0 B R (p + 1) a c d f g i j l m n o w) ∧ ∀ p : Nat, ((True ∧ (True ∧ True)) ∧ ((True ∧ (True ∧ True)) ∧ True)))) ∧ ((True ∧ (True ∧ True)) ∧ (∀ (a c : Int) (d : Option Addr) (f g : Nat) (i : Option Addr) (j l : Nat) (m : ByteArray) (n : Int) (w : World), V17.b1 B R a c d f g i j l m n w → V17.b1 B R a c d f g i j l m n w) ∧ (True ∧ (True ∧ ((True ∧ (True ∧ (True ∧ (True ∧ (True ∧ True))))) ∧ (∀ (c : Int) (d : Option Addr) (f g : Nat) (i : Option Addr) (j l : Nat) (m : ByteArray) (n : Int) (q r : ByteArray) (w : World), V17.b2 B R c d f g i j l m n q r w → V17.b2 B R c d f g i j l m n q r w) ∧ (True ∧ True)))))))))) := by kernel_rfl
  rw [e]
  exact ⟨trivial, ⟨trivial, ⟨trivial, ⟨trivial, ⟨⟨trivial, ⟨fun a c d f g i j l m n o w h => h, fun _ a c d f g i j l m n o w h => h, fun p => ⟨⟨trivial, ⟨trivial, trivial⟩⟩, ⟨⟨trivial, ⟨trivial, trivial⟩⟩, trivial⟩⟩⟩⟩, ⟨⟨trivial, ⟨trivial, trivial⟩⟩, fun a c d f g i j l m n w h => h, ⟨trivial, ⟨trivial, ⟨⟨trivial, ⟨trivial, ⟨trivial, ⟨trivial, ⟨trivial, trivial⟩⟩⟩⟩⟩, fun c d f g i j l m n q r w h => h, ⟨trivial, trivial⟩⟩⟩⟩⟩⟩⟩⟩⟩⟩
theorem V17.cfgOk (B : Nat) : CfgOk (V17.cfg B) := cfgOk_of (by kernel_rfl) (by kernel_rfl) extNil
theorem V17.sound {a : Option Addr} {d f : Nat} {g : Option Addr} {i j : Nat} {l m : Int} {w : World} {R : Value → World → Prop} (h : V17.vc w.heap.size R a d f g i j l m w) : Calls Tryd.prog 17 ⟨[.slice a d f, .slice g i j, .int .i64 l, .int .u64 m]⟩ w fun e w' => ∃ v, e = .returned v ∧ R v w' :=
  calls_wpfP (c := V17.cfg w.heap.size) (fn := Tryd.f17) (x := V17.code) (V17.cuts w.heap.size R) V17.h (V17.cfgOk _) mixed Tryd.func17 (by kernel_rfl) (by kernel_rfl) (by kernel_rfl) rfl (V17.obl _ _) ((V17.vc_eq _ _ a d f g i j l m _).symm ▸ h)
def V68.l0 (B : Nat) (R : Value → World → Prop) : Nat → Option Addr → Nat → Nat → Option Addr → Nat → Nat → Int → World → Prop
  | 0 => fun _ _ _ _ _ _ _ _ => False
  | k + 1 => fun a c d f g i j w =>
    if (decide (IntKind.wrap .i64 (j + 1) < (c : Int))) = true
    then (if (decide (j < 60)) = true
     then (∃ l : Addr, a = some l ∧ (0 : Int) ≤ j ∧ j < (c : Int) ∧
     ∃ m : Int, w.cell? (l.add j.toNat) = some (.int .u8 m) ∧ (8 : Int) ≠ 0 ∧
     ∃ n : Addr, a = some n ∧ (0 : Int) ≤ j ∧ j < (c : Int) ∧
     ∃ o : Int, w.cell? (n.add j.toNat) = some (.int .u8 o) ∧ (128 : Int) ≠ 0 ∧
     ∃ p : Addr, a = some p ∧ (0 : Int) ≤ IntKind.wrap .i64 (j + 1) ∧ IntKind.wrap .i64 (j + 1) < (c : Int) ∧
     ∃ q : Int, w.cell? (p.add ((IntKind.wrap .i64 (j + 1)).toNat)) = some (.int .u8 q) ∧
     CallK Tryd.prog 32 [.int .i64 (IntKind.wrap .i64 (IntKind.wrap .i64 q - 100))] B w [] fun v r => 
      ∃ s : Int, v = .int .u64 s ∧ r.cell? (n.add j.toNat) = some (.int .u8 o) ∧ r.cell? (l.add j.toNat) = some (.int .u8 m) ∧
      Expo B r [] fun t => 
      let u := t.alloc (.cells ⟨[.int .i64 (IntKind.wrap .i64 (Int.tmod (IntKind.wrap .i64 m) 8 - IntKind.wrap .i64 (Int.tdiv (IntKind.wrap .i64 o) 128))), .int .u64 s]⟩ 73);
      RunK Tryd.prog (Builtin.append_ #[70, 70] 70 ⟨[.slice f g i, .slice (some ⟨t.heap.size, 0, none⟩) 1 1]⟩) B u [] fun x y => 
      ∃ (z : Option Addr) (A C : Nat), x = .slice z A C ∧ (V68.l0 B R k) a c d z A C (IntKind.wrap .i64 (j + 2)) y)
     else (Ret B w (R (.slice f g i))))
    else (Ret B w (R (.slice f g i)))
def V68.vc (B : Nat) (R : Value → World → Prop) (a : Option Addr) (c d : Nat) (w : World) : Prop :=
  ∃ f, V68.l0 B R f a c d none 0 0 0 w
noncomputable def V68.cfg (B : Nat) : Cfg := ⟨Tryd.prog, ⟨42, B⟩, [], hasN [32], hasN [], look []⟩
noncomputable def V68.code : Code := (Tryd.f68.body).getD .skip
noncomputable def V68.cuts (B : Nat) (R : Value → World → Prop) : Nat → Cut := nthC [⟨[(0, .one (.slice)), (3, .one (.slice)), (4, .one (.int .i64))], [], fun fs vs bs w => V68.l0 B R (nthN fs 0) (slA (nthV vs 0)) (slL (nthV vs 0)) (slC (nthV vs 0)) (slA (nthV vs 1)) (slL (nthV vs 1)) (slC (nthV vs 1)) (iV (nthV vs 2)) w⟩]
noncomputable def V68.h : H := .s (.z) (.s (.z) (.s (.s (.z) (.b (.l 0 (.s (.s (.z) (.c (.z) (.z))) (.s (.b (.r [[0, 1, 2, 3, 4, 5, 6, 7, 8, 9, 10, 11, 12, 13, 14, 15, 16, 17, 18, 19, 20, 21, 22, 23, 24, 25]])) (.z)))))) (.s (.z) (.z))))
theorem V68.vc_eq (B : Nat) (R : Value → World → Prop) (a : Option Addr) (c d : Nat) (w : World) : wpf (V68.cfg B) (V68.cuts B R) V68.code V68.h [] (postOf Tryd.prog B (Tryd.f68.results.toList) R) (argE 0 [.slice a c d]) [] w = V68.vc B R a c d w := by kernel_rfl
theorem V68.obl (B : Nat) (R : Value → World → Prop) : oblP (V68.cfg B) (V68.cuts B R) V68.code V68.h [] (postOf Tryd.prog B (Tryd.f68.results.toList) R) := by
  have e : oblP (V68.cfg B) (V68.cuts B R) V68.code V68.h [] (postOf Tryd.prog B (Tryd.f68.results.toList) R) = (True ∧ (True ∧ ((True ∧ ((∀ (a : Option Addr) (c d : Nat) (f : Option Addr) (g i : Nat) (j : Int) (w : World), ¬ V68.l0 B R 0 a c d f g i j w) ∧ (∀ l, ∀ (a : Option Addr) (c d : Nat) (f : Option Addr) (g i : Nat) (j : Int) (w : World), V68.l0 B R (l + 1) a c d f g i j w → V68.l0 B R (l + 1) a c d f g i j w) ∧ ∀ l : Nat, ((True ∧ (True ∧ True)) ∧ ((true = true) ∧ True)))) ∧ (True ∧ True)))) := by kernel_rfl
  rw [e]
  exact ⟨trivial, ⟨trivial, ⟨⟨trivial, ⟨fun a c d f g i j w h => h, fun _ a c d f g i j w h => h, fun l => ⟨⟨trivial, ⟨trivial, trivial⟩⟩, ⟨rfl, trivial⟩⟩⟩⟩, ⟨trivial, trivial⟩⟩⟩⟩
theorem V68.cfgOk (B : Nat) : CfgOk (V68.cfg B) := cfgOk_of (by kernel_rfl) (by kernel_rfl) extNil
theorem V68.sound {a : Option Addr} {d f : Nat} {w : World} {R : Value → World → Prop} (h : V68.vc w.heap.size R a d f w) : Calls Tryd.prog 68 ⟨[.slice a d f]⟩ w fun e w' => ∃ v, e = .returned v ∧ R v w' :=
  calls_wpfP (c := V68.cfg w.heap.size) (fn := Tryd.f68) (x := V68.code) (V68.cuts w.heap.size R) V68.h (V68.cfgOk _) mixed Tryd.func68 (by kernel_rfl) (by kernel_rfl) (by kernel_rfl) rfl (V68.obl _ _) ((V68.vc_eq _ _ a d f _).symm ▸ h)
def V69.vc (B : Nat) (R : Value → World → Prop) (c : Option Addr) (d f : Nat) (g : Option Addr) (i j : Nat) (w : World) : Prop :=
  if (decide ((d : Int) ≤ (i : Int))) = true
  then ((0 : Int) ≤ (d : Int) ∧ (d : Int) ≤ (j : Int) ∧
  CallK Tryd.prog 102 [.slice c d f, .slice (if j = 0 then g else Option.map (fun a => a.add (0 * 2)) g) (((d : Int).toNat) - 0) (j - 0)] B w [] fun v l => 
   ∃ m : Bool, v = .bool m ∧
   Ret B l (R (.bool m)))
  else (Ret B w (R (.bool false)))
noncomputable def V69.cfg (B : Nat) : Cfg := ⟨Tryd.prog, ⟨18, B⟩, [], hasN [102], hasN [], look []⟩
noncomputable def V69.code : Code := (Tryd.f69.body).getD .skip
noncomputable def V69.cuts (B : Nat) (R : Value → World → Prop) : Nat → Cut := nthC []
noncomputable def V69.h : H := .s (.z) (.s (.z) (.z))
theorem V69.vc_eq (B : Nat) (R : Value → World → Prop) (a : Option Addr) (c d : Nat) (f : Option Addr) (g i : Nat) (w : World) : wpf (V69.cfg B) (V69.cuts B R) V69.code V69.h [] (postOf Tryd.prog B (Tryd.f69.results.toList) R) (argE 0 [.slice a c d, .slice f g i]) [] w = V69.vc B R a c d f g i w := by kernel_rfl
theorem V69.obl (B : Nat) (R : Value → World → Prop) : oblP (V69.cfg B) (V69.cuts B R) V69.code V69.h [] (postOf Tryd.prog B (Tryd.f69.results.toList) R) := by
  have e : oblP (V69.cfg B) (V69.cuts B R) V69.code V69.h [] (postOf Tryd.prog B (Tryd.f69.results.toList) R) = (True ∧ (True ∧ True)) := by kernel_rfl
  rw [e]
  exact ⟨trivial, ⟨trivial, trivial⟩⟩
theorem V69.cfgOk (B : Nat) : CfgOk (V69.cfg B) := cfgOk_of (by kernel_rfl) (by kernel_rfl) extNil
theorem V69.sound {a : Option Addr} {d f : Nat} {g : Option Addr} {i j : Nat} {w : World} {R : Value → World → Prop} (h : V69.vc w.heap.size R a d f g i j w) : Calls Tryd.prog 69 ⟨[.slice a d f, .slice g i j]⟩ w fun e w' => ∃ v, e = .returned v ∧ R v w' :=
  calls_wpfP (c := V69.cfg w.heap.size) (fn := Tryd.f69) (x := V69.code) (V69.cuts w.heap.size R) V69.h (V69.cfgOk _) mixed Tryd.func69 (by kernel_rfl) (by kernel_rfl) (by kernel_rfl) rfl (V69.obl _ _) ((V69.vc_eq _ _ a d f g i j _).symm ▸ h)
def V70.vc (B : Nat) (R : Value → World → Prop) (w : World) : Prop :=
  CallK Tryd.prog 32 [.int .i64 1] B w [] fun v a => 
  ∃ c : Int, v = .int .u64 c ∧
  Expo B a [] fun d => 
  let f := d.alloc (.cells ⟨[.int .i64 1, .int .u64 c, .int .i64 5, .int .u64 0]⟩ 73);
  CallK Tryd.prog 71 [.slice (some ⟨d.heap.size, 0, none⟩) 2 2] B f [] fun g i => 
  ∃ j : ByteArray, g = .string j ∧
  if (j.toList == ({ data := #[111, 117, 116, 32, 49, 10, 111, 111, 109, 10] } : ByteArray).toList) = true
  then (Expo B i [] fun l => 
   let m := l.alloc (.cells ⟨[.int .i64 5, .int .u64 0]⟩ 73);
   CallK Tryd.prog 69 [.slice none 0 0, .slice (some ⟨l.heap.size, 0, none⟩) 1 1] B m [] fun n o => 
   ∃ p : Bool, n = .bool p ∧
   Ret B o (R (.bool p)))
  else (Ret B i (R (.bool false)))
noncomputable def V70.cfg (B : Nat) : Cfg := ⟨Tryd.prog, ⟨12, B⟩, [], hasN [32, 69, 71], hasN [], look []⟩
noncomputable def V70.code : Code := (Tryd.f70.body).getD .skip
noncomputable def V70.cuts (B : Nat) (R : Value → World → Prop) : Nat → Cut := nthC []
noncomputable def V70.h : H := .s (.z) (.s (.z) (.z))
theorem V70.vc_eq (B : Nat) (R : Value → World → Prop)  (w : World) : wpf (V70.cfg B) (V70.cuts B R) V70.code V70.h [] (postOf Tryd.prog B (Tryd.f70.results.toList) R) (argE 0 []) [] w = V70.vc B R  w := by kernel_rfl
theorem V70.obl (B : Nat) (R : Value → World → Prop) : oblP (V70.cfg B) (V70.cuts B R) V70.code V70.h [] (postOf Tryd.prog B (Tryd.f70.results.toList) R) := by
  have e : oblP (V70.cfg B) (V70.cuts B R) V70.code V70.h [] (postOf Tryd.prog B (Tryd.f70.results.toList) R) = (True ∧ (True ∧ True)) := by kernel_rfl
  rw [e]
  exact ⟨trivial, ⟨trivial, trivial⟩⟩
theorem V70.cfgOk (B : Nat) : CfgOk (V70.cfg B) := cfgOk_of (by kernel_rfl) (by kernel_rfl) extNil
theorem V70.sound  {w : World} {R : Value → World → Prop} (h : V70.vc w.heap.size R  w) : Calls Tryd.prog 70 ⟨[]⟩ w fun e w' => ∃ v, e = .returned v ∧ R v w' :=
  calls_wpfP (c := V70.cfg w.heap.size) (fn := Tryd.f70) (x := V70.code) (V70.cuts w.heap.size R) V70.h (V70.cfgOk _) mixed Tryd.func70 (by kernel_rfl) (by kernel_rfl) (by kernel_rfl) rfl (V70.obl _ _) ((V70.vc_eq _ _  _).symm ▸ h)
def V71.l0 (B : Nat) (R : Value → World → Prop) : Nat → Addr → Option Addr → Nat → Nat → Int → Int → World → Prop
  | 0 => fun _ _ _ _ _ _ _ => False
  | k + 1 => fun a c d f g i w =>
    if (decide (i < g)) = true
    then (∃ j : Addr, c = some j ∧ (0 : Int) ≤ i ∧ i < (d : Int) ∧
    ∃ l : Int, w.cell? ((j.add (i.toNat * 2)).add 0) = some (.int .i64 l) ∧
    ∃ m : Int, w.cell? ((j.add (i.toNat * 2)).add 1) = some (.int .u64 m) ∧
    ∀ n : Nat, w.heap.size ≤ n →
    CallK Tryd.prog 103 [.int .i64 l] B w [n] fun v o => 
     ∃ (p : ByteArray) (q : Bool), v = .tuple ⟨[.string p, .bool q]⟩ ∧
     CallK Tryd.prog 104 [.pointer (some a), .string p] B o [n] fun r s => 
     ∃ (t : Int) (u : Value), r = .tuple ⟨[.int .i64 t, u]⟩ ∧ partV u fun x => 
     if q = true
     then (CallK Tryd.prog 19 [.int .u64 m] B s [n] fun y z => 
      ∃ A : ByteArray, y = .string A ∧ ({ data := #[32] } : ByteArray).size + A.size ≤ 9223372036854775807 ∧
      CallK Tryd.prog 104 [.pointer (some a), .string (({ data := #[32] } : ByteArray) ++ A)] B z [n] fun C D => 
      ∃ (E : Int) (F : Value), C = .tuple ⟨[.int .i64 E, F]⟩ ∧ partV F fun G => 
      CallK Tryd.prog 104 [.pointer (some a), .string ({ data := #[10] } : ByteArray)] B D [n] fun I J => 
      ∃ (L : Int) (M : Value), I = .tuple ⟨[.int .i64 L, M]⟩ ∧ partV M fun N => 
      (V71.l0 B R k) a c d f g (IntKind.wrap .i64 (i + 1)) J)
     else (CallK Tryd.prog 104 [.pointer (some a), .string ({ data := #[10] } : ByteArray)] B s [n] fun y z => 
      ∃ (L : Int) (M : Value), y = .tuple ⟨[.int .i64 L, M]⟩ ∧ partV M fun N => 
      (V71.l0 B R k) a c d f g (IntKind.wrap .i64 (i + 1)) z))
    else (CallK Tryd.prog 105 [.pointer (some a)] B w [] fun v o => 
     ∃ O : ByteArray, v = .string O ∧
     Ret B o (R (.string O)))
def V71.vc (B : Nat) (R : Value → World → Prop) (a : Option Addr) (c d : Nat) (w : World) : Prop :=
  Expo B w [] fun f => 
  let g := f.alloc (.cells ⟨[.pointer none, .slice none 0 0]⟩ 107);
  ∃ i, V71.l0 B R i (⟨f.heap.size, 0, none⟩) a c d (c : Int) 0 g
noncomputable def V71.cfg (B : Nat) : Cfg := ⟨Tryd.prog, ⟨31, B⟩, [3], hasN [19, 103, 104, 105], hasN [], look []⟩
noncomputable def V71.code : Code := (Tryd.f71.body).getD .skip
noncomputable def V71.cuts (B : Nat) (R : Value → World → Prop) : Nat → Cut := nthC [⟨[(3, .one (.ptr)), (8, .one (.slice)), (9, .one (.int .i64)), (10, .one (.int .i64))], [], fun fs vs bs w => V71.l0 B R (nthN fs 0) (pV (nthV vs 0)) (slA (nthV vs 1)) (slL (nthV vs 1)) (slC (nthV vs 1)) (iV (nthV vs 2)) (iV (nthV vs 3)) w⟩]
noncomputable def V71.h : H := .s (.z) (.s (.z) (.s (.s (.z) (.b (.l 0 (.s (.z) (.s (.c (.z) (.z)) (.s (.b (.s (.z) (.s (.z) (.s (.z) (.s (.s (.z) (.c (.z) (.z))) (.z)))))) (.z))))))) (.s (.z) (.z))))
theorem V71.vc_eq (B : Nat) (R : Value → World → Prop) (a : Option Addr) (c d : Nat) (w : World) : wpf (V71.cfg B) (V71.cuts B R) V71.code V71.h [] (postOf Tryd.prog B (Tryd.f71.results.toList) R) (argE 0 [.slice a c d]) [] w = V71.vc B R a c d w := by kernel_rfl
theorem V71.obl (B : Nat) (R : Value → World → Prop) : oblP (V71.cfg B) (V71.cuts B R) V71.code V71.h [] (postOf Tryd.prog B (Tryd.f71.results.toList) R) := by
  have e : oblP (V71.cfg B) (V71.cuts B R) V71.code V71.h [] (postOf Tryd.prog B (Tryd.f71.results.toList) R) = (True ∧ (True ∧ ((True ∧ ((∀ (a : Addr) (c : Option Addr) (d f : Nat) (g i : Int) (w : World), ¬ V71.l0 B R 0 a c d f g i w) ∧ (∀ j, ∀ (a : Addr) (c : Option Addr) (d f : Nat) (g i : Int) (w : World), V71.l0 B R (j + 1) a c d f g i w → V71.l0 B R (j + 1) a c d f g i w) ∧ ∀ j : Nat, (True ∧ ((True ∧ True) ∧ ((True ∧ (True ∧ (True ∧ ((True ∧ (True ∧ True)) ∧ True)))) ∧ True))))) ∧ (True ∧ True)))) := by kernel_rfl
  rw [e]
  exact ⟨trivial, ⟨trivial, ⟨⟨trivial, ⟨fun a c d f g i w h => h, fun _ a c d f g i w h => h, fun j => ⟨trivial, ⟨⟨trivial, trivial⟩, ⟨⟨trivial, ⟨trivial, ⟨trivial, ⟨⟨trivial, ⟨trivial, trivial⟩⟩, trivial⟩⟩⟩⟩, trivial⟩⟩⟩⟩⟩, ⟨trivial, trivial⟩⟩⟩⟩
theorem V71.cfgOk (B : Nat) : CfgOk (V71.cfg B) := cfgOk_of (by kernel_rfl) (by kernel_rfl) extNil
theorem V71.sound {a : Option Addr} {d f : Nat} {w : World} {R : Value → World → Prop} (h : V71.vc w.heap.size R a d f w) : Calls Tryd.prog 71 ⟨[.slice a d f]⟩ w fun e w' => ∃ v, e = .returned v ∧ R v w' :=
  calls_wpfP (c := V71.cfg w.heap.size) (fn := Tryd.f71) (x := V71.code) (V71.cuts w.heap.size R) V71.h (V71.cfgOk _) mixed Tryd.func71 (by kernel_rfl) (by kernel_rfl) (by kernel_rfl) rfl (V71.obl _ _) ((V71.vc_eq _ _ a d f _).symm ▸ h)
def V102.l0 (B : Nat) (R : Value → World → Prop) : Nat → Option Addr → Nat → Nat → Option Addr → Nat → Nat → Int → Int → World → Prop
  | 0 => fun _ _ _ _ _ _ _ _ _ => False
  | k + 1 => fun a c d f g i j l w =>
    if (decide (l < j)) = true
    then (∃ m : Addr, a = some m ∧ (0 : Int) ≤ l ∧ l < (c : Int) ∧
    ∃ n : Int, w.cell? ((m.add (l.toNat * 2)).add 0) = some (.int .i64 n) ∧
    ∃ o : Int, w.cell? ((m.add (l.toNat * 2)).add 1) = some (.int .u64 o) ∧
    ∃ p : Addr, f = some p ∧ (0 : Int) ≤ l ∧ l < (g : Int) ∧
    ∃ q : Int, w.cell? ((p.add (l.toNat * 2)).add 0) = some (.int .i64 q) ∧
    ∃ r : Int, w.cell? ((p.add (l.toNat * 2)).add 1) = some (.int .u64 r) ∧
    if (!((n == q) && (o == r))) = true
     then (Ret B w (R (.bool false)))
     else ((V102.l0 B R k) a c d f g i j (IntKind.wrap .i64 (l + 1)) w))
    else (Ret B w (R (.bool true)))
def V102.vc (B : Nat) (R : Value → World → Prop) (a : Option Addr) (c d : Nat) (f : Option Addr) (g i : Nat) (w : World) : Prop :=
  if ((c : Int) != (g : Int)) = true
  then (Ret B w (R (.bool false)))
  else (∃ j, V102.l0 B R j a c d f g i (c : Int) 0 w)
noncomputable def V102.cfg (B : Nat) : Cfg := ⟨Tryd.prog, ⟨26, B⟩, [], hasN [], hasN [73], look []⟩
noncomputable def V102.code : Code := (Tryd.f102.body).getD .skip
noncomputable def V102.cuts (B : Nat) (R : Value → World → Prop) : Nat → Cut := nthC [⟨[(0, .one (.slice)), (1, .one (.slice)), (12, .one (.int .i64)), (13, .one (.int .i64))], [], fun fs vs bs w => V102.l0 B R (nthN fs 0) (slA (nthV vs 0)) (slL (nthV vs 0)) (slC (nthV vs 0)) (slA (nthV vs 1)) (slL (nthV vs 1)) (slC (nthV vs 1)) (iV (nthV vs 2)) (iV (nthV vs 3)) w⟩]
noncomputable def V102.h : H := .s (.z) (.s (.s (.z) (.c (.s (.z) (.z)) (.z))) (.s (.s (.z) (.b (.l 0 (.s (.z) (.s (.c (.z) (.z)) (.s (.b (.s (.z) (.s (.r [[0, 1, 2, 3, 4, 5, 6, 7, 8]]) (.c (.s (.z) (.z)) (.z))))) (.z))))))) (.s (.z) (.z))))
theorem V102.vc_eq (B : Nat) (R : Value → World → Prop) (a : Option Addr) (c d : Nat) (f : Option Addr) (g i : Nat) (w : World) : wpf (V102.cfg B) (V102.cuts B R) V102.code V102.h [] (postOf Tryd.prog B (Tryd.f102.results.toList) R) (argE 0 [.slice a c d, .slice f g i]) [] w = V102.vc B R a c d f g i w := by kernel_rfl
theorem V102.obl (B : Nat) (R : Value → World → Prop) : oblP (V102.cfg B) (V102.cuts B R) V102.code V102.h [] (postOf Tryd.prog B (Tryd.f102.results.toList) R) := by
  have e : oblP (V102.cfg B) (V102.cuts B R) V102.code V102.h [] (postOf Tryd.prog B (Tryd.f102.results.toList) R) = (True ∧ ((True ∧ ((True ∧ True) ∧ True)) ∧ ((True ∧ ((∀ (a : Option Addr) (c d : Nat) (f : Option Addr) (g i : Nat) (j l : Int) (w : World), ¬ V102.l0 B R 0 a c d f g i j l w) ∧ (∀ m, ∀ (a : Option Addr) (c d : Nat) (f : Option Addr) (g i : Nat) (j l : Int) (w : World), V102.l0 B R (m + 1) a c d f g i j l w → V102.l0 B R (m + 1) a c d f g i j l w) ∧ ∀ m : Nat, (True ∧ ((True ∧ True) ∧ ((True ∧ ((true = true) ∧ ((True ∧ True) ∧ True))) ∧ True))))) ∧ (True ∧ True)))) := by kernel_rfl
  rw [e]
  exact ⟨trivial, ⟨⟨trivial, ⟨⟨trivial, trivial⟩, trivial⟩⟩, ⟨⟨trivial, ⟨fun a c d f g i j l w h => h, fun _ a c d f g i j l w h => h, fun m => ⟨trivial, ⟨⟨trivial, trivial⟩, ⟨⟨trivial, ⟨rfl, ⟨⟨trivial, trivial⟩, trivial⟩⟩⟩, trivial⟩⟩⟩⟩⟩, ⟨trivial, trivial⟩⟩⟩⟩
theorem V102.cfgOk (B : Nat) : CfgOk (V102.cfg B) := cfgOk_of (by kernel_rfl) (by kernel_rfl) extNil
theorem V102.sound {a : Option Addr} {d f : Nat} {g : Option Addr} {i j : Nat} {w : World} {R : Value → World → Prop} (h : V102.vc w.heap.size R a d f g i j w) : Calls Tryd.prog 102 ⟨[.slice a d f, .slice g i j]⟩ w fun e w' => ∃ v, e = .returned v ∧ R v w' :=
  calls_wpfP (c := V102.cfg w.heap.size) (fn := Tryd.f102) (x := V102.code) (V102.cuts w.heap.size R) V102.h (V102.cfgOk _) mixed Tryd.func102 (by kernel_rfl) (by kernel_rfl) (by kernel_rfl) rfl (V102.obl _ _) ((V102.vc_eq _ _ a d f g i j _).symm ▸ h)
def V103.vc (B : Nat) (R : Value → World → Prop) (a : Int) (w : World) : Prop :=
  if (a == 1) = true
  then (Ret B w (R (.tuple ⟨[.string ({ data := #[111, 117, 116] } : ByteArray), .bool true]⟩)))
  else (if (a == 2) = true
   then (Ret B w (R (.tuple ⟨[.string ({ data := #[103, 111, 116] } : ByteArray), .bool true]⟩)))
   else (if (a == 3) = true
    then (Ret B w (R (.tuple ⟨[.string ({ data := #[100, 111, 110, 101] } : ByteArray), .bool true]⟩)))
    else (if (a == 4) = true
     then (Ret B w (R (.tuple ⟨[.string ({ data := #[102, 101, 108, 108] } : ByteArray), .bool true]⟩)))
     else (if (a == 5) = true
      then (Ret B w (R (.tuple ⟨[.string ({ data := #[111, 111, 109] } : ByteArray), .bool false]⟩)))
      else (if (a == 6) = true
       then (Ret B w (R (.tuple ⟨[.string ({ data := #[108, 105, 109, 105, 116] } : ByteArray), .bool false]⟩)))
       else (Ret B w (R (.tuple ⟨[.string ({ data := #[63] } : ByteArray), .bool false]⟩))))))))
noncomputable def V103.cfg (B : Nat) : Cfg := ⟨Tryd.prog, ⟨17, B⟩, [], hasN [], hasN [], look []⟩
noncomputable def V103.code : Code := (Tryd.f103.body).getD .skip
noncomputable def V103.cuts (B : Nat) (R : Value → World → Prop) : Nat → Cut := nthC []
noncomputable def V103.h : H := .s (.z) (.s (.s (.z) (.b (.s (.z) (.c (.s (.z) (.z)) (.s (.z) (.c (.s (.z) (.z)) (.s (.z) (.c (.s (.z) (.z)) (.s (.z) (.c (.s (.z) (.z)) (.s (.z) (.c (.s (.z) (.z)) (.s (.z) (.c (.s (.z) (.z)) (.z))))))))))))))) (.s (.z) (.z)))
theorem V103.vc_eq (B : Nat) (R : Value → World → Prop) (a : Int) (w : World) : wpf (V103.cfg B) (V103.cuts B R) V103.code V103.h [] (postOf Tryd.prog B (Tryd.f103.results.toList) R) (argE 0 [.int .i64 a]) [] w = V103.vc B R a w := by kernel_rfl
theorem V103.obl (B : Nat) (R : Value → World → Prop) : oblP (V103.cfg B) (V103.cuts B R) V103.code V103.h [] (postOf Tryd.prog B (Tryd.f103.results.toList) R) := by
  have e : oblP (V103.cfg B) (V103.cuts B R) V103.code V103.h [] (postOf Tryd.prog B (Tryd.f103.results.toList) R) = (True ∧ ((True ∧ (True ∧ ((True ∧ True) ∧ (True ∧ ((True ∧ True) ∧ (True ∧ ((True ∧ True) ∧ (True ∧ ((True ∧ True) ∧ (True ∧ ((True ∧ True) ∧ (True ∧ ((True ∧ True) ∧ True))))))))))))) ∧ (True ∧ True))) := by kernel_rfl
  rw [e]
  exact ⟨trivial, ⟨⟨trivial, ⟨trivial, ⟨⟨trivial, trivial⟩, ⟨trivial, ⟨⟨trivial, trivial⟩, ⟨trivial, ⟨⟨trivial, trivial⟩, ⟨trivial, ⟨⟨trivial, trivial⟩, ⟨trivial, ⟨⟨trivial, trivial⟩, ⟨trivial, ⟨⟨trivial, trivial⟩, trivial⟩⟩⟩⟩⟩⟩⟩⟩⟩⟩⟩⟩⟩, ⟨trivial, trivial⟩⟩⟩
theorem V103.cfgOk (B : Nat) : CfgOk (V103.cfg B) := cfgOk_of (by kernel_rfl) (by kernel_rfl) extNil
theorem V103.sound {a : Int} {w : World} {R : Value → World → Prop} (h : V103.vc w.heap.size R a w) : Calls Tryd.prog 103 ⟨[.int .i64 a]⟩ w fun e w' => ∃ v, e = .returned v ∧ R v w' :=
  calls_wpfP (c := V103.cfg w.heap.size) (fn := Tryd.f103) (x := V103.code) (V103.cuts w.heap.size R) V103.h (V103.cfgOk _) mixed Tryd.func103 (by kernel_rfl) (by kernel_rfl) (by kernel_rfl) rfl (V103.obl _ _) ((V103.vc_eq _ _ a _).symm ▸ h)
def V104.vc (B : Nat) (R : Value → World → Prop) (a : Addr) (c : ByteArray) (w : World) : Prop :=
  CallK Tryd.prog 134 [.pointer (some a)] B w [] fun v d => 
  v = .tuple ⟨[]⟩ ∧
  ∃ (f : Option Addr) (g i : Nat), d.cell? (a.add 1) = some (.slice f g i) ∧
  RunK Tryd.prog (Builtin.append_ #[48, 9] 48 ⟨[.slice f g i, .string c]⟩) B d [] fun j l => 
  ∃ (m : Option Addr) (n o : Nat), j = .slice m n o ∧
  (∃ u, l.cell? ((a.add 1).add 0) = some u) ∧ l.frozen? ((a.add 1).add 0) = false ∧
  let p := l.setCell ((a.add 1).add 0) (.slice m n o);
  Ret B p (R (.tuple ⟨[.int .i64 ((c.size : Nat) : Int), Go.Value.nilIface]⟩))
noncomputable def V104.cfg (B : Nat) : Cfg := ⟨Tryd.prog, ⟨19, B⟩, [], hasN [134], hasN [], look []⟩
noncomputable def V104.code : Code := (Tryd.f104.body).getD .skip
noncomputable def V104.cuts (B : Nat) (R : Value → World → Prop) : Nat → Cut := nthC []
noncomputable def V104.h : H := .s (.z) (.s (.z) (.s (.z) (.s (.z) (.z))))
theorem V104.vc_eq (B : Nat) (R : Value → World → Prop) (a : Addr) (c : ByteArray) (w : World) : wpf (V104.cfg B) (V104.cuts B R) V104.code V104.h [] (postOf Tryd.prog B (Tryd.f104.results.toList) R) (argE 0 [.pointer (some a), .string c]) [] w = V104.vc B R a c w := by kernel_rfl
theorem V104.obl (B : Nat) (R : Value → World → Prop) : oblP (V104.cfg B) (V104.cuts B R) V104.code V104.h [] (postOf Tryd.prog B (Tryd.f104.results.toList) R) := by
  have e : oblP (V104.cfg B) (V104.cuts B R) V104.code V104.h [] (postOf Tryd.prog B (Tryd.f104.results.toList) R) = (True ∧ (True ∧ (True ∧ (True ∧ True)))) := by kernel_rfl
  rw [e]
  exact ⟨trivial, ⟨trivial, ⟨trivial, ⟨trivial, trivial⟩⟩⟩⟩
theorem V104.cfgOk (B : Nat) : CfgOk (V104.cfg B) := cfgOk_of (by kernel_rfl) (by kernel_rfl) extNil
theorem V104.sound {a : Addr} {d : ByteArray} {w : World} {R : Value → World → Prop} (h : V104.vc w.heap.size R a d w) : Calls Tryd.prog 104 ⟨[.pointer (some a), .string d]⟩ w fun e w' => ∃ v, e = .returned v ∧ R v w' :=
  calls_wpfP (c := V104.cfg w.heap.size) (fn := Tryd.f104) (x := V104.code) (V104.cuts w.heap.size R) V104.h (V104.cfgOk _) mixed Tryd.func104 (by kernel_rfl) (by kernel_rfl) (by kernel_rfl) rfl (V104.obl _ _) ((V104.vc_eq _ _ a d _).symm ▸ h)
end Go.Proofs.YtofblkmibghmbaaDoor
