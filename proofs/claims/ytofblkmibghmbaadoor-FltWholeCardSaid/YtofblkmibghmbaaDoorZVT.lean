/-
  What the engine makes of the loaded functions 19, 34, 84, 21, 37, 79, 167, 168, 180: conditions under which a call returns as told, and proofs of that.
  Conditions: none. Printed by a program of this project.
-/
import Derived.Test.YtofblkmibghmbaaDoorZVF
set_option linter.unusedVariables false
set_option maxRecDepth 100000
namespace Go.Proofs.YtofblkmibghmbaaDoor
def V19.l2 (B : Nat) (R : Value → World → Prop) : Nat → ByteArray → World → Prop
  | 0 => fun _ _ => False
  | k + 1 => fun a w =>
    if (decide (((a.size : Nat) : Int) < 16)) = true
    then (({ data := #[48] } : ByteArray).size + a.size ≤ 9223372036854775807 ∧ (V19.l2 B R k) (({ data := #[48] } : ByteArray) ++ a) w)
    else (({ data := #[48, 120] } : ByteArray).size + a.size ≤ 9223372036854775807 ∧
    Ret B w (R (.string (({ data := #[48, 120] } : ByteArray) ++ a))))
def V19.b1 (B : Nat) (R : Value → World → Prop) (a : Int) (w : World) : Prop :=
  CallK Tryd.prog 79 [.int .u64 a, .int .i64 16] B w [] fun v c => 
  ∃ d : ByteArray, v = .string d ∧
  ∃ f, V19.l2 B R f d c
def V19.b0 (B : Nat) (R : Value → World → Prop) (a : Int) (c : Nat) (d : Bool) (w : World) : Prop :=
  if d = true
  then (Ret B w (R (.string ({ data := #[45, 48] } : ByteArray))))
  else (CallK Tryd.prog 76 [.float .f64 c] B w [] fun v f => 
   ∃ g : Nat, v = .float .f64 g ∧
   if (FloatKind.f64.format.order c g == some .eq) = true
   then (CallK Tryd.prog 77 [.float .f64 c] B f [] fun i j => 
    ∃ l : Nat, i = .float .f64 l ∧
    if (FloatKind.f64.format.order l 4845873199050653696 == some .lt) = true
    then (RunK Tryd.prog (Go.convert 29 3 (.float .f64 c)) B j [] fun m n => 
     ∃ o : Int, m = .int .i64 o ∧
     CallK Tryd.prog 78 [.int .i64 o] B n [] fun p q => 
     ∃ r : ByteArray, p = .string r ∧
     Ret B q (R (.string r)))
    else (V19.b1 B R a j))
   else (V19.b1 B R a f))
def V19.vc (B : Nat) (R : Value → World → Prop) (a : Int) (w : World) : Prop :=
  CallK Tryd.prog 24 [.int .u64 a] B w [] fun v c => 
  ∃ d : Nat, v = .float .f64 d ∧
  CallK Tryd.prog 73 [.float .f64 d] B c [] fun f g => 
  ∃ i : Bool, f = .bool i ∧
  if i = true
  then (Ret B g (R (.string ({ data := #[110, 97, 110] } : ByteArray))))
  else (CallK Tryd.prog 74 [.float .f64 d, .int .i64 1] B g [] fun j l => 
   ∃ m : Bool, j = .bool m ∧
   if m = true
   then (Ret B l (R (.string ({ data := #[105, 110, 102] } : ByteArray))))
   else (CallK Tryd.prog 74 [.float .f64 d, .int .i64 (-1)] B l [] fun n o => 
    ∃ p : Bool, n = .bool p ∧
    if p = true
    then (Ret B o (R (.string ({ data := #[45, 105, 110, 102] } : ByteArray))))
    else (if (FloatKind.f64.format.order d 0 == some .eq) = true
     then (CallK Tryd.prog 75 [.float .f64 d] B o [] fun q r => 
      ∃ s : Bool, q = .bool s ∧
      V19.b0 B R a d s r)
     else (V19.b0 B R a d false o))))
noncomputable def V19.cfg (B : Nat) : Cfg := ⟨Tryd.prog, ⟨45, B⟩, [], hasN [24, 73, 74, 75, 76, 77, 78, 79], hasN [], look []⟩
noncomputable def V19.code : Code := (Tryd.f19.body).getD .skip
noncomputable def V19.cuts (B : Nat) (R : Value → World → Prop) : Nat → Cut := nthC [⟨[(0, .one (.int .u64)), (3, .one (.float .f64)), (16, .one (.bool))], [], fun fs vs bs w => V19.b0 B R (iV (nthV vs 0)) (fV (nthV vs 1)) (bV (nthV vs 2)) w⟩,
  ⟨[(0, .one (.int .u64))], [], fun fs vs bs w => V19.b1 B R (iV (nthV vs 0)) w⟩,
  ⟨[(4, .one (.str))], [], fun fs vs bs w => V19.l2 B R (nthN fs 0) (sV (nthV vs 0)) w⟩]
noncomputable def V19.h : H := .s (.z) (.s (.z) (.cut 1 (.b (.s (.z) (.c (.s (.z) (.z)) (.s (.z) (.c (.s (.z) (.z)) (.s (.z) (.c (.s (.z) (.z)) (.cut 0 (.z) (.c (.s (.z) (.z)) (.s (.z) (.c (.s (.z) (.z)) (.z)))))))))))) (.s (.z) (.s (.b (.l 2 (.s (.s (.z) (.c (.z) (.z))) (.b (.z))))) (.s (.z) (.z))))))
theorem V19.vc_eq (B : Nat) (R : Value → World → Prop) (a : Int) (w : World) : wpf (V19.cfg B) (V19.cuts B R) V19.code V19.h [] (postOf Tryd.prog B (Tryd.f19.results.toList) R) (argE 0 [.int .u64 a]) [] w = V19.vc B R a w := by kernel_rfl
theorem V19.obl (B : Nat) (R : Value → World → Prop) : oblP (V19.cfg B) (V19.cuts B R) V19.code V19.h [] (postOf Tryd.prog B (Tryd.f19.results.toList) R) := by
  have e : oblP (V19.cfg B) (V19.cuts B R) V19.code V19.h [] (postOf Tryd.prog B (Tryd.f19.results.toList) R) = (True ∧ (True ∧ ((True ∧ ((True ∧ True) ∧ (True ∧ ((True ∧ True) ∧ (True ∧ ((True ∧ True) ∧ (True ∧ (∀ (a : Int) (c : Nat) (d : Bool) (w : World), V19.b0 B R a c d w → V19.b0 B R a c d w) ∧ ((True ∧ True) ∧ (True ∧ ((True ∧ True) ∧ True)))))))))) ∧ (∀ (a : Int) (w : World), V19.b1 B R a w → V19.b1 B R a w) ∧ (True ∧ (((∀ (f : ByteArray) (w : World), ¬ V19.l2 B R 0 f w) ∧ (∀ g, ∀ (f : ByteArray) (w : World), V19.l2 B R (g + 1) f w → V19.l2 B R (g + 1) f w) ∧ ∀ g : Nat, ((True ∧ (True ∧ True)) ∧ True)) ∧ (True ∧ True)))))) := by kernel_rfl
  rw [e]
  exact ⟨trivial, ⟨trivial, ⟨⟨trivial, ⟨⟨trivial, trivial⟩, ⟨trivial, ⟨⟨trivial, trivial⟩, ⟨trivial, ⟨⟨trivial, trivial⟩, ⟨trivial, fun a c d w h => h, ⟨⟨trivial, trivial⟩, ⟨trivial, ⟨⟨trivial, trivial⟩, trivial⟩⟩⟩⟩⟩⟩⟩⟩⟩⟩, fun a w h => h, ⟨trivial, ⟨⟨fun f w h => h, fun _ f w h => h, fun g => ⟨⟨trivial, ⟨trivial, trivial⟩⟩, trivial⟩⟩, ⟨trivial, trivial⟩⟩⟩⟩⟩⟩
theorem V19.cfgOk (B : Nat) : CfgOk (V19.cfg B) := cfgOk_of (by kernel_rfl) (by kernel_rfl) extNil
theorem V19.sound {a : Int} {w : World} {R : Value → World → Prop} (h : V19.vc w.heap.size R a w) : Calls Tryd.prog 19 ⟨[.int .u64 a]⟩ w fun e w' => ∃ v, e = .returned v ∧ R v w' :=
  calls_wpfP (c := V19.cfg w.heap.size) (fn := Tryd.f19) (x := V19.code) (V19.cuts w.heap.size R) V19.h (V19.cfgOk _) mixed Tryd.func19 (by kernel_rfl) (by kernel_rfl) (by kernel_rfl) rfl (V19.obl _ _) ((V19.vc_eq _ _ a _).symm ▸ h)
def V21.vc (B : Nat) (R : Value → World → Prop) (w : World) : Prop :=
  CallK Tryd.prog 32 [.int .i64 (-7)] B w [] fun v a => 
  ∃ c : Int, v = .int .u64 c ∧
  CallK Tryd.prog 19 [.int .u64 c] B a [] fun d f => 
  ∃ g : ByteArray, d = .string g ∧
  if (g.toList == ({ data := #[45, 55] } : ByteArray).toList) = true
  then (CallK Tryd.prog 32 [.int .i64 0] B f [] fun i j => 
   ∃ l : Int, i = .int .u64 l ∧
   CallK Tryd.prog 32 [.int .i64 0] B j [] fun m n => 
   ∃ o : Int, m = .int .u64 o ∧
   CallK Tryd.prog 41 [.int .u64 l, .int .u64 o] B n [] fun p q => 
   ∃ r : Int, p = .int .u64 r ∧
   CallK Tryd.prog 19 [.int .u64 r] B q [] fun s t => 
   ∃ u : ByteArray, s = .string u ∧
   if (u.toList == ({ data := #[110, 97, 110] } : ByteArray).toList) = true
   then (CallK Tryd.prog 32 [.int .i64 0] B t [] fun x y => 
    ∃ z : Int, x = .int .u64 z ∧
    CallK Tryd.prog 22 [.int .u64 z] B y [] fun A C => 
    ∃ D : Int, A = .int .u64 D ∧
    CallK Tryd.prog 19 [.int .u64 D] B C [] fun E F => 
    ∃ G : ByteArray, E = .string G ∧
    if (G.toList == ({ data := #[45, 48] } : ByteArray).toList) = true
    then (CallK Tryd.prog 32 [.int .i64 1] B F [] fun I J => 
     ∃ L : Int, I = .int .u64 L ∧
     CallK Tryd.prog 32 [.int .i64 2] B J [] fun M N => 
     ∃ O : Int, M = .int .u64 O ∧
     CallK Tryd.prog 41 [.int .u64 L, .int .u64 O] B N [] fun P Q => 
     ∃ S : Int, P = .int .u64 S ∧
     CallK Tryd.prog 19 [.int .u64 S] B Q [] fun T U => 
     ∃ W : ByteArray, T = .string W ∧
     Ret B U (R (.bool (W.toList == ({ data := #[48, 120, 51, 102, 101, 48, 48, 48, 48, 48, 48, 48, 48, 48, 48, 48, 48, 48] } : ByteArray).toList))))
    else (Ret B F (R (.bool false))))
   else (Ret B t (R (.bool false))))
  else (Ret B f (R (.bool false)))
noncomputable def V21.cfg (B : Nat) : Cfg := ⟨Tryd.prog, ⟨24, B⟩, [], hasN [19, 22, 32, 41], hasN [], look []⟩
noncomputable def V21.code : Code := (Tryd.f21.body).getD .skip
noncomputable def V21.cuts (B : Nat) (R : Value → World → Prop) : Nat → Cut := nthC []
noncomputable def V21.h : H := .s (.z) (.s (.z) (.z))
theorem V21.vc_eq (B : Nat) (R : Value → World → Prop)  (w : World) : wpf (V21.cfg B) (V21.cuts B R) V21.code V21.h [] (postOf Tryd.prog B (Tryd.f21.results.toList) R) (argE 0 []) [] w = V21.vc B R  w := by kernel_rfl
theorem V21.obl (B : Nat) (R : Value → World → Prop) : oblP (V21.cfg B) (V21.cuts B R) V21.code V21.h [] (postOf Tryd.prog B (Tryd.f21.results.toList) R) := by
  have e : oblP (V21.cfg B) (V21.cuts B R) V21.code V21.h [] (postOf Tryd.prog B (Tryd.f21.results.toList) R) = (True ∧ (True ∧ True)) := by kernel_rfl
  rw [e]
  exact ⟨trivial, ⟨trivial, trivial⟩⟩
theorem V21.cfgOk (B : Nat) : CfgOk (V21.cfg B) := cfgOk_of (by kernel_rfl) (by kernel_rfl) extNil
theorem V21.sound  {w : World} {R : Value → World → Prop} (h : V21.vc w.heap.size R  w) : Calls Tryd.prog 21 ⟨[]⟩ w fun e w' => ∃ v, e = .returned v ∧ R v w' :=
  calls_wpfP (c := V21.cfg w.heap.size) (fn := Tryd.f21) (x := V21.code) (V21.cuts w.heap.size R) V21.h (V21.cfgOk _) mixed Tryd.func21 (by kernel_rfl) (by kernel_rfl) (by kernel_rfl) rfl (V21.obl _ _) ((V21.vc_eq _ _  _).symm ▸ h)
def V37.l3 (B : Nat) (R : Value → World → Prop) : Nat → ByteArray → Bool → Int → Int → World → Prop
  | 0 => fun _ _ _ _ _ => False
  | k + 1 => fun a c d f w =>
    if (decide (f < ((a.size : Nat) : Int))) = true
    then (∃ g : UInt8, (0 : Int) ≤ f ∧ a[f.toNat]? = some g ∧
    if (decide (((g.toNat : Nat) : Int) < 48)) = false
     then (∃ i : UInt8, (0 : Int) ≤ f ∧ a[f.toNat]? = some i ∧
     if (decide (((i.toNat : Nat) : Int) > 57)) = true
      then (Ret B w (R (.tuple ⟨[.int .i64 0, .bool false]⟩)))
      else (∃ j : UInt8, (0 : Int) ≤ f ∧ a[f.toNat]? = some j ∧ (V37.l3 B R k) a c (IntKind.wrap .i64 (IntKind.wrap .i64 (d * 10) + IntKind.wrap .i64 (IntKind.wrap .u8 (((j.toNat : Nat) : Int) - 48)))) (IntKind.wrap .i64 (f + 1)) w))
     else (Ret B w (R (.tuple ⟨[.int .i64 0, .bool false]⟩))))
    else (if c = true
     then (Ret B w (R (.tuple ⟨[.int .i64 (IntKind.wrap .i64 (0 - d)), .bool (decide (d > 0))]⟩)))
     else (Ret B w (R (.tuple ⟨[.int .i64 d, .bool true]⟩))))
def V37.b2 (B : Nat) (R : Value → World → Prop) (a : ByteArray) (c : Bool) (w : World) : Prop :=
  ∃ d, V37.l3 B R d a c 0 0 w
def V37.b1 (B : Nat) (R : Value → World → Prop) (a : ByteArray) (c : Bool) (w : World) : Prop :=
  if (decide (((a.size : Nat) : Int) < 1)) = false
  then (if (decide (((a.size : Nat) : Int) > 16)) = false
   then (if (decide (((a.size : Nat) : Int) > 1)) = true
    then (∃ d : UInt8, (0 : Int) ≤ 0 ∧ a[0]? = some d ∧
    if (((d.toNat : Nat) : Int) == 48) = true
     then (Ret B w (R (.tuple ⟨[.int .i64 0, .bool false]⟩)))
     else (V37.b2 B R a c w))
    else (V37.b2 B R a c w))
   else (Ret B w (R (.tuple ⟨[.int .i64 0, .bool false]⟩))))
  else (Ret B w (R (.tuple ⟨[.int .i64 0, .bool false]⟩)))
def V37.b0 (B : Nat) (R : Value → World → Prop) (a : ByteArray) (c : Bool) (w : World) : Prop :=
  if c = true
  then ((0 : Int) ≤ 1 ∧ (1 : Int) ≤ ((a.size : Nat) : Int) ∧
  V37.b1 B R (a.extract 1 a.size) c w)
  else (V37.b1 B R a c w)
def V37.vc (B : Nat) (R : Value → World → Prop) (a : ByteArray) (w : World) : Prop :=
  if (decide (((a.size : Nat) : Int) > 0)) = true
  then (∃ c : UInt8, (0 : Int) ≤ 0 ∧ a[0]? = some c ∧
  V37.b0 B R a (((c.toNat : Nat) : Int) == 45) w)
  else (V37.b0 B R a false w)
noncomputable def V37.cfg (B : Nat) : Cfg := ⟨Tryd.prog, ⟨66, B⟩, [], hasN [], hasN [], look []⟩
noncomputable def V37.code : Code := (Tryd.f37.body).getD .skip
noncomputable def V37.cuts (B : Nat) (R : Value → World → Prop) : Nat → Cut := nthC [⟨[(0, .one (.str)), (4, .one (.bool))], [], fun fs vs bs w => V37.b0 B R (sV (nthV vs 0)) (bV (nthV vs 1)) w⟩,
  ⟨[(0, .one (.str)), (4, .one (.bool))], [], fun fs vs bs w => V37.b1 B R (sV (nthV vs 0)) (bV (nthV vs 1)) w⟩,
  ⟨[(0, .one (.str)), (4, .one (.bool))], [], fun fs vs bs w => V37.b2 B R (sV (nthV vs 0)) (bV (nthV vs 1)) w⟩,
  ⟨[(0, .one (.str)), (4, .one (.bool)), (5, .one (.int .i64)), (6, .one (.int .i64))], [], fun fs vs bs w => V37.l3 B R (nthN fs 0) (sV (nthV vs 0)) (bV (nthV vs 1)) (iV (nthV vs 2)) (iV (nthV vs 3)) w⟩]
noncomputable def V37.h : H := .s (.z) (.cut 0 (.z) (.cut 1 (.s (.z) (.c (.z) (.z))) (.cut 2 (.s (.z) (.c (.s (.z) (.z)) (.z))) (.s (.z) (.s (.s (.z) (.b (.l 3 (.s (.s (.z) (.c (.z) (.z))) (.s (.b (.s (.s (.z) (.c (.s (.z) (.z)) (.z))) (.z))) (.z)))))) (.s (.s (.z) (.c (.s (.z) (.z)) (.z))) (.s (.z) (.z))))))))
theorem V37.vc_eq (B : Nat) (R : Value → World → Prop) (a : ByteArray) (w : World) : wpf (V37.cfg B) (V37.cuts B R) V37.code V37.h [] (postOf Tryd.prog B (Tryd.f37.results.toList) R) (argE 0 [.string a]) [] w = V37.vc B R a w := by kernel_rfl
theorem V37.obl (B : Nat) (R : Value → World → Prop) : oblP (V37.cfg B) (V37.cuts B R) V37.code V37.h [] (postOf Tryd.prog B (Tryd.f37.results.toList) R) := by
  have e : oblP (V37.cfg B) (V37.cuts B R) V37.code V37.h [] (postOf Tryd.prog B (Tryd.f37.results.toList) R) = (True ∧ (True ∧ (∀ (a : ByteArray) (c : Bool) (w : World), V37.b0 B R a c w → V37.b0 B R a c w) ∧ ((True ∧ (True ∧ True)) ∧ (∀ (a : ByteArray) (c : Bool) (w : World), V37.b1 B R a c w → V37.b1 B R a c w) ∧ ((True ∧ ((True ∧ True) ∧ True)) ∧ (∀ (a : ByteArray) (c : Bool) (w : World), V37.b2 B R a c w → V37.b2 B R a c w) ∧ (True ∧ ((True ∧ ((∀ (a : ByteArray) (c : Bool) (d f : Int) (w : World), ¬ V37.l3 B R 0 a c d f w) ∧ (∀ g, ∀ (a : ByteArray) (c : Bool) (d f : Int) (w : World), V37.l3 B R (g + 1) a c d f w → V37.l3 B R (g + 1) a c d f w) ∧ ∀ g : Nat, ((True ∧ (True ∧ True)) ∧ (((True ∧ ((True ∧ True) ∧ True)) ∧ True) ∧ True)))) ∧ ((True ∧ ((True ∧ True) ∧ True)) ∧ (True ∧ True)))))))) := by kernel_rfl
  rw [e]
  exact ⟨trivial, ⟨trivial, fun a c w h => h, ⟨⟨trivial, ⟨trivial, trivial⟩⟩, fun a c w h => h, ⟨⟨trivial, ⟨⟨trivial, trivial⟩, trivial⟩⟩, fun a c w h => h, ⟨trivial, ⟨⟨trivial, ⟨fun a c d f w h => h, fun _ a c d f w h => h, fun g => ⟨⟨trivial, ⟨trivial, trivial⟩⟩, ⟨⟨⟨trivial, ⟨⟨trivial, trivial⟩, trivial⟩⟩, trivial⟩, trivial⟩⟩⟩⟩, ⟨⟨trivial, ⟨⟨trivial, trivial⟩, trivial⟩⟩, ⟨trivial, trivial⟩⟩⟩⟩⟩⟩⟩⟩
theorem V37.cfgOk (B : Nat) : CfgOk (V37.cfg B) := cfgOk_of (by kernel_rfl) (by kernel_rfl) extNil
theorem V37.sound {a : ByteArray} {w : World} {R : Value → World → Prop} (h : V37.vc w.heap.size R a w) : Calls Tryd.prog 37 ⟨[.string a]⟩ w fun e w' => ∃ v, e = .returned v ∧ R v w' :=
  calls_wpfP (c := V37.cfg w.heap.size) (fn := Tryd.f37) (x := V37.code) (V37.cuts w.heap.size R) V37.h (V37.cfgOk _) mixed Tryd.func37 (by kernel_rfl) (by kernel_rfl) (by kernel_rfl) rfl (V37.obl _ _) ((V37.vc_eq _ _ a _).symm ▸ h)
def V79.vc (B : Nat) (R : Value → World → Prop) (a c : Int) (w : World) : Prop :=
  CallK Tryd.prog 109 [.int .u64 a, .int .i64 c] B w [] fun v d => 
  ∃ f : ByteArray, v = .string f ∧
  Ret B d (R (.string f))
noncomputable def V79.cfg (B : Nat) : Cfg := ⟨Tryd.prog, ⟨8, B⟩, [], hasN [109], hasN [], look []⟩
noncomputable def V79.code : Code := (Tryd.f79.body).getD .skip
noncomputable def V79.cuts (B : Nat) (R : Value → World → Prop) : Nat → Cut := nthC []
noncomputable def V79.h : H := .s (.z) (.s (.z) (.z))
theorem V79.vc_eq (B : Nat) (R : Value → World → Prop) (a c : Int) (w : World) : wpf (V79.cfg B) (V79.cuts B R) V79.code V79.h [] (postOf Tryd.prog B (Tryd.f79.results.toList) R) (argE 0 [.int .u64 a, .int .i64 c]) [] w = V79.vc B R a c w := by kernel_rfl
theorem V79.obl (B : Nat) (R : Value → World → Prop) : oblP (V79.cfg B) (V79.cuts B R) V79.code V79.h [] (postOf Tryd.prog B (Tryd.f79.results.toList) R) := by
  have e : oblP (V79.cfg B) (V79.cuts B R) V79.code V79.h [] (postOf Tryd.prog B (Tryd.f79.results.toList) R) = (True ∧ (True ∧ True)) := by kernel_rfl
  rw [e]
  exact ⟨trivial, ⟨trivial, trivial⟩⟩
theorem V79.cfgOk (B : Nat) : CfgOk (V79.cfg B) := cfgOk_of (by kernel_rfl) (by kernel_rfl) extNil
theorem V79.sound {a d : Int} {w : World} {R : Value → World → Prop} (h : V79.vc w.heap.size R a d w) : Calls Tryd.prog 79 ⟨[.int .u64 a, .int .i64 d]⟩ w fun e w' => ∃ v, e = .returned v ∧ R v w' :=
  calls_wpfP (c := V79.cfg w.heap.size) (fn := Tryd.f79) (x := V79.code) (V79.cuts w.heap.size R) V79.h (V79.cfgOk _) mixed Tryd.func79 (by kernel_rfl) (by kernel_rfl) (by kernel_rfl) rfl (V79.obl _ _) ((V79.vc_eq _ _ a d _).symm ▸ h)
def V167.vc (B : Nat) (R : Value → World → Prop) (a : Int) (w : World) : Prop :=
  Ret B w (R (.bool (IntKind.wrap .i64 (((BitVec.ofInt 64 a &&& BitVec.ofInt 64 (IntKind.wrap .i64 (a - 1))).toNat : Nat) : Int) == 0)))
noncomputable def V167.cfg (B : Nat) : Cfg := ⟨Tryd.prog, ⟨8, B⟩, [], hasN [], hasN [], look []⟩
noncomputable def V167.code : Code := (Tryd.f167.body).getD .skip
noncomputable def V167.cuts (B : Nat) (R : Value → World → Prop) : Nat → Cut := nthC []
noncomputable def V167.h : H := .s (.z) (.s (.z) (.z))
theorem V167.vc_eq (B : Nat) (R : Value → World → Prop) (a : Int) (w : World) : wpf (V167.cfg B) (V167.cuts B R) V167.code V167.h [] (postOf Tryd.prog B (Tryd.f167.results.toList) R) (argE 0 [.int .i64 a]) [] w = V167.vc B R a w := by kernel_rfl
theorem V167.obl (B : Nat) (R : Value → World → Prop) : oblP (V167.cfg B) (V167.cuts B R) V167.code V167.h [] (postOf Tryd.prog B (Tryd.f167.results.toList) R) := by
  have e : oblP (V167.cfg B) (V167.cuts B R) V167.code V167.h [] (postOf Tryd.prog B (Tryd.f167.results.toList) R) = (True ∧ (True ∧ True)) := by kernel_rfl
  rw [e]
  exact ⟨trivial, ⟨trivial, trivial⟩⟩
theorem V167.cfgOk (B : Nat) : CfgOk (V167.cfg B) := cfgOk_of (by kernel_rfl) (by kernel_rfl) extNil
theorem V167.sound {a : Int} {w : World} {R : Value → World → Prop} (h : V167.vc w.heap.size R a w) : Calls Tryd.prog 167 ⟨[.int .i64 a]⟩ w fun e w' => ∃ v, e = .returned v ∧ R v w' :=
  calls_wpfP (c := V167.cfg w.heap.size) (fn := Tryd.f167) (x := V167.code) (V167.cuts w.heap.size R) V167.h (V167.cfgOk _) mixed Tryd.func167 (by kernel_rfl) (by kernel_rfl) (by kernel_rfl) rfl (V167.obl _ _) ((V167.vc_eq _ _ a _).symm ▸ h)
def V168.vc (B : Nat) (R : Value → World → Prop) (a : Int) (w : World) : Prop :=
  CallK Tryd.prog 180 [.int .u64 a] B w [] fun v c => 
  ∃ d : Int, v = .int .i64 d ∧
  Ret B c (R (.int .i64 d))
noncomputable def V168.cfg (B : Nat) : Cfg := ⟨Tryd.prog, ⟨8, B⟩, [], hasN [180], hasN [], look []⟩
noncomputable def V168.code : Code := (Tryd.f168.body).getD .skip
noncomputable def V168.cuts (B : Nat) (R : Value → World → Prop) : Nat → Cut := nthC []
noncomputable def V168.h : H := .s (.z) (.s (.c (.s (.z) (.z)) (.z)) (.s (.z) (.z)))
theorem V168.vc_eq (B : Nat) (R : Value → World → Prop) (a : Int) (w : World) : wpf (V168.cfg B) (V168.cuts B R) V168.code V168.h [] (postOf Tryd.prog B (Tryd.f168.results.toList) R) (argE 0 [.int .u64 a]) [] w = V168.vc B R a w := by kernel_rfl
theorem V168.obl (B : Nat) (R : Value → World → Prop) : oblP (V168.cfg B) (V168.cuts B R) V168.code V168.h [] (postOf Tryd.prog B (Tryd.f168.results.toList) R) := by
  have e : oblP (V168.cfg B) (V168.cuts B R) V168.code V168.h [] (postOf Tryd.prog B (Tryd.f168.results.toList) R) = (True ∧ (((True ∧ True) ∧ True) ∧ (True ∧ True))) := by kernel_rfl
  rw [e]
  exact ⟨trivial, ⟨⟨⟨trivial, trivial⟩, trivial⟩, ⟨trivial, trivial⟩⟩⟩
theorem V168.cfgOk (B : Nat) : CfgOk (V168.cfg B) := cfgOk_of (by kernel_rfl) (by kernel_rfl) extNil
theorem V168.sound {a : Int} {w : World} {R : Value → World → Prop} (h : V168.vc w.heap.size R a w) : Calls Tryd.prog 168 ⟨[.int .u64 a]⟩ w fun e w' => ∃ v, e = .returned v ∧ R v w' :=
  calls_wpfP (c := V168.cfg w.heap.size) (fn := Tryd.f168) (x := V168.code) (V168.cuts w.heap.size R) V168.h (V168.cfgOk _) mixed Tryd.func168 (by kernel_rfl) (by kernel_rfl) (by kernel_rfl) rfl (V168.obl _ _) ((V168.vc_eq _ _ a _).symm ▸ h)
def V180.vc (B : Nat) (R : Value → World → Prop) (a : Int) (w : World) : Prop :=
  if (a == 0) = true
  then (Ret B w (R (.int .i64 64)))
  else ((0 : Int) ≤ 58 ∧ (0 : Int) ≤ Int.fdiv (IntKind.wrap .u64 (IntKind.wrap .u64 (((BitVec.ofInt 64 a &&& BitVec.ofInt 64 (IntKind.wrap .u64 (0 - a))).toNat : Nat) : Int) * 285870213051353865)) (2 ^ min 58 64) ∧ Int.fdiv (IntKind.wrap .u64 (IntKind.wrap .u64 (((BitVec.ofInt 64 a &&& BitVec.ofInt 64 (IntKind.wrap .u64 (0 - a))).toNat : Nat) : Int) * 285870213051353865)) (2 ^ min 58 64) < 64 ∧
  ∃ c : Int, w.cell? ((⟨8, 0, none⟩ : Addr).add ((Int.fdiv (IntKind.wrap .u64 (IntKind.wrap .u64 (((BitVec.ofInt 64 a &&& BitVec.ofInt 64 (IntKind.wrap .u64 (0 - a))).toNat : Nat) : Int) * 285870213051353865)) (2 ^ min 58 64)).toNat)) = some (.int .u8 c) ∧
  Ret B w (R (.int .i64 (IntKind.wrap .i64 c))))
noncomputable def V180.cfg (B : Nat) : Cfg := ⟨Tryd.prog, ⟨14, B⟩, [], hasN [], hasN [], look []⟩
noncomputable def V180.code : Code := (Tryd.f180.body).getD .skip
noncomputable def V180.cuts (B : Nat) (R : Value → World → Prop) : Nat → Cut := nthC []
noncomputable def V180.h : H := .s (.z) (.s (.s (.z) (.c (.s (.z) (.z)) (.z))) (.s (.z) (.z)))
theorem V180.vc_eq (B : Nat) (R : Value → World → Prop) (a : Int) (w : World) : wpf (V180.cfg B) (V180.cuts B R) V180.code V180.h [] (postOf Tryd.prog B (Tryd.f180.results.toList) R) (argE 0 [.int .u64 a]) [] w = V180.vc B R a w := by kernel_rfl
theorem V180.obl (B : Nat) (R : Value → World → Prop) : oblP (V180.cfg B) (V180.cuts B R) V180.code V180.h [] (postOf Tryd.prog B (Tryd.f180.results.toList) R) := by
  have e : oblP (V180.cfg B) (V180.cuts B R) V180.code V180.h [] (postOf Tryd.prog B (Tryd.f180.results.toList) R) = (True ∧ ((True ∧ ((True ∧ True) ∧ True)) ∧ (True ∧ True))) := by kernel_rfl
  rw [e]
  exact ⟨trivial, ⟨⟨trivial, ⟨⟨trivial, trivial⟩, trivial⟩⟩, ⟨trivial, trivial⟩⟩⟩
theorem V180.cfgOk (B : Nat) : CfgOk (V180.cfg B) := cfgOk_of (by kernel_rfl) (by kernel_rfl) extNil
theorem V180.sound {a : Int} {w : World} {R : Value → World → Prop} (h : V180.vc w.heap.size R a w) : Calls Tryd.prog 180 ⟨[.int .u64 a]⟩ w fun e w' => ∃ v, e = .returned v ∧ R v w' :=
  calls_wpfP (c := V180.cfg w.heap.size) (fn := Tryd.f180) (x := V180.code) (V180.cuts w.heap.size R) V180.h (V180.cfgOk _) mixed Tryd.func180 (by kernel_rfl) (by kernel_rfl) (by kernel_rfl) rfl (V180.obl _ _) ((V180.vc_eq _ _ a _).symm ▸ h)
end Go.Proofs.YtofblkmibghmbaaDoor
