/-
  What the engine makes of the loaded functions 10: conditions under which a call returns as told, and proofs of that.
  Conditions: none. Printed by a program of this project.
-/
import Derived.Test.YtlccbaemcfjdoaaZWE
set_option linter.unusedVariables false
set_option maxRecDepth 100000
namespace Go.Proofs.Ytlccbaemcfjdoaa
def V10.b0 (B : Nat) (R : Value → World → Prop) (a : Nat) (c d f : Int) (g : Bool) (i : Int) (j : Option Addr) (l m : Nat) (n : Option Addr) (o p : Nat) (q : Option Addr) (r s t : Nat) (u : Option Addr) (x y : Nat) (w : World) : Prop :=
  CallK Try.prog 49 [.agg ⟨[.slice u x y]⟩, .agg ⟨[.int .i64 c, .int .i64 d, .int .i64 f, .bool g, .int .u64 i, .slice j l m, .slice n o p, .slice q r s]⟩] B w [a, t] fun v z => 
  ∃ A : Bool, v = .bool A ∧
  CallK Try.prog 50 [.agg ⟨[.slice u x y]⟩, .agg ⟨[.int .i64 c, .int .i64 d, .int .i64 f, .bool g, .int .u64 i, .slice j l m, .slice n o p, .slice q r s]⟩] B z [a, t] fun C D => 
  ∃ E : Bool, C = .bool E ∧
  if (A == E) = true
  then (CallK Try.prog 47 [] B D [a, t] fun F G => 
   ∃ I : Bool, F = .bool I ∧
   Ret B G (R (.bool I)))
  else (Ret B D (R (.bool false)))
def V10.vc (B : Nat) (R : Value → World → Prop) (a : Option Addr) (c d : Nat) (f : Option Addr) (g i : Nat) (j l m : Int) (n : Bool) (o : Int) (p : Option Addr) (q r : Nat) (s : Option Addr) (t u : Nat) (x : Option Addr) (y z : Nat) (A : Int) (w : World) : Prop :=
  ∀ C : Nat, w.heap.size ≤ C →
  if (decide (IntKind.wrap .i64 (IntKind.wrap .i64 ((t : Int) + (y : Int)) + (q : Int)) > 500)) = true
  then (CallK Try.prog 47 [] B w [C] fun v D => 
   ∃ E : Bool, v = .bool E ∧
   Ret B D (R (.bool E)))
  else (CallK Try.prog 35 [.slice a c d] B w [C] fun v D => 
   ∃ (F : Option Addr) (G I : Nat), v = .agg ⟨[.slice F G I]⟩ ∧
   ∀ J : Nat, D.heap.size ≤ J →
   Expo B D [J, C] fun L => 
   Hide [J, C] (L.alloc (.cells ⟨[.slice f g i]⟩ 70)) fun M => 
   CallK Try.prog 48 [.pointer (some (⟨L.heap.size, 0, none⟩)), .agg ⟨[.slice F G I]⟩] B M [J, C] fun N O => 
   ∃ (P Q S : Int) (T : Bool) (U : Int) (W : Option Addr) (X Y : Nat) (Z : Option Addr) (a0 a1 : Nat) (a2 : Option Addr) (a3 a4 : Nat), N = .agg ⟨[.int .i64 P, .int .i64 Q, .int .i64 S, .bool T, .int .u64 U, .slice W X Y, .slice Z a0 a1, .slice a2 a3 a4]⟩ ∧
   ∀ a5 : Nat, O.heap.size ≤ a5 →
   CallK Try.prog 49 [.agg ⟨[.slice F G I]⟩, .agg ⟨[.int .i64 j, .int .i64 l, .int .i64 m, .bool n, .int .u64 o, .slice p q r, .slice s t u, .slice x y z]⟩] B O [a5, J, C] fun a6 a7 => 
   ∃ a8 : Bool, a6 = .bool a8 ∧
   CallK Try.prog 50 [.agg ⟨[.slice F G I]⟩, .agg ⟨[.int .i64 j, .int .i64 l, .int .i64 m, .bool n, .int .u64 o, .slice p q r, .slice s t u, .slice x y z]⟩] B a7 [a5, J, C] fun a9 c0 => 
   ∃ c1 : Bool, a9 = .bool c1 ∧
   if (!(a8 == c1)) = false
   then (CallK Try.prog 49 [.agg ⟨[.slice F G I]⟩, .agg ⟨[.int .i64 P, .int .i64 Q, .int .i64 S, .bool T, .int .u64 U, .slice W X Y, .slice Z a0 a1, .slice a2 a3 a4]⟩] B c0 [a5, J, C] fun c2 c3 => 
    ∃ c4 : Bool, c2 = .bool c4 ∧
    if (!c4) = true
    then (Ret B c3 (R (.bool false)))
    else ((8 : Int) ≠ 0 ∧
    if (Int.tmod A 8 == 0) = true
     then (V10.b0 B R a5 j Q S T U W X Y Z a0 a1 a2 a3 a4 J F G I c3)
     else (if (Int.tmod A 8 == 1) = true
      then (V10.b0 B R a5 P l S T U W X Y Z a0 a1 a2 a3 a4 J F G I c3)
      else (if (Int.tmod A 8 == 2) = true
       then (V10.b0 B R a5 P Q m T U W X Y Z a0 a1 a2 a3 a4 J F G I c3)
       else (if (Int.tmod A 8 == 3) = true
        then (Expo B c3 [a5, J, C] fun c5 => 
         Hide [a5, J, C] (c5.alloc (.cells ⟨[.int .u64 0]⟩ 51)) fun c6 => 
         RunK Try.prog (Builtin.append_ #[50, 50] 50 ⟨[.slice Z a0 a1, .slice (some ⟨c5.heap.size, 0, none⟩) 1 1]⟩) B c6 [a5, J, C] fun c7 c8 => 
         ∃ (c9 : Option Addr) (d0 d1 : Nat), c7 = .slice c9 d0 d1 ∧
         V10.b0 B R a5 P Q S T U W X Y c9 d0 d1 a2 a3 a4 J F G I c8)
        else (if (Int.tmod A 8 == 4) = true
         then (V10.b0 B R a5 P Q S T U W X Y Z a0 a1 x y z J F G I c3)
         else (if (Int.tmod A 8 == 5) = true
          then (RunK Try.prog (Builtin.append_ #[65, 65] 65 ⟨[.slice W X Y, .slice p q r]⟩) B c3 [a5, J, C] fun c7 c5 => 
           ∃ (d2 : Option Addr) (d3 d4 : Nat), c7 = .slice d2 d3 d4 ∧
           V10.b0 B R a5 P Q S T U d2 d3 d4 Z a0 a1 a2 a3 a4 J F G I c5)
          else (if (Int.tmod A 8 == 6) = true
           then (CallK Try.prog 51 [.pointer (some (⟨L.heap.size, 0, none⟩))] B c3 [a5, J, C] fun c7 c5 => 
            ∃ d5 : Int, c7 = .int .i64 d5 ∧ IntKind.wrap .i64 ((G : Int) + 1) ≠ 0 ∧
            Expo B c5 [a5, J, C] fun c6 => 
            Hide [a5, J, C] (c6.alloc (.cells ⟨[.int .i64 (Int.tmod d5 (IntKind.wrap .i64 ((G : Int) + 1))), .slice none 0 0]⟩ 75)) fun c8 => 
            RunK Try.prog (Builtin.append_ #[65, 65] 65 ⟨[.slice W X Y, .slice (some ⟨c6.heap.size, 0, none⟩) 1 1]⟩) B c8 [a5, J, C] fun d6 d7 => 
            ∃ (d8 : Option Addr) (d9 f0 : Nat), d6 = .slice d8 d9 f0 ∧
            V10.b0 B R a5 P Q S T U d8 d9 f0 Z a0 a1 a2 a3 a4 J F G I d7)
           else (V10.b0 B R a5 P Q S T U W X Y s t u a2 a3 a4 J F G I c3)))))))))
   else (Ret B c0 (R (.bool false))))
noncomputable def V10.cfg (B : Nat) : Cfg := ⟨Try.prog, ⟨111, B⟩, [29], hasN [35, 47, 48, 49, 50, 51], hasN []⟩
noncomputable def V10.code : Code := (Try.f10.body).getD .skip
noncomputable def V10.cuts (B : Nat) (R : Value → World → Prop) : Nat → Cut := nthC [⟨[], [(11, 67, [.int .i64, .int .i64, .int .i64, .bool, .int .u64, .slice, .slice, .slice]), (9, 24, [.slice])], fun fs vs bs w => V10.b0 B R (nthB bs 0).blk (iV (nthV (nthB bs 0).cells 0)) (iV (nthV (nthB bs 0).cells 1)) (iV (nthV (nthB bs 0).cells 2)) (bV (nthV (nthB bs 0).cells 3)) (iV (nthV (nthB bs 0).cells 4)) (slA (nthV (nthB bs 0).cells 5)) (slL (nthV (nthB bs 0).cells 5)) (slC (nthV (nthB bs 0).cells 5)) (slA (nthV (nthB bs 0).cells 6)) (slL (nthV (nthB bs 0).cells 6)) (slC (nthV (nthB bs 0).cells 6)) (slA (nthV (nthB bs 0).cells 7)) (slL (nthV (nthB bs 0).cells 7)) (slC (nthV (nthB bs 0).cells 7)) (nthB bs 1).blk (slA (nthV (nthB bs 1).cells 0)) (slL (nthV (nthB bs 1).cells 0)) (slC (nthV (nthB bs 1).cells 0)) w⟩]
noncomputable def V10.h : H := .s (.z) (.s (.s (.z) (.c (.s (.z) (.z)) (.z))) (.s (.z) (.s (.z) (.s (.z) (.s (.s (.r [[0, 1, 3, 4, 2, 5, 6, 7, 8, 9, 10, 11, 12]]) (.c (.s (.z) (.z)) (.z))) (.cut 0 (.s (.z) (.b (.s (.z) (.c (.z) (.s (.z) (.c (.z) (.s (.z) (.c (.z) (.s (.z) (.c (.z) (.s (.z) (.c (.z) (.s (.z) (.c (.z) (.s (.z) (.c (.r [[0, 1, 2, 4, 5, 6, 7, 3, 8, 9, 10, 11, 12, 13]]) (.z))))))))))))))))) (.s (.r [[0, 1, 3, 4, 2, 5, 6, 7, 8, 9, 10]]) (.z))))))))
theorem V10.vc_eq (B : Nat) (R : Value → World → Prop) (a : Option Addr) (c d : Nat) (f : Option Addr) (g i : Nat) (j l m : Int) (n : Bool) (o : Int) (p : Option Addr) (q r : Nat) (s : Option Addr) (t u : Nat) (x : Option Addr) (y z : Nat) (A : Int) (w : World) : wpf (V10.cfg B) (V10.cuts B R) V10.code V10.h [] (postOf Try.prog B (Try.f10.results.toList) R) (argE 0 [.slice a c d, .slice f g i, .agg ⟨[.int .i64 j, .int .i64 l, .int .i64 m, .bool n, .int .u64 o, .slice p q r, .slice s t u, .slice x y z]⟩, .int .u8 A]) [] w = V10.vc B R a c d f g i j l m n o p q r s t u x y z A w := by kernel_rfl
theorem V10.obl (B : Nat) (R : Value → World → Prop) : oblP (V10.cfg B) (V10.cuts B R) V10.code V10.h [] (postOf Try.prog B (Try.f10.results.toList) R) := by
  have e : oblP (V10.cfg B) (V10.cuts B R) V10.code V10.h [] (postOf Try.prog B (Try.f10.results.toList) R) = (True ∧ ((True ∧ ((True ∧ True) ∧ True)) ∧ (True ∧ (True ∧ (True ∧ (((true = true) ∧ ((True ∧ True) ∧ True)) ∧ ((True ∧ (True ∧ (True ∧ (True ∧ (True ∧ (True ∧ (True ∧ (True ∧ (True ∧ (True ∧ (True ∧ (True ∧ (True ∧ (True ∧ ((true = true) ∧ True))))))))))))))) ∧ (∀ (a : Nat) (c d f : Int) (g : Bool) (i : Int) (j : Option Addr) (l m : Nat) (n : Option Addr) (o p : Nat) (q : Option Addr) (r s t : Nat) (u : Option Addr) (x y : Nat) (w : World), V10.b0 B R a c d f g i j l m n o p q r s t u x y w → V10.b0 B R a c d f g i j l m n o p q r s t u x y w) ∧ ((true = true) ∧ True)))))))) := by kernel_rfl
  rw [e]
  exact ⟨trivial, ⟨⟨trivial, ⟨⟨trivial, trivial⟩, trivial⟩⟩, ⟨trivial, ⟨trivial, ⟨trivial, ⟨⟨rfl, ⟨⟨trivial, trivial⟩, trivial⟩⟩, ⟨⟨trivial, ⟨trivial, ⟨trivial, ⟨trivial, ⟨trivial, ⟨trivial, ⟨trivial, ⟨trivial, ⟨trivial, ⟨trivial, ⟨trivial, ⟨trivial, ⟨trivial, ⟨trivial, ⟨rfl, trivial⟩⟩⟩⟩⟩⟩⟩⟩⟩⟩⟩⟩⟩⟩⟩, fun a c d f g i j l m n o p q r s t u x y w h => h, ⟨rfl, trivial⟩⟩⟩⟩⟩⟩⟩⟩
theorem V10.cfgOk (B : Nat) : CfgOk (V10.cfg B) := cfgOk_of (by kernel_rfl) (by kernel_rfl)
theorem V10.sound {a : Option Addr} {d f : Nat} {g : Option Addr} {i j : Nat} {l m n : Int} {o : Bool} {p : Int} {q : Option Addr} {r s : Nat} {t : Option Addr} {u y : Nat} {z : Option Addr} {A C : Nat} {D : Int} {w : World} {R : Value → World → Prop} (h : V10.vc w.heap.size R a d f g i j l m n o p q r s t u y z A C D w) : Calls Try.prog 10 ⟨[.slice a d f, .slice g i j, .agg ⟨[.int .i64 l, .int .i64 m, .int .i64 n, .bool o, .int .u64 p, .slice q r s, .slice t u y, .slice z A C]⟩, .int .u8 D]⟩ w fun e w' => ∃ v, e = .returned v ∧ R v w' :=
  calls_wpfP (c := V10.cfg w.heap.size) (fn := Try.f10) (x := V10.code) (V10.cuts w.heap.size R) V10.h (V10.cfgOk _) mixed Try.func10 (by kernel_rfl) (by kernel_rfl) (by kernel_rfl) rfl (V10.obl _ _) ((V10.vc_eq _ _ a d f g i j l m n o p q r s t u y z A C D _).symm ▸ h)
end Go.Proofs.Ytlccbaemcfjdoaa
