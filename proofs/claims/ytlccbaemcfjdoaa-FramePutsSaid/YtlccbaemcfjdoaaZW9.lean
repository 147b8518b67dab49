/-
  What the engine makes of the loaded functions 9: conditions under which a call returns as told, and proofs of that.
  Conditions: none. Printed by a program of this project.
-/
import Derived.Test.YtlccbaemcfjdoaaZWD
set_option linter.unusedVariables false
set_option maxRecDepth 100000
namespace Go.Proofs.Ytlccbaemcfjdoaa
def V9.b0 (B : Nat) (R : Value → World → Prop) (a : Int) (c : Addr) (d : Option Addr) (f g i : Nat) (j l m n : Int) (o : Bool) (p q r : Int) (w : World) : Prop :=
  CallK Try.prog 42 [.pointer (some c), .int .i64 a] B w [i] fun v s => 
  ∃ (t u x y : Int) (z : Bool) (A C D E : Int), v = .tuple ⟨[.agg ⟨[.int .i64 t, .int .i64 u, .int .i64 x, .int .i64 y, .bool z, .int .u64 A, .int .i64 C, .int .i64 D]⟩, .int .i64 E]⟩ ∧
  ∀ F : Nat, s.heap.size ≤ F →
  CallK Try.prog 43 [.slice d f g, .int .i64 a] B s [F, i] fun G I => 
  ∃ (J L M N : Int) (O : Bool) (P Q S T : Int), G = .tuple ⟨[.agg ⟨[.int .i64 J, .int .i64 L, .int .i64 M, .int .i64 N, .bool O, .int .u64 P, .int .i64 Q, .int .i64 S]⟩, .int .i64 T]⟩ ∧
  ∀ U : Nat, I.heap.size ≤ U →
  CallK Try.prog 44 [.pointer (some c), .int .i64 a, .agg ⟨[.int .i64 j, .int .i64 l, .int .i64 m, .int .i64 n, .bool o, .int .u64 p, .int .i64 q, .int .i64 r]⟩] B I [U, F, i] fun W X => 
  ∃ Y : Int, W = .int .i64 Y ∧
  CallK Try.prog 45 [.slice d f g, .int .i64 a, .agg ⟨[.int .i64 j, .int .i64 l, .int .i64 m, .int .i64 n, .bool o, .int .u64 p, .int .i64 q, .int .i64 r]⟩] B X [U, F, i] fun Z a0 => 
  ∃ (a1 : Option Addr) (a2 a3 : Nat) (a4 : Int), Z = .tuple ⟨[.slice a1 a2 a3, .int .i64 a4]⟩ ∧
  CallK Try.prog 42 [.pointer (some c), .int .i64 a] B a0 [U, F, i] fun a5 a6 => 
  ∃ (a8 a9 c0 c1 : Int) (c2 : Bool) (c3 c4 c5 c6 : Int), a5 = .tuple ⟨[.agg ⟨[.int .i64 a8, .int .i64 a9, .int .i64 c0, .int .i64 c1, .bool c2, .int .u64 c3, .int .i64 c4, .int .i64 c5]⟩, .int .i64 c6]⟩ ∧
  ∀ c7 : Nat, a6.heap.size ≤ c7 →
  CallK Try.prog 43 [.slice a1 a2 a3, .int .i64 a] B a6 [c7, U, F, i] fun c8 c9 => 
  ∃ (d0 d1 d2 d3 : Int) (d4 : Bool) (d5 d6 d7 d8 : Int), c8 = .tuple ⟨[.agg ⟨[.int .i64 d0, .int .i64 d1, .int .i64 d2, .int .i64 d3, .bool d4, .int .u64 d5, .int .i64 d6, .int .i64 d7]⟩, .int .i64 d8]⟩ ∧
  ∀ d9 : Nat, c9.heap.size ≤ d9 →
  if ((t == J) && ((u == L) && ((x == M) && ((y == N) && ((z == O) && ((A == P) && ((C == Q) && (D == S)))))))) = true
  then (if (E == T) = true
   then (if (Y == a4) = true
    then (if ((a8 == d0) && ((a9 == d1) && ((c0 == d2) && ((c1 == d3) && ((c2 == d4) && ((c3 == d5) && ((c4 == d6) && (c5 == d7)))))))) = true
     then (if (c6 == d8) = true
      then (CallK Try.prog 46 [.pointer (some c), .slice a1 a2 a3] B c9 [d9, c7, U, F, i] fun f0 f1 => 
       ∃ f2 : Bool, f0 = .bool f2 ∧
       if f2 = true
       then (CallK Try.prog 47 [] B f1 [d9, c7, U, F, i] fun f3 f4 => 
        ∃ f5 : Bool, f3 = .bool f5 ∧
        Ret B f4 (R (.bool f5)))
       else (Ret B f1 (R (.bool false))))
      else (Ret B c9 (R (.bool false))))
     else (Ret B c9 (R (.bool false))))
    else (Ret B c9 (R (.bool false))))
   else (Ret B c9 (R (.bool false))))
  else (Ret B c9 (R (.bool false)))
def V9.vc (B : Nat) (R : Value → World → Prop) (a : Option Addr) (c d : Nat) (f g i j l : Int) (m : Bool) (n o p : Int) (w : World) : Prop :=
  ∀ q : Nat, w.heap.size ≤ q →
  CallK Try.prog 41 [.int .i64 1, .slice a c d] B w [q] fun v r => 
  ∃ (s t : Option Addr) (u x : Nat), v = .tuple ⟨[.pointer s, .slice t u x]⟩ ∧
  caseP s
  (False)
  (fun y => V9.b0 B R f y t u x q g i j l m n o p r)
noncomputable def V9.cfg (B : Nat) : Cfg := ⟨Try.prog, ⟨93, B⟩, [], hasN [41, 42, 43, 44, 45, 46, 47], hasN [53]⟩
noncomputable def V9.code : Code := (Try.f9.body).getD .skip
noncomputable def V9.cuts (B : Nat) (R : Value → World → Prop) : Nat → Cut := nthC [⟨[(1, .one (.int .i64)), (7, .one (.ptr)), (8, .one (.slice))], [(5, 53, [.int .i64, .int .i64, .int .i64, .int .i64, .bool, .int .u64, .int .i64, .int .i64])], fun fs vs bs w => V9.b0 B R (iV (nthV vs 0)) (pV (nthV vs 1)) (slA (nthV vs 2)) (slL (nthV vs 2)) (slC (nthV vs 2)) (nthB bs 0).blk (iV (nthV (nthB bs 0).cells 0)) (iV (nthV (nthB bs 0).cells 1)) (iV (nthV (nthB bs 0).cells 2)) (iV (nthV (nthB bs 0).cells 3)) (bV (nthV (nthB bs 0).cells 4)) (iV (nthV (nthB bs 0).cells 5)) (iV (nthV (nthB bs 0).cells 6)) (iV (nthV (nthB bs 0).cells 7)) w⟩]
noncomputable def V9.h : H := .s (.z) (.cut 0 (.z) (.s (.s (.z) (.c (.s (.z) (.z)) (.z))) (.s (.z) (.s (.z) (.s (.z) (.s (.z) (.s (.z) (.s (.z) (.s (.z) (.z))))))))))
theorem V9.vc_eq (B : Nat) (R : Value → World → Prop) (a : Option Addr) (c d : Nat) (f g i j l : Int) (m : Bool) (n o p : Int) (w : World) : wpf (V9.cfg B) (V9.cuts B R) V9.code V9.h [] (postOf Try.prog B (Try.f9.results.toList) R) (argE 0 [.slice a c d, .int .i64 f, .agg ⟨[.int .i64 g, .int .i64 i, .int .i64 j, .int .i64 l, .bool m, .int .u64 n, .int .i64 o, .int .i64 p]⟩]) [] w = V9.vc B R a c d f g i j l m n o p w := by kernel_rfl
theorem V9.obl (B : Nat) (R : Value → World → Prop) : oblP (V9.cfg B) (V9.cuts B R) V9.code V9.h [] (postOf Try.prog B (Try.f9.results.toList) R) := by
  have e : oblP (V9.cfg B) (V9.cuts B R) V9.code V9.h [] (postOf Try.prog B (Try.f9.results.toList) R) = (True ∧ (True ∧ (∀ (a : Int) (c : Addr) (d : Option Addr) (f g i : Nat) (j l m n : Int) (o : Bool) (p q r : Int) (w : World), V9.b0 B R a c d f g i j l m n o p q r w → V9.b0 B R a c d f g i j l m n o p q r w) ∧ ((True ∧ ((True ∧ True) ∧ True)) ∧ (True ∧ (True ∧ (True ∧ (True ∧ (True ∧ (True ∧ (True ∧ True)))))))))) := by kernel_rfl
  rw [e]
  exact ⟨trivial, ⟨trivial, fun a c d f g i j l m n o p q r w h => h, ⟨⟨trivial, ⟨⟨trivial, trivial⟩, trivial⟩⟩, ⟨trivial, ⟨trivial, ⟨trivial, ⟨trivial, ⟨trivial, ⟨trivial, ⟨trivial, trivial⟩⟩⟩⟩⟩⟩⟩⟩⟩⟩
theorem V9.cfgOk (B : Nat) : CfgOk (V9.cfg B) := cfgOk_of (by kernel_rfl) (by kernel_rfl)
theorem V9.sound {a : Option Addr} {d f : Nat} {g i j l m : Int} {n : Bool} {o p q : Int} {w : World} {R : Value → World → Prop} (h : V9.vc w.heap.size R a d f g i j l m n o p q w) : Calls Try.prog 9 ⟨[.slice a d f, .int .i64 g, .agg ⟨[.int .i64 i, .int .i64 j, .int .i64 l, .int .i64 m, .bool n, .int .u64 o, .int .i64 p, .int .i64 q]⟩]⟩ w fun e w' => ∃ v, e = .returned v ∧ R v w' :=
  calls_wpfP (c := V9.cfg w.heap.size) (fn := Try.f9) (x := V9.code) (V9.cuts w.heap.size R) V9.h (V9.cfgOk _) mixed Try.func9 (by kernel_rfl) (by kernel_rfl) (by kernel_rfl) rfl (V9.obl _ _) ((V9.vc_eq _ _ a d f g i j l m n o p q _).symm ▸ h)
end Go.Proofs.Ytlccbaemcfjdoaa
