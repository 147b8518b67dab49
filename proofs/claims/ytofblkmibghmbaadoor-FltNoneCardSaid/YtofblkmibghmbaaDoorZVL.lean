/-
  What the engine makes of the loaded functions 3, 4, 5, 6, 7, 8, 9, 10: conditions under which a call returns as told, and proofs of that.
  Conditions: none. Printed by a program of this project.
-/
import Derived.Test.YtofblkmibghmbaaDoorZVU
set_option linter.unusedVariables false
set_option maxRecDepth 100000
namespace Go.Proofs.YtofblkmibghmbaaDoor
def V9.l0 (B : Nat) (R : Value → World → Prop) : Nat → Int → Int → Option Addr → Nat → Nat → Int → Int → World → Prop
  | 0 => fun _ _ _ _ _ _ _ _ => False
  | k + 1 => fun a c d f g i j w =>
    if (decide (j < i)) = true
    then (∃ l : Addr, d = some l ∧ (0 : Int) ≤ j ∧ j < (f : Int) ∧
    ∃ m : Int, w.cell? (l.add j.toNat) = some (.int .u64 m) ∧
    if (m != 9221120237041090560) = true
     then (Ret B w (R (.bool false)))
     else ((V9.l0 B R k) a c d f g i (IntKind.wrap .i64 (j + 1)) w))
    else (CallK Tryd.prog 36 [.int .u64 c, .int .u64 a] B w [] fun v n => 
     ∃ o : Bool, v = .bool o ∧
     if (!o) = true
     then (CallK Tryd.prog 36 [.int .u64 a, .int .u64 c] B n [] fun p q => 
      ∃ r : Bool, p = .bool r ∧
      if (!r) = true
      then (CallK Tryd.prog 29 [.int .u64 c, .int .u64 a] B q [] fun s t => 
       ∃ u : Bool, s = .bool u ∧
       if (!u) = true
       then (CallK Tryd.prog 29 [.int .u64 a, .int .u64 c] B t [] fun x y => 
        ∃ z : Bool, x = .bool z ∧
        if (!z) = true
        then (CallK Tryd.prog 28 [.int .u64 c] B y [] fun A C => 
         ∃ D : Bool, A = .bool D ∧
         if D = true
         then (CallK Tryd.prog 19 [.int .u64 c] B C [] fun E F => 
          ∃ G : ByteArray, E = .string G ∧
          if (G.toList == ({ data := #[110, 97, 110] } : ByteArray).toList) = true
          then (CallK Tryd.prog 21 [] B F [] fun I J => 
           ∃ L : Bool, I = .bool L ∧
           Ret B J (R (.bool L)))
          else (Ret B F (R (.bool false))))
         else (Ret B C (R (.bool false))))
        else (Ret B y (R (.bool false))))
       else (Ret B t (R (.bool false))))
      else (Ret B q (R (.bool false))))
     else (Ret B n (R (.bool false))))
def V9.vc (B : Nat) (R : Value → World → Prop) (a c : Int) (w : World) : Prop :=
  CallK Tryd.prog 26 [.int .u64 (IntKind.wrap .u64 (((BitVec.ofInt 64 (IntKind.wrap .u64 (((BitVec.ofInt 64 a ||| BitVec.ofInt 64 9218868437227405312).toNat : Nat) : Int)) ||| BitVec.ofInt 64 1).toNat : Nat) : Int)), .int .u64 c] B w [] fun v d => 
  ∃ f : Int, v = .int .u64 f ∧
  CallK Tryd.prog 26 [.int .u64 c, .int .u64 (IntKind.wrap .u64 (((BitVec.ofInt 64 (IntKind.wrap .u64 (((BitVec.ofInt 64 a ||| BitVec.ofInt 64 9218868437227405312).toNat : Nat) : Int)) ||| BitVec.ofInt 64 1).toNat : Nat) : Int))] B d [] fun g i => 
  ∃ j : Int, g = .int .u64 j ∧
  CallK Tryd.prog 25 [.int .u64 (IntKind.wrap .u64 (((BitVec.ofInt 64 (IntKind.wrap .u64 (((BitVec.ofInt 64 a ||| BitVec.ofInt 64 9218868437227405312).toNat : Nat) : Int)) ||| BitVec.ofInt 64 1).toNat : Nat) : Int)), .int .u64 c] B i [] fun l m => 
  ∃ n : Int, l = .int .u64 n ∧
  CallK Tryd.prog 25 [.int .u64 c, .int .u64 (IntKind.wrap .u64 (((BitVec.ofInt 64 (IntKind.wrap .u64 (((BitVec.ofInt 64 a ||| BitVec.ofInt 64 9218868437227405312).toNat : Nat) : Int)) ||| BitVec.ofInt 64 1).toNat : Nat) : Int))] B m [] fun o p => 
  ∃ q : Int, o = .int .u64 q ∧
  CallK Tryd.prog 27 [.int .u64 (IntKind.wrap .u64 (((BitVec.ofInt 64 (IntKind.wrap .u64 (((BitVec.ofInt 64 a ||| BitVec.ofInt 64 9218868437227405312).toNat : Nat) : Int)) ||| BitVec.ofInt 64 1).toNat : Nat) : Int)), .int .u64 c] B p [] fun r s => 
  ∃ t : Int, r = .int .u64 t ∧
  CallK Tryd.prog 27 [.int .u64 c, .int .u64 (IntKind.wrap .u64 (((BitVec.ofInt 64 (IntKind.wrap .u64 (((BitVec.ofInt 64 a ||| BitVec.ofInt 64 9218868437227405312).toNat : Nat) : Int)) ||| BitVec.ofInt 64 1).toNat : Nat) : Int))] B s [] fun u x => 
  ∃ y : Int, u = .int .u64 y ∧
  CallK Tryd.prog 41 [.int .u64 (IntKind.wrap .u64 (((BitVec.ofInt 64 (IntKind.wrap .u64 (((BitVec.ofInt 64 a ||| BitVec.ofInt 64 9218868437227405312).toNat : Nat) : Int)) ||| BitVec.ofInt 64 1).toNat : Nat) : Int)), .int .u64 c] B x [] fun z A => 
  ∃ C : Int, z = .int .u64 C ∧
  CallK Tryd.prog 41 [.int .u64 c, .int .u64 (IntKind.wrap .u64 (((BitVec.ofInt 64 (IntKind.wrap .u64 (((BitVec.ofInt 64 a ||| BitVec.ofInt 64 9218868437227405312).toNat : Nat) : Int)) ||| BitVec.ofInt 64 1).toNat : Nat) : Int))] B A [] fun D E => 
  ∃ F : Int, D = .int .u64 F ∧
  CallK Tryd.prog 39 [.int .u64 (IntKind.wrap .u64 (((BitVec.ofInt 64 (IntKind.wrap .u64 (((BitVec.ofInt 64 a ||| BitVec.ofInt 64 9218868437227405312).toNat : Nat) : Int)) ||| BitVec.ofInt 64 1).toNat : Nat) : Int)), .int .u64 c] B E [] fun G I => 
  ∃ J : Int, G = .int .u64 J ∧
  CallK Tryd.prog 39 [.int .u64 c, .int .u64 (IntKind.wrap .u64 (((BitVec.ofInt 64 (IntKind.wrap .u64 (((BitVec.ofInt 64 a ||| BitVec.ofInt 64 9218868437227405312).toNat : Nat) : Int)) ||| BitVec.ofInt 64 1).toNat : Nat) : Int))] B I [] fun L M => 
  ∃ N : Int, L = .int .u64 N ∧
  CallK Tryd.prog 40 [.int .u64 (IntKind.wrap .u64 (((BitVec.ofInt 64 (IntKind.wrap .u64 (((BitVec.ofInt 64 a ||| BitVec.ofInt 64 9218868437227405312).toNat : Nat) : Int)) ||| BitVec.ofInt 64 1).toNat : Nat) : Int)), .int .u64 c] B M [] fun O P => 
  ∃ Q : Int, O = .int .u64 Q ∧
  CallK Tryd.prog 40 [.int .u64 c, .int .u64 (IntKind.wrap .u64 (((BitVec.ofInt 64 (IntKind.wrap .u64 (((BitVec.ofInt 64 a ||| BitVec.ofInt 64 9218868437227405312).toNat : Nat) : Int)) ||| BitVec.ofInt 64 1).toNat : Nat) : Int))] B P [] fun S T => 
  ∃ U : Int, S = .int .u64 U ∧
  CallK Tryd.prog 22 [.int .u64 (IntKind.wrap .u64 (((BitVec.ofInt 64 (IntKind.wrap .u64 (((BitVec.ofInt 64 a ||| BitVec.ofInt 64 9218868437227405312).toNat : Nat) : Int)) ||| BitVec.ofInt 64 1).toNat : Nat) : Int))] B T [] fun W X => 
  ∃ Y : Int, W = .int .u64 Y ∧
  CallK Tryd.prog 35 [.int .u64 (IntKind.wrap .u64 (((BitVec.ofInt 64 (IntKind.wrap .u64 (((BitVec.ofInt 64 a ||| BitVec.ofInt 64 9218868437227405312).toNat : Nat) : Int)) ||| BitVec.ofInt 64 1).toNat : Nat) : Int))] B X [] fun Z a1 => 
  ∃ a2 : Int, Z = .int .u64 a2 ∧
  CallK Tryd.prog 24 [.int .u64 (IntKind.wrap .u64 (((BitVec.ofInt 64 (IntKind.wrap .u64 (((BitVec.ofInt 64 a ||| BitVec.ofInt 64 9218868437227405312).toNat : Nat) : Int)) ||| BitVec.ofInt 64 1).toNat : Nat) : Int))] B a1 [] fun a3 a4 => 
  ∃ a5 : Nat, a3 = .float .f64 a5 ∧
  CallK Tryd.prog 23 [.float .f64 a5] B a4 [] fun a6 a7 => 
  ∃ a8 : Int, a6 = .int .u64 a8 ∧
  Expo B a7 [] fun a9 => 
  let c0 := a9.alloc (.cells ⟨[.int .u64 f, .int .u64 j, .int .u64 n, .int .u64 q, .int .u64 t, .int .u64 y, .int .u64 C, .int .u64 F, .int .u64 J, .int .u64 N, .int .u64 Q, .int .u64 U, .int .u64 Y, .int .u64 a2, .int .u64 a8]⟩ 22);
  ∃ c1, V9.l0 B R c1 c (IntKind.wrap .u64 (((BitVec.ofInt 64 (IntKind.wrap .u64 (((BitVec.ofInt 64 a ||| BitVec.ofInt 64 9218868437227405312).toNat : Nat) : Int)) ||| BitVec.ofInt 64 1).toNat : Nat) : Int)) (some ⟨a9.heap.size, 0, none⟩) 15 15 ((15 : Nat) : Int) 0 c0
noncomputable def V9.cfg (B : Nat) : Cfg := ⟨Tryd.prog, ⟨97, B⟩, [], hasN [19, 21, 22, 23, 24, 25, 26, 27, 28, 29, 35, 36, 39, 40, 41], hasN [], look []⟩
noncomputable def V9.code : Code := (Tryd.f9.body).getD .skip
noncomputable def V9.cuts (B : Nat) (R : Value → World → Prop) : Nat → Cut := nthC [⟨[(1, .one (.int .u64)), (5, .one (.int .u64)), (54, .one (.slice)), (55, .one (.int .i64)), (56, .one (.int .i64))], [], fun fs vs bs w => V9.l0 B R (nthN fs 0) (iV (nthV vs 0)) (iV (nthV vs 1)) (slA (nthV vs 2)) (slL (nthV vs 2)) (slC (nthV vs 2)) (iV (nthV vs 3)) (iV (nthV vs 4)) w⟩]
noncomputable def V9.h : H := .s (.z) (.s (.z) (.s (.s (.z) (.b (.l 0 (.s (.z) (.s (.c (.z) (.z)) (.s (.b (.s (.z) (.s (.z) (.c (.s (.z) (.z)) (.z))))) (.z))))))) (.s (.z) (.z))))
theorem V9.vc_eq (B : Nat) (R : Value → World → Prop) (a c : Int) (w : World) : wpf (V9.cfg B) (V9.cuts B R) V9.code V9.h [] (postOf Tryd.prog B (Tryd.f9.results.toList) R) (argE 0 [.int .u64 a, .int .u64 c]) [] w = V9.vc B R a c w := by kernel_rfl
theorem V9.obl (B : Nat) (R : Value → World → Prop) : oblP (V9.cfg B) (V9.cuts B R) V9.code V9.h [] (postOf Tryd.prog B (Tryd.f9.results.toList) R) := by
  have e : oblP (V9.cfg B) (V9.cuts B R) V9.code V9.h [] (postOf Tryd.prog B (Tryd.f9.results.toList) R) = (True ∧ (True ∧ ((True ∧ ((∀ (a c : Int) (d : Option Addr) (f g : Nat) (i j : Int) (w : World), ¬ V9.l0 B R 0 a c d f g i j w) ∧ (∀ l, ∀ (a c : Int) (d : Option Addr) (f g : Nat) (i j : Int) (w : World), V9.l0 B R (l + 1) a c d f g i j w → V9.l0 B R (l + 1) a c d f g i j w) ∧ ∀ l : Nat, (True ∧ ((True ∧ True) ∧ ((True ∧ (True ∧ ((True ∧ True) ∧ True))) ∧ True))))) ∧ (True ∧ True)))) := by kernel_rfl
  rw [e]
  exact ⟨trivial, ⟨trivial, ⟨⟨trivial, ⟨fun a c d f g i j w h => h, fun _ a c d f g i j w h => h, fun l => ⟨trivial, ⟨⟨trivial, trivial⟩, ⟨⟨trivial, ⟨trivial, ⟨⟨trivial, trivial⟩, trivial⟩⟩⟩, trivial⟩⟩⟩⟩⟩, ⟨trivial, trivial⟩⟩⟩⟩
theorem V9.cfgOk (B : Nat) : CfgOk (V9.cfg B) := cfgOk_of (by kernel_rfl) (by kernel_rfl) extNil
theorem V9.sound {a d : Int} {w : World} {R : Value → World → Prop} (h : V9.vc w.heap.size R a d w) : Calls Tryd.prog 9 ⟨[.int .u64 a, .int .u64 d]⟩ w fun e w' => ∃ v, e = .returned v ∧ R v w' :=
  calls_wpfP (c := V9.cfg w.heap.size) (fn := Tryd.f9) (x := V9.code) (V9.cuts w.heap.size R) V9.h (V9.cfgOk _) mixed Tryd.func9 (by kernel_rfl) (by kernel_rfl) (by kernel_rfl) rfl (V9.obl _ _) ((V9.vc_eq _ _ a d _).symm ▸ h)
end Go.Proofs.YtofblkmibghmbaaDoor
