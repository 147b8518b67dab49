/-
  What the engine makes of the loaded functions 42, 44, 52, 54, 94, 105, 59: conditions under which a call returns as told, and proofs of that.
  Conditions: none. Printed by a program of this project.
-/
import Derived.Test.YtlccbaemcfjdoaaZWB
set_option linter.unusedVariables false
set_option maxRecDepth 100000
namespace Go.Proofs.Ytlccbaemcfjdoaa
def V42n.l0 (B : Nat) (R : Value → World → Prop) : Nat → Option Addr → Nat → Nat → Int → Int → Int → Int → Int → Int → Nat → Int → Int → Int → Int → Bool → Int → Int → Int → World → Prop
  | 0 => fun _ _ _ _ _ _ _ _ _ _ _ _ _ _ _ _ _ _ _ => False
  | k + 1 => fun a c d f g i j l m n o p q r s t u x w =>
    if (decide (m < 4)) = true
    then ((0 : Int) ≤ m ∧ m < 4 ∧
    ∃ y : Addr, a = some y ∧ (0 : Int) ≤ ([g, i, j, l] : List Int).getD m.toNat 0 ∧ ([g, i, j, l] : List Int).getD m.toNat 0 < (c : Int) ∧
    ∃ z : Int, w.cell? (y.add ((([g, i, j, l] : List Int).getD m.toNat 0).toNat)) = some (.int .u64 z) ∧
    if (decide (z > 2147483648)) = true
     then (Ret B w (R (.tuple ⟨[.agg ⟨[.int .i64 0, .int .i64 0, .int .i64 0, .int .i64 0, .bool false, .int .u64 0, .int .i64 0, .int .i64 0]⟩, .int .i64 6]⟩)))
     else ((V42n.l0 B R k) a c d f g i j l (IntKind.wrap .i64 (m + 1)) n o p q r s t u x w))
    else (∃ A : Addr, a = some A ∧ (0 : Int) ≤ 0 ∧ (0 : Int) < (c : Int) ∧
    ∃ C : Int, w.cell? (A.add 0) = some (.int .u64 C) ∧
    ∃ D : Addr, a = some D ∧ (0 : Int) ≤ 1 ∧ (1 : Int) < (c : Int) ∧
    ∃ E : Int, w.cell? (D.add 1) = some (.int .u64 E) ∧
    ∃ F : Addr, a = some F ∧ (0 : Int) ≤ 2 ∧ (2 : Int) < (c : Int) ∧
    ∃ G : Int, w.cell? (F.add 2) = some (.int .u64 G) ∧
    ∃ I : Addr, a = some I ∧ (0 : Int) ≤ 3 ∧ (3 : Int) < (c : Int) ∧
    ∃ J : Int, w.cell? (I.add 3) = some (.int .u64 J) ∧
    ∃ L : Addr, a = some L ∧ (0 : Int) ≤ 4 ∧ (4 : Int) < (c : Int) ∧
    ∃ M : Int, w.cell? (L.add 4) = some (.int .u64 M) ∧
    ∃ N : Addr, a = some N ∧ (0 : Int) ≤ 5 ∧ (5 : Int) < (c : Int) ∧
    ∃ O : Int, w.cell? (N.add 5) = some (.int .u64 O) ∧
    ∃ P : Addr, a = some P ∧ (0 : Int) ≤ 6 ∧ (6 : Int) < (c : Int) ∧
    ∃ Q : Int, w.cell? (P.add 6) = some (.int .u64 Q) ∧
    Ret B w (R (.tuple ⟨[.agg ⟨[.int .i64 (IntKind.wrap .i64 (IntKind.wrap .i64 C - 1)), .int .i64 (IntKind.wrap .i64 E), .int .i64 (IntKind.wrap .i64 G), .int .i64 (IntKind.wrap .i64 f), .bool (J != f), .int .u64 M, .int .i64 (IntKind.wrap .i64 O), .int .i64 (IntKind.wrap .i64 Q)]⟩, .int .i64 0]⟩)))
def V42n.vc (B : Nat) (R : Value → World → Prop) (a : Int) (w : World) : Prop :=
  ∀ c : Nat, w.heap.size ≤ c →
  CallK Try.prog 94 [.pointer none, .int .i64 a, .int .i64 7] B w [c] fun v d => 
  ∃ (f : Option Addr) (g i : Nat) (j : Int), v = .tuple ⟨[.slice f g i, .int .i64 j]⟩ ∧
  if (j != 0) = true
  then (Ret B d (R (.tuple ⟨[.agg ⟨[.int .i64 0, .int .i64 0, .int .i64 0, .int .i64 0, .bool false, .int .u64 0, .int .i64 0, .int .i64 0]⟩, .int .i64 j]⟩)))
  else (∃ l : Addr, f = some l ∧ (0 : Int) ≤ 3 ∧ (3 : Int) < (g : Int) ∧
  ∃ m : Int, d.cell? (l.add 3) = some (.int .u64 m) ∧
  ∃ n : Addr, f = some n ∧ (0 : Int) ≤ 0 ∧ (0 : Int) < (g : Int) ∧
  ∃ o : Int, d.cell? (n.add 0) = some (.int .u64 o) ∧
  CallK Try.prog 93 [.pointer none] B d [c] fun p q => 
   ∃ r : Int, p = .int .i64 r ∧ q.cell? (n.add 0) = some (.int .u64 o) ∧
   if (decide (o > IntKind.wrap .u64 r)) = false
   then (if (decide (IntKind.wrap .u64 (((BitVec.ofInt 64 m &&& ~~~ BitVec.ofInt 64 4).toNat : Nat) : Int) > 2)) = true
    then (Ret B q (R (.tuple ⟨[.agg ⟨[.int .i64 0, .int .i64 0, .int .i64 0, .int .i64 0, .bool false, .int .u64 0, .int .i64 0, .int .i64 0]⟩, .int .i64 6]⟩)))
    else (∃ s, V42n.l0 B R s f g i (IntKind.wrap .u64 (((BitVec.ofInt 64 m &&& ~~~ BitVec.ofInt 64 4).toNat : Nat) : Int)) 1 2 5 6 0 c 0 0 0 0 false 0 0 0 q))
   else (Ret B q (R (.tuple ⟨[.agg ⟨[.int .i64 0, .int .i64 0, .int .i64 0, .int .i64 0, .bool false, .int .u64 0, .int .i64 0, .int .i64 0]⟩, .int .i64 6]⟩))))
noncomputable def V42n.cfg (B : Nat) : Cfg := ⟨Try.prog, ⟨80, B⟩, [], hasN [93, 94], hasN []⟩
noncomputable def V42n.code : Code := (Try.f42.body).getD .skip
noncomputable def V42n.cuts (B : Nat) (R : Value → World → Prop) : Nat → Cut := nthC [⟨[(6, .one (.slice)), (8, .one (.int .u64)), (37, .agg [.int .i64, .int .i64, .int .i64, .int .i64]), (38, .one (.int .i64))], [(4, 53, [.int .i64, .int .i64, .int .i64, .int .i64, .bool, .int .u64, .int .i64, .int .i64])], fun fs vs bs w => V42n.l0 B R (nthN fs 0) (slA (nthV vs 0)) (slL (nthV vs 0)) (slC (nthV vs 0)) (iV (nthV vs 1)) (iV (nthV (cellsOfV (nthV vs 2)) 0)) (iV (nthV (cellsOfV (nthV vs 2)) 1)) (iV (nthV (cellsOfV (nthV vs 2)) 2)) (iV (nthV (cellsOfV (nthV vs 2)) 3)) (iV (nthV vs 3)) (nthB bs 0).blk (iV (nthV (nthB bs 0).cells 0)) (iV (nthV (nthB bs 0).cells 1)) (iV (nthV (nthB bs 0).cells 2)) (iV (nthV (nthB bs 0).cells 3)) (bV (nthV (nthB bs 0).cells 4)) (iV (nthV (nthB bs 0).cells 5)) (iV (nthV (nthB bs 0).cells 6)) (iV (nthV (nthB bs 0).cells 7)) w⟩]
noncomputable def V42n.h : H := .s (.z) (.s (.z) (.s (.s (.z) (.c (.s (.z) (.z)) (.z))) (.s (.z) (.s (.s (.r [[0, 1, 2, 3, 4, 5, 6, 7, 8, 9, 10]]) (.c (.s (.z) (.z)) (.z))) (.s (.s (.z) (.b (.l 0 (.s (.z) (.s (.c (.z) (.z)) (.s (.b (.s (.z) (.s (.z) (.c (.s (.z) (.z)) (.z))))) (.z))))))) (.s (.r [[0, 1, 2, 3, 4, 5, 6, 7, 8, 9, 10, 11, 12, 13, 14, 15, 16, 17, 18, 19, 20, 21, 22, 23, 24, 25, 26, 27, 28, 29, 30, 31, 32, 33]]) (.z)))))))
theorem V42n.vc_eq (B : Nat) (R : Value → World → Prop) (a : Int) (w : World) : wpf (V42n.cfg B) (V42n.cuts B R) V42n.code V42n.h [] (postOf Try.prog B (Try.f42.results.toList) R) (argE 0 [.pointer none, .int .i64 a]) [] w = V42n.vc B R a w := by kernel_rfl
theorem V42n.obl (B : Nat) (R : Value → World → Prop) : oblP (V42n.cfg B) (V42n.cuts B R) V42n.code V42n.h [] (postOf Try.prog B (Try.f42.results.toList) R) := by
  have e : oblP (V42n.cfg B) (V42n.cuts B R) V42n.code V42n.h [] (postOf Try.prog B (Try.f42.results.toList) R) = (True ∧ (True ∧ ((True ∧ ((True ∧ True) ∧ True)) ∧ (True ∧ (((true = true) ∧ ((True ∧ True) ∧ True)) ∧ ((True ∧ ((∀ (a : Option Addr) (c d : Nat) (f g i j l m : Int) (n : Nat) (o p q r : Int) (s : Bool) (t u x : Int) (w : World), ¬ V42n.l0 B R 0 a c d f g i j l m n o p q r s t u x w) ∧ (∀ y, ∀ (a : Option Addr) (c d : Nat) (f g i j l m : Int) (n : Nat) (o p q r : Int) (s : Bool) (t u x : Int) (w : World), V42n.l0 B R (y + 1) a c d f g i j l m n o p q r s t u x w → V42n.l0 B R (y + 1) a c d f g i j l m n o p q r s t u x w) ∧ ∀ y : Nat, (True ∧ ((True ∧ True) ∧ ((True ∧ (True ∧ ((True ∧ True) ∧ True))) ∧ True))))) ∧ ((true = true) ∧ True))))))) := by kernel_rfl
  rw [e]
  exact ⟨trivial, ⟨trivial, ⟨⟨trivial, ⟨⟨trivial, trivial⟩, trivial⟩⟩, ⟨trivial, ⟨⟨rfl, ⟨⟨trivial, trivial⟩, trivial⟩⟩, ⟨⟨trivial, ⟨fun a c d f g i j l m n o p q r s t u x w h => h, fun _ a c d f g i j l m n o p q r s t u x w h => h, fun y => ⟨trivial, ⟨⟨trivial, trivial⟩, ⟨⟨trivial, ⟨trivial, ⟨⟨trivial, trivial⟩, trivial⟩⟩⟩, trivial⟩⟩⟩⟩⟩, ⟨rfl, trivial⟩⟩⟩⟩⟩⟩⟩
theorem V42n.cfgOk (B : Nat) : CfgOk (V42n.cfg B) := cfgOk_of (by kernel_rfl) (by kernel_rfl)
theorem V42n.sound {a : Int} {w : World} {R : Value → World → Prop} (h : V42n.vc w.heap.size R a w) : Calls Try.prog 42 ⟨[.pointer none, .int .i64 a]⟩ w fun e w' => ∃ v, e = .returned v ∧ R v w' :=
  calls_wpfP (c := V42n.cfg w.heap.size) (fn := Try.f42) (x := V42n.code) (V42n.cuts w.heap.size R) V42n.h (V42n.cfgOk _) mixed Try.func42 (by kernel_rfl) (by kernel_rfl) (by kernel_rfl) rfl (V42n.obl _ _) ((V42n.vc_eq _ _ a _).symm ▸ h)
def V44n.vc (B : Nat) (R : Value → World → Prop) (a c d f g : Int) (i : Bool) (j l m : Int) (w : World) : Prop :=
  ∀ n : Nat, w.heap.size ≤ n →
  Ret B w (R (.int .i64 2))
noncomputable def V44n.cfg (B : Nat) : Cfg := ⟨Try.prog, ⟨97, B⟩, [], hasN [], hasN []⟩
noncomputable def V44n.code : Code := (Try.f44.body).getD .skip
noncomputable def V44n.cuts (B : Nat) (R : Value → World → Prop) : Nat → Cut := nthC []
noncomputable def V44n.h : H := .s (.z) (.s (.s (.z) (.c (.s (.z) (.z)) (.z))) (.s (.s (.z) (.s (.z) (.c (.s (.z) (.z)) (.z)))) (.s (.s (.z) (.c (.s (.z) (.z)) (.z))) (.s (.s (.z) (.b (.z))) (.s (.z) (.s (.s (.z) (.c (.z) (.z))) (.s (.s (.z) (.b (.z))) (.s (.z) (.z)))))))))
theorem V44n.vc_eq (B : Nat) (R : Value → World → Prop) (a c d f g : Int) (i : Bool) (j l m : Int) (w : World) : wpf (V44n.cfg B) (V44n.cuts B R) V44n.code V44n.h [] (postOf Try.prog B (Try.f44.results.toList) R) (argE 0 [.pointer none, .int .i64 a, .agg ⟨[.int .i64 c, .int .i64 d, .int .i64 f, .int .i64 g, .bool i, .int .u64 j, .int .i64 l, .int .i64 m]⟩]) [] w = V44n.vc B R a c d f g i j l m w := by kernel_rfl
theorem V44n.obl (B : Nat) (R : Value → World → Prop) : oblP (V44n.cfg B) (V44n.cuts B R) V44n.code V44n.h [] (postOf Try.prog B (Try.f44.results.toList) R) := by
  have e : oblP (V44n.cfg B) (V44n.cuts B R) V44n.code V44n.h [] (postOf Try.prog B (Try.f44.results.toList) R) = (True ∧ ((True ∧ ((True ∧ True) ∧ True)) ∧ ((True ∧ (True ∧ ((True ∧ True) ∧ True))) ∧ ((True ∧ ((True ∧ True) ∧ True)) ∧ ((True ∧ True) ∧ (True ∧ ((True ∧ (True ∧ True)) ∧ ((True ∧ True) ∧ (True ∧ True))))))))) := by kernel_rfl
  rw [e]
  exact ⟨trivial, ⟨⟨trivial, ⟨⟨trivial, trivial⟩, trivial⟩⟩, ⟨⟨trivial, ⟨trivial, ⟨⟨trivial, trivial⟩, trivial⟩⟩⟩, ⟨⟨trivial, ⟨⟨trivial, trivial⟩, trivial⟩⟩, ⟨⟨trivial, trivial⟩, ⟨trivial, ⟨⟨trivial, ⟨trivial, trivial⟩⟩, ⟨⟨trivial, trivial⟩, ⟨trivial, trivial⟩⟩⟩⟩⟩⟩⟩⟩⟩
theorem V44n.cfgOk (B : Nat) : CfgOk (V44n.cfg B) := cfgOk_of (by kernel_rfl) (by kernel_rfl)
theorem V44n.sound {a d f g i : Int} {j : Bool} {l m n : Int} {w : World} {R : Value → World → Prop} (h : V44n.vc w.heap.size R a d f g i j l m n w) : Calls Try.prog 44 ⟨[.pointer none, .int .i64 a, .agg ⟨[.int .i64 d, .int .i64 f, .int .i64 g, .int .i64 i, .bool j, .int .u64 l, .int .i64 m, .int .i64 n]⟩]⟩ w fun e w' => ∃ v, e = .returned v ∧ R v w' :=
  calls_wpfP (c := V44n.cfg w.heap.size) (fn := Try.f44) (x := V44n.code) (V44n.cuts w.heap.size R) V44n.h (V44n.cfgOk _) mixed Try.func44 (by kernel_rfl) (by kernel_rfl) (by kernel_rfl) rfl (V44n.obl _ _) ((V44n.vc_eq _ _ a d f g i j l m n _).symm ▸ h)
def V52n.vc (B : Nat) (R : Value → World → Prop) (a : Option Addr) (c d : Nat) (f g i j l : Int) (m : Bool) (n : Int) (o : Option Addr) (p q : Nat) (r : Option Addr) (s t : Nat) (u : Option Addr) (x y : Nat) (w : World) : Prop :=
  ∀ z : Nat, w.heap.size ≤ z →
  ∀ A : Nat, w.heap.size ≤ A →
  Ret B w (R (.int .i64 2))
noncomputable def V52n.cfg (B : Nat) : Cfg := ⟨Try.prog, ⟨120, B⟩, [], hasN [], hasN []⟩
noncomputable def V52n.code : Code := (Try.f52.body).getD .skip
noncomputable def V52n.cuts (B : Nat) (R : Value → World → Prop) : Nat → Cut := nthC []
noncomputable def V52n.h : H := .s (.z) (.s (.s (.z) (.c (.s (.z) (.z)) (.z))) (.s (.s (.z) (.c (.s (.z) (.z)) (.z))) (.s (.z) (.s (.s (.z) (.s (.z) (.c (.s (.z) (.z)) (.z)))) (.s (.z) (.s (.s (.z) (.b (.z))) (.s (.z) (.s (.z) (.s (.z) (.s (.z) (.z)))))))))))
theorem V52n.vc_eq (B : Nat) (R : Value → World → Prop) (a : Option Addr) (c d : Nat) (f g i j l : Int) (m : Bool) (n : Int) (o : Option Addr) (p q : Nat) (r : Option Addr) (s t : Nat) (u : Option Addr) (x y : Nat) (w : World) : wpf (V52n.cfg B) (V52n.cuts B R) V52n.code V52n.h [] (postOf Try.prog B (Try.f52.results.toList) R) (argE 0 [.pointer none, .agg ⟨[.slice a c d]⟩, .int .i64 f, .int .i64 g, .agg ⟨[.int .i64 i, .int .i64 j, .int .i64 l, .bool m, .int .u64 n, .slice o p q, .slice r s t, .slice u x y]⟩]) [] w = V52n.vc B R a c d f g i j l m n o p q r s t u x y w := by kernel_rfl
theorem V52n.obl (B : Nat) (R : Value → World → Prop) : oblP (V52n.cfg B) (V52n.cuts B R) V52n.code V52n.h [] (postOf Try.prog B (Try.f52.results.toList) R) := by
  have e : oblP (V52n.cfg B) (V52n.cuts B R) V52n.code V52n.h [] (postOf Try.prog B (Try.f52.results.toList) R) = (True ∧ ((True ∧ ((True ∧ True) ∧ True)) ∧ ((True ∧ ((True ∧ True) ∧ True)) ∧ (True ∧ ((True ∧ (True ∧ ((True ∧ True) ∧ True))) ∧ (True ∧ ((True ∧ True) ∧ (True ∧ (True ∧ (True ∧ (True ∧ True))))))))))) := by kernel_rfl
  rw [e]
  exact ⟨trivial, ⟨⟨trivial, ⟨⟨trivial, trivial⟩, trivial⟩⟩, ⟨⟨trivial, ⟨⟨trivial, trivial⟩, trivial⟩⟩, ⟨trivial, ⟨⟨trivial, ⟨trivial, ⟨⟨trivial, trivial⟩, trivial⟩⟩⟩, ⟨trivial, ⟨⟨trivial, trivial⟩, ⟨trivial, ⟨trivial, ⟨trivial, ⟨trivial, trivial⟩⟩⟩⟩⟩⟩⟩⟩⟩⟩⟩
theorem V52n.cfgOk (B : Nat) : CfgOk (V52n.cfg B) := cfgOk_of (by kernel_rfl) (by kernel_rfl)
theorem V52n.sound {a : Option Addr} {d f : Nat} {g i j l m : Int} {n : Bool} {o : Int} {p : Option Addr} {q r : Nat} {s : Option Addr} {t u : Nat} {y : Option Addr} {z A : Nat} {w : World} {R : Value → World → Prop} (h : V52n.vc w.heap.size R a d f g i j l m n o p q r s t u y z A w) : Calls Try.prog 52 ⟨[.pointer none, .agg ⟨[.slice a d f]⟩, .int .i64 g, .int .i64 i, .agg ⟨[.int .i64 j, .int .i64 l, .int .i64 m, .bool n, .int .u64 o, .slice p q r, .slice s t u, .slice y z A]⟩]⟩ w fun e w' => ∃ v, e = .returned v ∧ R v w' :=
  calls_wpfP (c := V52n.cfg w.heap.size) (fn := Try.f52) (x := V52n.code) (V52n.cuts w.heap.size R) V52n.h (V52n.cfgOk _) mixed Try.func52 (by kernel_rfl) (by kernel_rfl) (by kernel_rfl) rfl (V52n.obl _ _) ((V52n.vc_eq _ _ a d f g i j l m n o p q r s t u y z A _).symm ▸ h)
def V54n.l1 (B : Nat) (R : Value → World → Prop) : Nat → Int → Option Addr → Nat → Nat → Int → Int → Nat → Int → Int → Int → Bool → Int → Option Addr → Nat → Nat → Option Addr → Nat → Nat → Option Addr → Nat → Nat → Nat → Int → Int → Int → Option Addr → Nat → Nat → Nat → Int → Int → Int → Int → Bool → Int → Int → Int → Nat → Int → Int → Int → Bool → Int → Option Addr → Nat → Nat → Option Addr → Nat → Nat → Option Addr → Nat → Nat → Nat → Option Addr → Nat → Nat → World → Prop
  | 0 => fun _ _ _ _ _ _ _ _ _ _ _ _ _ _ _ _ _ _ _ _ _ _ _ _ _ _ _ _ _ _ _ _ _ _ _ _ _ _ _ _ _ _ _ _ _ _ _ _ _ _ _ _ _ _ _ _ _ => False
  | k + 1 => fun c d f g i j l m n o p q r s t u x y z A C D E F G I J L M N O P Q S T U W X Y Z a0 b6 a2 A6 a4 a5 a6 a7 a8 a9 c0 c1 q4 p4 c4 c5 w =>
    if (decide (j < i)) = true
    then ((0 : Int) ≤ IntKind.wrap .i64 (7 + IntKind.wrap .i64 (j * 4)) ∧ IntKind.wrap .i64 (7 + IntKind.wrap .i64 (j * 4)) ≤ (f : Int) ∧ (0 : Int) ≤ 4 ∧ (4 : Int) ≤ ((g - ((IntKind.wrap .i64 (7 + IntKind.wrap .i64 (j * 4))).toNat) : Nat) : Int) ∧
    ∃ c6 : Addr, (if g - ((IntKind.wrap .i64 (7 + IntKind.wrap .i64 (j * 4))).toNat) = 0 then if g = (IntKind.wrap .i64 (7 + IntKind.wrap .i64 (j * 4))).toNat then d else Option.map (fun a => a.add ((IntKind.wrap .i64 (7 + IntKind.wrap .i64 (j * 4))).toNat)) d else Option.map (fun a => a.add 0) (if g = (IntKind.wrap .i64 (7 + IntKind.wrap .i64 (j * 4))).toNat then d else Option.map (fun a => a.add ((IntKind.wrap .i64 (7 + IntKind.wrap .i64 (j * 4))).toNat)) d)) = some c6 ∧ (0 : Int) ≤ 0 ∧ (0 : Int) < ((4 - 0 : Nat) : Int) ∧
    ∃ c7 : Int, w.cell? (c6.add 0) = some (.int .u64 c7) ∧
    if (decide (c7 ≥ IntKind.wrap .u64 (c4 : Int))) = true
     then (Ret B w (R (.tuple ⟨[.agg ⟨[.int .i64 0, .int .i64 0, .int .i64 0, .bool false, .int .u64 0, .slice none 0 0, .slice none 0 0, .slice none 0 0]⟩, .int .i64 0, .int .i64 6]⟩)))
     else (∃ c8 : Addr, (if g - ((IntKind.wrap .i64 (7 + IntKind.wrap .i64 (j * 4))).toNat) = 0 then if g = (IntKind.wrap .i64 (7 + IntKind.wrap .i64 (j * 4))).toNat then d else Option.map (fun a => a.add ((IntKind.wrap .i64 (7 + IntKind.wrap .i64 (j * 4))).toNat)) d else Option.map (fun a => a.add 0) (if g = (IntKind.wrap .i64 (7 + IntKind.wrap .i64 (j * 4))).toNat then d else Option.map (fun a => a.add ((IntKind.wrap .i64 (7 + IntKind.wrap .i64 (j * 4))).toNat)) d)) = some c8 ∧ (0 : Int) ≤ 0 ∧ (0 : Int) < ((4 - 0 : Nat) : Int) ∧
     ∃ c9 : Int, w.cell? (c8.add 0) = some (.int .u64 c9) ∧
     ∃ d0 : Addr, p4 = some d0 ∧ (0 : Int) ≤ IntKind.wrap .i64 c9 ∧ IntKind.wrap .i64 c9 < (c4 : Int) ∧
     ∃ d1 : Int, w.cell? ((d0.add ((IntKind.wrap .i64 c9).toNat * 4)).add 0) = some (.int .i64 d1) ∧ (0 : Int) ≤ IntKind.wrap .i64 (1 + d1) ∧ IntKind.wrap .i64 (1 + d1) ≤ (((g - ((IntKind.wrap .i64 (7 + IntKind.wrap .i64 (j * 4))).toNat)) - 0 : Nat) : Int) ∧ (0 : Int) ≤ 1 ∧ (1 : Int) ≤ (((IntKind.wrap .i64 (1 + d1)).toNat : Nat) : Int) ∧
     CallK Try.prog 104 [.slice (if (g - ((IntKind.wrap .i64 (7 + IntKind.wrap .i64 (j * 4))).toNat)) - 0 = 1 then if g - ((IntKind.wrap .i64 (7 + IntKind.wrap .i64 (j * 4))).toNat) = 0 then if g = (IntKind.wrap .i64 (7 + IntKind.wrap .i64 (j * 4))).toNat then d else Option.map (fun a => a.add ((IntKind.wrap .i64 (7 + IntKind.wrap .i64 (j * 4))).toNat)) d else Option.map (fun a => a.add 0) (if g = (IntKind.wrap .i64 (7 + IntKind.wrap .i64 (j * 4))).toNat then d else Option.map (fun a => a.add ((IntKind.wrap .i64 (7 + IntKind.wrap .i64 (j * 4))).toNat)) d) else Option.map (fun a => a.add 1) (if g - ((IntKind.wrap .i64 (7 + IntKind.wrap .i64 (j * 4))).toNat) = 0 then if g = (IntKind.wrap .i64 (7 + IntKind.wrap .i64 (j * 4))).toNat then d else Option.map (fun a => a.add ((IntKind.wrap .i64 (7 + IntKind.wrap .i64 (j * 4))).toNat)) d else Option.map (fun a => a.add 0) (if g = (IntKind.wrap .i64 (7 + IntKind.wrap .i64 (j * 4))).toNat then d else Option.map (fun a => a.add ((IntKind.wrap .i64 (7 + IntKind.wrap .i64 (j * 4))).toNat)) d))) (((IntKind.wrap .i64 (1 + d1)).toNat) - 1) (((g - ((IntKind.wrap .i64 (7 + IntKind.wrap .i64 (j * 4))).toNat)) - 0) - 1)] B w [l, D, M, X, q4] fun v d2 => 
      ∃ (d3 : Option Addr) (d4 d5 : Nat), v = .slice d3 d4 d5 ∧
      Expo B d2 [l, D, M, X, q4] fun d6 => 
      Hide [l, D, M, X, q4] (d6.alloc (.cells ⟨[.int .i64 (IntKind.wrap .i64 c9), .slice d3 d4 d5]⟩ 75)) fun d7 => 
      RunK Try.prog (Builtin.append_ #[65, 65] 65 ⟨[.slice r s t, .slice (some ⟨d6.heap.size, 0, none⟩) 1 1]⟩) B d7 [l, D, M, X, q4] fun d8 d9 => 
      ∃ (f0 : Option Addr) (f1 f2 : Nat), d8 = .slice f0 f1 f2 ∧ (V54n.l1 B R k) c d f g i (IntKind.wrap .i64 (j + 1)) l m n o p q f0 f1 f2 u x y z A C D E F G I J L M N O P Q S T U W X Y Z a0 b6 a2 A6 a4 a5 a6 a7 a8 a9 c0 c1 q4 p4 c4 c5 d9))
    else ((0 : Int) ≤ IntKind.wrap .i64 (c + F) ∧ IntKind.wrap .i64 (c + F) ≤ (g : Int) ∧ (0 : Int) ≤ c ∧ c ≤ (((IntKind.wrap .i64 (c + F)).toNat : Nat) : Int) ∧
    CallK Try.prog 104 [.slice (if g = c.toNat then d else Option.map (fun a => a.add c.toNat) d) (((IntKind.wrap .i64 (c + F)).toNat) - c.toNat) (g - c.toNat)] B w [l, D, M, X, q4] fun v d2 => 
     ∃ (f3 : Option Addr) (f4 f5 : Nat), v = .slice f3 f4 f5 ∧ (0 : Int) ≤ IntKind.wrap .i64 (c + F) ∧ IntKind.wrap .i64 (c + F) ≤ (f : Int) ∧ (0 : Int) ≤ W ∧ W ≤ ((g - ((IntKind.wrap .i64 (c + F)).toNat) : Nat) : Int) ∧
     CallK Try.prog 104 [.slice (if g - ((IntKind.wrap .i64 (c + F)).toNat) = 0 then if g = (IntKind.wrap .i64 (c + F)).toNat then d else Option.map (fun a => a.add ((IntKind.wrap .i64 (c + F)).toNat)) d else Option.map (fun a => a.add 0) (if g = (IntKind.wrap .i64 (c + F)).toNat then d else Option.map (fun a => a.add ((IntKind.wrap .i64 (c + F)).toNat)) d)) (W.toNat - 0) ((g - ((IntKind.wrap .i64 (c + F)).toNat)) - 0)] B d2 [l, D, M, X, q4] fun d8 d6 => 
     ∃ (f6 : Option Addr) (f7 f8 : Nat), d8 = .slice f6 f7 f8 ∧
     Ret B d6 (R (.tuple ⟨[.agg ⟨[.int .i64 m, .int .i64 n, .int .i64 o, .bool p, .int .u64 q, .slice r s t, .slice f3 f4 f5, .slice f6 f7 f8]⟩, .int .i64 N, .int .i64 0]⟩)))
def V54n.b0 (B : Nat) (R : Value → World → Prop) (a : Value) (c d : Int) (f : Nat) (g i j : Int) (l : Option Addr) (m n o : Nat) (p q r s : Int) (t : Bool) (u x y : Int) (z : Nat) (A C D : Int) (E : Bool) (F : Int) (G : Option Addr) (I J : Nat) (L : Option Addr) (M N : Nat) (O : Option Addr) (P Q S : Nat) (T : Option Addr) (U W : Nat) (w : World) : Prop :=
  CallK Try.prog 32 [.agg ⟨[.int .i64 g, .int .i64 i, .int .i64 j, .slice l m n]⟩] B w [f, o, z, S] fun v X => 
  ∃ Y : Int, v = .int .i64 Y ∧
  CallK Try.prog 94 [a, .int .i64 c, .int .i64 Y] B X [f, o, z, S] fun Z a1 => 
  ∃ (a2 : Option Addr) (a3 a4 : Nat) (a5 : Int), Z = .tuple ⟨[.slice a2 a3 a4, .int .i64 a5]⟩ ∧
  if (a5 != 0) = true
  then (Ret B a1 (R (.tuple ⟨[.agg ⟨[.int .i64 0, .int .i64 0, .int .i64 0, .bool false, .int .u64 0, .slice none 0 0, .slice none 0 0, .slice none 0 0]⟩, .int .i64 0, .int .i64 a5]⟩)))
  else (∀ a6 : Nat, a1.heap.size ≤ a6 →
  ∃ a7, V54n.l1 B R a7 d a2 a3 a4 x 0 a6 q r s t u none 0 0 none 0 0 none 0 0 f g i j l m n o p q r s t u x y z A C D E F G I J L M N O P Q S T U W a1)
def V54n.vc (B : Nat) (R : Value → World → Prop) (a : Option Addr) (c d : Nat) (f : Int) (w : World) : Prop :=
  ∀ g : Nat, w.heap.size ≤ g →
  ∀ i : Nat, w.heap.size ≤ i →
  CallK Try.prog 42 [.pointer none, .int .i64 f] B w [i, g] fun v j => 
  ∃ (l m n o : Int) (p : Bool) (q r s t : Int), v = .tuple ⟨[.agg ⟨[.int .i64 l, .int .i64 m, .int .i64 n, .int .i64 o, .bool p, .int .u64 q, .int .i64 r, .int .i64 s]⟩, .int .i64 t]⟩ ∧
  ∀ u : Nat, j.heap.size ≤ u →
  if (t != 0) = true
  then (Ret B j (R (.tuple ⟨[.agg ⟨[.int .i64 0, .int .i64 0, .int .i64 0, .bool false, .int .u64 0, .slice none 0 0, .slice none 0 0, .slice none 0 0]⟩, .int .i64 0, .int .i64 t]⟩)))
  else (CallK Try.prog 99 [.agg ⟨[.slice a c d]⟩, .int .i64 m] B j [u, i, g] fun x y => 
   ∃ (z A C : Int) (D : Option Addr) (E F : Nat) (G : Bool), x = .tuple ⟨[.agg ⟨[.int .i64 z, .int .i64 A, .int .i64 C, .slice D E F]⟩, .bool G]⟩ ∧
   ∀ I : Nat, y.heap.size ≤ I →
   if (!G) = true
   then (Ret B y (R (.tuple ⟨[.agg ⟨[.int .i64 0, .int .i64 0, .int .i64 0, .bool false, .int .u64 0, .slice none 0 0, .slice none 0 0, .slice none 0 0]⟩, .int .i64 0, .int .i64 6]⟩)))
   else (CallK Try.prog 100 [.agg ⟨[.int .i64 z, .int .i64 A, .int .i64 C, .slice D E F]⟩] B y [I, u, i, g] fun J L => 
    ∃ (M : Int) (N : Bool), J = .tuple ⟨[.int .i64 M, .bool N]⟩ ∧
    if (decide (n > (E : Int))) = false
    then (if (decide (r > 4)) = false
     then (if (decide (r > 0)) = true
      then (if (!N) = false
       then (if (decide (s > 8)) = true
        then (Ret B L (R (.tuple ⟨[.agg ⟨[.int .i64 0, .int .i64 0, .int .i64 0, .bool false, .int .u64 0, .slice none 0 0, .slice none 0 0, .slice none 0 0]⟩, .int .i64 0, .int .i64 6]⟩)))
        else (V54n.b0 B R (.pointer none) f M I z A C D E F u l m n o p q r s i 0 0 0 false 0 none 0 0 none 0 0 none 0 0 g a c d L))
       else (Ret B L (R (.tuple ⟨[.agg ⟨[.int .i64 0, .int .i64 0, .int .i64 0, .bool false, .int .u64 0, .slice none 0 0, .slice none 0 0, .slice none 0 0]⟩, .int .i64 0, .int .i64 6]⟩))))
      else (if (decide (s > 8)) = true
       then (Ret B L (R (.tuple ⟨[.agg ⟨[.int .i64 0, .int .i64 0, .int .i64 0, .bool false, .int .u64 0, .slice none 0 0, .slice none 0 0, .slice none 0 0]⟩, .int .i64 0, .int .i64 6]⟩)))
       else (V54n.b0 B R (.pointer none) f M I z A C D E F u l m n o p q r s i 0 0 0 false 0 none 0 0 none 0 0 none 0 0 g a c d L)))
     else (Ret B L (R (.tuple ⟨[.agg ⟨[.int .i64 0, .int .i64 0, .int .i64 0, .bool false, .int .u64 0, .slice none 0 0, .slice none 0 0, .slice none 0 0]⟩, .int .i64 0, .int .i64 6]⟩))))
    else (Ret B L (R (.tuple ⟨[.agg ⟨[.int .i64 0, .int .i64 0, .int .i64 0, .bool false, .int .u64 0, .slice none 0 0, .slice none 0 0, .slice none 0 0]⟩, .int .i64 0, .int .i64 6]⟩)))))
noncomputable def V54n.cfg (B : Nat) : Cfg := ⟨Try.prog, ⟨159, B⟩, [], hasN [32, 42, 94, 99, 100, 104], hasN []⟩
noncomputable def V54n.code : Code := (Try.f54.body).getD .skip
noncomputable def V54n.cuts (B : Nat) (R : Value → World → Prop) : Nat → Cut := nthC [⟨[(0, .one (.any)), (2, .one (.int .i64)), (13, .one (.int .i64))], [(11, 29, [.int .i64, .int .i64, .int .i64, .slice]), (9, 53, [.int .i64, .int .i64, .int .i64, .int .i64, .bool, .int .u64, .int .i64, .int .i64]), (6, 67, [.int .i64, .int .i64, .int .i64, .bool, .int .u64, .slice, .slice, .slice]), (4, 24, [.slice])], fun fs vs bs w => V54n.b0 B R (id (nthV vs 0)) (iV (nthV vs 1)) (iV (nthV vs 2)) (nthB bs 0).blk (iV (nthV (nthB bs 0).cells 0)) (iV (nthV (nthB bs 0).cells 1)) (iV (nthV (nthB bs 0).cells 2)) (slA (nthV (nthB bs 0).cells 3)) (slL (nthV (nthB bs 0).cells 3)) (slC (nthV (nthB bs 0).cells 3)) (nthB bs 1).blk (iV (nthV (nthB bs 1).cells 0)) (iV (nthV (nthB bs 1).cells 1)) (iV (nthV (nthB bs 1).cells 2)) (iV (nthV (nthB bs 1).cells 3)) (bV (nthV (nthB bs 1).cells 4)) (iV (nthV (nthB bs 1).cells 5)) (iV (nthV (nthB bs 1).cells 6)) (iV (nthV (nthB bs 1).cells 7)) (nthB bs 2).blk (iV (nthV (nthB bs 2).cells 0)) (iV (nthV (nthB bs 2).cells 1)) (iV (nthV (nthB bs 2).cells 2)) (bV (nthV (nthB bs 2).cells 3)) (iV (nthV (nthB bs 2).cells 4)) (slA (nthV (nthB bs 2).cells 5)) (slL (nthV (nthB bs 2).cells 5)) (slC (nthV (nthB bs 2).cells 5)) (slA (nthV (nthB bs 2).cells 6)) (slL (nthV (nthB bs 2).cells 6)) (slC (nthV (nthB bs 2).cells 6)) (slA (nthV (nthB bs 2).cells 7)) (slL (nthV (nthB bs 2).cells 7)) (slC (nthV (nthB bs 2).cells 7)) (nthB bs 3).blk (slA (nthV (nthB bs 3).cells 0)) (slL (nthV (nthB bs 3).cells 0)) (slC (nthV (nthB bs 3).cells 0)) w⟩,
  ⟨[(13, .one (.int .i64)), (15, .one (.slice)), (95, .one (.int .i64)), (96, .one (.int .i64))], [(16, 67, [.int .i64, .int .i64, .int .i64, .bool, .int .u64, .slice, .slice, .slice]), (11, 29, [.int .i64, .int .i64, .int .i64, .slice]), (9, 53, [.int .i64, .int .i64, .int .i64, .int .i64, .bool, .int .u64, .int .i64, .int .i64]), (6, 67, [.int .i64, .int .i64, .int .i64, .bool, .int .u64, .slice, .slice, .slice]), (4, 24, [.slice])], fun fs vs bs w => V54n.l1 B R (nthN fs 0) (iV (nthV vs 0)) (slA (nthV vs 1)) (slL (nthV vs 1)) (slC (nthV vs 1)) (iV (nthV vs 2)) (iV (nthV vs 3)) (nthB bs 0).blk (iV (nthV (nthB bs 0).cells 0)) (iV (nthV (nthB bs 0).cells 1)) (iV (nthV (nthB bs 0).cells 2)) (bV (nthV (nthB bs 0).cells 3)) (iV (nthV (nthB bs 0).cells 4)) (slA (nthV (nthB bs 0).cells 5)) (slL (nthV (nthB bs 0).cells 5)) (slC (nthV (nthB bs 0).cells 5)) (slA (nthV (nthB bs 0).cells 6)) (slL (nthV (nthB bs 0).cells 6)) (slC (nthV (nthB bs 0).cells 6)) (slA (nthV (nthB bs 0).cells 7)) (slL (nthV (nthB bs 0).cells 7)) (slC (nthV (nthB bs 0).cells 7)) (nthB bs 1).blk (iV (nthV (nthB bs 1).cells 0)) (iV (nthV (nthB bs 1).cells 1)) (iV (nthV (nthB bs 1).cells 2)) (slA (nthV (nthB bs 1).cells 3)) (slL (nthV (nthB bs 1).cells 3)) (slC (nthV (nthB bs 1).cells 3)) (nthB bs 2).blk (iV (nthV (nthB bs 2).cells 0)) (iV (nthV (nthB bs 2).cells 1)) (iV (nthV (nthB bs 2).cells 2)) (iV (nthV (nthB bs 2).cells 3)) (bV (nthV (nthB bs 2).cells 4)) (iV (nthV (nthB bs 2).cells 5)) (iV (nthV (nthB bs 2).cells 6)) (iV (nthV (nthB bs 2).cells 7)) (nthB bs 3).blk (iV (nthV (nthB bs 3).cells 0)) (iV (nthV (nthB bs 3).cells 1)) (iV (nthV (nthB bs 3).cells 2)) (bV (nthV (nthB bs 3).cells 3)) (iV (nthV (nthB bs 3).cells 4)) (slA (nthV (nthB bs 3).cells 5)) (slL (nthV (nthB bs 3).cells 5)) (slC (nthV (nthB bs 3).cells 5)) (slA (nthV (nthB bs 3).cells 6)) (slL (nthV (nthB bs 3).cells 6)) (slC (nthV (nthB bs 3).cells 6)) (slA (nthV (nthB bs 3).cells 7)) (slL (nthV (nthB bs 3).cells 7)) (slC (nthV (nthB bs 3).cells 7)) (nthB bs 4).blk (slA (nthV (nthB bs 4).cells 0)) (slL (nthV (nthB bs 4).cells 0)) (slC (nthV (nthB bs 4).cells 0)) w⟩]
noncomputable def V54n.h : H := .s (.z) (.s (.z) (.s (.s (.z) (.c (.s (.z) (.z)) (.z))) (.s (.z) (.s (.s (.z) (.c (.s (.z) (.z)) (.z))) (.s (.z) (.cut 0 (.s (.z) (.c (.s (.z) (.z)) (.z))) (.s (.z) (.s (.s (.z) (.c (.s (.z) (.z)) (.z))) (.s (.z) (.s (.s (.z) (.b (.l 1 (.s (.z) (.s (.c (.z) (.z)) (.s (.b (.s (.z) (.s (.z) (.s (.s (.r [[0, 1, 2, 3, 4, 5, 6, 7]]) (.c (.s (.z) (.z)) (.z))) (.s (.z) (.r [[0, 1, 2, 3, 4, 5, 6, 7, 8, 9, 10, 11, 12, 13, 14, 15, 16, 17]])))))) (.z))))))) (.s (.z) (.s (.r [[0, 1, 2, 3, 4, 5, 6, 7, 8, 9, 10, 11]]) (.s (.r [[0, 1, 2, 3, 4, 5]]) (.z))))))))))))))
theorem V54n.vc_eq (B : Nat) (R : Value → World → Prop) (a : Option Addr) (c d : Nat) (f : Int) (w : World) : wpf (V54n.cfg B) (V54n.cuts B R) V54n.code V54n.h [] (postOf Try.prog B (Try.f54.results.toList) R) (argE 0 [.pointer none, .agg ⟨[.slice a c d]⟩, .int .i64 f]) [] w = V54n.vc B R a c d f w := by kernel_rfl
theorem V54n.obl (B : Nat) (R : Value → World → Prop) : oblP (V54n.cfg B) (V54n.cuts B R) V54n.code V54n.h [] (postOf Try.prog B (Try.f54.results.toList) R) := by
  have e : oblP (V54n.cfg B) (V54n.cuts B R) V54n.code V54n.h [] (postOf Try.prog B (Try.f54.results.toList) R) = (True ∧ (True ∧ ((True ∧ ((True ∧ True) ∧ True)) ∧ (True ∧ ((True ∧ ((True ∧ True) ∧ True)) ∧ (True ∧ ((True ∧ ((True ∧ True) ∧ True)) ∧ (∀ (a : Value) (c d : Int) (f : Nat) (g i j : Int) (l : Option Addr) (m n o : Nat) (p q r s : Int) (t : Bool) (u x y : Int) (z : Nat) (A C D : Int) (E : Bool) (F : Int) (G : Option Addr) (I J : Nat) (L : Option Addr) (M N : Nat) (O : Option Addr) (P Q S : Nat) (T : Option Addr) (U W : Nat) (w : World), V54n.b0 B R a c d f g i j l m n o p q r s t u x y z A C D E F G I J L M N O P Q S T U W w → V54n.b0 B R a c d f g i j l m n o p q r s t u x y z A C D E F G I J L M N O P Q S T U W w) ∧ (True ∧ ((True ∧ ((True ∧ True) ∧ True)) ∧ (True ∧ ((True ∧ ((∀ (d : Int) (X : Option Addr) (Y Z : Nat) (a1 a2 : Int) (a3 : Nat) (a4 a5 a6 : Int) (a7 : Bool) (a8 : Int) (a9 : Option Addr) (c0 c1 : Nat) (c2 : Option Addr) (c3 c4 : Nat) (c5 : Option Addr) (c6 c7 f : Nat) (g i j : Int) (l : Option Addr) (m n o : Nat) (p q r s : Int) (t : Bool) (u x y : Int) (z : Nat) (A C D : Int) (E : Bool) (F : Int) (G : Option Addr) (I J : Nat) (L : Option Addr) (M N : Nat) (O : Option Addr) (P Q S : Nat) (T : Option Addr) (U W : Nat) (w : World), ¬ V54n.l1 B R 0 d X Y Z a1 a2 a3 a4 a5 a6 a7 a8 a9 c0 c1 c2 c3 c4 c5 c6 c7 f g i j l m n o p q r s t u x y z A C D E F G I J L M N O P Q S T U W w) ∧ (∀ k1, ∀ (d : Int) (X : Option Addr) (Y Z : Nat) (a1 a2 : Int) (a3 : Nat) (a4 a5 a6 : Int) (a7 : Bool) (a8 : Int) (a9 : Option Addr) (c0 c1 : Nat) (c2 : Option Addr) (c3 c4 : Nat) (c5 : Option Addr) (c6 c7 f : Nat) (g i j : Int) (l : Option Addr) (m n o : Nat) (p q r s : Int) (t : Bool) (u x y : Int) (z : Nat) (A C D : Int) (E : Bool) (F : Int) (G : Option Addr) (I J : Nat) (L : Option Addr) (M N : Nat) (O : Option Addr) (P Q S : Nat) (T : Option Addr) (U W : Nat) (w : World), V54n.l1 B R (k1 + 1) d X Y Z a1 a2 a3 a4 a5 a6 a7 a8 a9 c0 c1 c2 c3 c4 c5 c6 c7 f g i j l m n o p q r s t u x y z A C D E F G I J L M N O P Q S T U W w → V54n.l1 B R (k1 + 1) d X Y Z a1 a2 a3 a4 a5 a6 a7 a8 a9 c0 c1 c2 c3 c4 c5 c6 c7 f g i j l m n o p q r s t u x y z A C D E F G I J L M N O P Q S T U W w) ∧ ∀ k1 : Nat, (True ∧ ((True ∧ True) ∧ ((True ∧ (True ∧ (((true = true) ∧ ((True ∧ True) ∧ True)) ∧ (True ∧ (true = true))))) ∧ True))))) ∧ (True ∧ ((true = true) ∧ ((true = true) ∧ True)))))))))))))) := by kernel_rfl
  rw [e]
  exact ⟨trivial, ⟨trivial, ⟨⟨trivial, ⟨⟨trivial, trivial⟩, trivial⟩⟩, ⟨trivial, ⟨⟨trivial, ⟨⟨trivial, trivial⟩, trivial⟩⟩, ⟨trivial, ⟨⟨trivial, ⟨⟨trivial, trivial⟩, trivial⟩⟩, fun a c d f g i j l m n o p q r s t u x y z A C D E F G I J L M N O P Q S T U W w h => h, ⟨trivial, ⟨⟨trivial, ⟨⟨trivial, trivial⟩, trivial⟩⟩, ⟨trivial, ⟨⟨trivial, ⟨fun d X Y Z a1 a2 a3 a4 a5 a6 a7 a8 a9 c0 c1 c2 c3 c4 c5 c6 c7 f g i j l m n o p q r s t u x y z A C D E F G I J L M N O P Q S T U W w h => h, fun _ d X Y Z a1 a2 a3 a4 a5 a6 a7 a8 a9 c0 c1 c2 c3 c4 c5 c6 c7 f g i j l m n o p q r s t u x y z A C D E F G I J L M N O P Q S T U W w h => h, fun k1 => ⟨trivial, ⟨⟨trivial, trivial⟩, ⟨⟨trivial, ⟨trivial, ⟨⟨rfl, ⟨⟨trivial, trivial⟩, trivial⟩⟩, ⟨trivial, rfl⟩⟩⟩⟩, trivial⟩⟩⟩⟩⟩, ⟨trivial, ⟨rfl, ⟨rfl, trivial⟩⟩⟩⟩⟩⟩⟩⟩⟩⟩⟩⟩⟩⟩
theorem V54n.cfgOk (B : Nat) : CfgOk (V54n.cfg B) := cfgOk_of (by kernel_rfl) (by kernel_rfl)
theorem V54n.sound {a : Option Addr} {d f : Nat} {g : Int} {w : World} {R : Value → World → Prop} (h : V54n.vc w.heap.size R a d f g w) : Calls Try.prog 54 ⟨[.pointer none, .agg ⟨[.slice a d f]⟩, .int .i64 g]⟩ w fun e w' => ∃ v, e = .returned v ∧ R v w' :=
  calls_wpfP (c := V54n.cfg w.heap.size) (fn := Try.f54) (x := V54n.code) (V54n.cuts w.heap.size R) V54n.h (V54n.cfgOk _) mixed Try.func54 (by kernel_rfl) (by kernel_rfl) (by kernel_rfl) rfl (V54n.obl _ _) ((V54n.vc_eq _ _ a d f g _).symm ▸ h)
def V94n.vc (B : Nat) (R : Value → World → Prop) (a c : Int) (w : World) : Prop :=
  CallK Try.prog 105 [.pointer none, .int .i64 a, .int .i64 c] B w [] fun v d => 
  ∃ (f : Option Addr) (g i : Nat) (j : Int), v = .tuple ⟨[.slice f g i, .int .i64 j]⟩ ∧
  CallK Try.prog 124 [.slice f g i] B d [] fun l m => 
  ∃ (n : Option Addr) (o p : Nat), l = .slice n o p ∧
  Ret B m (R (.tuple ⟨[.slice n o p, .int .i64 j]⟩))
noncomputable def V94n.cfg (B : Nat) : Cfg := ⟨Try.prog, ⟨20, B⟩, [], hasN [105, 124], hasN []⟩
noncomputable def V94n.code : Code := (Try.f94.body).getD .skip
noncomputable def V94n.cuts (B : Nat) (R : Value → World → Prop) : Nat → Cut := nthC []
noncomputable def V94n.h : H := .s (.z) (.s (.z) (.s (.z) (.z)))
theorem V94n.vc_eq (B : Nat) (R : Value → World → Prop) (a c : Int) (w : World) : wpf (V94n.cfg B) (V94n.cuts B R) V94n.code V94n.h [] (postOf Try.prog B (Try.f94.results.toList) R) (argE 0 [.pointer none, .int .i64 a, .int .i64 c]) [] w = V94n.vc B R a c w := by kernel_rfl
theorem V94n.obl (B : Nat) (R : Value → World → Prop) : oblP (V94n.cfg B) (V94n.cuts B R) V94n.code V94n.h [] (postOf Try.prog B (Try.f94.results.toList) R) := by
  have e : oblP (V94n.cfg B) (V94n.cuts B R) V94n.code V94n.h [] (postOf Try.prog B (Try.f94.results.toList) R) = (True ∧ (True ∧ (True ∧ True))) := by kernel_rfl
  rw [e]
  exact ⟨trivial, ⟨trivial, ⟨trivial, trivial⟩⟩⟩
theorem V94n.cfgOk (B : Nat) : CfgOk (V94n.cfg B) := cfgOk_of (by kernel_rfl) (by kernel_rfl)
theorem V94n.sound {a d : Int} {w : World} {R : Value → World → Prop} (h : V94n.vc w.heap.size R a d w) : Calls Try.prog 94 ⟨[.pointer none, .int .i64 a, .int .i64 d]⟩ w fun e w' => ∃ v, e = .returned v ∧ R v w' :=
  calls_wpfP (c := V94n.cfg w.heap.size) (fn := Try.f94) (x := V94n.code) (V94n.cuts w.heap.size R) V94n.h (V94n.cfgOk _) mixed Try.func94 (by kernel_rfl) (by kernel_rfl) (by kernel_rfl) rfl (V94n.obl _ _) ((V94n.vc_eq _ _ a d _).symm ▸ h)
def V105n.vc (B : Nat) (R : Value → World → Prop) (a c : Int) (w : World) : Prop :=
  Ret B w (R (.tuple ⟨[.slice none 0 0, .int .i64 2]⟩))
noncomputable def V105n.cfg (B : Nat) : Cfg := ⟨Try.prog, ⟨47, B⟩, [], hasN [], hasN []⟩
noncomputable def V105n.code : Code := (Try.f105.body).getD .skip
noncomputable def V105n.cuts (B : Nat) (R : Value → World → Prop) : Nat → Cut := nthC []
noncomputable def V105n.h : H := .s (.z) (.s (.b (.s (.z) (.c (.s (.z) (.z)) (.s (.z) (.c (.s (.z) (.z)) (.z)))))) (.s (.z) (.z)))
theorem V105n.vc_eq (B : Nat) (R : Value → World → Prop) (a c : Int) (w : World) : wpf (V105n.cfg B) (V105n.cuts B R) V105n.code V105n.h [] (postOf Try.prog B (Try.f105.results.toList) R) (argE 0 [.pointer none, .int .i64 a, .int .i64 c]) [] w = V105n.vc B R a c w := by kernel_rfl
theorem V105n.obl (B : Nat) (R : Value → World → Prop) : oblP (V105n.cfg B) (V105n.cuts B R) V105n.code V105n.h [] (postOf Try.prog B (Try.f105.results.toList) R) := by
  have e : oblP (V105n.cfg B) (V105n.cuts B R) V105n.code V105n.h [] (postOf Try.prog B (Try.f105.results.toList) R) = (True ∧ ((True ∧ ((True ∧ True) ∧ (True ∧ ((True ∧ True) ∧ True)))) ∧ (True ∧ True))) := by kernel_rfl
  rw [e]
  exact ⟨trivial, ⟨⟨trivial, ⟨⟨trivial, trivial⟩, ⟨trivial, ⟨⟨trivial, trivial⟩, trivial⟩⟩⟩⟩, ⟨trivial, trivial⟩⟩⟩
theorem V105n.cfgOk (B : Nat) : CfgOk (V105n.cfg B) := cfgOk_of (by kernel_rfl) (by kernel_rfl)
theorem V105n.sound {a d : Int} {w : World} {R : Value → World → Prop} (h : V105n.vc w.heap.size R a d w) : Calls Try.prog 105 ⟨[.pointer none, .int .i64 a, .int .i64 d]⟩ w fun e w' => ∃ v, e = .returned v ∧ R v w' :=
  calls_wpfP (c := V105n.cfg w.heap.size) (fn := Try.f105) (x := V105n.code) (V105n.cuts w.heap.size R) V105n.h (V105n.cfgOk _) mixed Try.func105 (by kernel_rfl) (by kernel_rfl) (by kernel_rfl) rfl (V105n.obl _ _) ((V105n.vc_eq _ _ a d _).symm ▸ h)
def V59n.vc (B : Nat) (R : Value → World → Prop) (a : Option Addr) (c d : Nat) (f : Int) (w : World) : Prop :=
  ∀ g : Nat, w.heap.size ≤ g →
  Ret B w (R (.tuple ⟨[.slice none 0 0, .int .i64 2]⟩))
noncomputable def V59n.cfg (B : Nat) : Cfg := ⟨Try.prog, ⟨57, B⟩, [], hasN [], hasN []⟩
noncomputable def V59n.code : Code := (Try.f59.body).getD .skip
noncomputable def V59n.cuts (B : Nat) (R : Value → World → Prop) : Nat → Cut := nthC []
noncomputable def V59n.h : H := .s (.z) (.s (.s (.z) (.c (.s (.z) (.z)) (.z))) (.s (.z) (.s (.s (.z) (.b (.z))) (.s (.z) (.z)))))
theorem V59n.vc_eq (B : Nat) (R : Value → World → Prop) (a : Option Addr) (c d : Nat) (f : Int) (w : World) : wpf (V59n.cfg B) (V59n.cuts B R) V59n.code V59n.h [] (postOf Try.prog B (Try.f59.results.toList) R) (argE 0 [.pointer none, .agg ⟨[.slice a c d]⟩, .int .i64 f]) [] w = V59n.vc B R a c d f w := by kernel_rfl
theorem V59n.obl (B : Nat) (R : Value → World → Prop) : oblP (V59n.cfg B) (V59n.cuts B R) V59n.code V59n.h [] (postOf Try.prog B (Try.f59.results.toList) R) := by
  have e : oblP (V59n.cfg B) (V59n.cuts B R) V59n.code V59n.h [] (postOf Try.prog B (Try.f59.results.toList) R) = (True ∧ ((True ∧ ((True ∧ True) ∧ True)) ∧ (True ∧ ((True ∧ True) ∧ (True ∧ True))))) := by kernel_rfl
  rw [e]
  exact ⟨trivial, ⟨⟨trivial, ⟨⟨trivial, trivial⟩, trivial⟩⟩, ⟨trivial, ⟨⟨trivial, trivial⟩, ⟨trivial, trivial⟩⟩⟩⟩⟩
theorem V59n.cfgOk (B : Nat) : CfgOk (V59n.cfg B) := cfgOk_of (by kernel_rfl) (by kernel_rfl)
theorem V59n.sound {a : Option Addr} {d f : Nat} {g : Int} {w : World} {R : Value → World → Prop} (h : V59n.vc w.heap.size R a d f g w) : Calls Try.prog 59 ⟨[.pointer none, .agg ⟨[.slice a d f]⟩, .int .i64 g]⟩ w fun e w' => ∃ v, e = .returned v ∧ R v w' :=
  calls_wpfP (c := V59n.cfg w.heap.size) (fn := Try.f59) (x := V59n.code) (V59n.cuts w.heap.size R) V59n.h (V59n.cfgOk _) mixed Try.func59 (by kernel_rfl) (by kernel_rfl) (by kernel_rfl) rfl (V59n.obl _ _) ((V59n.vc_eq _ _ a d f g _).symm ▸ h)
end Go.Proofs.Ytlccbaemcfjdoaa
