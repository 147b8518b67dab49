/-
  What the engine makes of the loaded functions 42, 43, 44, 45, 47, 49, 50, 52, 53, 54, 55, 56, 96, 97, 99, 100, 101: conditions under which a call returns as told, and proofs of that.
  Conditions: none. Printed by a program of this project.
-/
import Derived.Test.YtlccbaemcfjdoaaZWA
set_option linter.unusedVariables false
set_option maxRecDepth 100000
namespace Go.Proofs.Ytlccbaemcfjdoaa
def V42.l0 (B : Nat) (R : Value → World → Prop) : Nat → Option Addr → Nat → Nat → Int → Int → Int → Int → Int → Int → Nat → Int → Int → Int → Int → Bool → Int → Int → Int → World → Prop
  | 0 => fun _ _ _ _ _ _ _ _ _ _ _ _ _ _ _ _ _ _ _ => False
  | k + 1 => fun a c d f g i j l m n o p q r s t u x w =>
    if (decide (m < 4)) = true
    then ((0 : Int) ≤ m ∧ m < 4 ∧
    ∃ y : Addr, a = some y ∧ (0 : Int) ≤ ([g, i, j, l] : List Int).getD m.toNat 0 ∧ ([g, i, j, l] : List Int).getD m.toNat 0 < (c : Int) ∧
    ∃ z : Int, w.cell? (y.add ((([g, i, j, l] : List Int).getD m.toNat 0).toNat)) = some (.int .u64 z) ∧
    if (decide (z > 2147483648)) = true
     then (Ret B w (R (.tuple ⟨[.agg ⟨[.int .i64 0, .int .i64 0, .int .i64 0, .int .i64 0, .bool false, .int .u64 0, .int .i64 0, .int .i64 0]⟩, .int .i64 6]⟩)))
     else ((V42.l0 B R k) a c d f g i j l (IntKind.wrap .i64 (m + 1)) n o p q r s t u x w))
    else (∃ A : Addr, a = some A ∧ (0 : Int) ≤ 0 ∧ (0 : Int) < (c : Int) ∧
    ∃ C : Int, w.cell? (A.add 0) = some (.int .u64 C) ∧
    ∃ D : Addr, a = some D ∧ (0 : Int) ≤ 1 ∧ (1 : Int) < (c : Int) ∧
    ∃ E : Int, w.cell? (D.add 1) = some (.int .u64 E) ∧
    ∃ F : Addr, a = some F ∧ (0 : Int) ≤ 2 ∧ (2 : Int) < (c : Int) ∧
    ∃ G : Int, w.cell? (F.add 2) = some (.int .u64 G) ∧
    ∃ I : Addr, a = some I ∧ (0 : Int) ≤ 3 ∧ (3 : Int) < (c : Int) ∧
    ∃ J : Int, w.cell? (I.add 3) = some (.int .u64 J) ∧
    ∃ L : Addr, a = some L ∧ (0 : Int) ≤ 4 ∧ (4 : Int) < (c : Int) ∧
    ∃ M : Int, w.cell? (L.add 4) = some (.int .u64 M) ∧
    ∃ N : Addr, a = some N ∧ (0 : Int) ≤ 5 ∧ (5 : Int) < (c : Int) ∧
    ∃ O : Int, w.cell? (N.add 5) = some (.int .u64 O) ∧
    ∃ P : Addr, a = some P ∧ (0 : Int) ≤ 6 ∧ (6 : Int) < (c : Int) ∧
    ∃ Q : Int, w.cell? (P.add 6) = some (.int .u64 Q) ∧
    Ret B w (R (.tuple ⟨[.agg ⟨[.int .i64 (IntKind.wrap .i64 (IntKind.wrap .i64 C - 1)), .int .i64 (IntKind.wrap .i64 E), .int .i64 (IntKind.wrap .i64 G), .int .i64 (IntKind.wrap .i64 f), .bool (J != f), .int .u64 M, .int .i64 (IntKind.wrap .i64 O), .int .i64 (IntKind.wrap .i64 Q)]⟩, .int .i64 0]⟩)))
def V42.vc (B : Nat) (R : Value → World → Prop) (a : Addr) (c : Int) (w : World) : Prop :=
  ∀ d : Nat, w.heap.size ≤ d →
  CallK Try.prog 94 [.pointer (some a), .int .i64 c, .int .i64 7] B w [d] fun v f => 
  ∃ (g : Option Addr) (i j : Nat) (l : Int), v = .tuple ⟨[.slice g i j, .int .i64 l]⟩ ∧
  if (l != 0) = true
  then (Ret B f (R (.tuple ⟨[.agg ⟨[.int .i64 0, .int .i64 0, .int .i64 0, .int .i64 0, .bool false, .int .u64 0, .int .i64 0, .int .i64 0]⟩, .int .i64 l]⟩)))
  else (∃ m : Addr, g = some m ∧ (0 : Int) ≤ 3 ∧ (3 : Int) < (i : Int) ∧
  ∃ n : Int, f.cell? (m.add 3) = some (.int .u64 n) ∧
  ∃ o : Addr, g = some o ∧ (0 : Int) ≤ 0 ∧ (0 : Int) < (i : Int) ∧
  ∃ p : Int, f.cell? (o.add 0) = some (.int .u64 p) ∧
  CallK Try.prog 93 [.pointer (some a)] B f [d] fun q r => 
   ∃ s : Int, q = .int .i64 s ∧ r.cell? (o.add 0) = some (.int .u64 p) ∧
   if (decide (p > IntKind.wrap .u64 s)) = false
   then (if (decide (IntKind.wrap .u64 (((BitVec.ofInt 64 n &&& ~~~ BitVec.ofInt 64 4).toNat : Nat) : Int) > 2)) = true
    then (Ret B r (R (.tuple ⟨[.agg ⟨[.int .i64 0, .int .i64 0, .int .i64 0, .int .i64 0, .bool false, .int .u64 0, .int .i64 0, .int .i64 0]⟩, .int .i64 6]⟩)))
    else (∃ t, V42.l0 B R t g i j (IntKind.wrap .u64 (((BitVec.ofInt 64 n &&& ~~~ BitVec.ofInt 64 4).toNat : Nat) : Int)) 1 2 5 6 0 d 0 0 0 0 false 0 0 0 r))
   else (Ret B r (R (.tuple ⟨[.agg ⟨[.int .i64 0, .int .i64 0, .int .i64 0, .int .i64 0, .bool false, .int .u64 0, .int .i64 0, .int .i64 0]⟩, .int .i64 6]⟩))))
noncomputable def V42.cfg (B : Nat) : Cfg := ⟨Try.prog, ⟨80, B⟩, [], hasN [93, 94], hasN []⟩
noncomputable def V42.code : Code := (Try.f42.body).getD .skip
noncomputable def V42.cuts (B : Nat) (R : Value → World → Prop) : Nat → Cut := nthC [⟨[(6, .one (.slice)), (8, .one (.int .u64)), (37, .agg [.int .i64, .int .i64, .int .i64, .int .i64]), (38, .one (.int .i64))], [(4, 53, [.int .i64, .int .i64, .int .i64, .int .i64, .bool, .int .u64, .int .i64, .int .i64])], fun fs vs bs w => V42.l0 B R (nthN fs 0) (slA (nthV vs 0)) (slL (nthV vs 0)) (slC (nthV vs 0)) (iV (nthV vs 1)) (iV (nthV (cellsOfV (nthV vs 2)) 0)) (iV (nthV (cellsOfV (nthV vs 2)) 1)) (iV (nthV (cellsOfV (nthV vs 2)) 2)) (iV (nthV (cellsOfV (nthV vs 2)) 3)) (iV (nthV vs 3)) (nthB bs 0).blk (iV (nthV (nthB bs 0).cells 0)) (iV (nthV (nthB bs 0).cells 1)) (iV (nthV (nthB bs 0).cells 2)) (iV (nthV (nthB bs 0).cells 3)) (bV (nthV (nthB bs 0).cells 4)) (iV (nthV (nthB bs 0).cells 5)) (iV (nthV (nthB bs 0).cells 6)) (iV (nthV (nthB bs 0).cells 7)) w⟩]
noncomputable def V42.h : H := .s (.z) (.s (.z) (.s (.s (.z) (.c (.s (.z) (.z)) (.z))) (.s (.z) (.s (.s (.r [[0, 1, 2, 3, 4, 5, 6, 7, 8, 9, 10]]) (.c (.s (.z) (.z)) (.z))) (.s (.s (.z) (.b (.l 0 (.s (.z) (.s (.c (.z) (.z)) (.s (.b (.s (.z) (.s (.z) (.c (.s (.z) (.z)) (.z))))) (.z))))))) (.s (.r [[0, 1, 2, 3, 4, 5, 6, 7, 8, 9, 10, 11, 12, 13, 14, 15, 16, 17, 18, 19, 20, 21, 22, 23, 24, 25, 26, 27, 28, 29, 30, 31, 32, 33]]) (.z)))))))
theorem V42.vc_eq (B : Nat) (R : Value → World → Prop) (a : Addr) (c : Int) (w : World) : wpf (V42.cfg B) (V42.cuts B R) V42.code V42.h [] (postOf Try.prog B (Try.f42.results.toList) R) (argE 0 [.pointer (some a), .int .i64 c]) [] w = V42.vc B R a c w := by kernel_rfl
theorem V42.obl (B : Nat) (R : Value → World → Prop) : oblP (V42.cfg B) (V42.cuts B R) V42.code V42.h [] (postOf Try.prog B (Try.f42.results.toList) R) := by
  have e : oblP (V42.cfg B) (V42.cuts B R) V42.code V42.h [] (postOf Try.prog B (Try.f42.results.toList) R) = (True ∧ (True ∧ ((True ∧ ((True ∧ True) ∧ True)) ∧ (True ∧ (((true = true) ∧ ((True ∧ True) ∧ True)) ∧ ((True ∧ ((∀ (a : Option Addr) (c d : Nat) (f g i j l m : Int) (n : Nat) (o p q r : Int) (s : Bool) (t u x : Int) (w : World), ¬ V42.l0 B R 0 a c d f g i j l m n o p q r s t u x w) ∧ (∀ y, ∀ (a : Option Addr) (c d : Nat) (f g i j l m : Int) (n : Nat) (o p q r : Int) (s : Bool) (t u x : Int) (w : World), V42.l0 B R (y + 1) a c d f g i j l m n o p q r s t u x w → V42.l0 B R (y + 1) a c d f g i j l m n o p q r s t u x w) ∧ ∀ y : Nat, (True ∧ ((True ∧ True) ∧ ((True ∧ (True ∧ ((True ∧ True) ∧ True))) ∧ True))))) ∧ ((true = true) ∧ True))))))) := by kernel_rfl
  rw [e]
  exact ⟨trivial, ⟨trivial, ⟨⟨trivial, ⟨⟨trivial, trivial⟩, trivial⟩⟩, ⟨trivial, ⟨⟨rfl, ⟨⟨trivial, trivial⟩, trivial⟩⟩, ⟨⟨trivial, ⟨fun a c d f g i j l m n o p q r s t u x w h => h, fun _ a c d f g i j l m n o p q r s t u x w h => h, fun y => ⟨trivial, ⟨⟨trivial, trivial⟩, ⟨⟨trivial, ⟨trivial, ⟨⟨trivial, trivial⟩, trivial⟩⟩⟩, trivial⟩⟩⟩⟩⟩, ⟨rfl, trivial⟩⟩⟩⟩⟩⟩⟩
theorem V42.cfgOk (B : Nat) : CfgOk (V42.cfg B) := cfgOk_of (by kernel_rfl) (by kernel_rfl)
theorem V42.sound {a : Addr} {d : Int} {w : World} {R : Value → World → Prop} (h : V42.vc w.heap.size R a d w) : Calls Try.prog 42 ⟨[.pointer (some a), .int .i64 d]⟩ w fun e w' => ∃ v, e = .returned v ∧ R v w' :=
  calls_wpfP (c := V42.cfg w.heap.size) (fn := Try.f42) (x := V42.code) (V42.cuts w.heap.size R) V42.h (V42.cfgOk _) mixed Try.func42 (by kernel_rfl) (by kernel_rfl) (by kernel_rfl) rfl (V42.obl _ _) ((V42.vc_eq _ _ a d _).symm ▸ h)
def V43.vc (B : Nat) (R : Value → World → Prop) (c : Option Addr) (d f : Nat) (g : Int) (w : World) : Prop :=
  ∀ i : Nat, w.heap.size ≤ i →
  CallK Try.prog 95 [.slice c d f, .int .i64 g, .int .i64 7] B w [i] fun v j => 
  ∃ l : Bool, v = .bool l ∧
  if (!l) = true
  then (Ret B j (R (.tuple ⟨[.agg ⟨[.int .i64 0, .int .i64 0, .int .i64 0, .int .i64 0, .bool false, .int .u64 0, .int .i64 0, .int .i64 0]⟩, .int .i64 1]⟩)))
  else ((0 : Int) ≤ IntKind.wrap .i64 (g + 7) ∧ IntKind.wrap .i64 (g + 7) ≤ (f : Int) ∧ (0 : Int) ≤ g ∧ g ≤ (((IntKind.wrap .i64 (g + 7)).toNat : Nat) : Int) ∧
  ∃ m : Addr, (if f = g.toNat then c else Option.map (fun a => a.add g.toNat) c) = some m ∧ (0 : Int) ≤ 0 ∧ (0 : Int) < ((((IntKind.wrap .i64 (g + 7)).toNat) - g.toNat : Nat) : Int) ∧
  ∃ n : Int, j.cell? (m.add 0) = some (.int .u64 n) ∧
  if (decide (n > IntKind.wrap .u64 (d : Int))) = false
   then (∃ o : Addr, (if f = g.toNat then c else Option.map (fun a => a.add g.toNat) c) = some o ∧ (0 : Int) ≤ 1 ∧ (1 : Int) < ((((IntKind.wrap .i64 (g + 7)).toNat) - g.toNat : Nat) : Int) ∧
   ∃ p : Int, j.cell? (o.add 1) = some (.int .u64 p) ∧
   if (decide (p > 2147483648)) = false
    then (∃ q : Addr, (if f = g.toNat then c else Option.map (fun a => a.add g.toNat) c) = some q ∧ (0 : Int) ≤ 2 ∧ (2 : Int) < ((((IntKind.wrap .i64 (g + 7)).toNat) - g.toNat : Nat) : Int) ∧
    ∃ r : Int, j.cell? (q.add 2) = some (.int .u64 r) ∧
    if (decide (r > 2147483648)) = false
     then (∃ s : Addr, (if f = g.toNat then c else Option.map (fun a => a.add g.toNat) c) = some s ∧ (0 : Int) ≤ 5 ∧ (5 : Int) < ((((IntKind.wrap .i64 (g + 7)).toNat) - g.toNat : Nat) : Int) ∧
     ∃ t : Int, j.cell? (s.add 5) = some (.int .u64 t) ∧
     if (decide (t > 2147483648)) = false
      then (∃ u : Addr, (if f = g.toNat then c else Option.map (fun a => a.add g.toNat) c) = some u ∧ (0 : Int) ≤ 6 ∧ (6 : Int) < ((((IntKind.wrap .i64 (g + 7)).toNat) - g.toNat : Nat) : Int) ∧
      ∃ x : Int, j.cell? (u.add 6) = some (.int .u64 x) ∧
      if (decide (x > 2147483648)) = false
       then (∃ y : Addr, (if f = g.toNat then c else Option.map (fun a => a.add g.toNat) c) = some y ∧ (0 : Int) ≤ 3 ∧ (3 : Int) < ((((IntKind.wrap .i64 (g + 7)).toNat) - g.toNat : Nat) : Int) ∧
       ∃ z : Int, j.cell? (y.add 3) = some (.int .u64 z) ∧
       if (decide (z > 6)) = false
        then (∃ A : Addr, (if f = g.toNat then c else Option.map (fun a => a.add g.toNat) c) = some A ∧ (0 : Int) ≤ 3 ∧ (3 : Int) < ((((IntKind.wrap .i64 (g + 7)).toNat) - g.toNat : Nat) : Int) ∧
        ∃ C : Int, j.cell? (A.add 3) = some (.int .u64 C) ∧
        if (C == 3) = true
         then (Ret B j (R (.tuple ⟨[.agg ⟨[.int .i64 0, .int .i64 0, .int .i64 0, .int .i64 0, .bool false, .int .u64 0, .int .i64 0, .int .i64 0]⟩, .int .i64 6]⟩)))
         else (∃ D : Addr, (if f = g.toNat then c else Option.map (fun a => a.add g.toNat) c) = some D ∧ (0 : Int) ≤ 0 ∧ (0 : Int) < ((((IntKind.wrap .i64 (g + 7)).toNat) - g.toNat : Nat) : Int) ∧
         ∃ E : Int, j.cell? (D.add 0) = some (.int .u64 E) ∧
         ∃ F : Addr, (if f = g.toNat then c else Option.map (fun a => a.add g.toNat) c) = some F ∧ (0 : Int) ≤ 1 ∧ (1 : Int) < ((((IntKind.wrap .i64 (g + 7)).toNat) - g.toNat : Nat) : Int) ∧
         ∃ G : Int, j.cell? (F.add 1) = some (.int .u64 G) ∧
         ∃ I : Addr, (if f = g.toNat then c else Option.map (fun a => a.add g.toNat) c) = some I ∧ (0 : Int) ≤ 2 ∧ (2 : Int) < ((((IntKind.wrap .i64 (g + 7)).toNat) - g.toNat : Nat) : Int) ∧
         ∃ J : Int, j.cell? (I.add 2) = some (.int .u64 J) ∧
         ∃ L : Addr, (if f = g.toNat then c else Option.map (fun a => a.add g.toNat) c) = some L ∧ (0 : Int) ≤ 3 ∧ (3 : Int) < ((((IntKind.wrap .i64 (g + 7)).toNat) - g.toNat : Nat) : Int) ∧
         ∃ M : Int, j.cell? (L.add 3) = some (.int .u64 M) ∧ (4 : Int) ≠ 0 ∧
         ∃ N : Addr, (if f = g.toNat then c else Option.map (fun a => a.add g.toNat) c) = some N ∧ (0 : Int) ≤ 3 ∧ (3 : Int) < ((((IntKind.wrap .i64 (g + 7)).toNat) - g.toNat : Nat) : Int) ∧
         ∃ O : Int, j.cell? (N.add 3) = some (.int .u64 O) ∧
         ∃ P : Addr, (if f = g.toNat then c else Option.map (fun a => a.add g.toNat) c) = some P ∧ (0 : Int) ≤ 4 ∧ (4 : Int) < ((((IntKind.wrap .i64 (g + 7)).toNat) - g.toNat : Nat) : Int) ∧
         ∃ Q : Int, j.cell? (P.add 4) = some (.int .u64 Q) ∧
         ∃ S : Addr, (if f = g.toNat then c else Option.map (fun a => a.add g.toNat) c) = some S ∧ (0 : Int) ≤ 5 ∧ (5 : Int) < ((((IntKind.wrap .i64 (g + 7)).toNat) - g.toNat : Nat) : Int) ∧
         ∃ T : Int, j.cell? (S.add 5) = some (.int .u64 T) ∧
         ∃ U : Addr, (if f = g.toNat then c else Option.map (fun a => a.add g.toNat) c) = some U ∧ (0 : Int) ≤ 6 ∧ (6 : Int) < ((((IntKind.wrap .i64 (g + 7)).toNat) - g.toNat : Nat) : Int) ∧
         ∃ W : Int, j.cell? (U.add 6) = some (.int .u64 W) ∧
         Ret B j (R (.tuple ⟨[.agg ⟨[.int .i64 (IntKind.wrap .i64 (IntKind.wrap .i64 E - 1)), .int .i64 (IntKind.wrap .i64 G), .int .i64 (IntKind.wrap .i64 J), .int .i64 (IntKind.wrap .i64 (Int.tmod M 4)), .bool (decide (O ≥ 4)), .int .u64 Q, .int .i64 (IntKind.wrap .i64 T), .int .i64 (IntKind.wrap .i64 W)]⟩, .int .i64 0]⟩))))
        else (Ret B j (R (.tuple ⟨[.agg ⟨[.int .i64 0, .int .i64 0, .int .i64 0, .int .i64 0, .bool false, .int .u64 0, .int .i64 0, .int .i64 0]⟩, .int .i64 6]⟩))))
       else (Ret B j (R (.tuple ⟨[.agg ⟨[.int .i64 0, .int .i64 0, .int .i64 0, .int .i64 0, .bool false, .int .u64 0, .int .i64 0, .int .i64 0]⟩, .int .i64 6]⟩))))
      else (Ret B j (R (.tuple ⟨[.agg ⟨[.int .i64 0, .int .i64 0, .int .i64 0, .int .i64 0, .bool false, .int .u64 0, .int .i64 0, .int .i64 0]⟩, .int .i64 6]⟩))))
     else (Ret B j (R (.tuple ⟨[.agg ⟨[.int .i64 0, .int .i64 0, .int .i64 0, .int .i64 0, .bool false, .int .u64 0, .int .i64 0, .int .i64 0]⟩, .int .i64 6]⟩))))
    else (Ret B j (R (.tuple ⟨[.agg ⟨[.int .i64 0, .int .i64 0, .int .i64 0, .int .i64 0, .bool false, .int .u64 0, .int .i64 0, .int .i64 0]⟩, .int .i64 6]⟩))))
   else (Ret B j (R (.tuple ⟨[.agg ⟨[.int .i64 0, .int .i64 0, .int .i64 0, .int .i64 0, .bool false, .int .u64 0, .int .i64 0, .int .i64 0]⟩, .int .i64 6]⟩))))
noncomputable def V43.cfg (B : Nat) : Cfg := ⟨Try.prog, ⟨95, B⟩, [], hasN [95], hasN []⟩
noncomputable def V43.code : Code := (Try.f43.body).getD .skip
noncomputable def V43.cuts (B : Nat) (R : Value → World → Prop) : Nat → Cut := nthC []
noncomputable def V43.h : H := .s (.z) (.s (.s (.z) (.c (.s (.z) (.z)) (.z))) (.s (.z) (.s (.s (.z) (.c (.s (.z) (.z)) (.z))) (.s (.r [[0, 1, 2, 3, 4, 5, 6, 7, 8, 9, 10, 11, 12, 13, 14, 15, 16, 17, 18, 19, 20, 21, 22, 23, 24, 25, 26, 27, 28, 29, 30, 31, 32, 33, 34, 35]]) (.z)))))
theorem V43.vc_eq (B : Nat) (R : Value → World → Prop) (a : Option Addr) (c d : Nat) (f : Int) (w : World) : wpf (V43.cfg B) (V43.cuts B R) V43.code V43.h [] (postOf Try.prog B (Try.f43.results.toList) R) (argE 0 [.slice a c d, .int .i64 f]) [] w = V43.vc B R a c d f w := by kernel_rfl
theorem V43.obl (B : Nat) (R : Value → World → Prop) : oblP (V43.cfg B) (V43.cuts B R) V43.code V43.h [] (postOf Try.prog B (Try.f43.results.toList) R) := by
  have e : oblP (V43.cfg B) (V43.cuts B R) V43.code V43.h [] (postOf Try.prog B (Try.f43.results.toList) R) = (True ∧ ((True ∧ ((True ∧ True) ∧ True)) ∧ (True ∧ ((True ∧ ((True ∧ True) ∧ True)) ∧ ((true = true) ∧ True))))) := by kernel_rfl
  rw [e]
  exact ⟨trivial, ⟨⟨trivial, ⟨⟨trivial, trivial⟩, trivial⟩⟩, ⟨trivial, ⟨⟨trivial, ⟨⟨trivial, trivial⟩, trivial⟩⟩, ⟨rfl, trivial⟩⟩⟩⟩⟩
theorem V43.cfgOk (B : Nat) : CfgOk (V43.cfg B) := cfgOk_of (by kernel_rfl) (by kernel_rfl)
theorem V43.sound {a : Option Addr} {d f : Nat} {g : Int} {w : World} {R : Value → World → Prop} (h : V43.vc w.heap.size R a d f g w) : Calls Try.prog 43 ⟨[.slice a d f, .int .i64 g]⟩ w fun e w' => ∃ v, e = .returned v ∧ R v w' :=
  calls_wpfP (c := V43.cfg w.heap.size) (fn := Try.f43) (x := V43.code) (V43.cuts w.heap.size R) V43.h (V43.cfgOk _) mixed Try.func43 (by kernel_rfl) (by kernel_rfl) (by kernel_rfl) rfl (V43.obl _ _) ((V43.vc_eq _ _ a d f g _).symm ▸ h)
def V44.l2 (B : Nat) (R : Value → World → Prop) : Nat → Addr → Int → Int → Int → Int → Int → Int → Int → Int → Int → World → Prop
  | 0 => fun _ _ _ _ _ _ _ _ _ _ _ => False
  | k + 1 => fun a c d f g i j l m n w =>
    if (decide (n < 7)) = true
    then ((0 : Int) ≤ n ∧ n < 7 ∧
    CallK Try.prog 70 [.pointer (some a), .int .i64 (IntKind.wrap .i64 (c + n)), .int .u64 (([d, f, g, i, j, l, m] : List Int).getD n.toNat 0)] B w [] fun v o => 
     ∃ p : Int, v = .int .i64 p ∧ (V44.l2 B R k) a c d f g i j l m (IntKind.wrap .i64 (n + 1)) o)
    else (Ret B w (R (.int .i64 0)))
def V44.b1 (B : Nat) (R : Value → World → Prop) (a : Addr) (c d : Int) (f : Nat) (g i j l : Int) (m : Bool) (n o p : Int) (w : World) : Prop :=
  ∃ q, V44.l2 B R q a c (IntKind.wrap .u64 (IntKind.wrap .i64 (g + 1))) (IntKind.wrap .u64 i) (IntKind.wrap .u64 j) (IntKind.wrap .u64 d) n (IntKind.wrap .u64 o) (IntKind.wrap .u64 p) 0 w
def V44.l0 (B : Nat) (R : Value → World → Prop) : Nat → Addr → Int → Int → Int → Int → Int → Int → Nat → Int → Int → Int → Int → Bool → Int → Int → Int → World → Prop
  | 0 => fun _ _ _ _ _ _ _ _ _ _ _ _ _ _ _ _ _ => False
  | k + 1 => fun a c d f g i j l m n o p q r s t w =>
    if (decide (j < 4)) = true
    then ((0 : Int) ≤ j ∧ j < 4 ∧
    if (decide (([d, f, g, i] : List Int).getD j.toNat 0 < 0)) = false
     then (if (decide (([d, f, g, i] : List Int).getD j.toNat 0 > 2147483648)) = true
      then (Ret B w (R (.int .i64 1)))
      else ((V44.l0 B R k) a c d f g i (IntKind.wrap .i64 (j + 1)) l m n o p q r s t w))
     else (Ret B w (R (.int .i64 1))))
    else (if q = true
     then (V44.b1 B R a c (IntKind.wrap .i64 (p + 4)) l m n o p q r s t w)
     else (V44.b1 B R a c p l m n o p q r s t w))
def V44.vc (B : Nat) (R : Value → World → Prop) (a : Addr) (c d f g i : Int) (j : Bool) (l m n : Int) (w : World) : Prop :=
  ∀ o : Nat, w.heap.size ≤ o →
  CallK Try.prog 94 [.pointer (some a), .int .i64 c, .int .i64 7] B w [o] fun v p => 
  ∃ (q : Option Addr) (r s : Nat) (t : Int), v = .tuple ⟨[.slice q r s, .int .i64 t]⟩ ∧
  if (t != 0) = true
  then (Ret B p (R (.int .i64 t)))
  else (CallK Try.prog 96 [.pointer (some a), .int .i64 d] B p [o] fun u x => 
   ∃ y : Bool, u = .bool y ∧
   if (!y) = false
   then (if (decide (i < 0)) = false
    then (if (decide (i > 2)) = true
     then (Ret B x (R (.int .i64 1)))
     else (∃ z, V44.l0 B R z a c f g m n 0 o d f g i j l m n x))
    else (Ret B x (R (.int .i64 1))))
   else (Ret B x (R (.int .i64 1))))
noncomputable def V44.cfg (B : Nat) : Cfg := ⟨Try.prog, ⟨97, B⟩, [], hasN [70, 94, 96], hasN []⟩
noncomputable def V44.code : Code := (Try.f44.body).getD .skip
noncomputable def V44.cuts (B : Nat) (R : Value → World → Prop) : Nat → Cut := nthC [⟨[(0, .one (.ptr)), (1, .one (.int .i64)), (48, .agg [.int .i64, .int .i64, .int .i64, .int .i64]), (49, .one (.int .i64))], [(5, 53, [.int .i64, .int .i64, .int .i64, .int .i64, .bool, .int .u64, .int .i64, .int .i64])], fun fs vs bs w => V44.l0 B R (nthN fs 0) (pV (nthV vs 0)) (iV (nthV vs 1)) (iV (nthV (cellsOfV (nthV vs 2)) 0)) (iV (nthV (cellsOfV (nthV vs 2)) 1)) (iV (nthV (cellsOfV (nthV vs 2)) 2)) (iV (nthV (cellsOfV (nthV vs 2)) 3)) (iV (nthV vs 3)) (nthB bs 0).blk (iV (nthV (nthB bs 0).cells 0)) (iV (nthV (nthB bs 0).cells 1)) (iV (nthV (nthB bs 0).cells 2)) (iV (nthV (nthB bs 0).cells 3)) (bV (nthV (nthB bs 0).cells 4)) (iV (nthV (nthB bs 0).cells 5)) (iV (nthV (nthB bs 0).cells 6)) (iV (nthV (nthB bs 0).cells 7)) w⟩,
  ⟨[(0, .one (.ptr)), (1, .one (.int .i64)), (11, .one (.int .i64))], [(5, 53, [.int .i64, .int .i64, .int .i64, .int .i64, .bool, .int .u64, .int .i64, .int .i64])], fun fs vs bs w => V44.b1 B R (pV (nthV vs 0)) (iV (nthV vs 1)) (iV (nthV vs 2)) (nthB bs 0).blk (iV (nthV (nthB bs 0).cells 0)) (iV (nthV (nthB bs 0).cells 1)) (iV (nthV (nthB bs 0).cells 2)) (iV (nthV (nthB bs 0).cells 3)) (bV (nthV (nthB bs 0).cells 4)) (iV (nthV (nthB bs 0).cells 5)) (iV (nthV (nthB bs 0).cells 6)) (iV (nthV (nthB bs 0).cells 7)) w⟩,
  ⟨[(0, .one (.ptr)), (1, .one (.int .i64)), (85, .agg [.int .u64, .int .u64, .int .u64, .int .u64, .int .u64, .int .u64, .int .u64]), (86, .one (.int .i64))], [], fun fs vs bs w => V44.l2 B R (nthN fs 0) (pV (nthV vs 0)) (iV (nthV vs 1)) (iV (nthV (cellsOfV (nthV vs 2)) 0)) (iV (nthV (cellsOfV (nthV vs 2)) 1)) (iV (nthV (cellsOfV (nthV vs 2)) 2)) (iV (nthV (cellsOfV (nthV vs 2)) 3)) (iV (nthV (cellsOfV (nthV vs 2)) 4)) (iV (nthV (cellsOfV (nthV vs 2)) 5)) (iV (nthV (cellsOfV (nthV vs 2)) 6)) (iV (nthV vs 3)) w⟩]
noncomputable def V44.h : H := .s (.z) (.s (.s (.z) (.c (.s (.z) (.z)) (.z))) (.s (.s (.z) (.s (.z) (.c (.s (.z) (.z)) (.z)))) (.s (.s (.z) (.c (.s (.z) (.z)) (.z))) (.s (.s (.z) (.b (.l 0 (.s (.z) (.s (.c (.z) (.z)) (.s (.b (.s (.z) (.s (.z) (.c (.s (.z) (.z)) (.z))))) (.z))))))) (.s (.z) (.cut 1 (.s (.z) (.c (.z) (.z))) (.s (.s (.z) (.b (.l 2 (.s (.z) (.s (.c (.z) (.z)) (.s (.b (.s (.z) (.z))) (.z))))))) (.s (.z) (.z)))))))))
theorem V44.vc_eq (B : Nat) (R : Value → World → Prop) (a : Addr) (c d f g i : Int) (j : Bool) (l m n : Int) (w : World) : wpf (V44.cfg B) (V44.cuts B R) V44.code V44.h [] (postOf Try.prog B (Try.f44.results.toList) R) (argE 0 [.pointer (some a), .int .i64 c, .agg ⟨[.int .i64 d, .int .i64 f, .int .i64 g, .int .i64 i, .bool j, .int .u64 l, .int .i64 m, .int .i64 n]⟩]) [] w = V44.vc B R a c d f g i j l m n w := by kernel_rfl
theorem V44.obl (B : Nat) (R : Value → World → Prop) : oblP (V44.cfg B) (V44.cuts B R) V44.code V44.h [] (postOf Try.prog B (Try.f44.results.toList) R) := by
  have e : oblP (V44.cfg B) (V44.cuts B R) V44.code V44.h [] (postOf Try.prog B (Try.f44.results.toList) R) = (True ∧ ((True ∧ ((True ∧ True) ∧ True)) ∧ ((True ∧ (True ∧ ((True ∧ True) ∧ True))) ∧ ((True ∧ ((True ∧ True) ∧ True)) ∧ ((True ∧ ((∀ (a : Addr) (c d f g i j : Int) (l : Nat) (m n o p : Int) (q : Bool) (r s t : Int) (w : World), ¬ V44.l0 B R 0 a c d f g i j l m n o p q r s t w) ∧ (∀ u, ∀ (a : Addr) (c d f g i j : Int) (l : Nat) (m n o p : Int) (q : Bool) (r s t : Int) (w : World), V44.l0 B R (u + 1) a c d f g i j l m n o p q r s t w → V44.l0 B R (u + 1) a c d f g i j l m n o p q r s t w) ∧ ∀ u : Nat, (True ∧ ((True ∧ True) ∧ ((True ∧ (True ∧ ((True ∧ True) ∧ True))) ∧ True))))) ∧ (True ∧ ((True ∧ (True ∧ True)) ∧ (∀ (a : Addr) (c x : Int) (l : Nat) (m n o p : Int) (q : Bool) (r s t : Int) (w : World), V44.b1 B R a c x l m n o p q r s t w → V44.b1 B R a c x l m n o p q r s t w) ∧ ((True ∧ ((∀ (a : Addr) (c y z A C D E F G : Int) (w : World), ¬ V44.l2 B R 0 a c y z A C D E F G w) ∧ (∀ I, ∀ (a : Addr) (c y z A C D E F G : Int) (w : World), V44.l2 B R (I + 1) a c y z A C D E F G w → V44.l2 B R (I + 1) a c y z A C D E F G w) ∧ ∀ I : Nat, (True ∧ ((True ∧ True) ∧ ((True ∧ True) ∧ True))))) ∧ (True ∧ True))))))))) := by kernel_rfl
  rw [e]
  exact ⟨trivial, ⟨⟨trivial, ⟨⟨trivial, trivial⟩, trivial⟩⟩, ⟨⟨trivial, ⟨trivial, ⟨⟨trivial, trivial⟩, trivial⟩⟩⟩, ⟨⟨trivial, ⟨⟨trivial, trivial⟩, trivial⟩⟩, ⟨⟨trivial, ⟨fun a c d f g i j l m n o p q r s t w h => h, fun _ a c d f g i j l m n o p q r s t w h => h, fun u => ⟨trivial, ⟨⟨trivial, trivial⟩, ⟨⟨trivial, ⟨trivial, ⟨⟨trivial, trivial⟩, trivial⟩⟩⟩, trivial⟩⟩⟩⟩⟩, ⟨trivial, ⟨⟨trivial, ⟨trivial, trivial⟩⟩, fun a c x l m n o p q r s t w h => h, ⟨⟨trivial, ⟨fun a c y z A C D E F G w h => h, fun _ a c y z A C D E F G w h => h, fun I => ⟨trivial, ⟨⟨trivial, trivial⟩, ⟨⟨trivial, trivial⟩, trivial⟩⟩⟩⟩⟩, ⟨trivial, trivial⟩⟩⟩⟩⟩⟩⟩⟩⟩
theorem V44.cfgOk (B : Nat) : CfgOk (V44.cfg B) := cfgOk_of (by kernel_rfl) (by kernel_rfl)
theorem V44.sound {a : Addr} {d f g i j : Int} {l : Bool} {m n o : Int} {w : World} {R : Value → World → Prop} (h : V44.vc w.heap.size R a d f g i j l m n o w) : Calls Try.prog 44 ⟨[.pointer (some a), .int .i64 d, .agg ⟨[.int .i64 f, .int .i64 g, .int .i64 i, .int .i64 j, .bool l, .int .u64 m, .int .i64 n, .int .i64 o]⟩]⟩ w fun e w' => ∃ v, e = .returned v ∧ R v w' :=
  calls_wpfP (c := V44.cfg w.heap.size) (fn := Try.f44) (x := V44.code) (V44.cuts w.heap.size R) V44.h (V44.cfgOk _) mixed Try.func44 (by kernel_rfl) (by kernel_rfl) (by kernel_rfl) rfl (V44.obl _ _) ((V44.vc_eq _ _ a d f g i j l m n o _).symm ▸ h)
def V45.l1 (B : Nat) (R : Value → World → Prop) : Nat → Int → Option Addr → Nat → Nat → Option Addr → Nat → Nat → Int → World → Prop
  | 0 => fun _ _ _ _ _ _ _ _ _ => False
  | k + 1 => fun a c d f g i j l w =>
    if (decide (l < (i : Int))) = true
    then (∃ m : Addr, g = some m ∧ (0 : Int) ≤ l ∧ l < (i : Int) ∧
    ∃ n : Int, w.cell? (m.add l.toNat) = some (.int .u64 n) ∧
    ∃ o : Addr, c = some o ∧ (0 : Int) ≤ IntKind.wrap .i64 (a + l) ∧ IntKind.wrap .i64 (a + l) < (d : Int) ∧
    (∃ u, w.cell? ((o.add ((IntKind.wrap .i64 (a + l)).toNat)).add 0) = some u) ∧ w.frozen? ((o.add ((IntKind.wrap .i64 (a + l)).toNat)).add 0) = false ∧
    let p := w.setCell ((o.add ((IntKind.wrap .i64 (a + l)).toNat)).add 0) (.int .u64 n);
    (V45.l1 B R k) a c d f g i j (IntKind.wrap .i64 (l + 1)) p)
    else (Ret B w (R (.tuple ⟨[.slice c d f, .int .i64 0]⟩)))
def V45.b0 (B : Nat) (R : Value → World → Prop) (a : Int) (c : Option Addr) (d f : Nat) (g : Int) (i : Nat) (j l m n : Int) (o : Bool) (p q r : Int) (w : World) : Prop :=
  Expo B w [i] fun s => 
  Hide [i] (s.alloc (.cells ⟨[.int .u64 (IntKind.wrap .u64 (IntKind.wrap .i64 (j + 1))), .int .u64 (IntKind.wrap .u64 l), .int .u64 (IntKind.wrap .u64 m), .int .u64 g, .int .u64 p, .int .u64 (IntKind.wrap .u64 q), .int .u64 (IntKind.wrap .u64 r)]⟩ 51)) fun t => 
  ∃ u, V45.l1 B R u a c d f (some ⟨s.heap.size, 0, none⟩) 7 7 0 t
def V45.vc (B : Nat) (R : Value → World → Prop) (a : Option Addr) (c d : Nat) (f g i j l : Int) (m : Bool) (n o p : Int) (w : World) : Prop :=
  ∀ q : Nat, w.heap.size ≤ q →
  CallK Try.prog 95 [.slice a c d, .int .i64 f, .int .i64 7] B w [q] fun v r => 
  ∃ s : Bool, v = .bool s ∧
  if (!s) = false
  then (if (decide (g < (-1))) = false
   then (if (decide (g ≥ (c : Int))) = false
    then (if (decide (i < 0)) = false
     then (if (decide (i > 2147483648)) = false
      then (if (decide (j < 0)) = false
       then (if (decide (j > 2147483648)) = false
        then (if (decide (o < 0)) = false
         then (if (decide (o > 2147483648)) = false
          then (if (decide (p < 0)) = false
           then (if (decide (p > 2147483648)) = false
            then (if (decide (l < 0)) = false
             then (if (decide (l > 2)) = true
              then (Ret B r (R (.tuple ⟨[.slice a c d, .int .i64 1]⟩)))
              else (Expo B r [q] fun t => 
               Hide [q] (t.alloc (.cells ⟨[]⟩ 51)) fun u => 
               RunK Try.prog (Builtin.append_ #[50, 50] 50 ⟨[.slice (some ⟨t.heap.size, 0, none⟩) 0 0, .slice a c d]⟩) B u [q] fun x y => 
               ∃ (z : Option Addr) (A C : Nat), x = .slice z A C ∧
               if m = true
               then (V45.b0 B R f z A C (IntKind.wrap .u64 (IntKind.wrap .u64 l + 4)) q g i j l m n o p y)
               else (V45.b0 B R f z A C (IntKind.wrap .u64 l) q g i j l m n o p y)))
             else (Ret B r (R (.tuple ⟨[.slice a c d, .int .i64 1]⟩))))
            else (Ret B r (R (.tuple ⟨[.slice a c d, .int .i64 1]⟩))))
           else (Ret B r (R (.tuple ⟨[.slice a c d, .int .i64 1]⟩))))
          else (Ret B r (R (.tuple ⟨[.slice a c d, .int .i64 1]⟩))))
         else (Ret B r (R (.tuple ⟨[.slice a c d, .int .i64 1]⟩))))
        else (Ret B r (R (.tuple ⟨[.slice a c d, .int .i64 1]⟩))))
       else (Ret B r (R (.tuple ⟨[.slice a c d, .int .i64 1]⟩))))
      else (Ret B r (R (.tuple ⟨[.slice a c d, .int .i64 1]⟩))))
     else (Ret B r (R (.tuple ⟨[.slice a c d, .int .i64 1]⟩))))
    else (Ret B r (R (.tuple ⟨[.slice a c d, .int .i64 1]⟩))))
   else (Ret B r (R (.tuple ⟨[.slice a c d, .int .i64 1]⟩))))
  else (Ret B r (R (.tuple ⟨[.slice a c d, .int .i64 1]⟩)))
noncomputable def V45.cfg (B : Nat) : Cfg := ⟨Try.prog, ⟨125, B⟩, [], hasN [95], hasN []⟩
noncomputable def V45.code : Code := (Try.f45.body).getD .skip
noncomputable def V45.cuts (B : Nat) (R : Value → World → Prop) : Nat → Cut := nthC [⟨[(1, .one (.int .i64)), (8, .one (.slice)), (9, .one (.int .u64))], [(5, 53, [.int .i64, .int .i64, .int .i64, .int .i64, .bool, .int .u64, .int .i64, .int .i64])], fun fs vs bs w => V45.b0 B R (iV (nthV vs 0)) (slA (nthV vs 1)) (slL (nthV vs 1)) (slC (nthV vs 1)) (iV (nthV vs 2)) (nthB bs 0).blk (iV (nthV (nthB bs 0).cells 0)) (iV (nthV (nthB bs 0).cells 1)) (iV (nthV (nthB bs 0).cells 2)) (iV (nthV (nthB bs 0).cells 3)) (bV (nthV (nthB bs 0).cells 4)) (iV (nthV (nthB bs 0).cells 5)) (iV (nthV (nthB bs 0).cells 6)) (iV (nthV (nthB bs 0).cells 7)) w⟩,
  ⟨[(1, .one (.int .i64)), (8, .one (.slice)), (10, .one (.slice)), (11, .one (.int .i64))], [], fun fs vs bs w => V45.l1 B R (nthN fs 0) (iV (nthV vs 0)) (slA (nthV vs 1)) (slL (nthV vs 1)) (slC (nthV vs 1)) (slA (nthV vs 2)) (slL (nthV vs 2)) (slC (nthV vs 2)) (iV (nthV vs 3)) w⟩]
noncomputable def V45.h : H := .s (.z) (.s (.s (.z) (.c (.s (.z) (.z)) (.z))) (.s (.z) (.s (.z) (.cut 0 (.s (.z) (.c (.z) (.z))) (.s (.z) (.s (.s (.z) (.b (.l 1 (.s (.s (.z) (.c (.z) (.z))) (.s (.b (.z)) (.z)))))) (.s (.z) (.z))))))))
theorem V45.vc_eq (B : Nat) (R : Value → World → Prop) (a : Option Addr) (c d : Nat) (f g i j l : Int) (m : Bool) (n o p : Int) (w : World) : wpf (V45.cfg B) (V45.cuts B R) V45.code V45.h [] (postOf Try.prog B (Try.f45.results.toList) R) (argE 0 [.slice a c d, .int .i64 f, .agg ⟨[.int .i64 g, .int .i64 i, .int .i64 j, .int .i64 l, .bool m, .int .u64 n, .int .i64 o, .int .i64 p]⟩]) [] w = V45.vc B R a c d f g i j l m n o p w := by kernel_rfl
theorem V45.obl (B : Nat) (R : Value → World → Prop) : oblP (V45.cfg B) (V45.cuts B R) V45.code V45.h [] (postOf Try.prog B (Try.f45.results.toList) R) := by
  have e : oblP (V45.cfg B) (V45.cuts B R) V45.code V45.h [] (postOf Try.prog B (Try.f45.results.toList) R) = (True ∧ ((True ∧ ((True ∧ True) ∧ True)) ∧ (True ∧ (True ∧ ((True ∧ (True ∧ True)) ∧ (∀ (a : Int) (c : Option Addr) (d f : Nat) (g : Int) (i : Nat) (j l m n : Int) (o : Bool) (p q r : Int) (w : World), V45.b0 B R a c d f g i j l m n o p q r w → V45.b0 B R a c d f g i j l m n o p q r w) ∧ (True ∧ ((True ∧ ((∀ (a : Int) (c : Option Addr) (d f : Nat) (s : Option Addr) (t u : Nat) (x : Int) (w : World), ¬ V45.l1 B R 0 a c d f s t u x w) ∧ (∀ y, ∀ (a : Int) (c : Option Addr) (d f : Nat) (s : Option Addr) (t u : Nat) (x : Int) (w : World), V45.l1 B R (y + 1) a c d f s t u x w → V45.l1 B R (y + 1) a c d f s t u x w) ∧ ∀ y : Nat, ((True ∧ (True ∧ True)) ∧ (True ∧ True)))) ∧ (True ∧ True)))))))) := by kernel_rfl
  rw [e]
  exact ⟨trivial, ⟨⟨trivial, ⟨⟨trivial, trivial⟩, trivial⟩⟩, ⟨trivial, ⟨trivial, ⟨⟨trivial, ⟨trivial, trivial⟩⟩, fun a c d f g i j l m n o p q r w h => h, ⟨trivial, ⟨⟨trivial, ⟨fun a c d f s t u x w h => h, fun _ a c d f s t u x w h => h, fun y => ⟨⟨trivial, ⟨trivial, trivial⟩⟩, ⟨trivial, trivial⟩⟩⟩⟩, ⟨trivial, trivial⟩⟩⟩⟩⟩⟩⟩⟩
theorem V45.cfgOk (B : Nat) : CfgOk (V45.cfg B) := cfgOk_of (by kernel_rfl) (by kernel_rfl)
theorem V45.sound {a : Option Addr} {d f : Nat} {g i j l m : Int} {n : Bool} {o p q : Int} {w : World} {R : Value → World → Prop} (h : V45.vc w.heap.size R a d f g i j l m n o p q w) : Calls Try.prog 45 ⟨[.slice a d f, .int .i64 g, .agg ⟨[.int .i64 i, .int .i64 j, .int .i64 l, .int .i64 m, .bool n, .int .u64 o, .int .i64 p, .int .i64 q]⟩]⟩ w fun e w' => ∃ v, e = .returned v ∧ R v w' :=
  calls_wpfP (c := V45.cfg w.heap.size) (fn := Try.f45) (x := V45.code) (V45.cuts w.heap.size R) V45.h (V45.cfgOk _) mixed Try.func45 (by kernel_rfl) (by kernel_rfl) (by kernel_rfl) rfl (V45.obl _ _) ((V45.vc_eq _ _ a d f g i j l m n o p q _).symm ▸ h)
def V47.b0 (B : Nat) (R : Value → World → Prop) (a : Addr) (w : World) : Prop :=
  Expo B w [] fun c => 
  let d := c.alloc (.cells ⟨[.int .u64 9]⟩ 51);
  Expo B d [] fun f => 
  let g := f.alloc (.cells ⟨[.int .u64 5]⟩ 51);
  ∀ i : Nat, g.heap.size ≤ i →
  CallK Try.prog 97 [] B g [i] fun v j => 
  ∃ (l : Option Addr) (m n : Nat), v = .agg ⟨[.slice l m n]⟩ ∧
  CallK Try.prog 52 [.pointer (some a), .agg ⟨[.slice l m n]⟩, .int .i64 48, .int .i64 (-1), .agg ⟨[.int .i64 0, .int .i64 1, .int .i64 0, .bool false, .int .u64 0, .slice none 0 0, .slice (some ⟨c.heap.size, 0, none⟩) 1 1, .slice (some ⟨f.heap.size, 0, none⟩) 1 1]⟩] B j [i] fun o p => 
  ∃ q : Int, o = .int .i64 q ∧
  CallK Try.prog 97 [] B p [i] fun r s => 
  ∃ (t : Option Addr) (u x : Nat), r = .agg ⟨[.slice t u x]⟩ ∧
  CallK Try.prog 54 [.pointer (some a), .agg ⟨[.slice t u x]⟩, .int .i64 48] B s [i] fun y z => 
  ∃ (A C D : Int) (E : Bool) (F : Int) (G : Option Addr) (I J : Nat) (L : Option Addr) (M N : Nat) (O : Option Addr) (P Q : Nat) (S T : Int), y = .tuple ⟨[.agg ⟨[.int .i64 A, .int .i64 C, .int .i64 D, .bool E, .int .u64 F, .slice G I J, .slice L M N, .slice O P Q]⟩, .int .i64 S, .int .i64 T]⟩ ∧
  ∀ U : Nat, z.heap.size ≤ U →
  if (q == 0) = true
  then (CallK Try.prog 97 [] B z [U, i] fun W X => 
   ∃ (Y : Option Addr) (Z a0 : Nat), W = .agg ⟨[.slice Y Z a0]⟩ ∧
   CallK Try.prog 52 [.pointer (some a), .agg ⟨[.slice Y Z a0]⟩, .int .i64 49, .int .i64 (-1), .agg ⟨[.int .i64 0, .int .i64 1, .int .i64 0, .bool false, .int .u64 0, .slice none 0 0, .slice (some ⟨c.heap.size, 0, none⟩) 1 1, .slice (some ⟨f.heap.size, 0, none⟩) 1 1]⟩] B X [U, i] fun a2 a3 => 
   ∃ a4 : Int, a2 = .int .i64 a4 ∧
   if (a4 == 1) = true
   then (if (T == 0) = true
    then (if (S == (-1)) = true
     then (CallK Try.prog 56 [.agg ⟨[.int .i64 0, .int .i64 1, .int .i64 0, .bool false, .int .u64 0, .slice none 0 0, .slice (some ⟨c.heap.size, 0, none⟩) 1 1, .slice (some ⟨f.heap.size, 0, none⟩) 1 1]⟩, .agg ⟨[.int .i64 A, .int .i64 C, .int .i64 D, .bool E, .int .u64 F, .slice G I J, .slice L M N, .slice O P Q]⟩] B a3 [U, i] fun a5 a6 => 
      ∃ a7 : Bool, a5 = .bool a7 ∧
      Ret B a6 (R (.bool a7)))
     else (Ret B a3 (R (.bool false))))
    else (Ret B a3 (R (.bool false))))
   else (Ret B a3 (R (.bool false))))
  else (Ret B z (R (.bool false)))
def V47.vc (B : Nat) (R : Value → World → Prop) (w : World) : Prop :=
  CallK Try.prog 92 [.int .i64 1] B w [] fun v a => 
  ∃ c : Option Addr, v = .pointer c ∧
  caseP c
  (False)
  (fun d => V47.b0 B R d a)
noncomputable def V47.cfg (B : Nat) : Cfg := ⟨Try.prog, ⟨46, B⟩, [], hasN [52, 54, 56, 92, 97], hasN []⟩
noncomputable def V47.code : Code := (Try.f47.body).getD .skip
noncomputable def V47.cuts (B : Nat) (R : Value → World → Prop) : Nat → Cut := nthC [⟨[(1, .one (.ptr))], [], fun fs vs bs w => V47.b0 B R (pV (nthV vs 0)) w⟩]
noncomputable def V47.h : H := .s (.z) (.cut 0 (.z) (.s (.s (.z) (.c (.s (.z) (.z)) (.z))) (.s (.z) (.s (.r [[0, 2, 1, 3, 4]]) (.s (.z) (.s (.r [[0, 1, 2, 3, 5, 4, 6, 7, 8, 9, 10, 11, 12, 13, 14, 15, 16, 17, 18, 19, 20, 21, 22]]) (.z)))))))
theorem V47.vc_eq (B : Nat) (R : Value → World → Prop)  (w : World) : wpf (V47.cfg B) (V47.cuts B R) V47.code V47.h [] (postOf Try.prog B (Try.f47.results.toList) R) (argE 0 []) [] w = V47.vc B R  w := by kernel_rfl
theorem V47.obl (B : Nat) (R : Value → World → Prop) : oblP (V47.cfg B) (V47.cuts B R) V47.code V47.h [] (postOf Try.prog B (Try.f47.results.toList) R) := by
  have e : oblP (V47.cfg B) (V47.cuts B R) V47.code V47.h [] (postOf Try.prog B (Try.f47.results.toList) R) = (True ∧ (True ∧ (∀ (a : Addr) (w : World), V47.b0 B R a w → V47.b0 B R a w) ∧ ((True ∧ ((True ∧ True) ∧ True)) ∧ (True ∧ ((true = true) ∧ (True ∧ ((true = true) ∧ True))))))) := by kernel_rfl
  rw [e]
  exact ⟨trivial, ⟨trivial, fun a w h => h, ⟨⟨trivial, ⟨⟨trivial, trivial⟩, trivial⟩⟩, ⟨trivial, ⟨rfl, ⟨trivial, ⟨rfl, trivial⟩⟩⟩⟩⟩⟩⟩
theorem V47.cfgOk (B : Nat) : CfgOk (V47.cfg B) := cfgOk_of (by kernel_rfl) (by kernel_rfl)
theorem V47.sound  {w : World} {R : Value → World → Prop} (h : V47.vc w.heap.size R  w) : Calls Try.prog 47 ⟨[]⟩ w fun e w' => ∃ v, e = .returned v ∧ R v w' :=
  calls_wpfP (c := V47.cfg w.heap.size) (fn := Try.f47) (x := V47.code) (V47.cuts w.heap.size R) V47.h (V47.cfgOk _) mixed Try.func47 (by kernel_rfl) (by kernel_rfl) (by kernel_rfl) rfl (V47.obl _ _) ((V47.vc_eq _ _  _).symm ▸ h)
def V49.l3 (B : Nat) (R : Value → World → Prop) : Nat → Option Addr → Nat → Nat → Int → Int → Nat → Option Addr → Nat → Nat → World → Prop
  | 0 => fun _ _ _ _ _ _ _ _ _ _ => False
  | k + 1 => fun a c d f g i j l m w =>
    if (decide (g < f)) = true
    then (∃ n : Addr, a = some n ∧ (0 : Int) ≤ g ∧ g < (c : Int) ∧
    ∃ o : Int, w.cell? ((n.add (g.toNat * 2)).add 0) = some (.int .i64 o) ∧
    ∃ (p : Option Addr) (q r : Nat), w.cell? ((n.add (g.toNat * 2)).add 1) = some (.slice p q r) ∧
    ∀ s : Nat, w.heap.size ≤ s →
    CallK Try.prog 99 [.agg ⟨[.slice j l m]⟩, .int .i64 o] B w [s, i] fun v t => 
     ∃ (u x y : Int) (z : Option Addr) (A C : Nat) (D : Bool), v = .tuple ⟨[.agg ⟨[.int .i64 u, .int .i64 x, .int .i64 y, .slice z A C]⟩, .bool D]⟩ ∧
     ∀ E : Nat, t.heap.size ≤ E →
     if (!D) = false
     then (if ((q : Int) != u) = true
      then (Ret B t (R (.bool false)))
      else ((V49.l3 B R k) a c d f (IntKind.wrap .i64 (g + 1)) i j l m t))
     else (Ret B t (R (.bool false))))
    else (Ret B w (R (.bool true)))
def V49.b2 (B : Nat) (R : Value → World → Prop) (a : Nat) (c d f : Int) (g : Bool) (i : Int) (j : Option Addr) (l m : Nat) (n : Option Addr) (o p : Nat) (q : Option Addr) (r s t : Nat) (u : Option Addr) (x y : Nat) (w : World) : Prop :=
  ∃ z, V49.l3 B R z j l m (l : Int) 0 t u x y w
def V49.b1 (B : Nat) (R : Value → World → Prop) (a c : Bool) (d : Nat) (f g i : Int) (j : Bool) (l : Int) (m : Option Addr) (n o : Nat) (p : Option Addr) (q r : Nat) (s : Option Addr) (t u x : Nat) (y : Option Addr) (z A : Nat) (w : World) : Prop :=
  if c = true
  then (Ret B w (R (.bool false)))
  else (if (decide ((n : Int) > 0)) = true
   then (if (!a) = true
    then (Ret B w (R (.bool false)))
    else (V49.b2 B R d f g i j l m n o p q r s t u x y z A w))
   else (V49.b2 B R d f g i j l m n o p q r s t u x y z A w))
def V49.b0 (B : Nat) (R : Value → World → Prop) (a c : Bool) (d : Nat) (f g i : Int) (j : Option Addr) (l m n : Nat) (o p q : Int) (r : Bool) (s : Int) (t : Option Addr) (u x : Nat) (y : Option Addr) (z A : Nat) (C : Option Addr) (D E F : Nat) (G : Option Addr) (I J : Nat) (w : World) : Prop :=
  if c = true
  then (Ret B w (R (.bool false)))
  else (if ((z : Int) != g) = false
   then (if (decide ((D : Int) > 8)) = false
    then (V49.b1 B R a (decide ((u : Int) > 4)) n o p q r s t u x y z A C D E F G I J w)
    else (V49.b1 B R a true n o p q r s t u x y z A C D E F G I J w))
   else (V49.b1 B R a true n o p q r s t u x y z A C D E F G I J w))
def V49.vc (B : Nat) (R : Value → World → Prop) (a : Option Addr) (c d : Nat) (f g i : Int) (j : Bool) (l : Int) (m : Option Addr) (n o : Nat) (p : Option Addr) (q r : Nat) (s : Option Addr) (t u : Nat) (w : World) : Prop :=
  ∀ x : Nat, w.heap.size ≤ x →
  ∀ y : Nat, w.heap.size ≤ y →
  CallK Try.prog 99 [.agg ⟨[.slice a c d]⟩, .int .i64 f] B w [y, x] fun v z => 
  ∃ (A C D : Int) (E : Option Addr) (F G : Nat) (I : Bool), v = .tuple ⟨[.agg ⟨[.int .i64 A, .int .i64 C, .int .i64 D, .slice E F G]⟩, .bool I]⟩ ∧
  ∀ J : Nat, z.heap.size ≤ J →
  if (!I) = true
  then (Ret B z (R (.bool false)))
  else (CallK Try.prog 100 [.agg ⟨[.int .i64 A, .int .i64 C, .int .i64 D, .slice E F G]⟩] B z [J, y, x] fun L M => 
   ∃ (N : Int) (O : Bool), L = .tuple ⟨[.int .i64 N, .bool O]⟩ ∧
   if (decide (g < 0)) = false
   then (if (decide (g > (F : Int))) = false
    then (if (decide (i < 0)) = false
     then (V49.b0 B R O (decide (i > 2)) J A C D E F G y f g i j l m n o p q r s t u x a c d M)
     else (V49.b0 B R O true J A C D E F G y f g i j l m n o p q r s t u x a c d M))
    else (V49.b0 B R O true J A C D E F G y f g i j l m n o p q r s t u x a c d M))
   else (V49.b0 B R O true J A C D E F G y f g i j l m n o p q r s t u x a c d M))
noncomputable def V49.cfg (B : Nat) : Cfg := ⟨Try.prog, ⟨102, B⟩, [], hasN [99, 100], hasN []⟩
noncomputable def V49.code : Code := (Try.f49.body).getD .skip
noncomputable def V49.cuts (B : Nat) (R : Value → World → Prop) : Nat → Cut := nthC [⟨[(8, .one (.bool)), (27, .one (.bool))], [(5, 29, [.int .i64, .int .i64, .int .i64, .slice]), (3, 67, [.int .i64, .int .i64, .int .i64, .bool, .int .u64, .slice, .slice, .slice]), (2, 24, [.slice])], fun fs vs bs w => V49.b0 B R (bV (nthV vs 0)) (bV (nthV vs 1)) (nthB bs 0).blk (iV (nthV (nthB bs 0).cells 0)) (iV (nthV (nthB bs 0).cells 1)) (iV (nthV (nthB bs 0).cells 2)) (slA (nthV (nthB bs 0).cells 3)) (slL (nthV (nthB bs 0).cells 3)) (slC (nthV (nthB bs 0).cells 3)) (nthB bs 1).blk (iV (nthV (nthB bs 1).cells 0)) (iV (nthV (nthB bs 1).cells 1)) (iV (nthV (nthB bs 1).cells 2)) (bV (nthV (nthB bs 1).cells 3)) (iV (nthV (nthB bs 1).cells 4)) (slA (nthV (nthB bs 1).cells 5)) (slL (nthV (nthB bs 1).cells 5)) (slC (nthV (nthB bs 1).cells 5)) (slA (nthV (nthB bs 1).cells 6)) (slL (nthV (nthB bs 1).cells 6)) (slC (nthV (nthB bs 1).cells 6)) (slA (nthV (nthB bs 1).cells 7)) (slL (nthV (nthB bs 1).cells 7)) (slC (nthV (nthB bs 1).cells 7)) (nthB bs 2).blk (slA (nthV (nthB bs 2).cells 0)) (slL (nthV (nthB bs 2).cells 0)) (slC (nthV (nthB bs 2).cells 0)) w⟩,
  ⟨[(8, .one (.bool)), (49, .one (.bool))], [(3, 67, [.int .i64, .int .i64, .int .i64, .bool, .int .u64, .slice, .slice, .slice]), (2, 24, [.slice])], fun fs vs bs w => V49.b1 B R (bV (nthV vs 0)) (bV (nthV vs 1)) (nthB bs 0).blk (iV (nthV (nthB bs 0).cells 0)) (iV (nthV (nthB bs 0).cells 1)) (iV (nthV (nthB bs 0).cells 2)) (bV (nthV (nthB bs 0).cells 3)) (iV (nthV (nthB bs 0).cells 4)) (slA (nthV (nthB bs 0).cells 5)) (slL (nthV (nthB bs 0).cells 5)) (slC (nthV (nthB bs 0).cells 5)) (slA (nthV (nthB bs 0).cells 6)) (slL (nthV (nthB bs 0).cells 6)) (slC (nthV (nthB bs 0).cells 6)) (slA (nthV (nthB bs 0).cells 7)) (slL (nthV (nthB bs 0).cells 7)) (slC (nthV (nthB bs 0).cells 7)) (nthB bs 1).blk (slA (nthV (nthB bs 1).cells 0)) (slL (nthV (nthB bs 1).cells 0)) (slC (nthV (nthB bs 1).cells 0)) w⟩,
  ⟨[], [(3, 67, [.int .i64, .int .i64, .int .i64, .bool, .int .u64, .slice, .slice, .slice]), (2, 24, [.slice])], fun fs vs bs w => V49.b2 B R (nthB bs 0).blk (iV (nthV (nthB bs 0).cells 0)) (iV (nthV (nthB bs 0).cells 1)) (iV (nthV (nthB bs 0).cells 2)) (bV (nthV (nthB bs 0).cells 3)) (iV (nthV (nthB bs 0).cells 4)) (slA (nthV (nthB bs 0).cells 5)) (slL (nthV (nthB bs 0).cells 5)) (slC (nthV (nthB bs 0).cells 5)) (slA (nthV (nthB bs 0).cells 6)) (slL (nthV (nthB bs 0).cells 6)) (slC (nthV (nthB bs 0).cells 6)) (slA (nthV (nthB bs 0).cells 7)) (slL (nthV (nthB bs 0).cells 7)) (slC (nthV (nthB bs 0).cells 7)) (nthB bs 1).blk (slA (nthV (nthB bs 1).cells 0)) (slL (nthV (nthB bs 1).cells 0)) (slC (nthV (nthB bs 1).cells 0)) w⟩,
  ⟨[(78, .one (.slice)), (79, .one (.int .i64)), (80, .one (.int .i64))], [(2, 24, [.slice])], fun fs vs bs w => V49.l3 B R (nthN fs 0) (slA (nthV vs 0)) (slL (nthV vs 0)) (slC (nthV vs 0)) (iV (nthV vs 1)) (iV (nthV vs 2)) (nthB bs 0).blk (slA (nthV (nthB bs 0).cells 0)) (slL (nthV (nthB bs 0).cells 0)) (slC (nthV (nthB bs 0).cells 0)) w⟩]
noncomputable def V49.h : H := .s (.z) (.s (.z) (.s (.s (.z) (.c (.s (.z) (.z)) (.z))) (.s (.z) (.cut 2 (.b (.cut 0 (.z) (.c (.s (.z) (.z)) (.cut 1 (.z) (.c (.s (.z) (.z)) (.s (.z) (.c (.s (.z) (.z)) (.z)))))))) (.s (.s (.z) (.b (.l 3 (.s (.z) (.s (.c (.z) (.z)) (.s (.b (.s (.z) (.s (.z) (.s (.z) (.c (.s (.z) (.z)) (.z)))))) (.z))))))) (.s (.z) (.z)))))))
theorem V49.vc_eq (B : Nat) (R : Value → World → Prop) (a : Option Addr) (c d : Nat) (f g i : Int) (j : Bool) (l : Int) (m : Option Addr) (n o : Nat) (p : Option Addr) (q r : Nat) (s : Option Addr) (t u : Nat) (w : World) : wpf (V49.cfg B) (V49.cuts B R) V49.code V49.h [] (postOf Try.prog B (Try.f49.results.toList) R) (argE 0 [.agg ⟨[.slice a c d]⟩, .agg ⟨[.int .i64 f, .int .i64 g, .int .i64 i, .bool j, .int .u64 l, .slice m n o, .slice p q r, .slice s t u]⟩]) [] w = V49.vc B R a c d f g i j l m n o p q r s t u w := by kernel_rfl
theorem V49.obl (B : Nat) (R : Value → World → Prop) : oblP (V49.cfg B) (V49.cuts B R) V49.code V49.h [] (postOf Try.prog B (Try.f49.results.toList) R) := by
  have e : oblP (V49.cfg B) (V49.cuts B R) V49.code V49.h [] (postOf Try.prog B (Try.f49.results.toList) R) = (True ∧ (True ∧ ((True ∧ ((True ∧ True) ∧ True)) ∧ (True ∧ ((True ∧ (∀ (a c : Bool) (d : Nat) (f g i : Int) (j : Option Addr) (l m n : Nat) (o p q : Int) (r : Bool) (s : Int) (t : Option Addr) (u x : Nat) (y : Option Addr) (z A : Nat) (C : Option Addr) (D E F : Nat) (G : Option Addr) (I J : Nat) (w : World), V49.b0 B R a c d f g i j l m n o p q r s t u x y z A C D E F G I J w → V49.b0 B R a c d f g i j l m n o p q r s t u x y z A C D E F G I J w) ∧ ((True ∧ True) ∧ (True ∧ (∀ (a L : Bool) (n : Nat) (o p q : Int) (r : Bool) (s : Int) (t : Option Addr) (u x : Nat) (y : Option Addr) (z A : Nat) (C : Option Addr) (D E F : Nat) (G : Option Addr) (I J : Nat) (w : World), V49.b1 B R a L n o p q r s t u x y z A C D E F G I J w → V49.b1 B R a L n o p q r s t u x y z A C D E F G I J w) ∧ ((True ∧ True) ∧ (True ∧ ((True ∧ True) ∧ True)))))) ∧ (∀ (n : Nat) (o p q : Int) (r : Bool) (s : Int) (t : Option Addr) (u x : Nat) (y : Option Addr) (z A : Nat) (C : Option Addr) (D E F : Nat) (G : Option Addr) (I J : Nat) (w : World), V49.b2 B R n o p q r s t u x y z A C D E F G I J w → V49.b2 B R n o p q r s t u x y z A C D E F G I J w) ∧ ((True ∧ ((∀ (M : Option Addr) (N O : Nat) (P Q : Int) (F : Nat) (G : Option Addr) (I J : Nat) (w : World), ¬ V49.l3 B R 0 M N O P Q F G I J w) ∧ (∀ S, ∀ (M : Option Addr) (N O : Nat) (P Q : Int) (F : Nat) (G : Option Addr) (I J : Nat) (w : World), V49.l3 B R (S + 1) M N O P Q F G I J w → V49.l3 B R (S + 1) M N O P Q F G I J w) ∧ ∀ S : Nat, (True ∧ ((True ∧ True) ∧ ((True ∧ (True ∧ (True ∧ ((True ∧ True) ∧ True)))) ∧ True))))) ∧ (True ∧ True))))))) := by kernel_rfl
  rw [e]
  exact ⟨trivial, ⟨trivial, ⟨⟨trivial, ⟨⟨trivial, trivial⟩, trivial⟩⟩, ⟨trivial, ⟨⟨trivial, fun a c d f g i j l m n o p q r s t u x y z A C D E F G I J w h => h, ⟨⟨trivial, trivial⟩, ⟨trivial, fun a L n o p q r s t u x y z A C D E F G I J w h => h, ⟨⟨trivial, trivial⟩, ⟨trivial, ⟨⟨trivial, trivial⟩, trivial⟩⟩⟩⟩⟩⟩, fun n o p q r s t u x y z A C D E F G I J w h => h, ⟨⟨trivial, ⟨fun M N O P Q F G I J w h => h, fun _ M N O P Q F G I J w h => h, fun S => ⟨trivial, ⟨⟨trivial, trivial⟩, ⟨⟨trivial, ⟨trivial, ⟨trivial, ⟨⟨trivial, trivial⟩, trivial⟩⟩⟩⟩, trivial⟩⟩⟩⟩⟩, ⟨trivial, trivial⟩⟩⟩⟩⟩⟩⟩
theorem V49.cfgOk (B : Nat) : CfgOk (V49.cfg B) := cfgOk_of (by kernel_rfl) (by kernel_rfl)
theorem V49.sound {a : Option Addr} {d f : Nat} {g i j : Int} {l : Bool} {m : Int} {n : Option Addr} {o p : Nat} {q : Option Addr} {r s : Nat} {t : Option Addr} {u y : Nat} {w : World} {R : Value → World → Prop} (h : V49.vc w.heap.size R a d f g i j l m n o p q r s t u y w) : Calls Try.prog 49 ⟨[.agg ⟨[.slice a d f]⟩, .agg ⟨[.int .i64 g, .int .i64 i, .int .i64 j, .bool l, .int .u64 m, .slice n o p, .slice q r s, .slice t u y]⟩]⟩ w fun e w' => ∃ v, e = .returned v ∧ R v w' :=
  calls_wpfP (c := V49.cfg w.heap.size) (fn := Try.f49) (x := V49.code) (V49.cuts w.heap.size R) V49.h (V49.cfgOk _) mixed Try.func49 (by kernel_rfl) (by kernel_rfl) (by kernel_rfl) rfl (V49.obl _ _) ((V49.vc_eq _ _ a d f g i j l m n o p q r s t u y _).symm ▸ h)
def V50.l0 (B : Nat) (R : Value → World → Prop) : Nat → Int → Nat → Int → Int → Int → Bool → Int → Option Addr → Nat → Nat → Option Addr → Nat → Nat → Option Addr → Nat → Nat → Nat → Option Addr → Nat → Nat → World → Prop
  | 0 => fun _ _ _ _ _ _ _ _ _ _ _ _ _ _ _ _ _ _ _ _ _ => False
  | k + 1 => fun a c d f g i j l m n o p q r s t u x y z w =>
    if (decide (a < (m : Int))) = true
    then (∃ A : Addr, l = some A ∧ (0 : Int) ≤ a ∧ a < (m : Int) ∧
    ∃ C : Int, w.cell? ((A.add (a.toNat * 2)).add 0) = some (.int .i64 C) ∧
    ∃ (D : Option Addr) (E F : Nat), w.cell? ((A.add (a.toNat * 2)).add 1) = some (.slice D E F) ∧
    ∀ G : Nat, w.heap.size ≤ G →
    if (decide (C < 0)) = false
     then (if (decide (C ≥ (y : Int))) = false
      then (∃ I : Addr, x = some I ∧ (0 : Int) ≤ C ∧ C < (y : Int) ∧
      ∃ J : Int, w.cell? ((I.add (C.toNat * 4)).add 0) = some (.int .i64 J) ∧
      if ((E : Int) != J) = true
       then (Ret B w (R (.bool false)))
       else ((V50.l0 B R k) (IntKind.wrap .i64 (a + 1)) c d f g i j l m n o p q r s t u x y z w))
      else (Ret B w (R (.bool false))))
     else (Ret B w (R (.bool false))))
    else (Ret B w (R (.bool true)))
def V50.vc (B : Nat) (R : Value → World → Prop) (a : Option Addr) (c d : Nat) (f g i : Int) (j : Bool) (l : Int) (m : Option Addr) (n o : Nat) (p : Option Addr) (q r : Nat) (s : Option Addr) (t u : Nat) (w : World) : Prop :=
  ∀ x : Nat, w.heap.size ≤ x →
  ∀ y : Nat, w.heap.size ≤ y →
  if (decide (f < 0)) = false
  then (if (decide (f ≥ (c : Int))) = true
   then (Ret B w (R (.bool false)))
   else (∃ z : Addr, a = some z ∧ (0 : Int) ≤ f ∧ f < (c : Int) ∧
   ∃ A : Int, w.cell? ((z.add (f.toNat * 4)).add 0) = some (.int .i64 A) ∧
   ∃ C : Int, w.cell? ((z.add (f.toNat * 4)).add 1) = some (.int .i64 C) ∧
   ∃ D : Int, w.cell? ((z.add (f.toNat * 4)).add 2) = some (.int .i64 D) ∧
   ∃ (E : Option Addr) (F G : Nat), w.cell? ((z.add (f.toNat * 4)).add 3) = some (.slice E F G) ∧
   ∀ I : Nat, w.heap.size ≤ I →
   if (decide (g < 0)) = false
    then (if (decide (g > (F : Int))) = false
     then (if (decide (i < 0)) = false
      then (if (decide (i > 2)) = false
       then (if ((q : Int) != C) = false
        then (if (decide ((t : Int) > 8)) = false
         then (CallK Try.prog 101 [.agg ⟨[.int .i64 A, .int .i64 C, .int .i64 D, .slice E F G]⟩] B w [I, y, x] fun v J => 
          ∃ L : Int, v = .int .i64 L ∧
          if (decide ((n : Int) > L)) = true
          then (Ret B J (R (.bool false)))
          else (∃ M, V50.l0 B R M 0 y f g i j l m n o p q r s t u x a c d J))
         else (Ret B w (R (.bool false))))
        else (Ret B w (R (.bool false))))
       else (Ret B w (R (.bool false))))
      else (Ret B w (R (.bool false))))
     else (Ret B w (R (.bool false))))
    else (Ret B w (R (.bool false)))))
  else (Ret B w (R (.bool false)))
noncomputable def V50.cfg (B : Nat) : Cfg := ⟨Try.prog, ⟨104, B⟩, [], hasN [101], hasN []⟩
noncomputable def V50.code : Code := (Try.f50.body).getD .skip
noncomputable def V50.cuts (B : Nat) (R : Value → World → Prop) : Nat → Cut := nthC [⟨[(6, .one (.int .i64))], [(3, 67, [.int .i64, .int .i64, .int .i64, .bool, .int .u64, .slice, .slice, .slice]), (2, 24, [.slice])], fun fs vs bs w => V50.l0 B R (nthN fs 0) (iV (nthV vs 0)) (nthB bs 0).blk (iV (nthV (nthB bs 0).cells 0)) (iV (nthV (nthB bs 0).cells 1)) (iV (nthV (nthB bs 0).cells 2)) (bV (nthV (nthB bs 0).cells 3)) (iV (nthV (nthB bs 0).cells 4)) (slA (nthV (nthB bs 0).cells 5)) (slL (nthV (nthB bs 0).cells 5)) (slC (nthV (nthB bs 0).cells 5)) (slA (nthV (nthB bs 0).cells 6)) (slL (nthV (nthB bs 0).cells 6)) (slC (nthV (nthB bs 0).cells 6)) (slA (nthV (nthB bs 0).cells 7)) (slL (nthV (nthB bs 0).cells 7)) (slC (nthV (nthB bs 0).cells 7)) (nthB bs 1).blk (slA (nthV (nthB bs 1).cells 0)) (slL (nthV (nthB bs 1).cells 0)) (slC (nthV (nthB bs 1).cells 0)) w⟩]
noncomputable def V50.h : H := .s (.z) (.s (.s (.z) (.c (.s (.z) (.z)) (.z))) (.s (.z) (.s (.s (.r [[0, 1, 2, 3, 4, 5, 6, 7, 8, 9, 10, 11, 12, 13, 14, 15, 16, 17, 18, 19, 20, 21, 22, 23, 24, 25, 26, 27, 28, 29, 30, 31, 32, 33, 34, 35, 36, 37, 38, 39, 40, 41, 42]]) (.c (.s (.z) (.z)) (.z))) (.s (.s (.z) (.b (.l 0 (.s (.s (.z) (.c (.z) (.z))) (.s (.b (.s (.z) (.s (.r [[0, 1, 2, 3, 4, 5, 6, 7, 8, 9, 10, 11, 12, 13, 14, 15, 16, 17, 18, 19, 20, 21, 22, 23]]) (.c (.s (.z) (.z)) (.z))))) (.z)))))) (.s (.z) (.z))))))
theorem V50.vc_eq (B : Nat) (R : Value → World → Prop) (a : Option Addr) (c d : Nat) (f g i : Int) (j : Bool) (l : Int) (m : Option Addr) (n o : Nat) (p : Option Addr) (q r : Nat) (s : Option Addr) (t u : Nat) (w : World) : wpf (V50.cfg B) (V50.cuts B R) V50.code V50.h [] (postOf Try.prog B (Try.f50.results.toList) R) (argE 0 [.agg ⟨[.slice a c d]⟩, .agg ⟨[.int .i64 f, .int .i64 g, .int .i64 i, .bool j, .int .u64 l, .slice m n o, .slice p q r, .slice s t u]⟩]) [] w = V50.vc B R a c d f g i j l m n o p q r s t u w := by kernel_rfl
theorem V50.obl (B : Nat) (R : Value → World → Prop) : oblP (V50.cfg B) (V50.cuts B R) V50.code V50.h [] (postOf Try.prog B (Try.f50.results.toList) R) := by
  have e : oblP (V50.cfg B) (V50.cuts B R) V50.code V50.h [] (postOf Try.prog B (Try.f50.results.toList) R) = (True ∧ ((True ∧ ((True ∧ True) ∧ True)) ∧ (True ∧ (((true = true) ∧ ((True ∧ True) ∧ True)) ∧ ((True ∧ ((∀ (a : Int) (c : Nat) (d f g : Int) (i : Bool) (j : Int) (l : Option Addr) (m n : Nat) (o : Option Addr) (p q : Nat) (r : Option Addr) (s t u : Nat) (x : Option Addr) (y z : Nat) (w : World), ¬ V50.l0 B R 0 a c d f g i j l m n o p q r s t u x y z w) ∧ (∀ A, ∀ (a : Int) (c : Nat) (d f g : Int) (i : Bool) (j : Int) (l : Option Addr) (m n : Nat) (o : Option Addr) (p q : Nat) (r : Option Addr) (s t u : Nat) (x : Option Addr) (y z : Nat) (w : World), V50.l0 B R (A + 1) a c d f g i j l m n o p q r s t u x y z w → V50.l0 B R (A + 1) a c d f g i j l m n o p q r s t u x y z w) ∧ ∀ A : Nat, ((True ∧ (True ∧ True)) ∧ ((True ∧ ((true = true) ∧ ((True ∧ True) ∧ True))) ∧ True)))) ∧ (True ∧ True)))))) := by kernel_rfl
  rw [e]
  exact ⟨trivial, ⟨⟨trivial, ⟨⟨trivial, trivial⟩, trivial⟩⟩, ⟨trivial, ⟨⟨rfl, ⟨⟨trivial, trivial⟩, trivial⟩⟩, ⟨⟨trivial, ⟨fun a c d f g i j l m n o p q r s t u x y z w h => h, fun _ a c d f g i j l m n o p q r s t u x y z w h => h, fun A => ⟨⟨trivial, ⟨trivial, trivial⟩⟩, ⟨⟨trivial, ⟨rfl, ⟨⟨trivial, trivial⟩, trivial⟩⟩⟩, trivial⟩⟩⟩⟩, ⟨trivial, trivial⟩⟩⟩⟩⟩⟩
theorem V50.cfgOk (B : Nat) : CfgOk (V50.cfg B) := cfgOk_of (by kernel_rfl) (by kernel_rfl)
theorem V50.sound {a : Option Addr} {d f : Nat} {g i j : Int} {l : Bool} {m : Int} {n : Option Addr} {o p : Nat} {q : Option Addr} {r s : Nat} {t : Option Addr} {u y : Nat} {w : World} {R : Value → World → Prop} (h : V50.vc w.heap.size R a d f g i j l m n o p q r s t u y w) : Calls Try.prog 50 ⟨[.agg ⟨[.slice a d f]⟩, .agg ⟨[.int .i64 g, .int .i64 i, .int .i64 j, .bool l, .int .u64 m, .slice n o p, .slice q r s, .slice t u y]⟩]⟩ w fun e w' => ∃ v, e = .returned v ∧ R v w' :=
  calls_wpfP (c := V50.cfg w.heap.size) (fn := Try.f50) (x := V50.code) (V50.cuts w.heap.size R) V50.h (V50.cfgOk _) mixed Try.func50 (by kernel_rfl) (by kernel_rfl) (by kernel_rfl) rfl (V50.obl _ _) ((V50.vc_eq _ _ a d f g i j l m n o p q r s t u y _).symm ▸ h)
def V52.l0 (B : Nat) (R : Value → World → Prop) : Nat → Addr → Int → Option Addr → Nat → Nat → Int → Int → Nat → Int → Int → Int → Option Addr → Nat → Nat → Nat → Int → Int → Int → Bool → Int → Option Addr → Nat → Nat → Option Addr → Nat → Nat → Option Addr → Nat → Nat → World → Prop
  | 0 => fun _ _ _ _ _ _ _ _ _ _ _ _ _ _ _ _ _ _ _ _ _ _ _ _ _ _ _ _ _ _ => False
  | k + 1 => fun a c d f g i j l m n o p q r s t u x y z A C D E F G I J L w =>
    if (decide (j < i)) = true
    then (∃ M : Addr, d = some M ∧ (0 : Int) ≤ j ∧ j < (f : Int) ∧
    ∃ N : Int, w.cell? ((M.add (j.toNat * 2)).add 0) = some (.int .i64 N) ∧
    ∃ (O : Option Addr) (P Q : Nat), w.cell? ((M.add (j.toNat * 2)).add 1) = some (.slice O P Q) ∧
    ∀ S : Nat, w.heap.size ≤ S →
    CallK Try.prog 102 [.pointer (some a), .int .i64 (IntKind.wrap .i64 (IntKind.wrap .i64 (c + 7) + IntKind.wrap .i64 (j * 4))), .int .i64 4, .int .u64 0] B w [S, l, s] fun v T => 
     ∃ U : Int, v = .int .i64 U ∧
     CallK Try.prog 70 [.pointer (some a), .int .i64 (IntKind.wrap .i64 (IntKind.wrap .i64 (c + 7) + IntKind.wrap .i64 (j * 4))), .int .u64 (IntKind.wrap .u64 N)] B T [S, l, s] fun W X => 
     ∃ Y : Int, W = .int .i64 Y ∧
     CallK Try.prog 103 [.pointer (some a), .int .i64 (IntKind.wrap .i64 (IntKind.wrap .i64 (IntKind.wrap .i64 (c + 7) + IntKind.wrap .i64 (j * 4)) + 1)), .slice O P Q] B X [S, l, s] fun Z a1 => 
     Z = .tuple ⟨[]⟩ ∧ (V52.l0 B R k) a c d f g i (IntKind.wrap .i64 (j + 1)) l m n o p q r s t u x y z A C D E F G I J L a1)
    else (CallK Try.prog 100 [.agg ⟨[.int .i64 m, .int .i64 n, .int .i64 o, .slice p q r]⟩] B w [l, s] fun v T => 
     ∃ (a2 : Int) (a3 : Bool), v = .tuple ⟨[.int .i64 a2, .bool a3]⟩ ∧
     CallK Try.prog 103 [.pointer (some a), .int .i64 (IntKind.wrap .i64 (c + a2)), .slice E F G] B T [l, s] fun W X => 
     W = .tuple ⟨[]⟩ ∧
     CallK Try.prog 103 [.pointer (some a), .int .i64 (IntKind.wrap .i64 (IntKind.wrap .i64 (c + a2) + n)), .slice I J L] B X [l, s] fun Z a1 => 
     Z = .tuple ⟨[]⟩ ∧
     Ret B a1 (R (.int .i64 0)))
def V52.vc (B : Nat) (R : Value → World → Prop) (a : Addr) (c : Option Addr) (d f : Nat) (g i j l m : Int) (n : Bool) (o : Int) (p : Option Addr) (q r : Nat) (s : Option Addr) (t u : Nat) (x : Option Addr) (y z : Nat) (w : World) : Prop :=
  ∀ A : Nat, w.heap.size ≤ A →
  ∀ C : Nat, w.heap.size ≤ C →
  CallK Try.prog 49 [.agg ⟨[.slice c d f]⟩, .agg ⟨[.int .i64 j, .int .i64 l, .int .i64 m, .bool n, .int .u64 o, .slice p q r, .slice s t u, .slice x y z]⟩] B w [C, A] fun v D => 
  ∃ E : Bool, v = .bool E ∧
  if (!E) = false
  then (CallK Try.prog 96 [.pointer (some a), .int .i64 i] B D [C, A] fun F G => 
   ∃ I : Bool, F = .bool I ∧
   if (!I) = true
   then (Ret B G (R (.int .i64 1)))
   else (∃ J : Addr, c = some J ∧ (0 : Int) ≤ j ∧ j < (d : Int) ∧
   ∃ L : Int, G.cell? ((J.add (j.toNat * 4)).add 0) = some (.int .i64 L) ∧
   ∃ M : Int, G.cell? ((J.add (j.toNat * 4)).add 1) = some (.int .i64 M) ∧
   ∃ N : Int, G.cell? ((J.add (j.toNat * 4)).add 2) = some (.int .i64 N) ∧
   ∃ (O : Option Addr) (P Q : Nat), G.cell? ((J.add (j.toNat * 4)).add 3) = some (.slice O P Q) ∧
   ∀ S : Nat, G.heap.size ≤ S →
   CallK Try.prog 32 [.agg ⟨[.int .i64 L, .int .i64 M, .int .i64 N, .slice O P Q]⟩] B G [S, C, A] fun T U => 
    ∃ W : Int, T = .int .i64 W ∧
    CallK Try.prog 94 [.pointer (some a), .int .i64 g, .int .i64 W] B U [S, C, A] fun X Y => 
    ∃ (Z : Option Addr) (a1 a2 : Nat) (a3 : Int), X = .tuple ⟨[.slice Z a1 a2, .int .i64 a3]⟩ ∧
    if (a3 != 0) = true
    then (Ret B Y (R (.int .i64 a3)))
    else (CallK Try.prog 44 [.pointer (some a), .int .i64 g, .agg ⟨[.int .i64 i, .int .i64 j, .int .i64 l, .int .i64 m, .bool n, .int .u64 o, .int .i64 (q : Int), .int .i64 (y : Int)]⟩] B Y [S, C, A] fun a4 a5 => 
     ∃ a6 : Int, a4 = .int .i64 a6 ∧
     ∃ a7, V52.l0 B R a7 a g p q r (q : Int) 0 S L M N O P Q C j l m n o p q r s t u x y z a5)))
  else (Ret B D (R (.int .i64 1)))
noncomputable def V52.cfg (B : Nat) : Cfg := ⟨Try.prog, ⟨120, B⟩, [], hasN [32, 44, 49, 70, 94, 96, 100, 102, 103], hasN []⟩
noncomputable def V52.code : Code := (Try.f52.body).getD .skip
noncomputable def V52.cuts (B : Nat) (R : Value → World → Prop) : Nat → Cut := nthC [⟨[(0, .one (.ptr)), (2, .one (.int .i64)), (70, .one (.slice)), (71, .one (.int .i64)), (72, .one (.int .i64))], [(11, 29, [.int .i64, .int .i64, .int .i64, .slice]), (9, 67, [.int .i64, .int .i64, .int .i64, .bool, .int .u64, .slice, .slice, .slice])], fun fs vs bs w => V52.l0 B R (nthN fs 0) (pV (nthV vs 0)) (iV (nthV vs 1)) (slA (nthV vs 2)) (slL (nthV vs 2)) (slC (nthV vs 2)) (iV (nthV vs 3)) (iV (nthV vs 4)) (nthB bs 0).blk (iV (nthV (nthB bs 0).cells 0)) (iV (nthV (nthB bs 0).cells 1)) (iV (nthV (nthB bs 0).cells 2)) (slA (nthV (nthB bs 0).cells 3)) (slL (nthV (nthB bs 0).cells 3)) (slC (nthV (nthB bs 0).cells 3)) (nthB bs 1).blk (iV (nthV (nthB bs 1).cells 0)) (iV (nthV (nthB bs 1).cells 1)) (iV (nthV (nthB bs 1).cells 2)) (bV (nthV (nthB bs 1).cells 3)) (iV (nthV (nthB bs 1).cells 4)) (slA (nthV (nthB bs 1).cells 5)) (slL (nthV (nthB bs 1).cells 5)) (slC (nthV (nthB bs 1).cells 5)) (slA (nthV (nthB bs 1).cells 6)) (slL (nthV (nthB bs 1).cells 6)) (slC (nthV (nthB bs 1).cells 6)) (slA (nthV (nthB bs 1).cells 7)) (slL (nthV (nthB bs 1).cells 7)) (slC (nthV (nthB bs 1).cells 7)) w⟩]
noncomputable def V52.h : H := .s (.z) (.s (.s (.z) (.c (.s (.z) (.z)) (.z))) (.s (.s (.z) (.c (.s (.z) (.z)) (.z))) (.s (.z) (.s (.s (.z) (.s (.z) (.c (.s (.z) (.z)) (.z)))) (.s (.z) (.s (.s (.z) (.b (.l 0 (.s (.z) (.s (.c (.z) (.z)) (.s (.b (.s (.z) (.s (.z) (.s (.z) (.s (.z) (.z)))))) (.z))))))) (.s (.z) (.s (.z) (.s (.z) (.s (.z) (.z)))))))))))
theorem V52.vc_eq (B : Nat) (R : Value → World → Prop) (a : Addr) (c : Option Addr) (d f : Nat) (g i j l m : Int) (n : Bool) (o : Int) (p : Option Addr) (q r : Nat) (s : Option Addr) (t u : Nat) (x : Option Addr) (y z : Nat) (w : World) : wpf (V52.cfg B) (V52.cuts B R) V52.code V52.h [] (postOf Try.prog B (Try.f52.results.toList) R) (argE 0 [.pointer (some a), .agg ⟨[.slice c d f]⟩, .int .i64 g, .int .i64 i, .agg ⟨[.int .i64 j, .int .i64 l, .int .i64 m, .bool n, .int .u64 o, .slice p q r, .slice s t u, .slice x y z]⟩]) [] w = V52.vc B R a c d f g i j l m n o p q r s t u x y z w := by kernel_rfl
theorem V52.obl (B : Nat) (R : Value → World → Prop) : oblP (V52.cfg B) (V52.cuts B R) V52.code V52.h [] (postOf Try.prog B (Try.f52.results.toList) R) := by
  have e : oblP (V52.cfg B) (V52.cuts B R) V52.code V52.h [] (postOf Try.prog B (Try.f52.results.toList) R) = (True ∧ ((True ∧ ((True ∧ True) ∧ True)) ∧ ((True ∧ ((True ∧ True) ∧ True)) ∧ (True ∧ ((True ∧ (True ∧ ((True ∧ True) ∧ True))) ∧ (True ∧ ((True ∧ ((∀ (a : Addr) (c : Int) (d : Option Addr) (f g : Nat) (i j : Int) (l : Nat) (m n o : Int) (p : Option Addr) (q r s : Nat) (t u x : Int) (y : Bool) (z : Int) (A : Option Addr) (C D : Nat) (E : Option Addr) (F G : Nat) (I : Option Addr) (J L : Nat) (w : World), ¬ V52.l0 B R 0 a c d f g i j l m n o p q r s t u x y z A C D E F G I J L w) ∧ (∀ M, ∀ (a : Addr) (c : Int) (d : Option Addr) (f g : Nat) (i j : Int) (l : Nat) (m n o : Int) (p : Option Addr) (q r s : Nat) (t u x : Int) (y : Bool) (z : Int) (A : Option Addr) (C D : Nat) (E : Option Addr) (F G : Nat) (I : Option Addr) (J L : Nat) (w : World), V52.l0 B R (M + 1) a c d f g i j l m n o p q r s t u x y z A C D E F G I J L w → V52.l0 B R (M + 1) a c d f g i j l m n o p q r s t u x y z A C D E F G I J L w) ∧ ∀ M : Nat, (True ∧ ((True ∧ True) ∧ ((True ∧ (True ∧ (True ∧ (True ∧ True)))) ∧ True))))) ∧ (True ∧ (True ∧ (True ∧ (True ∧ True))))))))))) := by kernel_rfl
  rw [e]
  exact ⟨trivial, ⟨⟨trivial, ⟨⟨trivial, trivial⟩, trivial⟩⟩, ⟨⟨trivial, ⟨⟨trivial, trivial⟩, trivial⟩⟩, ⟨trivial, ⟨⟨trivial, ⟨trivial, ⟨⟨trivial, trivial⟩, trivial⟩⟩⟩, ⟨trivial, ⟨⟨trivial, ⟨fun a c d f g i j l m n o p q r s t u x y z A C D E F G I J L w h => h, fun _ a c d f g i j l m n o p q r s t u x y z A C D E F G I J L w h => h, fun M => ⟨trivial, ⟨⟨trivial, trivial⟩, ⟨⟨trivial, ⟨trivial, ⟨trivial, ⟨trivial, trivial⟩⟩⟩⟩, trivial⟩⟩⟩⟩⟩, ⟨trivial, ⟨trivial, ⟨trivial, ⟨trivial, trivial⟩⟩⟩⟩⟩⟩⟩⟩⟩⟩⟩
theorem V52.cfgOk (B : Nat) : CfgOk (V52.cfg B) := cfgOk_of (by kernel_rfl) (by kernel_rfl)
theorem V52.sound {a : Addr} {d : Option Addr} {f g : Nat} {i j l m n : Int} {o : Bool} {p : Int} {q : Option Addr} {r s : Nat} {t : Option Addr} {u y : Nat} {z : Option Addr} {A C : Nat} {w : World} {R : Value → World → Prop} (h : V52.vc w.heap.size R a d f g i j l m n o p q r s t u y z A C w) : Calls Try.prog 52 ⟨[.pointer (some a), .agg ⟨[.slice d f g]⟩, .int .i64 i, .int .i64 j, .agg ⟨[.int .i64 l, .int .i64 m, .int .i64 n, .bool o, .int .u64 p, .slice q r s, .slice t u y, .slice z A C]⟩]⟩ w fun e w' => ∃ v, e = .returned v ∧ R v w' :=
  calls_wpfP (c := V52.cfg w.heap.size) (fn := Try.f52) (x := V52.code) (V52.cuts w.heap.size R) V52.h (V52.cfgOk _) mixed Try.func52 (by kernel_rfl) (by kernel_rfl) (by kernel_rfl) rfl (V52.obl _ _) ((V52.vc_eq _ _ a d f g i j l m n o p q r s t u y z A C _).symm ▸ h)
def V53.l1 (B : Nat) (R : Value → World → Prop) (a : Option Addr → Nat → Nat → Int → Int → Nat → Int → Int → Int → Bool → Int → Option Addr → Nat → Nat → Option Addr → Nat → Nat → Option Addr → Nat → Nat → Nat → Option Addr → Nat → Nat → World → Prop) : Nat → Option Addr → Nat → Nat → Int → Int → Int → Nat → Int → Int → Int → Bool → Int → Option Addr → Nat → Nat → Option Addr → Nat → Nat → Option Addr → Nat → Nat → Nat → Option Addr → Nat → Nat → World → Prop
  | 0 => fun _ _ _ _ _ _ _ _ _ _ _ _ _ _ _ _ _ _ _ _ _ _ _ _ _ _ => False
  | k + 1 => fun c d f g i j l m n o p q r s t x y z A C D E F G I w =>
    if (decide (j < 3)) = true
    then (∃ J : Addr, c = some J ∧ (0 : Int) ≤ IntKind.wrap .i64 (IntKind.wrap .i64 (IntKind.wrap .i64 (g + IntKind.wrap .i64 (i * 4)) + 1) + j) ∧ IntKind.wrap .i64 (IntKind.wrap .i64 (IntKind.wrap .i64 (g + IntKind.wrap .i64 (i * 4)) + 1) + j) < (d : Int) ∧
    (∃ u, w.cell? ((J.add ((IntKind.wrap .i64 (IntKind.wrap .i64 (IntKind.wrap .i64 (g + IntKind.wrap .i64 (i * 4)) + 1) + j)).toNat)).add 0) = some u) ∧ w.frozen? ((J.add ((IntKind.wrap .i64 (IntKind.wrap .i64 (IntKind.wrap .i64 (g + IntKind.wrap .i64 (i * 4)) + 1) + j)).toNat)).add 0) = false ∧
    let L := w.setCell ((J.add ((IntKind.wrap .i64 (IntKind.wrap .i64 (IntKind.wrap .i64 (g + IntKind.wrap .i64 (i * 4)) + 1) + j)).toNat)).add 0) (.int .u64 0);
    ∃ M : Addr, r = some M ∧ (0 : Int) ≤ i ∧ i < (s : Int) ∧
    ∃ (N : Option Addr) (O P : Nat), L.cell? ((M.add (i.toNat * 2)).add 1) = some (.slice N O P) ∧
    if (decide (j < (O : Int))) = true
     then (∃ Q : Addr, r = some Q ∧ (0 : Int) ≤ i ∧ i < (s : Int) ∧
     ∃ (S : Option Addr) (T U : Nat), L.cell? ((Q.add (i.toNat * 2)).add 1) = some (.slice S T U) ∧
     ∃ W : Addr, S = some W ∧ (0 : Int) ≤ j ∧ j < (T : Int) ∧
     ∃ X : Int, L.cell? (W.add j.toNat) = some (.int .u64 X) ∧
     ∃ Y : Addr, c = some Y ∧ (0 : Int) ≤ IntKind.wrap .i64 (IntKind.wrap .i64 (IntKind.wrap .i64 (g + IntKind.wrap .i64 (i * 4)) + 1) + j) ∧ IntKind.wrap .i64 (IntKind.wrap .i64 (IntKind.wrap .i64 (g + IntKind.wrap .i64 (i * 4)) + 1) + j) < (d : Int) ∧
     (∃ u_1, L.cell? ((Y.add ((IntKind.wrap .i64 (IntKind.wrap .i64 (IntKind.wrap .i64 (g + IntKind.wrap .i64 (i * 4)) + 1) + j)).toNat)).add 0) = some u_1) ∧ L.frozen? ((Y.add ((IntKind.wrap .i64 (IntKind.wrap .i64 (IntKind.wrap .i64 (g + IntKind.wrap .i64 (i * 4)) + 1) + j)).toNat)).add 0) = false ∧
     let Z := L.setCell ((Y.add ((IntKind.wrap .i64 (IntKind.wrap .i64 (IntKind.wrap .i64 (g + IntKind.wrap .i64 (i * 4)) + 1) + j)).toNat)).add 0) (.int .u64 X);
     (V53.l1 B R a k) c d f g i (IntKind.wrap .i64 (j + 1)) l m n o p q r s t x y z A C D E F G I Z)
     else ((V53.l1 B R a k) c d f g i (IntKind.wrap .i64 (j + 1)) l m n o p q r s t x y z A C D E F G I L))
    else (a c d f g (IntKind.wrap .i64 (i + 1)) l m n o p q r s t x y z A C D E F G I w)
def V53.l3 (B : Nat) (R : Value → World → Prop) : Nat → Option Addr → Nat → Nat → Int → Int → Nat → Int → Int → Int → Bool → Int → Option Addr → Nat → Nat → Option Addr → Nat → Nat → Option Addr → Nat → Nat → World → Prop
  | 0 => fun _ _ _ _ _ _ _ _ _ _ _ _ _ _ _ _ _ _ _ _ _ => False
  | k + 1 => fun a c d f g i j l m n o p q r s t x y z A w =>
    if (decide (g < (z : Int))) = true
    then (∃ C : Addr, y = some C ∧ (0 : Int) ≤ g ∧ g < (z : Int) ∧
    ∃ D : Int, w.cell? (C.add g.toNat) = some (.int .u64 D) ∧
    ∃ E : Addr, a = some E ∧ (0 : Int) ≤ IntKind.wrap .i64 (f + g) ∧ IntKind.wrap .i64 (f + g) < (c : Int) ∧
    (∃ u, w.cell? ((E.add ((IntKind.wrap .i64 (f + g)).toNat)).add 0) = some u) ∧ w.frozen? ((E.add ((IntKind.wrap .i64 (f + g)).toNat)).add 0) = false ∧
    let F := w.setCell ((E.add ((IntKind.wrap .i64 (f + g)).toNat)).add 0) (.int .u64 D);
    (V53.l3 B R k) a c d f (IntKind.wrap .i64 (g + 1)) i j l m n o p q r s t x y z A F)
    else (Ret B w (R (.tuple ⟨[.slice a c d, .int .i64 0]⟩)))
def V53.l2 (B : Nat) (R : Value → World → Prop) : Nat → Option Addr → Nat → Nat → Int → Int → Nat → Int → Int → Int → Bool → Int → Option Addr → Nat → Nat → Option Addr → Nat → Nat → Option Addr → Nat → Nat → World → Prop
  | 0 => fun _ _ _ _ _ _ _ _ _ _ _ _ _ _ _ _ _ _ _ _ _ => False
  | k + 1 => fun a c d f g i j l m n o p q r s t x y z A w =>
    if (decide (g < (t : Int))) = true
    then (∃ C : Addr, s = some C ∧ (0 : Int) ≤ g ∧ g < (t : Int) ∧
    ∃ D : Int, w.cell? (C.add g.toNat) = some (.int .u64 D) ∧
    ∃ E : Addr, a = some E ∧ (0 : Int) ≤ IntKind.wrap .i64 (f + g) ∧ IntKind.wrap .i64 (f + g) < (c : Int) ∧
    (∃ u, w.cell? ((E.add ((IntKind.wrap .i64 (f + g)).toNat)).add 0) = some u) ∧ w.frozen? ((E.add ((IntKind.wrap .i64 (f + g)).toNat)).add 0) = false ∧
    let F := w.setCell ((E.add ((IntKind.wrap .i64 (f + g)).toNat)).add 0) (.int .u64 D);
    (V53.l2 B R k) a c d f (IntKind.wrap .i64 (g + 1)) i j l m n o p q r s t x y z A F)
    else (∃ G, V53.l3 B R G a c d (IntKind.wrap .i64 (f + (t : Int))) 0 i j l m n o p q r s t x y z A w)
def V53.l0 (B : Nat) (R : Value → World → Prop) : Nat → Option Addr → Nat → Nat → Int → Int → Nat → Int → Int → Int → Bool → Int → Option Addr → Nat → Nat → Option Addr → Nat → Nat → Option Addr → Nat → Nat → Nat → Option Addr → Nat → Nat → World → Prop
  | 0 => fun _ _ _ _ _ _ _ _ _ _ _ _ _ _ _ _ _ _ _ _ _ _ _ _ _ => False
  | k + 1 => fun a c d f g i j l m n o p q r s t x y z A C D E F w =>
    if (decide (g < (q : Int))) = true
    then (∃ G : Addr, p = some G ∧ (0 : Int) ≤ g ∧ g < (q : Int) ∧
    ∃ I : Int, w.cell? ((G.add (g.toNat * 2)).add 0) = some (.int .i64 I) ∧
    ∃ J : Addr, a = some J ∧ (0 : Int) ≤ IntKind.wrap .i64 (f + IntKind.wrap .i64 (g * 4)) ∧ IntKind.wrap .i64 (f + IntKind.wrap .i64 (g * 4)) < (c : Int) ∧
    (∃ u, w.cell? ((J.add ((IntKind.wrap .i64 (f + IntKind.wrap .i64 (g * 4))).toNat)).add 0) = some u) ∧ w.frozen? ((J.add ((IntKind.wrap .i64 (f + IntKind.wrap .i64 (g * 4))).toNat)).add 0) = false ∧
    let L := w.setCell ((J.add ((IntKind.wrap .i64 (f + IntKind.wrap .i64 (g * 4))).toNat)).add 0) (.int .u64 (IntKind.wrap .u64 I));
    ∃ M, V53.l1 B R (V53.l0 B R k) M a c d f g 0 i j l m n o p q r s t x y z A C D E F L)
    else (∃ N : Addr, D = some N ∧ (0 : Int) ≤ j ∧ j < (E : Int) ∧
    ∃ O : Int, w.cell? ((N.add (j.toNat * 4)).add 0) = some (.int .i64 O) ∧
    ∃ P : Int, w.cell? ((N.add (j.toNat * 4)).add 1) = some (.int .i64 P) ∧
    ∃ Q : Int, w.cell? ((N.add (j.toNat * 4)).add 2) = some (.int .i64 Q) ∧
    ∃ (S : Option Addr) (T U : Nat), w.cell? ((N.add (j.toNat * 4)).add 3) = some (.slice S T U) ∧
    CallK Try.prog 101 [.agg ⟨[.int .i64 O, .int .i64 P, .int .i64 Q, .slice S T U]⟩] B w [i, C] fun v L => 
     ∃ W : Int, v = .int .i64 W ∧
     ∃ M, V53.l2 B R M a c d (IntKind.wrap .i64 (f + IntKind.wrap .i64 (W * 4))) 0 i j l m n o p q r s t x y z A L)
def V53.vc (B : Nat) (R : Value → World → Prop) (a : Option Addr) (c d : Nat) (f : Option Addr) (g i : Nat) (j l m n o : Int) (p : Bool) (q : Int) (r : Option Addr) (s t : Nat) (u : Option Addr) (x y : Nat) (z : Option Addr) (A C : Nat) (w : World) : Prop :=
  ∀ D : Nat, w.heap.size ≤ D →
  ∀ E : Nat, w.heap.size ≤ E →
  CallK Try.prog 50 [.agg ⟨[.slice f g i]⟩, .agg ⟨[.int .i64 m, .int .i64 n, .int .i64 o, .bool p, .int .u64 q, .slice r s t, .slice u x y, .slice z A C]⟩] B w [E, D] fun v F => 
  ∃ G : Bool, v = .bool G ∧
  if (!G) = false
  then (if (decide (l < (-1))) = false
   then (if (decide (l ≥ (c : Int))) = false
    then (∃ I : Addr, f = some I ∧ (0 : Int) ≤ m ∧ m < (g : Int) ∧
    ∃ J : Int, F.cell? ((I.add (m.toNat * 4)).add 0) = some (.int .i64 J) ∧
    ∃ L : Int, F.cell? ((I.add (m.toNat * 4)).add 1) = some (.int .i64 L) ∧
    ∃ M : Int, F.cell? ((I.add (m.toNat * 4)).add 2) = some (.int .i64 M) ∧
    ∃ (N : Option Addr) (O P : Nat), F.cell? ((I.add (m.toNat * 4)).add 3) = some (.slice N O P) ∧
    CallK Try.prog 33 [.agg ⟨[.int .i64 J, .int .i64 L, .int .i64 M, .slice N O P]⟩] B F [E, D] fun Q S => 
     ∃ T : Int, Q = .int .i64 T ∧
     CallK Try.prog 95 [.slice a c d, .int .i64 j, .int .i64 T] B S [E, D] fun U W => 
     ∃ X : Bool, U = .bool X ∧
     if (!X) = true
     then (Ret B W (R (.tuple ⟨[.slice a c d, .int .i64 1]⟩)))
     else (CallK Try.prog 45 [.slice a c d, .int .i64 j, .agg ⟨[.int .i64 l, .int .i64 m, .int .i64 n, .int .i64 o, .bool p, .int .u64 q, .int .i64 (s : Int), .int .i64 (A : Int)]⟩] B W [E, D] fun Y Z => 
      ∃ (a0 : Option Addr) (a1 a2 : Nat) (a3 : Int), Y = .tuple ⟨[.slice a0 a1 a2, .int .i64 a3]⟩ ∧
      if (a3 != 0) = true
      then (Ret B Z (R (.tuple ⟨[.slice a c d, .int .i64 a3]⟩)))
      else (∃ a4, V53.l0 B R a4 a0 a1 a2 (IntKind.wrap .i64 (j + 7)) 0 E m n o p q r s t u x y z A C D f g i Z)))
    else (Ret B F (R (.tuple ⟨[.slice a c d, .int .i64 1]⟩))))
   else (Ret B F (R (.tuple ⟨[.slice a c d, .int .i64 1]⟩))))
  else (Ret B F (R (.tuple ⟨[.slice a c d, .int .i64 1]⟩)))
noncomputable def V53.cfg (B : Nat) : Cfg := ⟨Try.prog, ⟨187, B⟩, [], hasN [33, 45, 50, 95, 101], hasN []⟩
noncomputable def V53.code : Code := (Try.f53.body).getD .skip
noncomputable def V53.cuts (B : Nat) (R : Value → World → Prop) : Nat → Cut := nthC [⟨[(12, .one (.slice)), (14, .one (.int .i64)), (15, .one (.int .i64))], [(9, 67, [.int .i64, .int .i64, .int .i64, .bool, .int .u64, .slice, .slice, .slice]), (6, 24, [.slice])], fun fs vs bs w => V53.l0 B R (nthN fs 0) (slA (nthV vs 0)) (slL (nthV vs 0)) (slC (nthV vs 0)) (iV (nthV vs 1)) (iV (nthV vs 2)) (nthB bs 0).blk (iV (nthV (nthB bs 0).cells 0)) (iV (nthV (nthB bs 0).cells 1)) (iV (nthV (nthB bs 0).cells 2)) (bV (nthV (nthB bs 0).cells 3)) (iV (nthV (nthB bs 0).cells 4)) (slA (nthV (nthB bs 0).cells 5)) (slL (nthV (nthB bs 0).cells 5)) (slC (nthV (nthB bs 0).cells 5)) (slA (nthV (nthB bs 0).cells 6)) (slL (nthV (nthB bs 0).cells 6)) (slC (nthV (nthB bs 0).cells 6)) (slA (nthV (nthB bs 0).cells 7)) (slL (nthV (nthB bs 0).cells 7)) (slC (nthV (nthB bs 0).cells 7)) (nthB bs 1).blk (slA (nthV (nthB bs 1).cells 0)) (slL (nthV (nthB bs 1).cells 0)) (slC (nthV (nthB bs 1).cells 0)) w⟩,
  ⟨[(12, .one (.slice)), (14, .one (.int .i64)), (15, .one (.int .i64)), (16, .one (.int .i64))], [(9, 67, [.int .i64, .int .i64, .int .i64, .bool, .int .u64, .slice, .slice, .slice]), (6, 24, [.slice])], fun fs vs bs w => V53.l1 B R (V53.l0 B R (nthN fs 1)) (nthN fs 0) (slA (nthV vs 0)) (slL (nthV vs 0)) (slC (nthV vs 0)) (iV (nthV vs 1)) (iV (nthV vs 2)) (iV (nthV vs 3)) (nthB bs 0).blk (iV (nthV (nthB bs 0).cells 0)) (iV (nthV (nthB bs 0).cells 1)) (iV (nthV (nthB bs 0).cells 2)) (bV (nthV (nthB bs 0).cells 3)) (iV (nthV (nthB bs 0).cells 4)) (slA (nthV (nthB bs 0).cells 5)) (slL (nthV (nthB bs 0).cells 5)) (slC (nthV (nthB bs 0).cells 5)) (slA (nthV (nthB bs 0).cells 6)) (slL (nthV (nthB bs 0).cells 6)) (slC (nthV (nthB bs 0).cells 6)) (slA (nthV (nthB bs 0).cells 7)) (slL (nthV (nthB bs 0).cells 7)) (slC (nthV (nthB bs 0).cells 7)) (nthB bs 1).blk (slA (nthV (nthB bs 1).cells 0)) (slL (nthV (nthB bs 1).cells 0)) (slC (nthV (nthB bs 1).cells 0)) w⟩,
  ⟨[(12, .one (.slice)), (14, .one (.int .i64)), (17, .one (.int .i64))], [(9, 67, [.int .i64, .int .i64, .int .i64, .bool, .int .u64, .slice, .slice, .slice])], fun fs vs bs w => V53.l2 B R (nthN fs 0) (slA (nthV vs 0)) (slL (nthV vs 0)) (slC (nthV vs 0)) (iV (nthV vs 1)) (iV (nthV vs 2)) (nthB bs 0).blk (iV (nthV (nthB bs 0).cells 0)) (iV (nthV (nthB bs 0).cells 1)) (iV (nthV (nthB bs 0).cells 2)) (bV (nthV (nthB bs 0).cells 3)) (iV (nthV (nthB bs 0).cells 4)) (slA (nthV (nthB bs 0).cells 5)) (slL (nthV (nthB bs 0).cells 5)) (slC (nthV (nthB bs 0).cells 5)) (slA (nthV (nthB bs 0).cells 6)) (slL (nthV (nthB bs 0).cells 6)) (slC (nthV (nthB bs 0).cells 6)) (slA (nthV (nthB bs 0).cells 7)) (slL (nthV (nthB bs 0).cells 7)) (slC (nthV (nthB bs 0).cells 7)) w⟩,
  ⟨[(12, .one (.slice)), (14, .one (.int .i64)), (18, .one (.int .i64))], [(9, 67, [.int .i64, .int .i64, .int .i64, .bool, .int .u64, .slice, .slice, .slice])], fun fs vs bs w => V53.l3 B R (nthN fs 0) (slA (nthV vs 0)) (slL (nthV vs 0)) (slC (nthV vs 0)) (iV (nthV vs 1)) (iV (nthV vs 2)) (nthB bs 0).blk (iV (nthV (nthB bs 0).cells 0)) (iV (nthV (nthB bs 0).cells 1)) (iV (nthV (nthB bs 0).cells 2)) (bV (nthV (nthB bs 0).cells 3)) (iV (nthV (nthB bs 0).cells 4)) (slA (nthV (nthB bs 0).cells 5)) (slL (nthV (nthB bs 0).cells 5)) (slC (nthV (nthB bs 0).cells 5)) (slA (nthV (nthB bs 0).cells 6)) (slL (nthV (nthB bs 0).cells 6)) (slC (nthV (nthB bs 0).cells 6)) (slA (nthV (nthB bs 0).cells 7)) (slL (nthV (nthB bs 0).cells 7)) (slC (nthV (nthB bs 0).cells 7)) w⟩]
noncomputable def V53.h : H := .s (.z) (.s (.s (.z) (.c (.s (.z) (.z)) (.z))) (.s (.z) (.s (.s (.z) (.c (.s (.z) (.z)) (.z))) (.s (.z) (.s (.s (.z) (.b (.l 0 (.s (.s (.z) (.c (.z) (.z))) (.s (.b (.s (.z) (.s (.z) (.b (.l 1 (.s (.s (.z) (.c (.z) (.z))) (.s (.b (.s (.z) (.s (.z) (.c (.z) (.z))))) (.z)))))))) (.z)))))) (.s (.z) (.s (.s (.z) (.b (.l 2 (.s (.s (.z) (.c (.z) (.z))) (.s (.b (.z)) (.z)))))) (.s (.z) (.s (.s (.z) (.b (.l 3 (.s (.s (.z) (.c (.z) (.z))) (.s (.b (.z)) (.z)))))) (.s (.z) (.z)))))))))))
theorem V53.vc_eq (B : Nat) (R : Value → World → Prop) (a : Option Addr) (c d : Nat) (f : Option Addr) (g i : Nat) (j l m n o : Int) (p : Bool) (q : Int) (r : Option Addr) (s t : Nat) (u : Option Addr) (x y : Nat) (z : Option Addr) (A C : Nat) (w : World) : wpf (V53.cfg B) (V53.cuts B R) V53.code V53.h [] (postOf Try.prog B (Try.f53.results.toList) R) (argE 0 [.slice a c d, .agg ⟨[.slice f g i]⟩, .int .i64 j, .int .i64 l, .agg ⟨[.int .i64 m, .int .i64 n, .int .i64 o, .bool p, .int .u64 q, .slice r s t, .slice u x y, .slice z A C]⟩]) [] w = V53.vc B R a c d f g i j l m n o p q r s t u x y z A C w := by kernel_rfl
theorem V53.obl (B : Nat) (R : Value → World → Prop) : oblP (V53.cfg B) (V53.cuts B R) V53.code V53.h [] (postOf Try.prog B (Try.f53.results.toList) R) := by
  have e : oblP (V53.cfg B) (V53.cuts B R) V53.code V53.h [] (postOf Try.prog B (Try.f53.results.toList) R) = (True ∧ ((True ∧ ((True ∧ True) ∧ True)) ∧ (True ∧ ((True ∧ ((True ∧ True) ∧ True)) ∧ (True ∧ ((True ∧ ((∀ (a : Option Addr) (c d : Nat) (f g : Int) (i : Nat) (j l m : Int) (n : Bool) (o : Int) (p : Option Addr) (q r : Nat) (s : Option Addr) (t u : Nat) (x : Option Addr) (y z A : Nat) (C : Option Addr) (D E : Nat) (w : World), ¬ V53.l0 B R 0 a c d f g i j l m n o p q r s t u x y z A C D E w) ∧ (∀ F, ∀ (a : Option Addr) (c d : Nat) (f g : Int) (i : Nat) (j l m : Int) (n : Bool) (o : Int) (p : Option Addr) (q r : Nat) (s : Option Addr) (t u : Nat) (x : Option Addr) (y z A : Nat) (C : Option Addr) (D E : Nat) (w : World), V53.l0 B R (F + 1) a c d f g i j l m n o p q r s t u x y z A C D E w → V53.l0 B R (F + 1) a c d f g i j l m n o p q r s t u x y z A C D E w) ∧ ∀ F : Nat, ((True ∧ (True ∧ True)) ∧ ((True ∧ (True ∧ ((∀ (a : Option Addr) (c d : Nat) (f g G : Int) (i : Nat) (j l m : Int) (n : Bool) (o : Int) (p : Option Addr) (q r : Nat) (s : Option Addr) (t u : Nat) (x : Option Addr) (y z A : Nat) (C : Option Addr) (D E : Nat) (w : World), ¬ V53.l1 B R (V53.l0 B R F) 0 a c d f g G i j l m n o p q r s t u x y z A C D E w) ∧ (∀ I, ∀ (a : Option Addr) (c d : Nat) (f g G : Int) (i : Nat) (j l m : Int) (n : Bool) (o : Int) (p : Option Addr) (q r : Nat) (s : Option Addr) (t u : Nat) (x : Option Addr) (y z A : Nat) (C : Option Addr) (D E : Nat) (w : World), V53.l1 B R (V53.l0 B R F) (I + 1) a c d f g G i j l m n o p q r s t u x y z A C D E w → V53.l1 B R (V53.l0 B R F) (I + 1) a c d f g G i j l m n o p q r s t u x y z A C D E w) ∧ ∀ I : Nat, ((True ∧ (True ∧ True)) ∧ ((True ∧ (True ∧ (True ∧ True))) ∧ True))))) ∧ True)))) ∧ (True ∧ ((True ∧ ((∀ (a : Option Addr) (c d : Nat) (f J : Int) (i : Nat) (j l m : Int) (n : Bool) (o : Int) (p : Option Addr) (q r : Nat) (s : Option Addr) (t u : Nat) (x : Option Addr) (y z : Nat) (w : World), ¬ V53.l2 B R 0 a c d f J i j l m n o p q r s t u x y z w) ∧ (∀ L, ∀ (a : Option Addr) (c d : Nat) (f J : Int) (i : Nat) (j l m : Int) (n : Bool) (o : Int) (p : Option Addr) (q r : Nat) (s : Option Addr) (t u : Nat) (x : Option Addr) (y z : Nat) (w : World), V53.l2 B R (L + 1) a c d f J i j l m n o p q r s t u x y z w → V53.l2 B R (L + 1) a c d f J i j l m n o p q r s t u x y z w) ∧ ∀ L : Nat, ((True ∧ (True ∧ True)) ∧ (True ∧ True)))) ∧ (True ∧ ((True ∧ ((∀ (a : Option Addr) (c d : Nat) (f M : Int) (i : Nat) (j l m : Int) (n : Bool) (o : Int) (p : Option Addr) (q r : Nat) (s : Option Addr) (t u : Nat) (x : Option Addr) (y z : Nat) (w : World), ¬ V53.l3 B R 0 a c d f M i j l m n o p q r s t u x y z w) ∧ (∀ N, ∀ (a : Option Addr) (c d : Nat) (f M : Int) (i : Nat) (j l m : Int) (n : Bool) (o : Int) (p : Option Addr) (q r : Nat) (s : Option Addr) (t u : Nat) (x : Option Addr) (y z : Nat) (w : World), V53.l3 B R (N + 1) a c d f M i j l m n o p q r s t u x y z w → V53.l3 B R (N + 1) a c d f M i j l m n o p q r s t u x y z w) ∧ ∀ N : Nat, ((True ∧ (True ∧ True)) ∧ (True ∧ True)))) ∧ (True ∧ True))))))))))) := by kernel_rfl
  rw [e]
  exact ⟨trivial, ⟨⟨trivial, ⟨⟨trivial, trivial⟩, trivial⟩⟩, ⟨trivial, ⟨⟨trivial, ⟨⟨trivial, trivial⟩, trivial⟩⟩, ⟨trivial, ⟨⟨trivial, ⟨fun a c d f g i j l m n o p q r s t u x y z A C D E w h => h, fun _ a c d f g i j l m n o p q r s t u x y z A C D E w h => h, fun F => ⟨⟨trivial, ⟨trivial, trivial⟩⟩, ⟨⟨trivial, ⟨trivial, ⟨fun a c d f g G i j l m n o p q r s t u x y z A C D E w h => h, fun _ a c d f g G i j l m n o p q r s t u x y z A C D E w h => h, fun I => ⟨⟨trivial, ⟨trivial, trivial⟩⟩, ⟨⟨trivial, ⟨trivial, ⟨trivial, trivial⟩⟩⟩, trivial⟩⟩⟩⟩⟩, trivial⟩⟩⟩⟩, ⟨trivial, ⟨⟨trivial, ⟨fun a c d f J i j l m n o p q r s t u x y z w h => h, fun _ a c d f J i j l m n o p q r s t u x y z w h => h, fun L => ⟨⟨trivial, ⟨trivial, trivial⟩⟩, ⟨trivial, trivial⟩⟩⟩⟩, ⟨trivial, ⟨⟨trivial, ⟨fun a c d f M i j l m n o p q r s t u x y z w h => h, fun _ a c d f M i j l m n o p q r s t u x y z w h => h, fun N => ⟨⟨trivial, ⟨trivial, trivial⟩⟩, ⟨trivial, trivial⟩⟩⟩⟩, ⟨trivial, trivial⟩⟩⟩⟩⟩⟩⟩⟩⟩⟩⟩
theorem V53.cfgOk (B : Nat) : CfgOk (V53.cfg B) := cfgOk_of (by kernel_rfl) (by kernel_rfl)
theorem V53.sound {a : Option Addr} {d f : Nat} {g : Option Addr} {i j : Nat} {l m n o p : Int} {q : Bool} {r : Int} {s : Option Addr} {t u : Nat} {y : Option Addr} {z A : Nat} {C : Option Addr} {D E : Nat} {w : World} {R : Value → World → Prop} (h : V53.vc w.heap.size R a d f g i j l m n o p q r s t u y z A C D E w) : Calls Try.prog 53 ⟨[.slice a d f, .agg ⟨[.slice g i j]⟩, .int .i64 l, .int .i64 m, .agg ⟨[.int .i64 n, .int .i64 o, .int .i64 p, .bool q, .int .u64 r, .slice s t u, .slice y z A, .slice C D E]⟩]⟩ w fun e w' => ∃ v, e = .returned v ∧ R v w' :=
  calls_wpfP (c := V53.cfg w.heap.size) (fn := Try.f53) (x := V53.code) (V53.cuts w.heap.size R) V53.h (V53.cfgOk _) mixed Try.func53 (by kernel_rfl) (by kernel_rfl) (by kernel_rfl) rfl (V53.obl _ _) ((V53.vc_eq _ _ a d f g i j l m n o p q r s t u y z A C D E _).symm ▸ h)
def V54.l1 (B : Nat) (R : Value → World → Prop) : Nat → Int → Option Addr → Nat → Nat → Int → Int → Nat → Int → Int → Int → Bool → Int → Option Addr → Nat → Nat → Option Addr → Nat → Nat → Option Addr → Nat → Nat → Nat → Int → Int → Int → Option Addr → Nat → Nat → Nat → Int → Int → Int → Int → Bool → Int → Int → Int → Nat → Int → Int → Int → Bool → Int → Option Addr → Nat → Nat → Option Addr → Nat → Nat → Option Addr → Nat → Nat → Nat → Option Addr → Nat → Nat → World → Prop
  | 0 => fun _ _ _ _ _ _ _ _ _ _ _ _ _ _ _ _ _ _ _ _ _ _ _ _ _ _ _ _ _ _ _ _ _ _ _ _ _ _ _ _ _ _ _ _ _ _ _ _ _ _ _ _ _ _ _ _ _ => False
  | k + 1 => fun c d f g i j l m n o p q r s t u x y z A C D E F G I J L M N O P Q S T U W X Y Z a0 b6 a2 A6 a4 a5 a6 a7 a8 a9 c0 c1 q4 p4 c4 c5 w =>
    if (decide (j < i)) = true
    then ((0 : Int) ≤ IntKind.wrap .i64 (7 + IntKind.wrap .i64 (j * 4)) ∧ IntKind.wrap .i64 (7 + IntKind.wrap .i64 (j * 4)) ≤ (f : Int) ∧ (0 : Int) ≤ 4 ∧ (4 : Int) ≤ ((g - ((IntKind.wrap .i64 (7 + IntKind.wrap .i64 (j * 4))).toNat) : Nat) : Int) ∧
    ∃ c6 : Addr, (if g - ((IntKind.wrap .i64 (7 + IntKind.wrap .i64 (j * 4))).toNat) = 0 then if g = (IntKind.wrap .i64 (7 + IntKind.wrap .i64 (j * 4))).toNat then d else Option.map (fun a => a.add ((IntKind.wrap .i64 (7 + IntKind.wrap .i64 (j * 4))).toNat)) d else Option.map (fun a => a.add 0) (if g = (IntKind.wrap .i64 (7 + IntKind.wrap .i64 (j * 4))).toNat then d else Option.map (fun a => a.add ((IntKind.wrap .i64 (7 + IntKind.wrap .i64 (j * 4))).toNat)) d)) = some c6 ∧ (0 : Int) ≤ 0 ∧ (0 : Int) < ((4 - 0 : Nat) : Int) ∧
    ∃ c7 : Int, w.cell? (c6.add 0) = some (.int .u64 c7) ∧
    if (decide (c7 ≥ IntKind.wrap .u64 (c4 : Int))) = true
     then (Ret B w (R (.tuple ⟨[.agg ⟨[.int .i64 0, .int .i64 0, .int .i64 0, .bool false, .int .u64 0, .slice none 0 0, .slice none 0 0, .slice none 0 0]⟩, .int .i64 0, .int .i64 6]⟩)))
     else (∃ c8 : Addr, (if g - ((IntKind.wrap .i64 (7 + IntKind.wrap .i64 (j * 4))).toNat) = 0 then if g = (IntKind.wrap .i64 (7 + IntKind.wrap .i64 (j * 4))).toNat then d else Option.map (fun a => a.add ((IntKind.wrap .i64 (7 + IntKind.wrap .i64 (j * 4))).toNat)) d else Option.map (fun a => a.add 0) (if g = (IntKind.wrap .i64 (7 + IntKind.wrap .i64 (j * 4))).toNat then d else Option.map (fun a => a.add ((IntKind.wrap .i64 (7 + IntKind.wrap .i64 (j * 4))).toNat)) d)) = some c8 ∧ (0 : Int) ≤ 0 ∧ (0 : Int) < ((4 - 0 : Nat) : Int) ∧
     ∃ c9 : Int, w.cell? (c8.add 0) = some (.int .u64 c9) ∧
     ∃ d0 : Addr, p4 = some d0 ∧ (0 : Int) ≤ IntKind.wrap .i64 c9 ∧ IntKind.wrap .i64 c9 < (c4 : Int) ∧
     ∃ d1 : Int, w.cell? ((d0.add ((IntKind.wrap .i64 c9).toNat * 4)).add 0) = some (.int .i64 d1) ∧ (0 : Int) ≤ IntKind.wrap .i64 (1 + d1) ∧ IntKind.wrap .i64 (1 + d1) ≤ (((g - ((IntKind.wrap .i64 (7 + IntKind.wrap .i64 (j * 4))).toNat)) - 0 : Nat) : Int) ∧ (0 : Int) ≤ 1 ∧ (1 : Int) ≤ (((IntKind.wrap .i64 (1 + d1)).toNat : Nat) : Int) ∧
     CallK Try.prog 104 [.slice (if (g - ((IntKind.wrap .i64 (7 + IntKind.wrap .i64 (j * 4))).toNat)) - 0 = 1 then if g - ((IntKind.wrap .i64 (7 + IntKind.wrap .i64 (j * 4))).toNat) = 0 then if g = (IntKind.wrap .i64 (7 + IntKind.wrap .i64 (j * 4))).toNat then d else Option.map (fun a => a.add ((IntKind.wrap .i64 (7 + IntKind.wrap .i64 (j * 4))).toNat)) d else Option.map (fun a => a.add 0) (if g = (IntKind.wrap .i64 (7 + IntKind.wrap .i64 (j * 4))).toNat then d else Option.map (fun a => a.add ((IntKind.wrap .i64 (7 + IntKind.wrap .i64 (j * 4))).toNat)) d) else Option.map (fun a => a.add 1) (if g - ((IntKind.wrap .i64 (7 + IntKind.wrap .i64 (j * 4))).toNat) = 0 then if g = (IntKind.wrap .i64 (7 + IntKind.wrap .i64 (j * 4))).toNat then d else Option.map (fun a => a.add ((IntKind.wrap .i64 (7 + IntKind.wrap .i64 (j * 4))).toNat)) d else Option.map (fun a => a.add 0) (if g = (IntKind.wrap .i64 (7 + IntKind.wrap .i64 (j * 4))).toNat then d else Option.map (fun a => a.add ((IntKind.wrap .i64 (7 + IntKind.wrap .i64 (j * 4))).toNat)) d))) (((IntKind.wrap .i64 (1 + d1)).toNat) - 1) (((g - ((IntKind.wrap .i64 (7 + IntKind.wrap .i64 (j * 4))).toNat)) - 0) - 1)] B w [l, D, M, X, q4] fun v d2 => 
      ∃ (d3 : Option Addr) (d4 d5 : Nat), v = .slice d3 d4 d5 ∧
      Expo B d2 [l, D, M, X, q4] fun d6 => 
      Hide [l, D, M, X, q4] (d6.alloc (.cells ⟨[.int .i64 (IntKind.wrap .i64 c9), .slice d3 d4 d5]⟩ 75)) fun d7 => 
      RunK Try.prog (Builtin.append_ #[65, 65] 65 ⟨[.slice r s t, .slice (some ⟨d6.heap.size, 0, none⟩) 1 1]⟩) B d7 [l, D, M, X, q4] fun d8 d9 => 
      ∃ (f0 : Option Addr) (f1 f2 : Nat), d8 = .slice f0 f1 f2 ∧ (V54.l1 B R k) c d f g i (IntKind.wrap .i64 (j + 1)) l m n o p q f0 f1 f2 u x y z A C D E F G I J L M N O P Q S T U W X Y Z a0 b6 a2 A6 a4 a5 a6 a7 a8 a9 c0 c1 q4 p4 c4 c5 d9))
    else ((0 : Int) ≤ IntKind.wrap .i64 (c + F) ∧ IntKind.wrap .i64 (c + F) ≤ (g : Int) ∧ (0 : Int) ≤ c ∧ c ≤ (((IntKind.wrap .i64 (c + F)).toNat : Nat) : Int) ∧
    CallK Try.prog 104 [.slice (if g = c.toNat then d else Option.map (fun a => a.add c.toNat) d) (((IntKind.wrap .i64 (c + F)).toNat) - c.toNat) (g - c.toNat)] B w [l, D, M, X, q4] fun v d2 => 
     ∃ (f3 : Option Addr) (f4 f5 : Nat), v = .slice f3 f4 f5 ∧ (0 : Int) ≤ IntKind.wrap .i64 (c + F) ∧ IntKind.wrap .i64 (c + F) ≤ (f : Int) ∧ (0 : Int) ≤ W ∧ W ≤ ((g - ((IntKind.wrap .i64 (c + F)).toNat) : Nat) : Int) ∧
     CallK Try.prog 104 [.slice (if g - ((IntKind.wrap .i64 (c + F)).toNat) = 0 then if g = (IntKind.wrap .i64 (c + F)).toNat then d else Option.map (fun a => a.add ((IntKind.wrap .i64 (c + F)).toNat)) d else Option.map (fun a => a.add 0) (if g = (IntKind.wrap .i64 (c + F)).toNat then d else Option.map (fun a => a.add ((IntKind.wrap .i64 (c + F)).toNat)) d)) (W.toNat - 0) ((g - ((IntKind.wrap .i64 (c + F)).toNat)) - 0)] B d2 [l, D, M, X, q4] fun d8 d6 => 
     ∃ (f6 : Option Addr) (f7 f8 : Nat), d8 = .slice f6 f7 f8 ∧
     Ret B d6 (R (.tuple ⟨[.agg ⟨[.int .i64 m, .int .i64 n, .int .i64 o, .bool p, .int .u64 q, .slice r s t, .slice f3 f4 f5, .slice f6 f7 f8]⟩, .int .i64 N, .int .i64 0]⟩)))
def V54.b0 (B : Nat) (R : Value → World → Prop) (a : Addr) (c d : Int) (f : Nat) (g i j : Int) (l : Option Addr) (m n o : Nat) (p q r s : Int) (t : Bool) (u x y : Int) (z : Nat) (A C D : Int) (E : Bool) (F : Int) (G : Option Addr) (I J : Nat) (L : Option Addr) (M N : Nat) (O : Option Addr) (P Q S : Nat) (T : Option Addr) (U W : Nat) (w : World) : Prop :=
  CallK Try.prog 32 [.agg ⟨[.int .i64 g, .int .i64 i, .int .i64 j, .slice l m n]⟩] B w [f, o, z, S] fun v X => 
  ∃ Y : Int, v = .int .i64 Y ∧
  CallK Try.prog 94 [.pointer (some a), .int .i64 c, .int .i64 Y] B X [f, o, z, S] fun Z a1 => 
  ∃ (a2 : Option Addr) (a3 a4 : Nat) (a5 : Int), Z = .tuple ⟨[.slice a2 a3 a4, .int .i64 a5]⟩ ∧
  if (a5 != 0) = true
  then (Ret B a1 (R (.tuple ⟨[.agg ⟨[.int .i64 0, .int .i64 0, .int .i64 0, .bool false, .int .u64 0, .slice none 0 0, .slice none 0 0, .slice none 0 0]⟩, .int .i64 0, .int .i64 a5]⟩)))
  else (∀ a6 : Nat, a1.heap.size ≤ a6 →
  ∃ a7, V54.l1 B R a7 d a2 a3 a4 x 0 a6 q r s t u none 0 0 none 0 0 none 0 0 f g i j l m n o p q r s t u x y z A C D E F G I J L M N O P Q S T U W a1)
def V54.vc (B : Nat) (R : Value → World → Prop) (a : Addr) (c : Option Addr) (d f : Nat) (g : Int) (w : World) : Prop :=
  ∀ i : Nat, w.heap.size ≤ i →
  ∀ j : Nat, w.heap.size ≤ j →
  CallK Try.prog 42 [.pointer (some a), .int .i64 g] B w [j, i] fun v l => 
  ∃ (m n o p : Int) (q : Bool) (r s t u : Int), v = .tuple ⟨[.agg ⟨[.int .i64 m, .int .i64 n, .int .i64 o, .int .i64 p, .bool q, .int .u64 r, .int .i64 s, .int .i64 t]⟩, .int .i64 u]⟩ ∧
  ∀ x : Nat, l.heap.size ≤ x →
  if (u != 0) = true
  then (Ret B l (R (.tuple ⟨[.agg ⟨[.int .i64 0, .int .i64 0, .int .i64 0, .bool false, .int .u64 0, .slice none 0 0, .slice none 0 0, .slice none 0 0]⟩, .int .i64 0, .int .i64 u]⟩)))
  else (CallK Try.prog 99 [.agg ⟨[.slice c d f]⟩, .int .i64 n] B l [x, j, i] fun y z => 
   ∃ (A C D : Int) (E : Option Addr) (F G : Nat) (I : Bool), y = .tuple ⟨[.agg ⟨[.int .i64 A, .int .i64 C, .int .i64 D, .slice E F G]⟩, .bool I]⟩ ∧
   ∀ J : Nat, z.heap.size ≤ J →
   if (!I) = true
   then (Ret B z (R (.tuple ⟨[.agg ⟨[.int .i64 0, .int .i64 0, .int .i64 0, .bool false, .int .u64 0, .slice none 0 0, .slice none 0 0, .slice none 0 0]⟩, .int .i64 0, .int .i64 6]⟩)))
   else (CallK Try.prog 100 [.agg ⟨[.int .i64 A, .int .i64 C, .int .i64 D, .slice E F G]⟩] B z [J, x, j, i] fun L M => 
    ∃ (N : Int) (O : Bool), L = .tuple ⟨[.int .i64 N, .bool O]⟩ ∧
    if (decide (o > (F : Int))) = false
    then (if (decide (s > 4)) = false
     then (if (decide (s > 0)) = true
      then (if (!O) = false
       then (if (decide (t > 8)) = true
        then (Ret B M (R (.tuple ⟨[.agg ⟨[.int .i64 0, .int .i64 0, .int .i64 0, .bool false, .int .u64 0, .slice none 0 0, .slice none 0 0, .slice none 0 0]⟩, .int .i64 0, .int .i64 6]⟩)))
        else (V54.b0 B R a g N J A C D E F G x m n o p q r s t j 0 0 0 false 0 none 0 0 none 0 0 none 0 0 i c d f M))
       else (Ret B M (R (.tuple ⟨[.agg ⟨[.int .i64 0, .int .i64 0, .int .i64 0, .bool false, .int .u64 0, .slice none 0 0, .slice none 0 0, .slice none 0 0]⟩, .int .i64 0, .int .i64 6]⟩))))
      else (if (decide (t > 8)) = true
       then (Ret B M (R (.tuple ⟨[.agg ⟨[.int .i64 0, .int .i64 0, .int .i64 0, .bool false, .int .u64 0, .slice none 0 0, .slice none 0 0, .slice none 0 0]⟩, .int .i64 0, .int .i64 6]⟩)))
       else (V54.b0 B R a g N J A C D E F G x m n o p q r s t j 0 0 0 false 0 none 0 0 none 0 0 none 0 0 i c d f M)))
     else (Ret B M (R (.tuple ⟨[.agg ⟨[.int .i64 0, .int .i64 0, .int .i64 0, .bool false, .int .u64 0, .slice none 0 0, .slice none 0 0, .slice none 0 0]⟩, .int .i64 0, .int .i64 6]⟩))))
    else (Ret B M (R (.tuple ⟨[.agg ⟨[.int .i64 0, .int .i64 0, .int .i64 0, .bool false, .int .u64 0, .slice none 0 0, .slice none 0 0, .slice none 0 0]⟩, .int .i64 0, .int .i64 6]⟩)))))
noncomputable def V54.cfg (B : Nat) : Cfg := ⟨Try.prog, ⟨159, B⟩, [], hasN [32, 42, 94, 99, 100, 104], hasN []⟩
noncomputable def V54.code : Code := (Try.f54.body).getD .skip
noncomputable def V54.cuts (B : Nat) (R : Value → World → Prop) : Nat → Cut := nthC [⟨[(0, .one (.ptr)), (2, .one (.int .i64)), (13, .one (.int .i64))], [(11, 29, [.int .i64, .int .i64, .int .i64, .slice]), (9, 53, [.int .i64, .int .i64, .int .i64, .int .i64, .bool, .int .u64, .int .i64, .int .i64]), (6, 67, [.int .i64, .int .i64, .int .i64, .bool, .int .u64, .slice, .slice, .slice]), (4, 24, [.slice])], fun fs vs bs w => V54.b0 B R (pV (nthV vs 0)) (iV (nthV vs 1)) (iV (nthV vs 2)) (nthB bs 0).blk (iV (nthV (nthB bs 0).cells 0)) (iV (nthV (nthB bs 0).cells 1)) (iV (nthV (nthB bs 0).cells 2)) (slA (nthV (nthB bs 0).cells 3)) (slL (nthV (nthB bs 0).cells 3)) (slC (nthV (nthB bs 0).cells 3)) (nthB bs 1).blk (iV (nthV (nthB bs 1).cells 0)) (iV (nthV (nthB bs 1).cells 1)) (iV (nthV (nthB bs 1).cells 2)) (iV (nthV (nthB bs 1).cells 3)) (bV (nthV (nthB bs 1).cells 4)) (iV (nthV (nthB bs 1).cells 5)) (iV (nthV (nthB bs 1).cells 6)) (iV (nthV (nthB bs 1).cells 7)) (nthB bs 2).blk (iV (nthV (nthB bs 2).cells 0)) (iV (nthV (nthB bs 2).cells 1)) (iV (nthV (nthB bs 2).cells 2)) (bV (nthV (nthB bs 2).cells 3)) (iV (nthV (nthB bs 2).cells 4)) (slA (nthV (nthB bs 2).cells 5)) (slL (nthV (nthB bs 2).cells 5)) (slC (nthV (nthB bs 2).cells 5)) (slA (nthV (nthB bs 2).cells 6)) (slL (nthV (nthB bs 2).cells 6)) (slC (nthV (nthB bs 2).cells 6)) (slA (nthV (nthB bs 2).cells 7)) (slL (nthV (nthB bs 2).cells 7)) (slC (nthV (nthB bs 2).cells 7)) (nthB bs 3).blk (slA (nthV (nthB bs 3).cells 0)) (slL (nthV (nthB bs 3).cells 0)) (slC (nthV (nthB bs 3).cells 0)) w⟩,
  ⟨[(13, .one (.int .i64)), (15, .one (.slice)), (95, .one (.int .i64)), (96, .one (.int .i64))], [(16, 67, [.int .i64, .int .i64, .int .i64, .bool, .int .u64, .slice, .slice, .slice]), (11, 29, [.int .i64, .int .i64, .int .i64, .slice]), (9, 53, [.int .i64, .int .i64, .int .i64, .int .i64, .bool, .int .u64, .int .i64, .int .i64]), (6, 67, [.int .i64, .int .i64, .int .i64, .bool, .int .u64, .slice, .slice, .slice]), (4, 24, [.slice])], fun fs vs bs w => V54.l1 B R (nthN fs 0) (iV (nthV vs 0)) (slA (nthV vs 1)) (slL (nthV vs 1)) (slC (nthV vs 1)) (iV (nthV vs 2)) (iV (nthV vs 3)) (nthB bs 0).blk (iV (nthV (nthB bs 0).cells 0)) (iV (nthV (nthB bs 0).cells 1)) (iV (nthV (nthB bs 0).cells 2)) (bV (nthV (nthB bs 0).cells 3)) (iV (nthV (nthB bs 0).cells 4)) (slA (nthV (nthB bs 0).cells 5)) (slL (nthV (nthB bs 0).cells 5)) (slC (nthV (nthB bs 0).cells 5)) (slA (nthV (nthB bs 0).cells 6)) (slL (nthV (nthB bs 0).cells 6)) (slC (nthV (nthB bs 0).cells 6)) (slA (nthV (nthB bs 0).cells 7)) (slL (nthV (nthB bs 0).cells 7)) (slC (nthV (nthB bs 0).cells 7)) (nthB bs 1).blk (iV (nthV (nthB bs 1).cells 0)) (iV (nthV (nthB bs 1).cells 1)) (iV (nthV (nthB bs 1).cells 2)) (slA (nthV (nthB bs 1).cells 3)) (slL (nthV (nthB bs 1).cells 3)) (slC (nthV (nthB bs 1).cells 3)) (nthB bs 2).blk (iV (nthV (nthB bs 2).cells 0)) (iV (nthV (nthB bs 2).cells 1)) (iV (nthV (nthB bs 2).cells 2)) (iV (nthV (nthB bs 2).cells 3)) (bV (nthV (nthB bs 2).cells 4)) (iV (nthV (nthB bs 2).cells 5)) (iV (nthV (nthB bs 2).cells 6)) (iV (nthV (nthB bs 2).cells 7)) (nthB bs 3).blk (iV (nthV (nthB bs 3).cells 0)) (iV (nthV (nthB bs 3).cells 1)) (iV (nthV (nthB bs 3).cells 2)) (bV (nthV (nthB bs 3).cells 3)) (iV (nthV (nthB bs 3).cells 4)) (slA (nthV (nthB bs 3).cells 5)) (slL (nthV (nthB bs 3).cells 5)) (slC (nthV (nthB bs 3).cells 5)) (slA (nthV (nthB bs 3).cells 6)) (slL (nthV (nthB bs 3).cells 6)) (slC (nthV (nthB bs 3).cells 6)) (slA (nthV (nthB bs 3).cells 7)) (slL (nthV (nthB bs 3).cells 7)) (slC (nthV (nthB bs 3).cells 7)) (nthB bs 4).blk (slA (nthV (nthB bs 4).cells 0)) (slL (nthV (nthB bs 4).cells 0)) (slC (nthV (nthB bs 4).cells 0)) w⟩]
noncomputable def V54.h : H := .s (.z) (.s (.z) (.s (.s (.z) (.c (.s (.z) (.z)) (.z))) (.s (.z) (.s (.s (.z) (.c (.s (.z) (.z)) (.z))) (.s (.z) (.cut 0 (.s (.z) (.c (.s (.z) (.z)) (.z))) (.s (.z) (.s (.s (.z) (.c (.s (.z) (.z)) (.z))) (.s (.z) (.s (.s (.z) (.b (.l 1 (.s (.z) (.s (.c (.z) (.z)) (.s (.b (.s (.z) (.s (.z) (.s (.s (.r [[0, 1, 2, 3, 4, 5, 6, 7]]) (.c (.s (.z) (.z)) (.z))) (.s (.z) (.r [[0, 1, 2, 3, 4, 5, 6, 7, 8, 9, 10, 11, 12, 13, 14, 15, 16, 17]])))))) (.z))))))) (.s (.z) (.s (.r [[0, 1, 2, 3, 4, 5, 6, 7, 8, 9, 10, 11]]) (.s (.r [[0, 1, 2, 3, 4, 5]]) (.z))))))))))))))
theorem V54.vc_eq (B : Nat) (R : Value → World → Prop) (a : Addr) (c : Option Addr) (d f : Nat) (g : Int) (w : World) : wpf (V54.cfg B) (V54.cuts B R) V54.code V54.h [] (postOf Try.prog B (Try.f54.results.toList) R) (argE 0 [.pointer (some a), .agg ⟨[.slice c d f]⟩, .int .i64 g]) [] w = V54.vc B R a c d f g w := by kernel_rfl
theorem V54.obl (B : Nat) (R : Value → World → Prop) : oblP (V54.cfg B) (V54.cuts B R) V54.code V54.h [] (postOf Try.prog B (Try.f54.results.toList) R) := by
  have e : oblP (V54.cfg B) (V54.cuts B R) V54.code V54.h [] (postOf Try.prog B (Try.f54.results.toList) R) = (True ∧ (True ∧ ((True ∧ ((True ∧ True) ∧ True)) ∧ (True ∧ ((True ∧ ((True ∧ True) ∧ True)) ∧ (True ∧ ((True ∧ ((True ∧ True) ∧ True)) ∧ (∀ (a : Addr) (c d : Int) (f : Nat) (g i j : Int) (l : Option Addr) (m n o : Nat) (p q r s : Int) (t : Bool) (u x y : Int) (z : Nat) (A C D : Int) (E : Bool) (F : Int) (G : Option Addr) (I J : Nat) (L : Option Addr) (M N : Nat) (O : Option Addr) (P Q S : Nat) (T : Option Addr) (U W : Nat) (w : World), V54.b0 B R a c d f g i j l m n o p q r s t u x y z A C D E F G I J L M N O P Q S T U W w → V54.b0 B R a c d f g i j l m n o p q r s t u x y z A C D E F G I J L M N O P Q S T U W w) ∧ (True ∧ ((True ∧ ((True ∧ True) ∧ True)) ∧ (True ∧ ((True ∧ ((∀ (d : Int) (X : Option Addr) (Y Z : Nat) (a1 a2 : Int) (a3 : Nat) (a4 a5 a6 : Int) (a7 : Bool) (a8 : Int) (a9 : Option Addr) (c0 c1 : Nat) (c2 : Option Addr) (c3 c4 : Nat) (c5 : Option Addr) (c6 c7 f : Nat) (g i j : Int) (l : Option Addr) (m n o : Nat) (p q r s : Int) (t : Bool) (u x y : Int) (z : Nat) (A C D : Int) (E : Bool) (F : Int) (G : Option Addr) (I J : Nat) (L : Option Addr) (M N : Nat) (O : Option Addr) (P Q S : Nat) (T : Option Addr) (U W : Nat) (w : World), ¬ V54.l1 B R 0 d X Y Z a1 a2 a3 a4 a5 a6 a7 a8 a9 c0 c1 c2 c3 c4 c5 c6 c7 f g i j l m n o p q r s t u x y z A C D E F G I J L M N O P Q S T U W w) ∧ (∀ k1, ∀ (d : Int) (X : Option Addr) (Y Z : Nat) (a1 a2 : Int) (a3 : Nat) (a4 a5 a6 : Int) (a7 : Bool) (a8 : Int) (a9 : Option Addr) (c0 c1 : Nat) (c2 : Option Addr) (c3 c4 : Nat) (c5 : Option Addr) (c6 c7 f : Nat) (g i j : Int) (l : Option Addr) (m n o : Nat) (p q r s : Int) (t : Bool) (u x y : Int) (z : Nat) (A C D : Int) (E : Bool) (F : Int) (G : Option Addr) (I J : Nat) (L : Option Addr) (M N : Nat) (O : Option Addr) (P Q S : Nat) (T : Option Addr) (U W : Nat) (w : World), V54.l1 B R (k1 + 1) d X Y Z a1 a2 a3 a4 a5 a6 a7 a8 a9 c0 c1 c2 c3 c4 c5 c6 c7 f g i j l m n o p q r s t u x y z A C D E F G I J L M N O P Q S T U W w → V54.l1 B R (k1 + 1) d X Y Z a1 a2 a3 a4 a5 a6 a7 a8 a9 c0 c1 c2 c3 c4 c5 c6 c7 f g i j l m n o p q r s t u x y z A C D E F G I J L M N O P Q S T U W w) ∧ ∀ k1 : Nat, (True ∧ ((True ∧ True) ∧ ((True ∧ (True ∧ (((true = true) ∧ ((True ∧ True) ∧ True)) ∧ (True ∧ (true = true))))) ∧ True))))) ∧ (True ∧ ((true = true) ∧ ((true = true) ∧ True)))))))))))))) := by kernel_rfl
  rw [e]
  exact ⟨trivial, ⟨trivial, ⟨⟨trivial, ⟨⟨trivial, trivial⟩, trivial⟩⟩, ⟨trivial, ⟨⟨trivial, ⟨⟨trivial, trivial⟩, trivial⟩⟩, ⟨trivial, ⟨⟨trivial, ⟨⟨trivial, trivial⟩, trivial⟩⟩, fun a c d f g i j l m n o p q r s t u x y z A C D E F G I J L M N O P Q S T U W w h => h, ⟨trivial, ⟨⟨trivial, ⟨⟨trivial, trivial⟩, trivial⟩⟩, ⟨trivial, ⟨⟨trivial, ⟨fun d X Y Z a1 a2 a3 a4 a5 a6 a7 a8 a9 c0 c1 c2 c3 c4 c5 c6 c7 f g i j l m n o p q r s t u x y z A C D E F G I J L M N O P Q S T U W w h => h, fun _ d X Y Z a1 a2 a3 a4 a5 a6 a7 a8 a9 c0 c1 c2 c3 c4 c5 c6 c7 f g i j l m n o p q r s t u x y z A C D E F G I J L M N O P Q S T U W w h => h, fun k1 => ⟨trivial, ⟨⟨trivial, trivial⟩, ⟨⟨trivial, ⟨trivial, ⟨⟨rfl, ⟨⟨trivial, trivial⟩, trivial⟩⟩, ⟨trivial, rfl⟩⟩⟩⟩, trivial⟩⟩⟩⟩⟩, ⟨trivial, ⟨rfl, ⟨rfl, trivial⟩⟩⟩⟩⟩⟩⟩⟩⟩⟩⟩⟩⟩⟩
theorem V54.cfgOk (B : Nat) : CfgOk (V54.cfg B) := cfgOk_of (by kernel_rfl) (by kernel_rfl)
theorem V54.sound {a : Addr} {d : Option Addr} {f g : Nat} {i : Int} {w : World} {R : Value → World → Prop} (h : V54.vc w.heap.size R a d f g i w) : Calls Try.prog 54 ⟨[.pointer (some a), .agg ⟨[.slice d f g]⟩, .int .i64 i]⟩ w fun e w' => ∃ v, e = .returned v ∧ R v w' :=
  calls_wpfP (c := V54.cfg w.heap.size) (fn := Try.f54) (x := V54.code) (V54.cuts w.heap.size R) V54.h (V54.cfgOk _) mixed Try.func54 (by kernel_rfl) (by kernel_rfl) (by kernel_rfl) rfl (V54.obl _ _) ((V54.vc_eq _ _ a d f g i _).symm ▸ h)
def V55.l1 (B : Nat) (R : Value → World → Prop) (a : Option Addr → Nat → Nat → Int → Int → Nat → Int → Int → Int → Bool → Int → Option Addr → Nat → Nat → Option Addr → Nat → Nat → Option Addr → Nat → Nat → Nat → Int → Int → Int → Option Addr → Nat → Nat → Nat → Int → Int → Int → Int → Bool → Int → Int → Int → Nat → Int → Int → Int → Bool → Int → Option Addr → Nat → Nat → Option Addr → Nat → Nat → Option Addr → Nat → Nat → Nat → Option Addr → Nat → Nat → World → Prop) : Nat → Option Addr → Nat → Nat → Int → Int → Int → Nat → Int → Option Addr → Nat → Nat → Nat → Int → Int → Int → Bool → Int → Option Addr → Nat → Nat → Option Addr → Nat → Nat → Option Addr → Nat → Nat → Nat → Int → Int → Int → Option Addr → Nat → Nat → Nat → Int → Int → Int → Int → Bool → Int → Int → Int → Nat → Int → Int → Int → Bool → Int → Option Addr → Nat → Nat → Option Addr → Nat → Nat → Option Addr → Nat → Nat → Nat → Option Addr → Nat → Nat → World → Prop
  | 0 => fun _ _ _ _ _ _ _ _ _ _ _ _ _ _ _ _ _ _ _ _ _ _ _ _ _ _ _ _ _ _ _ _ _ _ _ _ _ _ _ _ _ _ _ _ _ _ _ _ _ _ _ _ _ _ _ _ _ _ _ _ _ _ => False
  | k + 1 => fun c d f g i j l m n o p q r s t u x y z A C D E F G I J L M N O P Q S T U W X Y Z a0 a1 q6 x6 a4 a5 b6 a7 A6 a9 c0 c1 c2 c3 c4 c5 c6 q4 p4 c9 d0 w =>
    ∃ d1 : Addr, p4 = some d1 ∧ (0 : Int) ≤ m ∧ m < (c9 : Int) ∧
  ∃ d2 : Int, w.cell? ((d1.add (m.toNat * 4)).add 0) = some (.int .i64 d2) ∧
  if (decide (j < d2)) = true
    then (∃ d3 : Addr, c = some d3 ∧ (0 : Int) ≤ IntKind.wrap .i64 (IntKind.wrap .i64 (IntKind.wrap .i64 (g + IntKind.wrap .i64 (i * 4)) + 1) + j) ∧ IntKind.wrap .i64 (IntKind.wrap .i64 (IntKind.wrap .i64 (g + IntKind.wrap .i64 (i * 4)) + 1) + j) < (d : Int) ∧
    ∃ d4 : Int, w.cell? (d3.add ((IntKind.wrap .i64 (IntKind.wrap .i64 (IntKind.wrap .i64 (g + IntKind.wrap .i64 (i * 4)) + 1) + j)).toNat)) = some (.int .u64 d4) ∧
    Expo B w [l, q, J, S, q6, q4] fun d5 => 
     Hide [l, q, J, S, q6, q4] (d5.alloc (.cells ⟨[.int .u64 d4]⟩ 51)) fun d6 => 
     RunK Try.prog (Builtin.append_ #[50, 50] 50 ⟨[.slice n o p, .slice (some ⟨d5.heap.size, 0, none⟩) 1 1]⟩) B d6 [l, q, J, S, q6, q4] fun v d7 => 
     ∃ (d8 : Option Addr) (d9 f0 : Nat), v = .slice d8 d9 f0 ∧ (V55.l1 B R a k) c d f g i (IntKind.wrap .i64 (j + 1)) l m d8 d9 f0 q r s t u x y z A C D E F G I J L M N O P Q S T U W X Y Z a0 a1 q6 x6 a4 a5 b6 a7 A6 a9 c0 c1 c2 c3 c4 c5 c6 q4 p4 c9 d0 d7)
    else (Expo B w [l, q, J, S, q6, q4] fun d5 => 
     Hide [l, q, J, S, q6, q4] (d5.alloc (.cells ⟨[.int .i64 m, .slice n o p]⟩ 75)) fun d6 => 
     RunK Try.prog (Builtin.append_ #[65, 65] 65 ⟨[.slice y z A, .slice (some ⟨d5.heap.size, 0, none⟩) 1 1]⟩) B d6 [l, q, J, S, q6, q4] fun v d7 => 
     ∃ (f1 : Option Addr) (f2 f3 : Nat), v = .slice f1 f2 f3 ∧ a c d f g (IntKind.wrap .i64 (i + 1)) q r s t u x f1 f2 f3 C D E F G I J L M N O P Q S T U W X Y Z a0 a1 q6 x6 a4 a5 b6 a7 A6 a9 c0 c1 c2 c3 c4 c5 c6 q4 p4 c9 d0 d7)
def V55.l3 (B : Nat) (R : Value → World → Prop) : Nat → Option Addr → Nat → Nat → Int → Int → Nat → Int → Int → Int → Bool → Int → Option Addr → Nat → Nat → Option Addr → Nat → Nat → Option Addr → Nat → Nat → Nat → Int → Int → Int → Int → Bool → Int → Int → Int → Nat → Int → Int → Int → Bool → Int → Option Addr → Nat → Nat → Option Addr → Nat → Nat → Option Addr → Nat → Nat → World → Prop
  | 0 => fun _ _ _ _ _ _ _ _ _ _ _ _ _ _ _ _ _ _ _ _ _ _ _ _ _ _ _ _ _ _ _ _ _ _ _ _ _ _ _ _ _ _ _ _ _ => False
  | k + 1 => fun a c d f g i j l m n o p q r s t u x y z A C D E F G I J L M N O P Q S T U W X Y Z a0 a1 a2 w =>
    if (decide (g < L)) = true
    then (∃ a3 : Addr, a = some a3 ∧ (0 : Int) ≤ IntKind.wrap .i64 (f + g) ∧ IntKind.wrap .i64 (f + g) < (c : Int) ∧
    ∃ a4 : Int, w.cell? (a3.add ((IntKind.wrap .i64 (f + g)).toNat)) = some (.int .u64 a4) ∧
    Expo B w [i, A, M] fun a5 => 
     Hide [i, A, M] (a5.alloc (.cells ⟨[.int .u64 a4]⟩ 51)) fun a6 => 
     RunK Try.prog (Builtin.append_ #[50, 50] 50 ⟨[.slice x y z, .slice (some ⟨a5.heap.size, 0, none⟩) 1 1]⟩) B a6 [i, A, M] fun v a7 => 
     ∃ (a8 : Option Addr) (a9 c0 : Nat), v = .slice a8 a9 c0 ∧ (V55.l3 B R k) a c d f (IntKind.wrap .i64 (g + 1)) i j l m n o p q r s t u a8 a9 c0 A C D E F G I J L M N O P Q S T U W X Y Z a0 a1 a2 a7)
    else (Ret B w (R (.tuple ⟨[.agg ⟨[.int .i64 j, .int .i64 l, .int .i64 m, .bool n, .int .u64 o, .slice p q r, .slice s t u, .slice x y z]⟩, .int .i64 C, .int .i64 0]⟩)))
def V55.l2 (B : Nat) (R : Value → World → Prop) : Nat → Option Addr → Nat → Nat → Int → Int → Nat → Int → Int → Int → Bool → Int → Option Addr → Nat → Nat → Option Addr → Nat → Nat → Option Addr → Nat → Nat → Nat → Int → Int → Int → Option Addr → Nat → Nat → Nat → Int → Int → Int → Int → Bool → Int → Int → Int → Nat → Int → Int → Int → Bool → Int → Option Addr → Nat → Nat → Option Addr → Nat → Nat → Option Addr → Nat → Nat → World → Prop
  | 0 => fun _ _ _ _ _ _ _ _ _ _ _ _ _ _ _ _ _ _ _ _ _ _ _ _ _ _ _ _ _ _ _ _ _ _ _ _ _ _ _ _ _ _ _ _ _ _ _ _ _ _ _ _ => False
  | k + 1 => fun a c d f g i j l m n o p q r s t u x y z A C D E F G I J L M N O P Q S T U W X Y Z a0 A6 a2 a3 a4 a5 a6 a7 a8 a9 w =>
    if (decide (g < D)) = true
    then (∃ c0 : Addr, a = some c0 ∧ (0 : Int) ≤ IntKind.wrap .i64 (f + g) ∧ IntKind.wrap .i64 (f + g) < (c : Int) ∧
    ∃ c1 : Int, w.cell? (c0.add ((IntKind.wrap .i64 (f + g)).toNat)) = some (.int .u64 c1) ∧
    Expo B w [i, A, J, U] fun c2 => 
     Hide [i, A, J, U] (c2.alloc (.cells ⟨[.int .u64 c1]⟩ 51)) fun c3 => 
     RunK Try.prog (Builtin.append_ #[50, 50] 50 ⟨[.slice s t u, .slice (some ⟨c2.heap.size, 0, none⟩) 1 1]⟩) B c3 [i, A, J, U] fun v c4 => 
     ∃ (c5 : Option Addr) (c6 c7 : Nat), v = .slice c5 c6 c7 ∧ (V55.l2 B R k) a c d f (IntKind.wrap .i64 (g + 1)) i j l m n o p q r c5 c6 c7 x y z A C D E F G I J L M N O P Q S T U W X Y Z a0 A6 a2 a3 a4 a5 a6 a7 a8 a9 c4)
    else (∃ c8, V55.l3 B R c8 a c d (IntKind.wrap .i64 (f + D)) 0 i j l m n o p q r s t u x y z J L M N O P Q S T U W X Y Z a0 A6 a2 a3 a4 a5 a6 a7 a8 a9 w)
def V55.l0 (B : Nat) (R : Value → World → Prop) : Nat → Option Addr → Nat → Nat → Int → Int → Nat → Int → Int → Int → Bool → Int → Option Addr → Nat → Nat → Option Addr → Nat → Nat → Option Addr → Nat → Nat → Nat → Int → Int → Int → Option Addr → Nat → Nat → Nat → Int → Int → Int → Int → Bool → Int → Int → Int → Nat → Int → Int → Int → Bool → Int → Option Addr → Nat → Nat → Option Addr → Nat → Nat → Option Addr → Nat → Nat → Nat → Option Addr → Nat → Nat → World → Prop
  | 0 => fun _ _ _ _ _ _ _ _ _ _ _ _ _ _ _ _ _ _ _ _ _ _ _ _ _ _ _ _ _ _ _ _ _ _ _ _ _ _ _ _ _ _ _ _ _ _ _ _ _ _ _ _ _ _ _ _ => False
  | k + 1 => fun a c d f g i j l m n o p q r s t u x y z A C D E F G I J L M N O P Q S T U W X Y Z a0 A6 a2 a3 a4 a5 a6 a7 a8 a9 q4 p4 c2 c3 w =>
    if (decide (g < S)) = true
    then (∃ c4 : Addr, a = some c4 ∧ (0 : Int) ≤ IntKind.wrap .i64 (f + IntKind.wrap .i64 (g * 4)) ∧ IntKind.wrap .i64 (f + IntKind.wrap .i64 (g * 4)) < (c : Int) ∧
    ∃ c5 : Int, w.cell? (c4.add ((IntKind.wrap .i64 (f + IntKind.wrap .i64 (g * 4))).toNat)) = some (.int .u64 c5) ∧
    if (decide (c5 ≥ IntKind.wrap .u64 (c2 : Int))) = true
     then (Ret B w (R (.tuple ⟨[.agg ⟨[.int .i64 0, .int .i64 0, .int .i64 0, .bool false, .int .u64 0, .slice none 0 0, .slice none 0 0, .slice none 0 0]⟩, .int .i64 0, .int .i64 6]⟩)))
     else (∀ c6 : Nat, w.heap.size ≤ c6 →
     ∃ c7, V55.l1 B R (V55.l0 B R k) c7 a c d f g 0 c6 (IntKind.wrap .i64 c5) none 0 0 i j l m n o p q r s t u x y z A C D E F G I J L M N O P Q S T U W X Y Z a0 A6 a2 a3 a4 a5 a6 a7 a8 a9 q4 p4 c2 c3 w))
    else (CallK Try.prog 101 [.agg ⟨[.int .i64 C, .int .i64 D, .int .i64 E, .slice F G I]⟩] B w [i, A, J, U, q4] fun v c8 => 
     ∃ c9 : Int, v = .int .i64 c9 ∧
     ∃ c7, V55.l2 B R c7 a c d (IntKind.wrap .i64 (f + IntKind.wrap .i64 (c9 * 4))) 0 i j l m n o p q r s t u x y z A C D E F G I J L M N O P Q S T U W X Y Z a0 A6 a2 a3 a4 a5 a6 a7 a8 a9 c8)
def V55.vc (B : Nat) (R : Value → World → Prop) (a : Option Addr) (c d : Nat) (f : Option Addr) (g i : Nat) (j : Int) (w : World) : Prop :=
  ∀ l : Nat, w.heap.size ≤ l →
  ∀ m : Nat, w.heap.size ≤ m →
  CallK Try.prog 43 [.slice a c d, .int .i64 j] B w [m, l] fun v n => 
  ∃ (o p q r : Int) (s : Bool) (t u x y : Int), v = .tuple ⟨[.agg ⟨[.int .i64 o, .int .i64 p, .int .i64 q, .int .i64 r, .bool s, .int .u64 t, .int .i64 u, .int .i64 x]⟩, .int .i64 y]⟩ ∧
  ∀ z : Nat, n.heap.size ≤ z →
  if (y != 0) = true
  then (Ret B n (R (.tuple ⟨[.agg ⟨[.int .i64 0, .int .i64 0, .int .i64 0, .bool false, .int .u64 0, .slice none 0 0, .slice none 0 0, .slice none 0 0]⟩, .int .i64 0, .int .i64 y]⟩)))
  else (if (decide (p ≥ (g : Int))) = true
   then (Ret B n (R (.tuple ⟨[.agg ⟨[.int .i64 0, .int .i64 0, .int .i64 0, .bool false, .int .u64 0, .slice none 0 0, .slice none 0 0, .slice none 0 0]⟩, .int .i64 0, .int .i64 6]⟩)))
   else (∃ A : Addr, f = some A ∧ (0 : Int) ≤ p ∧ p < (g : Int) ∧
   ∃ C : Int, n.cell? ((A.add (p.toNat * 4)).add 0) = some (.int .i64 C) ∧
   ∃ D : Int, n.cell? ((A.add (p.toNat * 4)).add 1) = some (.int .i64 D) ∧
   ∃ E : Int, n.cell? ((A.add (p.toNat * 4)).add 2) = some (.int .i64 E) ∧
   ∃ (F : Option Addr) (G I : Nat), n.cell? ((A.add (p.toNat * 4)).add 3) = some (.slice F G I) ∧
   ∀ J : Nat, n.heap.size ≤ J →
   if (decide (q > (G : Int))) = false
    then (CallK Try.prog 101 [.agg ⟨[.int .i64 C, .int .i64 D, .int .i64 E, .slice F G I]⟩] B n [J, z, m, l] fun L M => 
     ∃ N : Int, L = .int .i64 N ∧
     if (decide (u > N)) = false
     then (if (decide (x > 8)) = true
      then (Ret B M (R (.tuple ⟨[.agg ⟨[.int .i64 0, .int .i64 0, .int .i64 0, .bool false, .int .u64 0, .slice none 0 0, .slice none 0 0, .slice none 0 0]⟩, .int .i64 0, .int .i64 6]⟩)))
      else (CallK Try.prog 33 [.agg ⟨[.int .i64 C, .int .i64 D, .int .i64 E, .slice F G I]⟩] B M [J, z, m, l] fun O P => 
       ∃ Q : Int, O = .int .i64 Q ∧
       CallK Try.prog 95 [.slice a c d, .int .i64 j, .int .i64 Q] B P [J, z, m, l] fun S T => 
       ∃ U : Bool, S = .bool U ∧
       if (!U) = true
       then (Ret B T (R (.tuple ⟨[.agg ⟨[.int .i64 0, .int .i64 0, .int .i64 0, .bool false, .int .u64 0, .slice none 0 0, .slice none 0 0, .slice none 0 0]⟩, .int .i64 0, .int .i64 1]⟩)))
       else (∀ W : Nat, T.heap.size ≤ W →
       ∃ X, V55.l0 B R X a c d (IntKind.wrap .i64 (j + 7)) 0 W p q r s t none 0 0 none 0 0 none 0 0 J C D E F G I z o p q r s t u x m 0 0 0 false 0 none 0 0 none 0 0 none 0 0 l f g i T)))
     else (Ret B M (R (.tuple ⟨[.agg ⟨[.int .i64 0, .int .i64 0, .int .i64 0, .bool false, .int .u64 0, .slice none 0 0, .slice none 0 0, .slice none 0 0]⟩, .int .i64 0, .int .i64 6]⟩))))
    else (Ret B n (R (.tuple ⟨[.agg ⟨[.int .i64 0, .int .i64 0, .int .i64 0, .bool false, .int .u64 0, .slice none 0 0, .slice none 0 0, .slice none 0 0]⟩, .int .i64 0, .int .i64 6]⟩)))))
noncomputable def V55.cfg (B : Nat) : Cfg := ⟨Try.prog, ⟨183, B⟩, [], hasN [33, 43, 95, 101], hasN []⟩
noncomputable def V55.code : Code := (Try.f55.body).getD .skip
noncomputable def V55.cuts (B : Nat) (R : Value → World → Prop) : Nat → Cut := nthC [⟨[(0, .one (.slice)), (13, .one (.int .i64)), (14, .one (.int .i64))], [(12, 67, [.int .i64, .int .i64, .int .i64, .bool, .int .u64, .slice, .slice, .slice]), (11, 29, [.int .i64, .int .i64, .int .i64, .slice]), (9, 53, [.int .i64, .int .i64, .int .i64, .int .i64, .bool, .int .u64, .int .i64, .int .i64]), (6, 67, [.int .i64, .int .i64, .int .i64, .bool, .int .u64, .slice, .slice, .slice]), (4, 24, [.slice])], fun fs vs bs w => V55.l0 B R (nthN fs 0) (slA (nthV vs 0)) (slL (nthV vs 0)) (slC (nthV vs 0)) (iV (nthV vs 1)) (iV (nthV vs 2)) (nthB bs 0).blk (iV (nthV (nthB bs 0).cells 0)) (iV (nthV (nthB bs 0).cells 1)) (iV (nthV (nthB bs 0).cells 2)) (bV (nthV (nthB bs 0).cells 3)) (iV (nthV (nthB bs 0).cells 4)) (slA (nthV (nthB bs 0).cells 5)) (slL (nthV (nthB bs 0).cells 5)) (slC (nthV (nthB bs 0).cells 5)) (slA (nthV (nthB bs 0).cells 6)) (slL (nthV (nthB bs 0).cells 6)) (slC (nthV (nthB bs 0).cells 6)) (slA (nthV (nthB bs 0).cells 7)) (slL (nthV (nthB bs 0).cells 7)) (slC (nthV (nthB bs 0).cells 7)) (nthB bs 1).blk (iV (nthV (nthB bs 1).cells 0)) (iV (nthV (nthB bs 1).cells 1)) (iV (nthV (nthB bs 1).cells 2)) (slA (nthV (nthB bs 1).cells 3)) (slL (nthV (nthB bs 1).cells 3)) (slC (nthV (nthB bs 1).cells 3)) (nthB bs 2).blk (iV (nthV (nthB bs 2).cells 0)) (iV (nthV (nthB bs 2).cells 1)) (iV (nthV (nthB bs 2).cells 2)) (iV (nthV (nthB bs 2).cells 3)) (bV (nthV (nthB bs 2).cells 4)) (iV (nthV (nthB bs 2).cells 5)) (iV (nthV (nthB bs 2).cells 6)) (iV (nthV (nthB bs 2).cells 7)) (nthB bs 3).blk (iV (nthV (nthB bs 3).cells 0)) (iV (nthV (nthB bs 3).cells 1)) (iV (nthV (nthB bs 3).cells 2)) (bV (nthV (nthB bs 3).cells 3)) (iV (nthV (nthB bs 3).cells 4)) (slA (nthV (nthB bs 3).cells 5)) (slL (nthV (nthB bs 3).cells 5)) (slC (nthV (nthB bs 3).cells 5)) (slA (nthV (nthB bs 3).cells 6)) (slL (nthV (nthB bs 3).cells 6)) (slC (nthV (nthB bs 3).cells 6)) (slA (nthV (nthB bs 3).cells 7)) (slL (nthV (nthB bs 3).cells 7)) (slC (nthV (nthB bs 3).cells 7)) (nthB bs 4).blk (slA (nthV (nthB bs 4).cells 0)) (slL (nthV (nthB bs 4).cells 0)) (slC (nthV (nthB bs 4).cells 0)) w⟩,
  ⟨[(0, .one (.slice)), (13, .one (.int .i64)), (14, .one (.int .i64)), (17, .one (.int .i64))], [(16, 75, [.int .i64, .slice]), (12, 67, [.int .i64, .int .i64, .int .i64, .bool, .int .u64, .slice, .slice, .slice]), (11, 29, [.int .i64, .int .i64, .int .i64, .slice]), (9, 53, [.int .i64, .int .i64, .int .i64, .int .i64, .bool, .int .u64, .int .i64, .int .i64]), (6, 67, [.int .i64, .int .i64, .int .i64, .bool, .int .u64, .slice, .slice, .slice]), (4, 24, [.slice])], fun fs vs bs w => V55.l1 B R (V55.l0 B R (nthN fs 1)) (nthN fs 0) (slA (nthV vs 0)) (slL (nthV vs 0)) (slC (nthV vs 0)) (iV (nthV vs 1)) (iV (nthV vs 2)) (iV (nthV vs 3)) (nthB bs 0).blk (iV (nthV (nthB bs 0).cells 0)) (slA (nthV (nthB bs 0).cells 1)) (slL (nthV (nthB bs 0).cells 1)) (slC (nthV (nthB bs 0).cells 1)) (nthB bs 1).blk (iV (nthV (nthB bs 1).cells 0)) (iV (nthV (nthB bs 1).cells 1)) (iV (nthV (nthB bs 1).cells 2)) (bV (nthV (nthB bs 1).cells 3)) (iV (nthV (nthB bs 1).cells 4)) (slA (nthV (nthB bs 1).cells 5)) (slL (nthV (nthB bs 1).cells 5)) (slC (nthV (nthB bs 1).cells 5)) (slA (nthV (nthB bs 1).cells 6)) (slL (nthV (nthB bs 1).cells 6)) (slC (nthV (nthB bs 1).cells 6)) (slA (nthV (nthB bs 1).cells 7)) (slL (nthV (nthB bs 1).cells 7)) (slC (nthV (nthB bs 1).cells 7)) (nthB bs 2).blk (iV (nthV (nthB bs 2).cells 0)) (iV (nthV (nthB bs 2).cells 1)) (iV (nthV (nthB bs 2).cells 2)) (slA (nthV (nthB bs 2).cells 3)) (slL (nthV (nthB bs 2).cells 3)) (slC (nthV (nthB bs 2).cells 3)) (nthB bs 3).blk (iV (nthV (nthB bs 3).cells 0)) (iV (nthV (nthB bs 3).cells 1)) (iV (nthV (nthB bs 3).cells 2)) (iV (nthV (nthB bs 3).cells 3)) (bV (nthV (nthB bs 3).cells 4)) (iV (nthV (nthB bs 3).cells 5)) (iV (nthV (nthB bs 3).cells 6)) (iV (nthV (nthB bs 3).cells 7)) (nthB bs 4).blk (iV (nthV (nthB bs 4).cells 0)) (iV (nthV (nthB bs 4).cells 1)) (iV (nthV (nthB bs 4).cells 2)) (bV (nthV (nthB bs 4).cells 3)) (iV (nthV (nthB bs 4).cells 4)) (slA (nthV (nthB bs 4).cells 5)) (slL (nthV (nthB bs 4).cells 5)) (slC (nthV (nthB bs 4).cells 5)) (slA (nthV (nthB bs 4).cells 6)) (slL (nthV (nthB bs 4).cells 6)) (slC (nthV (nthB bs 4).cells 6)) (slA (nthV (nthB bs 4).cells 7)) (slL (nthV (nthB bs 4).cells 7)) (slC (nthV (nthB bs 4).cells 7)) (nthB bs 5).blk (slA (nthV (nthB bs 5).cells 0)) (slL (nthV (nthB bs 5).cells 0)) (slC (nthV (nthB bs 5).cells 0)) w⟩,
  ⟨[(0, .one (.slice)), (13, .one (.int .i64)), (18, .one (.int .i64))], [(12, 67, [.int .i64, .int .i64, .int .i64, .bool, .int .u64, .slice, .slice, .slice]), (11, 29, [.int .i64, .int .i64, .int .i64, .slice]), (9, 53, [.int .i64, .int .i64, .int .i64, .int .i64, .bool, .int .u64, .int .i64, .int .i64]), (6, 67, [.int .i64, .int .i64, .int .i64, .bool, .int .u64, .slice, .slice, .slice])], fun fs vs bs w => V55.l2 B R (nthN fs 0) (slA (nthV vs 0)) (slL (nthV vs 0)) (slC (nthV vs 0)) (iV (nthV vs 1)) (iV (nthV vs 2)) (nthB bs 0).blk (iV (nthV (nthB bs 0).cells 0)) (iV (nthV (nthB bs 0).cells 1)) (iV (nthV (nthB bs 0).cells 2)) (bV (nthV (nthB bs 0).cells 3)) (iV (nthV (nthB bs 0).cells 4)) (slA (nthV (nthB bs 0).cells 5)) (slL (nthV (nthB bs 0).cells 5)) (slC (nthV (nthB bs 0).cells 5)) (slA (nthV (nthB bs 0).cells 6)) (slL (nthV (nthB bs 0).cells 6)) (slC (nthV (nthB bs 0).cells 6)) (slA (nthV (nthB bs 0).cells 7)) (slL (nthV (nthB bs 0).cells 7)) (slC (nthV (nthB bs 0).cells 7)) (nthB bs 1).blk (iV (nthV (nthB bs 1).cells 0)) (iV (nthV (nthB bs 1).cells 1)) (iV (nthV (nthB bs 1).cells 2)) (slA (nthV (nthB bs 1).cells 3)) (slL (nthV (nthB bs 1).cells 3)) (slC (nthV (nthB bs 1).cells 3)) (nthB bs 2).blk (iV (nthV (nthB bs 2).cells 0)) (iV (nthV (nthB bs 2).cells 1)) (iV (nthV (nthB bs 2).cells 2)) (iV (nthV (nthB bs 2).cells 3)) (bV (nthV (nthB bs 2).cells 4)) (iV (nthV (nthB bs 2).cells 5)) (iV (nthV (nthB bs 2).cells 6)) (iV (nthV (nthB bs 2).cells 7)) (nthB bs 3).blk (iV (nthV (nthB bs 3).cells 0)) (iV (nthV (nthB bs 3).cells 1)) (iV (nthV (nthB bs 3).cells 2)) (bV (nthV (nthB bs 3).cells 3)) (iV (nthV (nthB bs 3).cells 4)) (slA (nthV (nthB bs 3).cells 5)) (slL (nthV (nthB bs 3).cells 5)) (slC (nthV (nthB bs 3).cells 5)) (slA (nthV (nthB bs 3).cells 6)) (slL (nthV (nthB bs 3).cells 6)) (slC (nthV (nthB bs 3).cells 6)) (slA (nthV (nthB bs 3).cells 7)) (slL (nthV (nthB bs 3).cells 7)) (slC (nthV (nthB bs 3).cells 7)) w⟩,
  ⟨[(0, .one (.slice)), (13, .one (.int .i64)), (19, .one (.int .i64))], [(12, 67, [.int .i64, .int .i64, .int .i64, .bool, .int .u64, .slice, .slice, .slice]), (9, 53, [.int .i64, .int .i64, .int .i64, .int .i64, .bool, .int .u64, .int .i64, .int .i64]), (6, 67, [.int .i64, .int .i64, .int .i64, .bool, .int .u64, .slice, .slice, .slice])], fun fs vs bs w => V55.l3 B R (nthN fs 0) (slA (nthV vs 0)) (slL (nthV vs 0)) (slC (nthV vs 0)) (iV (nthV vs 1)) (iV (nthV vs 2)) (nthB bs 0).blk (iV (nthV (nthB bs 0).cells 0)) (iV (nthV (nthB bs 0).cells 1)) (iV (nthV (nthB bs 0).cells 2)) (bV (nthV (nthB bs 0).cells 3)) (iV (nthV (nthB bs 0).cells 4)) (slA (nthV (nthB bs 0).cells 5)) (slL (nthV (nthB bs 0).cells 5)) (slC (nthV (nthB bs 0).cells 5)) (slA (nthV (nthB bs 0).cells 6)) (slL (nthV (nthB bs 0).cells 6)) (slC (nthV (nthB bs 0).cells 6)) (slA (nthV (nthB bs 0).cells 7)) (slL (nthV (nthB bs 0).cells 7)) (slC (nthV (nthB bs 0).cells 7)) (nthB bs 1).blk (iV (nthV (nthB bs 1).cells 0)) (iV (nthV (nthB bs 1).cells 1)) (iV (nthV (nthB bs 1).cells 2)) (iV (nthV (nthB bs 1).cells 3)) (bV (nthV (nthB bs 1).cells 4)) (iV (nthV (nthB bs 1).cells 5)) (iV (nthV (nthB bs 1).cells 6)) (iV (nthV (nthB bs 1).cells 7)) (nthB bs 2).blk (iV (nthV (nthB bs 2).cells 0)) (iV (nthV (nthB bs 2).cells 1)) (iV (nthV (nthB bs 2).cells 2)) (bV (nthV (nthB bs 2).cells 3)) (iV (nthV (nthB bs 2).cells 4)) (slA (nthV (nthB bs 2).cells 5)) (slL (nthV (nthB bs 2).cells 5)) (slC (nthV (nthB bs 2).cells 5)) (slA (nthV (nthB bs 2).cells 6)) (slL (nthV (nthB bs 2).cells 6)) (slC (nthV (nthB bs 2).cells 6)) (slA (nthV (nthB bs 2).cells 7)) (slL (nthV (nthB bs 2).cells 7)) (slC (nthV (nthB bs 2).cells 7)) w⟩]
noncomputable def V55.h : H := .s (.z) (.s (.z) (.s (.s (.z) (.c (.s (.z) (.z)) (.z))) (.s (.s (.z) (.c (.s (.z) (.z)) (.z))) (.s (.z) (.s (.s (.r [[0, 1, 2, 3, 4, 5, 6, 7, 8, 9, 10, 11, 12, 13, 14, 15, 16, 17]]) (.c (.s (.z) (.z)) (.z))) (.s (.s (.z) (.c (.s (.z) (.z)) (.z))) (.s (.z) (.s (.z) (.s (.s (.z) (.b (.l 0 (.s (.s (.z) (.c (.z) (.z))) (.s (.b (.s (.z) (.s (.s (.z) (.c (.s (.z) (.z)) (.z))) (.s (.z) (.s (.s (.z) (.b (.l 1 (.s (.s (.z) (.c (.z) (.z))) (.s (.b (.r [[0, 1, 2, 3, 4, 5, 6, 7, 8, 9, 10, 11, 12, 13, 14, 15]])) (.z)))))) (.z)))))) (.z)))))) (.s (.z) (.s (.s (.z) (.b (.l 2 (.s (.s (.z) (.c (.z) (.z))) (.s (.b (.r [[0, 1, 2, 3, 4, 5, 6, 7, 8, 9, 10, 11]])) (.z)))))) (.s (.z) (.s (.s (.z) (.b (.l 3 (.s (.s (.z) (.c (.z) (.z))) (.s (.b (.r [[0, 1, 2, 3, 4, 5, 6, 7, 8, 9, 10, 11]])) (.z)))))) (.s (.r [[0, 1, 2, 3, 4, 5]]) (.z)))))))))))))))
theorem V55.vc_eq (B : Nat) (R : Value → World → Prop) (a : Option Addr) (c d : Nat) (f : Option Addr) (g i : Nat) (j : Int) (w : World) : wpf (V55.cfg B) (V55.cuts B R) V55.code V55.h [] (postOf Try.prog B (Try.f55.results.toList) R) (argE 0 [.slice a c d, .agg ⟨[.slice f g i]⟩, .int .i64 j]) [] w = V55.vc B R a c d f g i j w := by kernel_rfl
theorem V55.obl (B : Nat) (R : Value → World → Prop) : oblP (V55.cfg B) (V55.cuts B R) V55.code V55.h [] (postOf Try.prog B (Try.f55.results.toList) R) := by
  have e : oblP (V55.cfg B) (V55.cuts B R) V55.code V55.h [] (postOf Try.prog B (Try.f55.results.toList) R) = (True ∧ (True ∧ ((True ∧ ((True ∧ True) ∧ True)) ∧ ((True ∧ ((True ∧ True) ∧ True)) ∧ (True ∧ (((true = true) ∧ ((True ∧ True) ∧ True)) ∧ ((True ∧ ((True ∧ True) ∧ True)) ∧ (True ∧ (True ∧ ((True ∧ ((∀ (a : Option Addr) (c d : Nat) (f g : Int) (i : Nat) (j l m : Int) (n : Bool) (o : Int) (p : Option Addr) (q r : Nat) (s : Option Addr) (t u : Nat) (x : Option Addr) (y z A : Nat) (C D E : Int) (F : Option Addr) (G I J : Nat) (L M N O : Int) (P : Bool) (Q S T : Int) (U : Nat) (W X Y : Int) (Z : Bool) (a0 : Int) (A6 : Option Addr) (a2 a3 : Nat) (a4 : Option Addr) (a5 a6 : Nat) (a7 : Option Addr) (a8 a9 q4 : Nat) (p4 : Option Addr) (c2 c3 : Nat) (w : World), ¬ V55.l0 B R 0 a c d f g i j l m n o p q r s t u x y z A C D E F G I J L M N O P Q S T U W X Y Z a0 A6 a2 a3 a4 a5 a6 a7 a8 a9 q4 p4 c2 c3 w) ∧ (∀ k0, ∀ (a : Option Addr) (c d : Nat) (f g : Int) (i : Nat) (j l m : Int) (n : Bool) (o : Int) (p : Option Addr) (q r : Nat) (s : Option Addr) (t u : Nat) (x : Option Addr) (y z A : Nat) (C D E : Int) (F : Option Addr) (G I J : Nat) (L M N O : Int) (P : Bool) (Q S T : Int) (U : Nat) (W X Y : Int) (Z : Bool) (a0 : Int) (A6 : Option Addr) (a2 a3 : Nat) (a4 : Option Addr) (a5 a6 : Nat) (a7 : Option Addr) (a8 a9 q4 : Nat) (p4 : Option Addr) (c2 c3 : Nat) (w : World), V55.l0 B R (k0 + 1) a c d f g i j l m n o p q r s t u x y z A C D E F G I J L M N O P Q S T U W X Y Z a0 A6 a2 a3 a4 a5 a6 a7 a8 a9 q4 p4 c2 c3 w → V55.l0 B R (k0 + 1) a c d f g i j l m n o p q r s t u x y z A C D E F G I J L M N O P Q S T U W X Y Z a0 A6 a2 a3 a4 a5 a6 a7 a8 a9 q4 p4 c2 c3 w) ∧ ∀ k0 : Nat, ((True ∧ (True ∧ True)) ∧ ((True ∧ ((True ∧ ((True ∧ True) ∧ True)) ∧ (True ∧ ((True ∧ ((∀ (a : Option Addr) (c d : Nat) (f g c5 : Int) (c6 : Nat) (c7 : Int) (c8 : Option Addr) (c9 d0 i : Nat) (j l m : Int) (n : Bool) (o : Int) (p : Option Addr) (q r : Nat) (s : Option Addr) (t u : Nat) (x : Option Addr) (y z A : Nat) (C D E : Int) (F : Option Addr) (G I J : Nat) (L M N O : Int) (P : Bool) (Q S T : Int) (U : Nat) (W X Y : Int) (Z : Bool) (a0 : Int) (A6 : Option Addr) (a2 a3 : Nat) (a4 : Option Addr) (a5 a6 : Nat) (a7 : Option Addr) (a8 a9 q4 : Nat) (p4 : Option Addr) (c2 c3 : Nat) (w : World), ¬ V55.l1 B R (V55.l0 B R k0) 0 a c d f g c5 c6 c7 c8 c9 d0 i j l m n o p q r s t u x y z A C D E F G I J L M N O P Q S T U W X Y Z a0 A6 a2 a3 a4 a5 a6 a7 a8 a9 q4 p4 c2 c3 w) ∧ (∀ k1, ∀ (a : Option Addr) (c d : Nat) (f g c5 : Int) (c6 : Nat) (c7 : Int) (c8 : Option Addr) (c9 d0 i : Nat) (j l m : Int) (n : Bool) (o : Int) (p : Option Addr) (q r : Nat) (s : Option Addr) (t u : Nat) (x : Option Addr) (y z A : Nat) (C D E : Int) (F : Option Addr) (G I J : Nat) (L M N O : Int) (P : Bool) (Q S T : Int) (U : Nat) (W X Y : Int) (Z : Bool) (a0 : Int) (A6 : Option Addr) (a2 a3 : Nat) (a4 : Option Addr) (a5 a6 : Nat) (a7 : Option Addr) (a8 a9 q4 : Nat) (p4 : Option Addr) (c2 c3 : Nat) (w : World), V55.l1 B R (V55.l0 B R k0) (k1 + 1) a c d f g c5 c6 c7 c8 c9 d0 i j l m n o p q r s t u x y z A C D E F G I J L M N O P Q S T U W X Y Z a0 A6 a2 a3 a4 a5 a6 a7 a8 a9 q4 p4 c2 c3 w → V55.l1 B R (V55.l0 B R k0) (k1 + 1) a c d f g c5 c6 c7 c8 c9 d0 i j l m n o p q r s t u x y z A C D E F G I J L M N O P Q S T U W X Y Z a0 A6 a2 a3 a4 a5 a6 a7 a8 a9 q4 p4 c2 c3 w) ∧ ∀ k1 : Nat, ((True ∧ (True ∧ True)) ∧ ((true = true) ∧ True)))) ∧ True)))) ∧ True)))) ∧ (True ∧ ((True ∧ ((∀ (a : Option Addr) (c d : Nat) (f d2 : Int) (i : Nat) (j l m : Int) (n : Bool) (o : Int) (p : Option Addr) (q r : Nat) (s : Option Addr) (t u : Nat) (x : Option Addr) (y z A : Nat) (C D E : Int) (F : Option Addr) (G I J : Nat) (L M N O : Int) (P : Bool) (Q S T : Int) (U : Nat) (W X Y : Int) (Z : Bool) (a0 : Int) (A6 : Option Addr) (a2 a3 : Nat) (a4 : Option Addr) (a5 a6 : Nat) (a7 : Option Addr) (a8 a9 : Nat) (w : World), ¬ V55.l2 B R 0 a c d f d2 i j l m n o p q r s t u x y z A C D E F G I J L M N O P Q S T U W X Y Z a0 A6 a2 a3 a4 a5 a6 a7 a8 a9 w) ∧ (∀ k2, ∀ (a : Option Addr) (c d : Nat) (f d2 : Int) (i : Nat) (j l m : Int) (n : Bool) (o : Int) (p : Option Addr) (q r : Nat) (s : Option Addr) (t u : Nat) (x : Option Addr) (y z A : Nat) (C D E : Int) (F : Option Addr) (G I J : Nat) (L M N O : Int) (P : Bool) (Q S T : Int) (U : Nat) (W X Y : Int) (Z : Bool) (a0 : Int) (A6 : Option Addr) (a2 a3 : Nat) (a4 : Option Addr) (a5 a6 : Nat) (a7 : Option Addr) (a8 a9 : Nat) (w : World), V55.l2 B R (k2 + 1) a c d f d2 i j l m n o p q r s t u x y z A C D E F G I J L M N O P Q S T U W X Y Z a0 A6 a2 a3 a4 a5 a6 a7 a8 a9 w → V55.l2 B R (k2 + 1) a c d f d2 i j l m n o p q r s t u x y z A C D E F G I J L M N O P Q S T U W X Y Z a0 A6 a2 a3 a4 a5 a6 a7 a8 a9 w) ∧ ∀ k2 : Nat, ((True ∧ (True ∧ True)) ∧ ((true = true) ∧ True)))) ∧ (True ∧ ((True ∧ ((∀ (a : Option Addr) (c d : Nat) (f d4 : Int) (i : Nat) (j l m : Int) (n : Bool) (o : Int) (p : Option Addr) (q r : Nat) (s : Option Addr) (t u : Nat) (x : Option Addr) (y z J : Nat) (L M N O : Int) (P : Bool) (Q S T : Int) (U : Nat) (W X Y : Int) (Z : Bool) (a0 : Int) (A6 : Option Addr) (a2 a3 : Nat) (a4 : Option Addr) (a5 a6 : Nat) (a7 : Option Addr) (a8 a9 : Nat) (w : World), ¬ V55.l3 B R 0 a c d f d4 i j l m n o p q r s t u x y z J L M N O P Q S T U W X Y Z a0 A6 a2 a3 a4 a5 a6 a7 a8 a9 w) ∧ (∀ k3, ∀ (a : Option Addr) (c d : Nat) (f d4 : Int) (i : Nat) (j l m : Int) (n : Bool) (o : Int) (p : Option Addr) (q r : Nat) (s : Option Addr) (t u : Nat) (x : Option Addr) (y z J : Nat) (L M N O : Int) (P : Bool) (Q S T : Int) (U : Nat) (W X Y : Int) (Z : Bool) (a0 : Int) (A6 : Option Addr) (a2 a3 : Nat) (a4 : Option Addr) (a5 a6 : Nat) (a7 : Option Addr) (a8 a9 : Nat) (w : World), V55.l3 B R (k3 + 1) a c d f d4 i j l m n o p q r s t u x y z J L M N O P Q S T U W X Y Z a0 A6 a2 a3 a4 a5 a6 a7 a8 a9 w → V55.l3 B R (k3 + 1) a c d f d4 i j l m n o p q r s t u x y z J L M N O P Q S T U W X Y Z a0 A6 a2 a3 a4 a5 a6 a7 a8 a9 w) ∧ ∀ k3 : Nat, ((True ∧ (True ∧ True)) ∧ ((true = true) ∧ True)))) ∧ ((true = true) ∧ True))))))))))))))) := by kernel_rfl
  rw [e]
  exact ⟨trivial, ⟨trivial, ⟨⟨trivial, ⟨⟨trivial, trivial⟩, trivial⟩⟩, ⟨⟨trivial, ⟨⟨trivial, trivial⟩, trivial⟩⟩, ⟨trivial, ⟨⟨rfl, ⟨⟨trivial, trivial⟩, trivial⟩⟩, ⟨⟨trivial, ⟨⟨trivial, trivial⟩, trivial⟩⟩, ⟨trivial, ⟨trivial, ⟨⟨trivial, ⟨fun a c d f g i j l m n o p q r s t u x y z A C D E F G I J L M N O P Q S T U W X Y Z a0 A6 a2 a3 a4 a5 a6 a7 a8 a9 q4 p4 c2 c3 w h => h, fun _ a c d f g i j l m n o p q r s t u x y z A C D E F G I J L M N O P Q S T U W X Y Z a0 A6 a2 a3 a4 a5 a6 a7 a8 a9 q4 p4 c2 c3 w h => h, fun k0 => ⟨⟨trivial, ⟨trivial, trivial⟩⟩, ⟨⟨trivial, ⟨⟨trivial, ⟨⟨trivial, trivial⟩, trivial⟩⟩, ⟨trivial, ⟨⟨trivial, ⟨fun a c d f g c5 c6 c7 c8 c9 d0 i j l m n o p q r s t u x y z A C D E F G I J L M N O P Q S T U W X Y Z a0 A6 a2 a3 a4 a5 a6 a7 a8 a9 q4 p4 c2 c3 w h => h, fun _ a c d f g c5 c6 c7 c8 c9 d0 i j l m n o p q r s t u x y z A C D E F G I J L M N O P Q S T U W X Y Z a0 A6 a2 a3 a4 a5 a6 a7 a8 a9 q4 p4 c2 c3 w h => h, fun k1 => ⟨⟨trivial, ⟨trivial, trivial⟩⟩, ⟨rfl, trivial⟩⟩⟩⟩, trivial⟩⟩⟩⟩, trivial⟩⟩⟩⟩, ⟨trivial, ⟨⟨trivial, ⟨fun a c d f d2 i j l m n o p q r s t u x y z A C D E F G I J L M N O P Q S T U W X Y Z a0 A6 a2 a3 a4 a5 a6 a7 a8 a9 w h => h, fun _ a c d f d2 i j l m n o p q r s t u x y z A C D E F G I J L M N O P Q S T U W X Y Z a0 A6 a2 a3 a4 a5 a6 a7 a8 a9 w h => h, fun k2 => ⟨⟨trivial, ⟨trivial, trivial⟩⟩, ⟨rfl, trivial⟩⟩⟩⟩, ⟨trivial, ⟨⟨trivial, ⟨fun a c d f d4 i j l m n o p q r s t u x y z J L M N O P Q S T U W X Y Z a0 A6 a2 a3 a4 a5 a6 a7 a8 a9 w h => h, fun _ a c d f d4 i j l m n o p q r s t u x y z J L M N O P Q S T U W X Y Z a0 A6 a2 a3 a4 a5 a6 a7 a8 a9 w h => h, fun k3 => ⟨⟨trivial, ⟨trivial, trivial⟩⟩, ⟨rfl, trivial⟩⟩⟩⟩, ⟨rfl, trivial⟩⟩⟩⟩⟩⟩⟩⟩⟩⟩⟩⟩⟩⟩⟩
theorem V55.cfgOk (B : Nat) : CfgOk (V55.cfg B) := cfgOk_of (by kernel_rfl) (by kernel_rfl)
theorem V55.sound {a : Option Addr} {d f : Nat} {g : Option Addr} {i j : Nat} {l : Int} {w : World} {R : Value → World → Prop} (h : V55.vc w.heap.size R a d f g i j l w) : Calls Try.prog 55 ⟨[.slice a d f, .agg ⟨[.slice g i j]⟩, .int .i64 l]⟩ w fun e w' => ∃ v, e = .returned v ∧ R v w' :=
  calls_wpfP (c := V55.cfg w.heap.size) (fn := Try.f55) (x := V55.code) (V55.cuts w.heap.size R) V55.h (V55.cfgOk _) mixed Try.func55 (by kernel_rfl) (by kernel_rfl) (by kernel_rfl) rfl (V55.obl _ _) ((V55.vc_eq _ _ a d f g i j l _).symm ▸ h)
def V56.l0 (B : Nat) (R : Value → World → Prop) : Nat → Int → Nat → Int → Int → Int → Bool → Int → Option Addr → Nat → Nat → Option Addr → Nat → Nat → Option Addr → Nat → Nat → Nat → Int → Int → Int → Bool → Int → Option Addr → Nat → Nat → Option Addr → Nat → Nat → Option Addr → Nat → Nat → World → Prop
  | 0 => fun _ _ _ _ _ _ _ _ _ _ _ _ _ _ _ _ _ _ _ _ _ _ _ _ _ _ _ _ _ _ _ _ => False
  | k + 1 => fun a c d f g i j l m n o p q r s t u x y z A C D E F G I J L M N w =>
    if (decide (a < (E : Int))) = true
    then (∃ O : Addr, D = some O ∧ (0 : Int) ≤ a ∧ a < (E : Int) ∧
    ∃ P : Int, w.cell? ((O.add (a.toNat * 2)).add 0) = some (.int .i64 P) ∧
    ∃ Q : Addr, l = some Q ∧ (0 : Int) ≤ a ∧ a < (m : Int) ∧
    ∃ S : Int, w.cell? ((Q.add (a.toNat * 2)).add 0) = some (.int .i64 S) ∧
    if (P != S) = false
     then (∃ T : Addr, D = some T ∧ (0 : Int) ≤ a ∧ a < (E : Int) ∧
     ∃ (U : Option Addr) (W X : Nat), w.cell? ((T.add (a.toNat * 2)).add 1) = some (.slice U W X) ∧
     ∃ Y : Addr, l = some Y ∧ (0 : Int) ≤ a ∧ a < (m : Int) ∧
     ∃ (Z : Option Addr) (a0 a1 : Nat), w.cell? ((Y.add (a.toNat * 2)).add 1) = some (.slice Z a0 a1) ∧
     CallK Try.prog 68 [.slice U W X, .slice Z a0 a1] B w [c, u] fun v a3 => 
      ∃ a4 : Bool, v = .bool a4 ∧
      if (!a4) = true
      then (Ret B a3 (R (.bool false)))
      else ((V56.l0 B R k) (IntKind.wrap .i64 (a + 1)) c d f g i j l m n o p q r s t u x y z A C D E F G I J L M N a3))
     else (Ret B w (R (.bool false))))
    else (CallK Try.prog 68 [.slice G I J, .slice o p q] B w [c, u] fun v a3 => 
     ∃ a5 : Bool, v = .bool a5 ∧
     if a5 = true
     then (CallK Try.prog 68 [.slice L M N, .slice r s t] B a3 [c, u] fun a6 a7 => 
      ∃ a8 : Bool, a6 = .bool a8 ∧
      Ret B a7 (R (.bool a8)))
     else (Ret B a3 (R (.bool false))))
def V56.vc (B : Nat) (R : Value → World → Prop) (a c d : Int) (f : Bool) (g : Int) (i : Option Addr) (j l : Nat) (m : Option Addr) (n o : Nat) (p : Option Addr) (q r : Nat) (s t u : Int) (x : Bool) (y : Int) (z : Option Addr) (A C : Nat) (D : Option Addr) (E F : Nat) (G : Option Addr) (I J : Nat) (w : World) : Prop :=
  ∀ L : Nat, w.heap.size ≤ L →
  ∀ M : Nat, w.heap.size ≤ M →
  if (a != s) = false
  then (if (c != t) = false
   then (if (d != u) = false
    then (if (!(f == x)) = false
     then (if (g != y) = false
      then (if ((j : Int) != (A : Int)) = true
       then (Ret B w (R (.bool false)))
       else (∃ N, V56.l0 B R N 0 M s t u x y z A C D E F G I J L a c d f g i j l m n o p q r w))
      else (Ret B w (R (.bool false))))
     else (Ret B w (R (.bool false))))
    else (Ret B w (R (.bool false))))
   else (Ret B w (R (.bool false))))
  else (Ret B w (R (.bool false)))
noncomputable def V56.cfg (B : Nat) : Cfg := ⟨Try.prog, ⟨96, B⟩, [], hasN [68], hasN []⟩
noncomputable def V56.code : Code := (Try.f56.body).getD .skip
noncomputable def V56.cuts (B : Nat) (R : Value → World → Prop) : Nat → Cut := nthC [⟨[(5, .one (.int .i64))], [(3, 67, [.int .i64, .int .i64, .int .i64, .bool, .int .u64, .slice, .slice, .slice]), (2, 67, [.int .i64, .int .i64, .int .i64, .bool, .int .u64, .slice, .slice, .slice])], fun fs vs bs w => V56.l0 B R (nthN fs 0) (iV (nthV vs 0)) (nthB bs 0).blk (iV (nthV (nthB bs 0).cells 0)) (iV (nthV (nthB bs 0).cells 1)) (iV (nthV (nthB bs 0).cells 2)) (bV (nthV (nthB bs 0).cells 3)) (iV (nthV (nthB bs 0).cells 4)) (slA (nthV (nthB bs 0).cells 5)) (slL (nthV (nthB bs 0).cells 5)) (slC (nthV (nthB bs 0).cells 5)) (slA (nthV (nthB bs 0).cells 6)) (slL (nthV (nthB bs 0).cells 6)) (slC (nthV (nthB bs 0).cells 6)) (slA (nthV (nthB bs 0).cells 7)) (slL (nthV (nthB bs 0).cells 7)) (slC (nthV (nthB bs 0).cells 7)) (nthB bs 1).blk (iV (nthV (nthB bs 1).cells 0)) (iV (nthV (nthB bs 1).cells 1)) (iV (nthV (nthB bs 1).cells 2)) (bV (nthV (nthB bs 1).cells 3)) (iV (nthV (nthB bs 1).cells 4)) (slA (nthV (nthB bs 1).cells 5)) (slL (nthV (nthB bs 1).cells 5)) (slC (nthV (nthB bs 1).cells 5)) (slA (nthV (nthB bs 1).cells 6)) (slL (nthV (nthB bs 1).cells 6)) (slC (nthV (nthB bs 1).cells 6)) (slA (nthV (nthB bs 1).cells 7)) (slL (nthV (nthB bs 1).cells 7)) (slC (nthV (nthB bs 1).cells 7)) w⟩]
noncomputable def V56.h : H := .s (.z) (.s (.s (.z) (.c (.s (.z) (.z)) (.z))) (.s (.s (.z) (.b (.l 0 (.s (.s (.z) (.c (.z) (.z))) (.s (.b (.s (.r [[0, 1, 2, 3, 4, 5, 6, 7, 8, 9, 10, 11, 12, 13, 14, 15, 16, 17, 18, 19, 20, 21, 22, 23, 24, 25, 26, 27, 28]]) (.c (.s (.z) (.z)) (.z)))) (.z)))))) (.s (.z) (.z))))
theorem V56.vc_eq (B : Nat) (R : Value → World → Prop) (a c d : Int) (f : Bool) (g : Int) (i : Option Addr) (j l : Nat) (m : Option Addr) (n o : Nat) (p : Option Addr) (q r : Nat) (s t u : Int) (x : Bool) (y : Int) (z : Option Addr) (A C : Nat) (D : Option Addr) (E F : Nat) (G : Option Addr) (I J : Nat) (w : World) : wpf (V56.cfg B) (V56.cuts B R) V56.code V56.h [] (postOf Try.prog B (Try.f56.results.toList) R) (argE 0 [.agg ⟨[.int .i64 a, .int .i64 c, .int .i64 d, .bool f, .int .u64 g, .slice i j l, .slice m n o, .slice p q r]⟩, .agg ⟨[.int .i64 s, .int .i64 t, .int .i64 u, .bool x, .int .u64 y, .slice z A C, .slice D E F, .slice G I J]⟩]) [] w = V56.vc B R a c d f g i j l m n o p q r s t u x y z A C D E F G I J w := by kernel_rfl
theorem V56.obl (B : Nat) (R : Value → World → Prop) : oblP (V56.cfg B) (V56.cuts B R) V56.code V56.h [] (postOf Try.prog B (Try.f56.results.toList) R) := by
  have e : oblP (V56.cfg B) (V56.cuts B R) V56.code V56.h [] (postOf Try.prog B (Try.f56.results.toList) R) = (True ∧ ((True ∧ ((True ∧ True) ∧ True)) ∧ ((True ∧ ((∀ (a : Int) (c : Nat) (d f g : Int) (i : Bool) (j : Int) (l : Option Addr) (m n : Nat) (o : Option Addr) (p q : Nat) (r : Option Addr) (s t u : Nat) (x y z : Int) (A : Bool) (C : Int) (D : Option Addr) (E F : Nat) (G : Option Addr) (I J : Nat) (L : Option Addr) (M N : Nat) (w : World), ¬ V56.l0 B R 0 a c d f g i j l m n o p q r s t u x y z A C D E F G I J L M N w) ∧ (∀ O, ∀ (a : Int) (c : Nat) (d f g : Int) (i : Bool) (j : Int) (l : Option Addr) (m n : Nat) (o : Option Addr) (p q : Nat) (r : Option Addr) (s t u : Nat) (x y z : Int) (A : Bool) (C : Int) (D : Option Addr) (E F : Nat) (G : Option Addr) (I J : Nat) (L : Option Addr) (M N : Nat) (w : World), V56.l0 B R (O + 1) a c d f g i j l m n o p q r s t u x y z A C D E F G I J L M N w → V56.l0 B R (O + 1) a c d f g i j l m n o p q r s t u x y z A C D E F G I J L M N w) ∧ ∀ O : Nat, ((True ∧ (True ∧ True)) ∧ (((true = true) ∧ ((True ∧ True) ∧ True)) ∧ True)))) ∧ (True ∧ True)))) := by kernel_rfl
  rw [e]
  exact ⟨trivial, ⟨⟨trivial, ⟨⟨trivial, trivial⟩, trivial⟩⟩, ⟨⟨trivial, ⟨fun a c d f g i j l m n o p q r s t u x y z A C D E F G I J L M N w h => h, fun _ a c d f g i j l m n o p q r s t u x y z A C D E F G I J L M N w h => h, fun O => ⟨⟨trivial, ⟨trivial, trivial⟩⟩, ⟨⟨rfl, ⟨⟨trivial, trivial⟩, trivial⟩⟩, trivial⟩⟩⟩⟩, ⟨trivial, trivial⟩⟩⟩⟩
theorem V56.cfgOk (B : Nat) : CfgOk (V56.cfg B) := cfgOk_of (by kernel_rfl) (by kernel_rfl)
theorem V56.sound {a d f : Int} {g : Bool} {i : Int} {j : Option Addr} {l m : Nat} {n : Option Addr} {o p : Nat} {q : Option Addr} {r s : Nat} {t u y : Int} {z : Bool} {A : Int} {C : Option Addr} {D E : Nat} {F : Option Addr} {G I : Nat} {J : Option Addr} {L M : Nat} {w : World} {R : Value → World → Prop} (h : V56.vc w.heap.size R a d f g i j l m n o p q r s t u y z A C D E F G I J L M w) : Calls Try.prog 56 ⟨[.agg ⟨[.int .i64 a, .int .i64 d, .int .i64 f, .bool g, .int .u64 i, .slice j l m, .slice n o p, .slice q r s]⟩, .agg ⟨[.int .i64 t, .int .i64 u, .int .i64 y, .bool z, .int .u64 A, .slice C D E, .slice F G I, .slice J L M]⟩]⟩ w fun e w' => ∃ v, e = .returned v ∧ R v w' :=
  calls_wpfP (c := V56.cfg w.heap.size) (fn := Try.f56) (x := V56.code) (V56.cuts w.heap.size R) V56.h (V56.cfgOk _) mixed Try.func56 (by kernel_rfl) (by kernel_rfl) (by kernel_rfl) rfl (V56.obl _ _) ((V56.vc_eq _ _ a d f g i j l m n o p q r s t u y z A C D E F G I J L M _).symm ▸ h)
def V96.vc (B : Nat) (R : Value → World → Prop) (a : Addr) (c : Int) (w : World) : Prop :=
  if (decide (c ≥ (-1))) = true
  then (CallK Try.prog 93 [.pointer (some a)] B w [] fun v d => 
   ∃ f : Int, v = .int .i64 f ∧
   Ret B d (R (.bool (decide (c < f)))))
  else (Ret B w (R (.bool false)))
noncomputable def V96.cfg (B : Nat) : Cfg := ⟨Try.prog, ⟨13, B⟩, [], hasN [93], hasN []⟩
noncomputable def V96.code : Code := (Try.f96.body).getD .skip
noncomputable def V96.cuts (B : Nat) (R : Value → World → Prop) : Nat → Cut := nthC []
noncomputable def V96.h : H := .s (.z) (.s (.z) (.z))
theorem V96.vc_eq (B : Nat) (R : Value → World → Prop) (a : Addr) (c : Int) (w : World) : wpf (V96.cfg B) (V96.cuts B R) V96.code V96.h [] (postOf Try.prog B (Try.f96.results.toList) R) (argE 0 [.pointer (some a), .int .i64 c]) [] w = V96.vc B R a c w := by kernel_rfl
theorem V96.obl (B : Nat) (R : Value → World → Prop) : oblP (V96.cfg B) (V96.cuts B R) V96.code V96.h [] (postOf Try.prog B (Try.f96.results.toList) R) := by
  have e : oblP (V96.cfg B) (V96.cuts B R) V96.code V96.h [] (postOf Try.prog B (Try.f96.results.toList) R) = (True ∧ (True ∧ True)) := by kernel_rfl
  rw [e]
  exact ⟨trivial, ⟨trivial, trivial⟩⟩
theorem V96.cfgOk (B : Nat) : CfgOk (V96.cfg B) := cfgOk_of (by kernel_rfl) (by kernel_rfl)
theorem V96.sound {a : Addr} {d : Int} {w : World} {R : Value → World → Prop} (h : V96.vc w.heap.size R a d w) : Calls Try.prog 96 ⟨[.pointer (some a), .int .i64 d]⟩ w fun e w' => ∃ v, e = .returned v ∧ R v w' :=
  calls_wpfP (c := V96.cfg w.heap.size) (fn := Try.f96) (x := V96.code) (V96.cuts w.heap.size R) V96.h (V96.cfgOk _) mixed Try.func96 (by kernel_rfl) (by kernel_rfl) (by kernel_rfl) rfl (V96.obl _ _) ((V96.vc_eq _ _ a d _).symm ▸ h)
def V97.vc (B : Nat) (R : Value → World → Prop) (w : World) : Prop :=
  ∀ a : Nat, w.heap.size ≤ a →
  Expo B w [a] fun c => 
  Hide [a] (c.alloc (.cells ⟨[.int .i64 3, .int .i64 0, .int .i64 0, .int .i64 18, .int .i64 0, .int .i64 0]⟩ 26)) fun d => 
  Expo B d [a] fun f => 
  Hide [a] (f.alloc (.cells ⟨[.int .i64 0, .int .i64 1, .int .i64 0, .slice (some ⟨c.heap.size, 0, none⟩) 2 2]⟩ 29)) fun g => 
  Ret B g (R (.agg ⟨[.slice (some ⟨f.heap.size, 0, none⟩) 1 1]⟩))
noncomputable def V97.cfg (B : Nat) : Cfg := ⟨Try.prog, ⟨7, B⟩, [], hasN [], hasN []⟩
noncomputable def V97.code : Code := (Try.f97.body).getD .skip
noncomputable def V97.cuts (B : Nat) (R : Value → World → Prop) : Nat → Cut := nthC []
noncomputable def V97.h : H := .s (.z) (.s (.z) (.z))
theorem V97.vc_eq (B : Nat) (R : Value → World → Prop)  (w : World) : wpf (V97.cfg B) (V97.cuts B R) V97.code V97.h [] (postOf Try.prog B (Try.f97.results.toList) R) (argE 0 []) [] w = V97.vc B R  w := by kernel_rfl
theorem V97.obl (B : Nat) (R : Value → World → Prop) : oblP (V97.cfg B) (V97.cuts B R) V97.code V97.h [] (postOf Try.prog B (Try.f97.results.toList) R) := by
  have e : oblP (V97.cfg B) (V97.cuts B R) V97.code V97.h [] (postOf Try.prog B (Try.f97.results.toList) R) = (True ∧ (True ∧ True)) := by kernel_rfl
  rw [e]
  exact ⟨trivial, ⟨trivial, trivial⟩⟩
theorem V97.cfgOk (B : Nat) : CfgOk (V97.cfg B) := cfgOk_of (by kernel_rfl) (by kernel_rfl)
theorem V97.sound  {w : World} {R : Value → World → Prop} (h : V97.vc w.heap.size R  w) : Calls Try.prog 97 ⟨[]⟩ w fun e w' => ∃ v, e = .returned v ∧ R v w' :=
  calls_wpfP (c := V97.cfg w.heap.size) (fn := Try.f97) (x := V97.code) (V97.cuts w.heap.size R) V97.h (V97.cfgOk _) mixed Try.func97 (by kernel_rfl) (by kernel_rfl) (by kernel_rfl) rfl (V97.obl _ _) ((V97.vc_eq _ _  _).symm ▸ h)
def V99.vc (B : Nat) (R : Value → World → Prop) (a : Option Addr) (c d : Nat) (f : Int) (w : World) : Prop :=
  ∀ g : Nat, w.heap.size ≤ g →
  ∀ i : Nat, w.heap.size ≤ i →
  if (decide (f < 0)) = false
  then (if (decide (f ≥ (c : Int))) = true
   then (Ret B w (R (.tuple ⟨[.agg ⟨[.int .i64 0, .int .i64 0, .int .i64 0, .slice none 0 0]⟩, .bool false]⟩)))
   else (∃ j : Addr, a = some j ∧ (0 : Int) ≤ f ∧ f < (c : Int) ∧
   ∃ l : Int, w.cell? ((j.add (f.toNat * 4)).add 0) = some (.int .i64 l) ∧
   ∃ m : Int, w.cell? ((j.add (f.toNat * 4)).add 1) = some (.int .i64 m) ∧
   ∃ n : Int, w.cell? ((j.add (f.toNat * 4)).add 2) = some (.int .i64 n) ∧
   ∃ (o : Option Addr) (p q : Nat), w.cell? ((j.add (f.toNat * 4)).add 3) = some (.slice o p q) ∧
   ∃ r : Addr, a = some r ∧ (0 : Int) ≤ f ∧ f < (c : Int) ∧
   ∃ s : Int, w.cell? ((r.add (f.toNat * 4)).add 0) = some (.int .i64 s) ∧
   ∃ t : Int, w.cell? ((r.add (f.toNat * 4)).add 1) = some (.int .i64 t) ∧
   ∃ u : Int, w.cell? ((r.add (f.toNat * 4)).add 2) = some (.int .i64 u) ∧
   ∃ (x : Option Addr) (y z : Nat), w.cell? ((r.add (f.toNat * 4)).add 3) = some (.slice x y z) ∧
   CallK Try.prog 89 [.agg ⟨[.int .i64 s, .int .i64 t, .int .i64 u, .slice x y z]⟩] B w [i, g] fun v A => 
    ∃ C : Bool, v = .bool C ∧ A.cell? ((j.add (f.toNat * 4)).add 0) = some (.int .i64 l) ∧ A.cell? ((j.add (f.toNat * 4)).add 1) = some (.int .i64 m) ∧ A.cell? ((j.add (f.toNat * 4)).add 2) = some (.int .i64 n) ∧ A.cell? ((j.add (f.toNat * 4)).add 3) = some (.slice o p q) ∧
    Ret B A (R (.tuple ⟨[.agg ⟨[.int .i64 l, .int .i64 m, .int .i64 n, .slice o p q]⟩, .bool C]⟩))))
  else (Ret B w (R (.tuple ⟨[.agg ⟨[.int .i64 0, .int .i64 0, .int .i64 0, .slice none 0 0]⟩, .bool false]⟩)))
noncomputable def V99.cfg (B : Nat) : Cfg := ⟨Try.prog, ⟨27, B⟩, [], hasN [89], hasN []⟩
noncomputable def V99.code : Code := (Try.f99.body).getD .skip
noncomputable def V99.cuts (B : Nat) (R : Value → World → Prop) : Nat → Cut := nthC []
noncomputable def V99.h : H := .s (.z) (.s (.s (.z) (.c (.s (.z) (.z)) (.z))) (.s (.r [[0, 1, 2, 3, 4, 5, 6, 7, 8, 9, 10, 11, 12]]) (.z)))
theorem V99.vc_eq (B : Nat) (R : Value → World → Prop) (a : Option Addr) (c d : Nat) (f : Int) (w : World) : wpf (V99.cfg B) (V99.cuts B R) V99.code V99.h [] (postOf Try.prog B (Try.f99.results.toList) R) (argE 0 [.agg ⟨[.slice a c d]⟩, .int .i64 f]) [] w = V99.vc B R a c d f w := by kernel_rfl
theorem V99.obl (B : Nat) (R : Value → World → Prop) : oblP (V99.cfg B) (V99.cuts B R) V99.code V99.h [] (postOf Try.prog B (Try.f99.results.toList) R) := by
  have e : oblP (V99.cfg B) (V99.cuts B R) V99.code V99.h [] (postOf Try.prog B (Try.f99.results.toList) R) = (True ∧ ((True ∧ ((True ∧ True) ∧ True)) ∧ ((true = true) ∧ True))) := by kernel_rfl
  rw [e]
  exact ⟨trivial, ⟨⟨trivial, ⟨⟨trivial, trivial⟩, trivial⟩⟩, ⟨rfl, trivial⟩⟩⟩
theorem V99.cfgOk (B : Nat) : CfgOk (V99.cfg B) := cfgOk_of (by kernel_rfl) (by kernel_rfl)
theorem V99.sound {a : Option Addr} {d f : Nat} {g : Int} {w : World} {R : Value → World → Prop} (h : V99.vc w.heap.size R a d f g w) : Calls Try.prog 99 ⟨[.agg ⟨[.slice a d f]⟩, .int .i64 g]⟩ w fun e w' => ∃ v, e = .returned v ∧ R v w' :=
  calls_wpfP (c := V99.cfg w.heap.size) (fn := Try.f99) (x := V99.code) (V99.cuts w.heap.size R) V99.h (V99.cfgOk _) mixed Try.func99 (by kernel_rfl) (by kernel_rfl) (by kernel_rfl) rfl (V99.obl _ _) ((V99.vc_eq _ _ a d f g _).symm ▸ h)
def V100.vc (B : Nat) (R : Value → World → Prop) (a c d : Int) (f : Option Addr) (g i : Nat) (w : World) : Prop :=
  ∀ j : Nat, w.heap.size ≤ j →
  CallK Try.prog 32 [.agg ⟨[.int .i64 a, .int .i64 c, .int .i64 d, .slice f g i]⟩] B w [j] fun v l => 
  ∃ m : Int, v = .int .i64 m ∧
  Ret B l (R (.tuple ⟨[.int .i64 (IntKind.wrap .i64 (IntKind.wrap .i64 (m - c) - 8)), .bool (decide (IntKind.wrap .i64 (IntKind.wrap .i64 (m - c) - 8) > 7))]⟩))
noncomputable def V100.cfg (B : Nat) : Cfg := ⟨Try.prog, ⟨14, B⟩, [], hasN [32], hasN []⟩
noncomputable def V100.code : Code := (Try.f100.body).getD .skip
noncomputable def V100.cuts (B : Nat) (R : Value → World → Prop) : Nat → Cut := nthC []
noncomputable def V100.h : H := .s (.z) (.s (.r [[0, 2, 3, 1, 4, 5, 6]]) (.s (.z) (.z)))
theorem V100.vc_eq (B : Nat) (R : Value → World → Prop) (a c d : Int) (f : Option Addr) (g i : Nat) (w : World) : wpf (V100.cfg B) (V100.cuts B R) V100.code V100.h [] (postOf Try.prog B (Try.f100.results.toList) R) (argE 0 [.agg ⟨[.int .i64 a, .int .i64 c, .int .i64 d, .slice f g i]⟩]) [] w = V100.vc B R a c d f g i w := by kernel_rfl
theorem V100.obl (B : Nat) (R : Value → World → Prop) : oblP (V100.cfg B) (V100.cuts B R) V100.code V100.h [] (postOf Try.prog B (Try.f100.results.toList) R) := by
  have e : oblP (V100.cfg B) (V100.cuts B R) V100.code V100.h [] (postOf Try.prog B (Try.f100.results.toList) R) = (True ∧ ((true = true) ∧ (True ∧ True))) := by kernel_rfl
  rw [e]
  exact ⟨trivial, ⟨rfl, ⟨trivial, trivial⟩⟩⟩
theorem V100.cfgOk (B : Nat) : CfgOk (V100.cfg B) := cfgOk_of (by kernel_rfl) (by kernel_rfl)
theorem V100.sound {a d f : Int} {g : Option Addr} {i j : Nat} {w : World} {R : Value → World → Prop} (h : V100.vc w.heap.size R a d f g i j w) : Calls Try.prog 100 ⟨[.agg ⟨[.int .i64 a, .int .i64 d, .int .i64 f, .slice g i j]⟩]⟩ w fun e w' => ∃ v, e = .returned v ∧ R v w' :=
  calls_wpfP (c := V100.cfg w.heap.size) (fn := Try.f100) (x := V100.code) (V100.cuts w.heap.size R) V100.h (V100.cfgOk _) mixed Try.func100 (by kernel_rfl) (by kernel_rfl) (by kernel_rfl) rfl (V100.obl _ _) ((V100.vc_eq _ _ a d f g i j _).symm ▸ h)
def V101.vc (B : Nat) (R : Value → World → Prop) (a c d : Int) (f : Option Addr) (g i : Nat) (w : World) : Prop :=
  ∀ j : Nat, w.heap.size ≤ j →
  CallK Try.prog 84 [.agg ⟨[.int .i64 a, .int .i64 c, .int .i64 d, .slice f g i]⟩] B w [j] fun v l => 
  ∃ m : Bool, v = .bool m ∧
  if m = true
  then (Ret B l (R (.int .i64 4)))
  else (Ret B l (R (.int .i64 0)))
noncomputable def V101.cfg (B : Nat) : Cfg := ⟨Try.prog, ⟨5, B⟩, [], hasN [84], hasN []⟩
noncomputable def V101.code : Code := (Try.f101.body).getD .skip
noncomputable def V101.cuts (B : Nat) (R : Value → World → Prop) : Nat → Cut := nthC []
noncomputable def V101.h : H := .s (.z) (.s (.s (.z) (.c (.s (.z) (.z)) (.z))) (.s (.z) (.z)))
theorem V101.vc_eq (B : Nat) (R : Value → World → Prop) (a c d : Int) (f : Option Addr) (g i : Nat) (w : World) : wpf (V101.cfg B) (V101.cuts B R) V101.code V101.h [] (postOf Try.prog B (Try.f101.results.toList) R) (argE 0 [.agg ⟨[.int .i64 a, .int .i64 c, .int .i64 d, .slice f g i]⟩]) [] w = V101.vc B R a c d f g i w := by kernel_rfl
theorem V101.obl (B : Nat) (R : Value → World → Prop) : oblP (V101.cfg B) (V101.cuts B R) V101.code V101.h [] (postOf Try.prog B (Try.f101.results.toList) R) := by
  have e : oblP (V101.cfg B) (V101.cuts B R) V101.code V101.h [] (postOf Try.prog B (Try.f101.results.toList) R) = (True ∧ ((True ∧ ((True ∧ True) ∧ True)) ∧ (True ∧ True))) := by kernel_rfl
  rw [e]
  exact ⟨trivial, ⟨⟨trivial, ⟨⟨trivial, trivial⟩, trivial⟩⟩, ⟨trivial, trivial⟩⟩⟩
theorem V101.cfgOk (B : Nat) : CfgOk (V101.cfg B) := cfgOk_of (by kernel_rfl) (by kernel_rfl)
theorem V101.sound {a d f : Int} {g : Option Addr} {i j : Nat} {w : World} {R : Value → World → Prop} (h : V101.vc w.heap.size R a d f g i j w) : Calls Try.prog 101 ⟨[.agg ⟨[.int .i64 a, .int .i64 d, .int .i64 f, .slice g i j]⟩]⟩ w fun e w' => ∃ v, e = .returned v ∧ R v w' :=
  calls_wpfP (c := V101.cfg w.heap.size) (fn := Try.f101) (x := V101.code) (V101.cuts w.heap.size R) V101.h (V101.cfgOk _) mixed Try.func101 (by kernel_rfl) (by kernel_rfl) (by kernel_rfl) rfl (V101.obl _ _) ((V101.vc_eq _ _ a d f g i j _).symm ▸ h)
end Go.Proofs.Ytlccbaemcfjdoaa
