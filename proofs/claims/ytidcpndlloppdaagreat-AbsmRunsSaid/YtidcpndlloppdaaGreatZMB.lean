import Derived.Test.YtidcpndlloppdaaGreatZMA
/-
 What the engine makes of the loaded functions 78,120,121,122: conditions under which a call returns as told,and proofs of that.
 Conditions: none. Printed by a program of this project.
-/
set_option linter.unusedVariables false
set_option maxRecDepth 100000
namespace Go.Proofs.YtidcpndlloppdaaGreat
def V78.b0 (B : Nat) (R : Value → World → Prop) (a : Addr) (c : Nat) (d f g : Int) (w : World) : Prop :=
 ∃ i : Option Addr,w.cell? a = some (.pointer i) ∧
 caseP i
 (False)
 (fun j => ∃ (l : Option Addr) (m n : Nat),w.cell? (j.add 6) = some (.slice l m n) ∧
 ∃ o : Option Addr,w.cell? a = some (.pointer o) ∧
 caseP o
 (False)
 (fun p => ∃ (q : Option Addr) (r s : Nat),w.cell? (p.add 6) = some (.slice q r s) ∧
 ∃ t : Addr,l = some t ∧ (0 : Int) ≤ IntKind.wrap .i64 ((r : Int) - 1) ∧ IntKind.wrap .i64 ((r : Int) - 1) < (m : Int) ∧
 Expo B w [c] fun x => 
 Hide [c] (x.alloc (.cells ⟨[.pointer none]⟩ 165)) fun y => 
 y.cell? (p.add 6) = some (.slice q r s) ∧ y.cell? a = some (.pointer (some p)) ∧ y.cell? (j.add 6) = some (.slice l m n) ∧ y.cell? a = some (.pointer (some j)) ∧
 (∃ u,y.cell? ((⟨x.heap.size,0,none⟩ : Addr).add 0) = some u) ∧ y.frozen? ((⟨x.heap.size,0,none⟩ : Addr).add 0) = false ∧
 let z := y.setCell ((⟨x.heap.size,0,none⟩ : Addr).add 0) (.pointer (some (t.add ((IntKind.wrap .i64 ((r : Int) - 1)).toNat * 8))));
 ∃ A : Option Addr,z.cell? (⟨x.heap.size,0,none⟩ : Addr) = some (.pointer A) ∧
 caseP A
 (False)
 (fun C => ∃ D : Int,z.cell? (C.add 1) = some (.int .i64 D) ∧
 (∃ u_1,z.cell? ((C.add 1).add 0) = some u_1) ∧ z.frozen? ((C.add 1).add 0) = false ∧
 let E := z.setCell ((C.add 1).add 0) (.int .i64 (IntKind.wrap .i64 (D + 1)));
 ∃ F : Option Addr,E.cell? a = some (.pointer F) ∧
 caseP F
 (False)
 (fun G => ∃ (I : Option Addr) (J L : Nat),E.cell? ((G.add 0).add 0) = some (.slice I J L) ∧
 CallK Tryz.prog 99 [.agg ⟨[.slice I J L]⟩,.agg ⟨[.int .i64 d,.int .i64 f,.int .i64 g]⟩] B E [c] fun v M => 
 ∃ N : Int,v = .int .i64 N ∧
 CallK Tryz.prog 121 [.int .i64 N,.pointer (some (⟨x.heap.size,0,none⟩ : Addr))] B M [c] fun O P => 
 ∃ (Q : Option Addr) (S T : Nat),O = .slice Q S T ∧
 if (d == 1) = true
 then (CallK Tryz.prog 42 [.int .i64 f] B P [c] fun U W => 
 ∃ X : Int,U = .int .u64 X ∧
 Expo B W [c] fun Y => 
 Hide [c] (Y.alloc (.cells ⟨[.int .u64 X]⟩ 55)) fun Z => 
 CallK Tryz.prog 120 [.slice (some ⟨Y.heap.size,0,none⟩) 1 1,.pointer (some (⟨x.heap.size,0,none⟩ : Addr))] B Z [c] fun a0 a1 => 
 a0 = .tuple ⟨[]⟩ ∧
 Ret B a1 (R (.tuple ⟨[]⟩)))
 else (if (d == 2) = true
 then (CallK Tryz.prog 102 [.int .i64 f] B P [c] fun U W => 
 ∃ a2 : Int,U = .int .u64 a2 ∧
 Expo B W [c] fun Y => 
 Hide [c] (Y.alloc (.cells ⟨[.int .u64 a2]⟩ 55)) fun Z => 
 CallK Tryz.prog 120 [.slice (some ⟨Y.heap.size,0,none⟩) 1 1,.pointer (some (⟨x.heap.size,0,none⟩ : Addr))] B Z [c] fun a0 a1 => 
 a0 = .tuple ⟨[]⟩ ∧
 Ret B a1 (R (.tuple ⟨[]⟩)))
 else (if (d == 3) = true
 then (∃ a3 : Option Addr,P.cell? (⟨x.heap.size,0,none⟩ : Addr) = some (.pointer a3) ∧
 caseP a3
 (False)
 (fun a4 => ∃ (a5 : Option Addr) (a6 a7 : Nat),P.cell? (a4.add 6) = some (.slice a5 a6 a7) ∧
 ∃ a8 : Addr,a5 = some a8 ∧ (0 : Int) ≤ f ∧ f < (a6 : Int) ∧
 ∃ a9 : Int,P.cell? (a8.add f.toNat) = some (.int .u64 a9) ∧
 Expo B P [c] fun W => 
 Hide [c] (W.alloc (.cells ⟨[.int .u64 a9]⟩ 55)) fun Y => 
 CallK Tryz.prog 120 [.slice (some ⟨W.heap.size,0,none⟩) 1 1,.pointer (some (⟨x.heap.size,0,none⟩ : Addr))] B Y [c] fun U Z => 
 U = .tuple ⟨[]⟩ ∧
 Ret B Z (R (.tuple ⟨[]⟩))))
 else (if (d == 4) = true
 then (∃ c0 : Option Addr,P.cell? (⟨x.heap.size,0,none⟩ : Addr) = some (.pointer c0) ∧
 caseP c0
 (False)
 (fun c1 => ∃ (c2 : Option Addr) (c3 c4 : Nat),P.cell? (c1.add 6) = some (.slice c2 c3 c4) ∧
 ∃ c5 : Addr,Q = some c5 ∧ (0 : Int) ≤ 0 ∧ (0 : Int) < (S : Int) ∧
 ∃ c6 : Int,P.cell? (c5.add 0) = some (.int .u64 c6) ∧
 ∃ c7 : Addr,c2 = some c7 ∧ (0 : Int) ≤ f ∧ f < (c3 : Int) ∧
 (∃ u_2,P.cell? ((c7.add f.toNat).add 0) = some u_2) ∧ P.frozen? ((c7.add f.toNat).add 0) = false ∧
 let W := P.setCell ((c7.add f.toNat).add 0) (.int .u64 c6);
 Ret B W (R (.tuple ⟨[]⟩))))
 else (if (d == 9) = true
 then (∃ c8 : Addr,Q = some c8 ∧ (0 : Int) ≤ 0 ∧ (0 : Int) < (S : Int) ∧
 ∃ c9 : Int,P.cell? (c8.add 0) = some (.int .u64 c9) ∧
 CallK Tryz.prog 103 [.int .u64 c9] B P [c] fun U W => 
 ∃ d0 : Int,U = .int .u64 d0 ∧
 Expo B W [c] fun Y => 
 Hide [c] (Y.alloc (.cells ⟨[.int .u64 d0]⟩ 55)) fun Z => 
 CallK Tryz.prog 120 [.slice (some ⟨Y.heap.size,0,none⟩) 1 1,.pointer (some (⟨x.heap.size,0,none⟩ : Addr))] B Z [c] fun a0 a1 => 
 a0 = .tuple ⟨[]⟩ ∧
 Ret B a1 (R (.tuple ⟨[]⟩)))
 else (if (d == 10) = true
 then (∃ d1 : Addr,Q = some d1 ∧ (0 : Int) ≤ 0 ∧ (0 : Int) < (S : Int) ∧
 ∃ d2 : Int,P.cell? (d1.add 0) = some (.int .u64 d2) ∧
 CallK Tryz.prog 104 [.int .u64 d2] B P [c] fun U W => 
 ∃ d3 : Int,U = .int .u64 d3 ∧
 Expo B W [c] fun Y => 
 Hide [c] (Y.alloc (.cells ⟨[.int .u64 d3]⟩ 55)) fun Z => 
 CallK Tryz.prog 120 [.slice (some ⟨Y.heap.size,0,none⟩) 1 1,.pointer (some (⟨x.heap.size,0,none⟩ : Addr))] B Z [c] fun a0 a1 => 
 a0 = .tuple ⟨[]⟩ ∧
 Ret B a1 (R (.tuple ⟨[]⟩)))
 else (if (d == 15) = true
 then (∃ d4 : Option Addr,P.cell? (⟨x.heap.size,0,none⟩ : Addr) = some (.pointer d4) ∧
 caseP d4
 (False)
 (fun d5 => (∃ u_2,P.cell? ((d5.add 1).add 0) = some u_2) ∧ P.frozen? ((d5.add 1).add 0) = false ∧
 let W := P.setCell ((d5.add 1).add 0) (.int .i64 f);
 Ret B W (R (.tuple ⟨[]⟩))))
 else (if (d == 16) = true
 then (∃ d6 : Addr,Q = some d6 ∧ (0 : Int) ≤ 0 ∧ (0 : Int) < (S : Int) ∧
 ∃ d7 : Int,P.cell? (d6.add 0) = some (.int .u64 d7) ∧
 CallK Tryz.prog 105 [.int .u64 d7] B P [c] fun U W => 
 ∃ d8 : Bool,U = .bool d8 ∧
 if d8 = true
 then (∃ d9 : Option Addr,W.cell? (⟨x.heap.size,0,none⟩ : Addr) = some (.pointer d9) ∧
 caseP d9
 (False)
 (fun f0 => (∃ u_2,W.cell? ((f0.add 1).add 0) = some u_2) ∧ W.frozen? ((f0.add 1).add 0) = false ∧
 let Y := W.setCell ((f0.add 1).add 0) (.int .i64 f);
 Ret B Y (R (.tuple ⟨[]⟩))))
 else (Ret B W (R (.tuple ⟨[]⟩))))
 else (if (d == 17) = true
 then (∃ f1 : Option Addr,P.cell? a = some (.pointer f1) ∧
 caseP f1
 (CallK Tryz.prog 77 [.pointer none,.int .i64 f,.slice Q S T,.bool false] B P [c] fun U W => 
 U = .tuple ⟨[]⟩ ∧
 Ret B W (R (.tuple ⟨[]⟩)))
 (fun f2 => CallK Tryz.prog 77 [.pointer (some f2),.int .i64 f,.slice Q S T,.bool false] B P [c] fun U W => 
 U = .tuple ⟨[]⟩ ∧
 Ret B W (R (.tuple ⟨[]⟩))))
 else (if (d == 18) = true
 then (∃ f3 : Option Addr,P.cell? (⟨x.heap.size,0,none⟩ : Addr) = some (.pointer f3) ∧
 caseP f3
 (∃ f4 : Option Addr,P.cell? (⟨x.heap.size,0,none⟩ : Addr) = some (.pointer f4) ∧
 caseP f4
 (∃ f5 : Addr,Q = some f5 ∧ (0 : Int) ≤ 0 ∧ (0 : Int) < (S : Int) ∧
 ∃ f6 : Int,P.cell? (f5.add 0) = some (.int .u64 f6) ∧ False)
 (fun f7 => ∃ f5 : Addr,Q = some f5 ∧ (0 : Int) ≤ 0 ∧ (0 : Int) < (S : Int) ∧
 ∃ f6 : Int,P.cell? (f5.add 0) = some (.int .u64 f6) ∧ False))
 (fun f8 => ∃ f4 : Option Addr,P.cell? (⟨x.heap.size,0,none⟩ : Addr) = some (.pointer f4) ∧
 caseP f4
 (∃ f5 : Addr,Q = some f5 ∧ (0 : Int) ≤ 0 ∧ (0 : Int) < (S : Int) ∧
 ∃ f6 : Int,P.cell? (f5.add 0) = some (.int .u64 f6) ∧
 (∃ u_2,P.cell? ((f8.add 4).add 0) = some u_2) ∧ P.frozen? ((f8.add 4).add 0) = false ∧
 let W := P.setCell ((f8.add 4).add 0) (.int .u64 f6);
 W.cell? (⟨x.heap.size,0,none⟩ : Addr) = some (.pointer none) ∧ False)
 (fun f7 => ∃ f5 : Addr,Q = some f5 ∧ (0 : Int) ≤ 0 ∧ (0 : Int) < (S : Int) ∧
 ∃ f6 : Int,P.cell? (f5.add 0) = some (.int .u64 f6) ∧
 (∃ u_2,P.cell? ((f8.add 4).add 0) = some u_2) ∧ P.frozen? ((f8.add 4).add 0) = false ∧
 let W := P.setCell ((f8.add 4).add 0) (.int .u64 f6);
 W.cell? (⟨x.heap.size,0,none⟩ : Addr) = some (.pointer (some f7)) ∧
 (∃ u_3,W.cell? ((f7.add 2).add 0) = some u_3) ∧ W.frozen? ((f7.add 2).add 0) = false ∧
 let Y := W.setCell ((f7.add 2).add 0) (.int .i64 1);
 Ret B Y (R (.tuple ⟨[]⟩)))))
 else (if (d == 20) = true
 then (∃ f9 : Option Addr,P.cell? (⟨x.heap.size,0,none⟩ : Addr) = some (.pointer f9) ∧
 caseP f9
 (∃ g0 : Option Addr,P.cell? (⟨x.heap.size,0,none⟩ : Addr) = some (.pointer g0) ∧
 caseP g0
 (∃ g1 : Addr,Q = some g1 ∧ (0 : Int) ≤ 0 ∧ (0 : Int) < (S : Int) ∧
 ∃ g2 : Int,P.cell? (g1.add 0) = some (.int .u64 g2) ∧ False)
 (fun g3 => ∃ g1 : Addr,Q = some g1 ∧ (0 : Int) ≤ 0 ∧ (0 : Int) < (S : Int) ∧
 ∃ g2 : Int,P.cell? (g1.add 0) = some (.int .u64 g2) ∧ False))
 (fun g4 => ∃ g0 : Option Addr,P.cell? (⟨x.heap.size,0,none⟩ : Addr) = some (.pointer g0) ∧
 caseP g0
 (∃ g1 : Addr,Q = some g1 ∧ (0 : Int) ≤ 0 ∧ (0 : Int) < (S : Int) ∧
 ∃ g2 : Int,P.cell? (g1.add 0) = some (.int .u64 g2) ∧
 (∃ u_2,P.cell? ((g4.add 4).add 0) = some u_2) ∧ P.frozen? ((g4.add 4).add 0) = false ∧
 let W := P.setCell ((g4.add 4).add 0) (.int .u64 g2);
 W.cell? (⟨x.heap.size,0,none⟩ : Addr) = some (.pointer none) ∧ False)
 (fun g3 => ∃ g1 : Addr,Q = some g1 ∧ (0 : Int) ≤ 0 ∧ (0 : Int) < (S : Int) ∧
 ∃ g2 : Int,P.cell? (g1.add 0) = some (.int .u64 g2) ∧
 (∃ u_2,P.cell? ((g4.add 4).add 0) = some u_2) ∧ P.frozen? ((g4.add 4).add 0) = false ∧
 let W := P.setCell ((g4.add 4).add 0) (.int .u64 g2);
 W.cell? (⟨x.heap.size,0,none⟩ : Addr) = some (.pointer (some g3)) ∧
 (∃ u_3,W.cell? ((g3.add 2).add 0) = some u_3) ∧ W.frozen? ((g3.add 2).add 0) = false ∧
 let Y := W.setCell ((g3.add 2).add 0) (.int .i64 2);
 Ret B Y (R (.tuple ⟨[]⟩)))))
 else (if (d == 19) = true
 then (∃ g5 : Option Addr,P.cell? (⟨x.heap.size,0,none⟩ : Addr) = some (.pointer g5) ∧
 caseP g5
 (False)
 (fun g6 => ∃ (g7 : Option Addr) (g8 g9 : Nat),P.cell? (g6.add 5) = some (.slice g7 g8 g9) ∧
 if ((g8 : Int) == 4) = true
 then (∃ i0 : Option Addr,P.cell? (⟨x.heap.size,0,none⟩ : Addr) = some (.pointer i0) ∧
 caseP i0
 (∃ i1 : Option Addr,P.cell? (⟨x.heap.size,0,none⟩ : Addr) = some (.pointer i1) ∧
 caseP i1
 (CallK Tryz.prog 102 [.int .i64 1] B P [c] fun U W => 
 ∃ i3 : Int,U = .int .u64 i3 ∧ W.cell? (⟨x.heap.size,0,none⟩ : Addr) = some (.pointer none) ∧ W.cell? (⟨x.heap.size,0,none⟩ : Addr) = some (.pointer none) ∧ False)
 (fun i4 => CallK Tryz.prog 102 [.int .i64 1] B P [c] fun U W => 
 ∃ i3 : Int,U = .int .u64 i3 ∧ W.cell? (⟨x.heap.size,0,none⟩ : Addr) = some (.pointer (some i4)) ∧ W.cell? (⟨x.heap.size,0,none⟩ : Addr) = some (.pointer none) ∧ False))
 (fun i5 => ∃ i1 : Option Addr,P.cell? (⟨x.heap.size,0,none⟩ : Addr) = some (.pointer i1) ∧
 caseP i1
 (CallK Tryz.prog 102 [.int .i64 1] B P [c] fun U W => 
 ∃ i3 : Int,U = .int .u64 i3 ∧ W.cell? (⟨x.heap.size,0,none⟩ : Addr) = some (.pointer none) ∧ W.cell? (⟨x.heap.size,0,none⟩ : Addr) = some (.pointer (some i5)) ∧
 (∃ u_2,W.cell? ((i5.add 4).add 0) = some u_2) ∧ W.frozen? ((i5.add 4).add 0) = false ∧
 let Y := W.setCell ((i5.add 4).add 0) (.int .u64 i3);
 Y.cell? (⟨x.heap.size,0,none⟩ : Addr) = some (.pointer none) ∧ False)
 (fun i4 => CallK Tryz.prog 102 [.int .i64 1] B P [c] fun U W => 
 ∃ i3 : Int,U = .int .u64 i3 ∧ W.cell? (⟨x.heap.size,0,none⟩ : Addr) = some (.pointer (some i4)) ∧ W.cell? (⟨x.heap.size,0,none⟩ : Addr) = some (.pointer (some i5)) ∧
 (∃ u_2,W.cell? ((i5.add 4).add 0) = some u_2) ∧ W.frozen? ((i5.add 4).add 0) = false ∧
 let Y := W.setCell ((i5.add 4).add 0) (.int .u64 i3);
 Y.cell? (⟨x.heap.size,0,none⟩ : Addr) = some (.pointer (some i4)) ∧
 (∃ u_3,Y.cell? ((i4.add 2).add 0) = some u_3) ∧ Y.frozen? ((i4.add 2).add 0) = false ∧
 let Z := Y.setCell ((i4.add 2).add 0) (.int .i64 2);
 Ret B Z (R (.tuple ⟨[]⟩)))))
 else (∃ i6 : Option Addr,P.cell? (⟨x.heap.size,0,none⟩ : Addr) = some (.pointer i6) ∧
 caseP i6
 (∃ i7 : Option Addr,P.cell? (⟨x.heap.size,0,none⟩ : Addr) = some (.pointer i7) ∧
 caseP i7
 (False)
 (fun i8 => ∃ (i9 : Option Addr) (j0 j1 : Nat),P.cell? (i8.add 5) = some (.slice i9 j0 j1) ∧
 Expo B P [c] fun W => 
 Hide [c] (W.alloc (.cells ⟨[.int .i64 f,.slice Q S T]⟩ 149)) fun Y => 
 Y.cell? (i8.add 5) = some (.slice i9 j0 j1) ∧ Y.cell? (⟨x.heap.size,0,none⟩ : Addr) = some (.pointer (some i8)) ∧ Y.cell? (⟨x.heap.size,0,none⟩ : Addr) = some (.pointer none) ∧
 RunK Tryz.prog (Builtin.append_ #[97,97] 97 ⟨[.slice i9 j0 j1,.slice (some ⟨W.heap.size,0,none⟩) 1 1]⟩) B Y [c] fun U Z => 
 ∃ (j2 : Option Addr) (j3 j4 : Nat),U = .slice j2 j3 j4 ∧ Z.cell? (⟨x.heap.size,0,none⟩ : Addr) = some (.pointer none) ∧ False))
 (fun j5 => ∃ i7 : Option Addr,P.cell? (⟨x.heap.size,0,none⟩ : Addr) = some (.pointer i7) ∧
 caseP i7
 (False)
 (fun i8 => ∃ (i9 : Option Addr) (j0 j1 : Nat),P.cell? (i8.add 5) = some (.slice i9 j0 j1) ∧
 Expo B P [c] fun W => 
 Hide [c] (W.alloc (.cells ⟨[.int .i64 f,.slice Q S T]⟩ 149)) fun Y => 
 Y.cell? (i8.add 5) = some (.slice i9 j0 j1) ∧ Y.cell? (⟨x.heap.size,0,none⟩ : Addr) = some (.pointer (some i8)) ∧ Y.cell? (⟨x.heap.size,0,none⟩ : Addr) = some (.pointer (some j5)) ∧
 RunK Tryz.prog (Builtin.append_ #[97,97] 97 ⟨[.slice i9 j0 j1,.slice (some ⟨W.heap.size,0,none⟩) 1 1]⟩) B Y [c] fun U Z => 
 ∃ (j2 : Option Addr) (j3 j4 : Nat),U = .slice j2 j3 j4 ∧ Z.cell? (⟨x.heap.size,0,none⟩ : Addr) = some (.pointer (some j5)) ∧
 (∃ u_2,Z.cell? ((j5.add 5).add 0) = some u_2) ∧ Z.frozen? ((j5.add 5).add 0) = false ∧
 let a1 := Z.setCell ((j5.add 5).add 0) (.slice j2 j3 j4);
 Ret B a1 (R (.tuple ⟨[]⟩)))))))
 else (if (d == 21) = true
 then (∃ j6 : Option Addr,P.cell? a = some (.pointer j6) ∧
 caseP j6
 (CallK Tryz.prog 123 [.pointer none] B P [c] fun U W => 
 ∃ (j7 : Option Addr) (j8 j9 : Nat),U = .slice j7 j8 j9 ∧
 CallK Tryz.prog 120 [.slice j7 j8 j9,.pointer (some (⟨x.heap.size,0,none⟩ : Addr))] B W [c] fun a0 Y => 
 a0 = .tuple ⟨[]⟩ ∧
 Ret B Y (R (.tuple ⟨[]⟩)))
 (fun l0 => CallK Tryz.prog 123 [.pointer (some l0)] B P [c] fun U W => 
 ∃ (j7 : Option Addr) (j8 j9 : Nat),U = .slice j7 j8 j9 ∧
 CallK Tryz.prog 120 [.slice j7 j8 j9,.pointer (some (⟨x.heap.size,0,none⟩ : Addr))] B W [c] fun a0 Y => 
 a0 = .tuple ⟨[]⟩ ∧
 Ret B Y (R (.tuple ⟨[]⟩))))
 else (if (d == 22) = true
 then (∃ l1 : Option Addr,P.cell? a = some (.pointer l1) ∧
 caseP l1
 (∃ l2 : Addr,Q = some l2 ∧ (0 : Int) ≤ 0 ∧ (0 : Int) < (S : Int) ∧
 ∃ l3 : Int,P.cell? (l2.add 0) = some (.int .u64 l3) ∧
 CallK Tryz.prog 124 [.pointer none,.int .i64 1,.int .u64 l3] B P [c] fun U W => 
 U = .tuple ⟨[]⟩ ∧
 Ret B W (R (.tuple ⟨[]⟩)))
 (fun l4 => ∃ l2 : Addr,Q = some l2 ∧ (0 : Int) ≤ 0 ∧ (0 : Int) < (S : Int) ∧
 ∃ l3 : Int,P.cell? (l2.add 0) = some (.int .u64 l3) ∧
 CallK Tryz.prog 124 [.pointer (some l4),.int .i64 1,.int .u64 l3] B P [c] fun U W => 
 U = .tuple ⟨[]⟩ ∧
 Ret B W (R (.tuple ⟨[]⟩))))
 else (if (d == 23) = true
 then (∃ l5 : Option Addr,P.cell? a = some (.pointer l5) ∧
 caseP l5
 (False)
 (fun l6 => ∃ l7 : Int,P.cell? (l6.add 5) = some (.int .u64 l7) ∧
 (∃ u_2,P.cell? ((l6.add 5).add 0) = some u_2) ∧ P.frozen? ((l6.add 5).add 0) = false ∧
 let W := P.setCell ((l6.add 5).add 0) (.int .u64 (IntKind.wrap .u64 (l7 + 1)));
 ∃ l8 : Option Addr,W.cell? a = some (.pointer l8) ∧
 caseP l8
 (False)
 (fun l9 => ∃ m0 : Int,W.cell? (l9.add 5) = some (.int .u64 m0) ∧
 CallK Tryz.prog 122 [.int .i64 f,.pointer (some (⟨x.heap.size,0,none⟩ : Addr)),.pointer (some a)] B W [c] fun U Y => 
 ∃ m2 : Option Addr,U = .pointer m2 ∧
 caseP m2
 (Y.cell? (l9.add 5) = some (.int .u64 m0) ∧ Y.cell? a = some (.pointer (some l9)) ∧ False)
 (fun m3 => Y.cell? (l9.add 5) = some (.int .u64 m0) ∧ Y.cell? a = some (.pointer (some l9)) ∧
 (∃ u_3,Y.cell? (m3.add 0) = some u_3) ∧ Y.frozen? (m3.add 0) = false ∧
 let Z := Y.setCell (m3.add 0) (.int .u64 m0);
 Ret B Z (R (.tuple ⟨[]⟩))))))
 else (if (d == 24) = true
 then (CallK Tryz.prog 122 [.int .i64 f,.pointer (some (⟨x.heap.size,0,none⟩ : Addr)),.pointer (some a)] B P [c] fun U W => 
 ∃ m4 : Option Addr,U = .pointer m4 ∧
 caseP m4
 (CallK Tryz.prog 122 [.int .i64 g,.pointer (some (⟨x.heap.size,0,none⟩ : Addr)),.pointer (some a)] B W [c] fun a0 Y => 
 ∃ m5 : Option Addr,a0 = .pointer m5 ∧
 caseP m5
 (False)
 (fun m6 => ∃ m7 : Int,Y.cell? m6 = some (.int .u64 m7) ∧ False))
 (fun m8 => CallK Tryz.prog 122 [.int .i64 g,.pointer (some (⟨x.heap.size,0,none⟩ : Addr)),.pointer (some a)] B W [c] fun a0 Y => 
 ∃ m5 : Option Addr,a0 = .pointer m5 ∧
 caseP m5
 (False)
 (fun m6 => ∃ m7 : Int,Y.cell? m6 = some (.int .u64 m7) ∧
 (∃ u_2,Y.cell? (m8.add 0) = some u_2) ∧ Y.frozen? (m8.add 0) = false ∧
 let Z := Y.setCell (m8.add 0) (.int .u64 m7);
 Ret B Z (R (.tuple ⟨[]⟩)))))
 else (if (d == 25) = true
 then (CallK Tryz.prog 122 [.int .i64 f,.pointer (some (⟨x.heap.size,0,none⟩ : Addr)),.pointer (some a)] B P [c] fun U W => 
 ∃ m9 : Option Addr,U = .pointer m9 ∧
 caseP m9
 (False)
 (fun n0 => (∃ u_2,W.cell? (n0.add 0) = some u_2) ∧ W.frozen? (n0.add 0) = false ∧
 let Y := W.setCell (n0.add 0) (.int .u64 0);
 Ret B Y (R (.tuple ⟨[]⟩))))
 else (if (d == 26) = true
 then (∃ n1 : Option Addr,P.cell? a = some (.pointer n1) ∧
 caseP n1
 (False)
 (fun n2 => (∃ u_2,P.cell? ((n2.add 4).add 0) = some u_2) ∧ P.frozen? ((n2.add 4).add 0) = false ∧
 let W := P.setCell ((n2.add 4).add 0) (.bool true);
 Ret B W (R (.tuple ⟨[]⟩))))
 else (if (d == 27) = true
 then (Ret B P (R (.tuple ⟨[]⟩)))
 else (∃ n3 : Addr,Q = some n3 ∧ (0 : Int) ≤ 0 ∧ (0 : Int) < (S : Int) ∧
 ∃ n4 : Int,P.cell? (n3.add 0) = some (.int .u64 n4) ∧
 ∃ n5 : Addr,Q = some n5 ∧ (0 : Int) ≤ 1 ∧ (1 : Int) < (S : Int) ∧
 ∃ n6 : Int,P.cell? (n5.add 1) = some (.int .u64 n6) ∧
 CallK Tryz.prog 107 [.int .i64 d,.int .u64 n4,.int .u64 n6] B P [c] fun U W => 
 ∃ n7 : Int,U = .int .u64 n7 ∧
 Expo B W [c] fun Y => 
 Hide [c] (Y.alloc (.cells ⟨[.int .u64 n7]⟩ 55)) fun Z => 
 CallK Tryz.prog 120 [.slice (some ⟨Y.heap.size,0,none⟩) 1 1,.pointer (some (⟨x.heap.size,0,none⟩ : Addr))] B Z [c] fun a0 a1 => 
 a0 = .tuple ⟨[]⟩ ∧
 Ret B a1 (R (.tuple ⟨[]⟩)))))))))))))))))))))))))
def V78.vc (B : Nat) (R : Value → World → Prop) (a : Addr) (w : World) : Prop :=
 Expo B w [] fun c => 
 let d := c.alloc (.cells ⟨[.pointer (some a)]⟩ 75);
 ∃ f : Option Addr,d.cell? (⟨c.heap.size,0,none⟩ : Addr) = some (.pointer f) ∧
 caseP f
 (CallK Tryz.prog 119 [.pointer none] B d [] fun v g => 
 ∃ i j l : Int,v = .agg ⟨[.int .i64 i,.int .i64 j,.int .i64 l]⟩ ∧
 ∀ m : Nat,g.heap.size ≤ m →
 V78.b0 B R (⟨c.heap.size,0,none⟩ : Addr) m i j l g)
 (fun n => CallK Tryz.prog 119 [.pointer (some n)] B d [] fun v g => 
 ∃ i j l : Int,v = .agg ⟨[.int .i64 i,.int .i64 j,.int .i64 l]⟩ ∧
 ∀ m : Nat,g.heap.size ≤ m →
 V78.b0 B R (⟨c.heap.size,0,none⟩ : Addr) m i j l g)
noncomputable def V78.cfg (B : Nat) : Cfg := ⟨Tryz.prog,⟨245,B⟩,[1,3],hasN [42,77,99,102,103,104,105,107,119,120,121,122,123,124],hasN [],look []⟩
noncomputable def V78.code : Code := (Tryz.f78.body).getD .skip
noncomputable def V78.cuts (B : Nat) (R : Value → World → Prop) : Nat → Cut := nthC [⟨[(1,.one (.ptr))],[(2,105,[.int .i64,.int .i64,.int .i64])],fun fs vs bs w => V78.b0 B R (pV (nthV vs 0)) (nthB bs 0).blk (iV (nthV (nthB bs 0).cells 0)) (iV (nthV (nthB bs 0).cells 1)) (iV (nthV (nthB bs 0).cells 2)) w⟩]
noncomputable def V78.h : H := .s (.z) (.cut 0 (.z) (.s (.r [[0,1,2,3,4,5,6,7,8,9,10,11,12]]) (.s (.z) (.s (.z) (.s (.z) (.s (.r [[0,1,2,3,4,5,6,7,8]]) (.s (.z) (.s (.z) (.b (.s (.z) (.c (.z) (.s (.z) (.c (.z) (.s (.z) (.c (.r [[0,1,2,3,4,5,6,7,8,9,10]]) (.s (.z) (.c (.r [[0,1,2,3,4,5,6,7,8,9,10]]) (.s (.z) (.c (.z) (.s (.z) (.c (.z) (.s (.z) (.c (.z) (.s (.z) (.c (.s (.z) (.c (.z) (.z))) (.s (.z) (.c (.z) (.s (.z) (.c (.r [[0,1,2,3,4,5,6,7,8,9,10]]) (.s (.z) (.c (.r [[0,1,2,3,4,5,6,7,8,9,10]]) (.s (.z) (.c (.s (.z) (.c (.r [[0,1,2,3,4,5,6,7,8]]) (.r [[0,1,2,3,4,5,6,7,8,9,10,11,12,13]]))) (.s (.z) (.c (.z) (.s (.z) (.c (.r [[0,1,2,3,4]]) (.s (.z) (.c (.s (.z) (.r [[0,1,2,4,5,6,7,3,8,9]])) (.s (.z) (.c (.r [[0,1,2,4,5,6,3,7,8,9,10,11]]) (.s (.z) (.c (.z) (.s (.z) (.c (.z) (.s (.z) (.c (.z) (.r [[0,1,2,3,4,5,6,7,8,9,10,11]]))))))))))))))))))))))))))))))))))))))))))))))))
theorem V78.vc_eq (B : Nat) (R : Value → World → Prop) (a : Addr) (w : World) : wpf (V78.cfg B) (V78.cuts B R) V78.code V78.h [] (postOf Tryz.prog B (Tryz.f78.results.toList) R) (argE 0 [.pointer (some a)]) [] w = V78.vc B R a w := by kernel_rfl
theorem V78.obl (B : Nat) (R : Value → World → Prop) : oblP (V78.cfg B) (V78.cuts B R) V78.code V78.h [] (postOf Tryz.prog B (Tryz.f78.results.toList) R) := by
 have e : oblP (V78.cfg B) (V78.cuts B R) V78.code V78.h [] (postOf Tryz.prog B (Tryz.f78.results.toList) R) = (True ∧ (True ∧ (∀ (a : Addr) (c : Nat) (d f g : Int) (w : World),V78.b0 B R a c d f g w → V78.b0 B R a c d f g w) ∧ ((true = true) ∧ (True ∧ (True ∧ (True ∧ ((true = true) ∧ (True ∧ (True ∧ (True ∧ (True ∧ (True ∧ (True ∧ (True ∧ ((true = true) ∧ (True ∧ ((true = true) ∧ (True ∧ (True ∧ (True ∧ (True ∧ (True ∧ (True ∧ (True ∧ ((True ∧ (True ∧ True)) ∧ (True ∧ (True ∧ (True ∧ ((true = true) ∧ (True ∧ ((true = true) ∧ (True ∧ ((True ∧ ((true = true) ∧ (true = true))) ∧ (True ∧ (True ∧ (True ∧ ((true = true) ∧ (True ∧ ((True ∧ (true = true)) ∧ (True ∧ ((true = true) ∧ (True ∧ (True ∧ (True ∧ (True ∧ (True ∧ (True ∧ (true = true)))))))))))))))))))))))))))))))))))))))))))))))) := by kernel_rfl
 exact e.mpr (⟨trivial,⟨trivial,fun a c d f g w h => h,⟨rfl,⟨trivial,⟨trivial,⟨trivial,⟨rfl,⟨trivial,⟨trivial,⟨trivial,⟨trivial,⟨trivial,⟨trivial,⟨trivial,⟨rfl,⟨trivial,⟨rfl,⟨trivial,⟨trivial,⟨trivial,⟨trivial,⟨trivial,⟨trivial,⟨trivial,⟨⟨trivial,⟨trivial,trivial⟩⟩,⟨trivial,⟨trivial,⟨trivial,⟨rfl,⟨trivial,⟨rfl,⟨trivial,⟨⟨trivial,⟨rfl,rfl⟩⟩,⟨trivial,⟨trivial,⟨trivial,⟨rfl,⟨trivial,⟨⟨trivial,rfl⟩,⟨trivial,⟨rfl,⟨trivial,⟨trivial,⟨trivial,⟨trivial,⟨trivial,⟨trivial,rfl⟩⟩⟩⟩⟩⟩⟩⟩⟩⟩⟩⟩⟩⟩⟩⟩⟩⟩⟩⟩⟩⟩⟩⟩⟩⟩⟩⟩⟩⟩⟩⟩⟩⟩⟩⟩⟩⟩⟩⟩⟩⟩⟩⟩⟩⟩⟩)
theorem V78.cfgOk (B : Nat) : CfgOk (V78.cfg B) := cfgOk_of (by kernel_rfl) (by kernel_rfl) extNil
theorem V78.sound {a : Addr} {w : World} {R : Value → World → Prop} (h : V78.vc w.heap.size R a w) : Calls Tryz.prog 78 ⟨[.pointer (some a)]⟩ w fun e w' => ∃ v,e = .returned v ∧ R v w' :=
 calls_wpfP (c := V78.cfg w.heap.size) (fn := Tryz.f78) (x := V78.code) (V78.cuts w.heap.size R) V78.h (V78.cfgOk _) mixed Tryz.func78 (by kernel_rfl) (by kernel_rfl) (by kernel_rfl) rfl (V78.obl _ _) ((V78.vc_eq _ _ a _).symm ▸ h)
def V120.vc (B : Nat) (R : Value → World → Prop) (a : Option Addr) (c d : Nat) (f : Addr) (w : World) : Prop :=
 ∃ g : Option Addr,w.cell? f = some (.pointer g) ∧
 caseP g
 (∃ i : Option Addr,w.cell? f = some (.pointer i) ∧
 caseP i
 (False)
 (fun j => ∃ (l : Option Addr) (m n : Nat),w.cell? (j.add 7) = some (.slice l m n) ∧
 RunK Tryz.prog (Builtin.append_ #[31,31] 31 ⟨[.slice l m n,.slice a c d]⟩) B w [] fun v o => 
 ∃ (p : Option Addr) (q r : Nat),v = .slice p q r ∧ o.cell? f = some (.pointer none) ∧ False))
 (fun s => ∃ i : Option Addr,w.cell? f = some (.pointer i) ∧
 caseP i
 (False)
 (fun j => ∃ (l : Option Addr) (m n : Nat),w.cell? (j.add 7) = some (.slice l m n) ∧
 RunK Tryz.prog (Builtin.append_ #[31,31] 31 ⟨[.slice l m n,.slice a c d]⟩) B w [] fun v o => 
 ∃ (p : Option Addr) (q r : Nat),v = .slice p q r ∧ o.cell? f = some (.pointer (some s)) ∧
 (∃ u,o.cell? ((s.add 7).add 0) = some u) ∧ o.frozen? ((s.add 7).add 0) = false ∧
 let t := o.setCell ((s.add 7).add 0) (.slice p q r);
 Ret B t (R (.tuple ⟨[]⟩))))
noncomputable def V120.cfg (B : Nat) : Cfg := ⟨Tryz.prog,⟨12,B⟩,[],hasN [],hasN [],look []⟩
noncomputable def V120.code : Code := (Tryz.f120.body).getD .skip
noncomputable def V120.cuts (B : Nat) (R : Value → World → Prop) : Nat → Cut := nthC []
noncomputable def V120.h : H := .r [[0,1,2,3,4,5,6,7,8,9]]
theorem V120.vc_eq (B : Nat) (R : Value → World → Prop) (a : Option Addr) (c d : Nat) (f : Addr) (w : World) : wpf (V120.cfg B) (V120.cuts B R) V120.code V120.h [] (postOf Tryz.prog B (Tryz.f120.results.toList) R) (argE 0 [.slice a c d,.pointer (some f)]) [] w = V120.vc B R a c d f w := by kernel_rfl
theorem V120.obl (B : Nat) (R : Value → World → Prop) : oblP (V120.cfg B) (V120.cuts B R) V120.code V120.h [] (postOf Tryz.prog B (Tryz.f120.results.toList) R) := by
 have e : oblP (V120.cfg B) (V120.cuts B R) V120.code V120.h [] (postOf Tryz.prog B (Tryz.f120.results.toList) R) = (true = true) := by kernel_rfl
 exact e.mpr (rfl)
theorem V120.cfgOk (B : Nat) : CfgOk (V120.cfg B) := cfgOk_of (by kernel_rfl) (by kernel_rfl) extNil
theorem V120.sound {a : Option Addr} {d f : Nat} {g : Addr} {w : World} {R : Value → World → Prop} (h : V120.vc w.heap.size R a d f g w) : Calls Tryz.prog 120 ⟨[.slice a d f,.pointer (some g)]⟩ w fun e w' => ∃ v,e = .returned v ∧ R v w' :=
 calls_wpfP (c := V120.cfg w.heap.size) (fn := Tryz.f120) (x := V120.code) (V120.cuts w.heap.size R) V120.h (V120.cfgOk _) mixed Tryz.func120 (by kernel_rfl) (by kernel_rfl) (by kernel_rfl) rfl (V120.obl _ _) ((V120.vc_eq _ _ a d f g _).symm ▸ h)
def V121.vc (B : Nat) (R : Value → World → Prop) (c : Int) (d : Addr) (w : World) : Prop :=
 ∃ f : Option Addr,w.cell? d = some (.pointer f) ∧
 caseP f
 (False)
 (fun g => ∃ (i : Option Addr) (j l : Nat),w.cell? (g.add 7) = some (.slice i j l) ∧
 ∃ m : Option Addr,w.cell? d = some (.pointer m) ∧
 caseP m
 (False)
 (fun n => ∃ (o : Option Addr) (p q : Nat),w.cell? (n.add 7) = some (.slice o p q) ∧ (0 : Int) ≤ IntKind.wrap .i64 ((j : Int) - c) ∧ IntKind.wrap .i64 ((j : Int) - c) ≤ (p : Int) ∧
 CallK Tryz.prog 100 [.slice (if q = (IntKind.wrap .i64 ((j : Int) - c)).toNat then o else Option.map (fun a => a.add ((IntKind.wrap .i64 ((j : Int) - c)).toNat)) o) (p - ((IntKind.wrap .i64 ((j : Int) - c)).toNat)) (q - ((IntKind.wrap .i64 ((j : Int) - c)).toNat))] B w [] fun v r => 
 ∃ (s : Option Addr) (t x : Nat),v = .slice s t x ∧
 ∃ y : Option Addr,r.cell? d = some (.pointer y) ∧
 caseP y
 (∃ z : Option Addr,r.cell? d = some (.pointer z) ∧
 caseP z
 (False)
 (fun A => ∃ (C : Option Addr) (D E : Nat),r.cell? (A.add 7) = some (.slice C D E) ∧ (0 : Int) ≤ IntKind.wrap .i64 ((j : Int) - c) ∧ IntKind.wrap .i64 ((j : Int) - c) ≤ (E : Int) ∧ False))
 (fun F => ∃ z : Option Addr,r.cell? d = some (.pointer z) ∧
 caseP z
 (False)
 (fun A => ∃ (C : Option Addr) (D E : Nat),r.cell? (A.add 7) = some (.slice C D E) ∧ (0 : Int) ≤ IntKind.wrap .i64 ((j : Int) - c) ∧ IntKind.wrap .i64 ((j : Int) - c) ≤ (E : Int) ∧
 (∃ u,r.cell? ((F.add 7).add 0) = some u) ∧ r.frozen? ((F.add 7).add 0) = false ∧
 let G := r.setCell ((F.add 7).add 0) (.slice (if E = 0 then C else Option.map (fun a => a.add 0) C) (((IntKind.wrap .i64 ((j : Int) - c)).toNat) - 0) (E - 0));
 Ret B G (R (.slice s t x))))))
noncomputable def V121.cfg (B : Nat) : Cfg := ⟨Tryz.prog,⟨30,B⟩,[],hasN [100],hasN [],look []⟩
noncomputable def V121.code : Code := (Tryz.f121.body).getD .skip
noncomputable def V121.cuts (B : Nat) (R : Value → World → Prop) : Nat → Cut := nthC []
noncomputable def V121.h : H := .s (.z) (.s (.z) (.s (.z) (.s (.r [[0,1,2,3,4,5,6,7,8,9]]) (.s (.z) (.z)))))
theorem V121.vc_eq (B : Nat) (R : Value → World → Prop) (a : Int) (c : Addr) (w : World) : wpf (V121.cfg B) (V121.cuts B R) V121.code V121.h [] (postOf Tryz.prog B (Tryz.f121.results.toList) R) (argE 0 [.int .i64 a,.pointer (some c)]) [] w = V121.vc B R a c w := by kernel_rfl
theorem V121.obl (B : Nat) (R : Value → World → Prop) : oblP (V121.cfg B) (V121.cuts B R) V121.code V121.h [] (postOf Tryz.prog B (Tryz.f121.results.toList) R) := by
 have e : oblP (V121.cfg B) (V121.cuts B R) V121.code V121.h [] (postOf Tryz.prog B (Tryz.f121.results.toList) R) = (True ∧ (True ∧ (True ∧ ((true = true) ∧ (True ∧ True))))) := by kernel_rfl
 exact e.mpr (⟨trivial,⟨trivial,⟨trivial,⟨rfl,⟨trivial,trivial⟩⟩⟩⟩⟩)
theorem V121.cfgOk (B : Nat) : CfgOk (V121.cfg B) := cfgOk_of (by kernel_rfl) (by kernel_rfl) extNil
theorem V121.sound {a : Int} {d : Addr} {w : World} {R : Value → World → Prop} (h : V121.vc w.heap.size R a d w) : Calls Tryz.prog 121 ⟨[.int .i64 a,.pointer (some d)]⟩ w fun e w' => ∃ v,e = .returned v ∧ R v w' :=
 calls_wpfP (c := V121.cfg w.heap.size) (fn := Tryz.f121) (x := V121.code) (V121.cuts w.heap.size R) V121.h (V121.cfgOk _) mixed Tryz.func121 (by kernel_rfl) (by kernel_rfl) (by kernel_rfl) rfl (V121.obl _ _) ((V121.vc_eq _ _ a d _).symm ▸ h)
def V122.vc (B : Nat) (R : Value → World → Prop) (a : Int) (c d : Addr) (w : World) : Prop :=
 ∃ f : Option Addr,w.cell? c = some (.pointer f) ∧
 caseP f
 (False)
 (fun g => ∃ (i : Option Addr) (j l : Nat),w.cell? (g.add 6) = some (.slice i j l) ∧
 ∃ m : Option Addr,w.cell? c = some (.pointer m) ∧
 caseP m
 (False)
 (fun n => ∃ (o : Option Addr) (p q : Nat),w.cell? (n.add 6) = some (.slice o p q) ∧
 ∃ r : Option Addr,w.cell? d = some (.pointer r) ∧
 caseP r
 (False)
 (fun s => ∃ (t : Option Addr) (u x : Nat),w.cell? ((s.add 0).add 0) = some (.slice t u x) ∧
 ∃ y : Option Addr,w.cell? c = some (.pointer y) ∧
 caseP y
 (False)
 (fun z => ∃ A : Int,w.cell? (z.add 0) = some (.int .i64 A) ∧
 ∃ C : Addr,t = some C ∧ (0 : Int) ≤ A ∧ A < (u : Int) ∧
 ∃ D : Int,w.cell? ((C.add (A.toNat * 4)).add 2) = some (.int .i64 D) ∧
 ∃ E : Addr,i = some E ∧ (0 : Int) ≤ IntKind.wrap .i64 (IntKind.wrap .i64 ((p : Int) - D) + a) ∧ IntKind.wrap .i64 (IntKind.wrap .i64 ((p : Int) - D) + a) < (j : Int) ∧
 Ret B w (R (.pointer (some (E.add ((IntKind.wrap .i64 (IntKind.wrap .i64 ((p : Int) - D) + a)).toNat)))))))))
noncomputable def V122.cfg (B : Nat) : Cfg := ⟨Tryz.prog,⟨30,B⟩,[],hasN [],hasN [],look []⟩
noncomputable def V122.code : Code := (Tryz.f122.body).getD .skip
noncomputable def V122.cuts (B : Nat) (R : Value → World → Prop) : Nat → Cut := nthC []
noncomputable def V122.h : H := .s (.z) (.s (.r [[0,1,2,3,4,5,6,7,8,9,10,11,12,13,14,15,16,17,18,19,20,21,22,23,24,25]]) (.z))
theorem V122.vc_eq (B : Nat) (R : Value → World → Prop) (a : Int) (c d : Addr) (w : World) : wpf (V122.cfg B) (V122.cuts B R) V122.code V122.h [] (postOf Tryz.prog B (Tryz.f122.results.toList) R) (argE 0 [.int .i64 a,.pointer (some c),.pointer (some d)]) [] w = V122.vc B R a c d w := by kernel_rfl
theorem V122.obl (B : Nat) (R : Value → World → Prop) : oblP (V122.cfg B) (V122.cuts B R) V122.code V122.h [] (postOf Tryz.prog B (Tryz.f122.results.toList) R) := by
 have e : oblP (V122.cfg B) (V122.cuts B R) V122.code V122.h [] (postOf Tryz.prog B (Tryz.f122.results.toList) R) = (True ∧ ((true = true) ∧ True)) := by kernel_rfl
 exact e.mpr (⟨trivial,⟨rfl,trivial⟩⟩)
theorem V122.cfgOk (B : Nat) : CfgOk (V122.cfg B) := cfgOk_of (by kernel_rfl) (by kernel_rfl) extNil
theorem V122.sound {a : Int} {d f : Addr} {w : World} {R : Value → World → Prop} (h : V122.vc w.heap.size R a d f w) : Calls Tryz.prog 122 ⟨[.int .i64 a,.pointer (some d),.pointer (some f)]⟩ w fun e w' => ∃ v,e = .returned v ∧ R v w' :=
 calls_wpfP (c := V122.cfg w.heap.size) (fn := Tryz.f122) (x := V122.code) (V122.cuts w.heap.size R) V122.h (V122.cfgOk _) mixed Tryz.func122 (by kernel_rfl) (by kernel_rfl) (by kernel_rfl) rfl (V122.obl _ _) ((V122.vc_eq _ _ a d f _).symm ▸ h)
end Go.Proofs.YtidcpndlloppdaaGreat
