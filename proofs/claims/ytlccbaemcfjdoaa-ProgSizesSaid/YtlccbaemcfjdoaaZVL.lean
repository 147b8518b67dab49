/-
  What the engine makes of the loaded functions 4, 6, 7, 8, 39: conditions under which a call returns as told, and proofs of that.
  Conditions: none. Printed by a program of this project.
-/
import Derived.Test.YtlccbaemcfjdoaaZVX
set_option linter.unusedVariables false
set_option maxRecDepth 100000
namespace Go.Proofs.Ytlccbaemcfjdoaa
def V4.b1 (B : Nat) (R : Value → World → Prop) (a c d : Int) (f : Nat) (g i j : Int) (l : Option Addr) (m n : Nat) (w : World) : Prop :=
  CallK Try.prog 32 [.agg ⟨[.int .i64 g, .int .i64 i, .int .i64 j, .slice l m n]⟩] B w [f] fun v o => 
  ∃ p : Int, v = .int .i64 p ∧
  if (p == d) = true
  then (CallK Try.prog 32 [.agg ⟨[.int .i64 a, .int .i64 i, .int .i64 c, .slice l m n]⟩] B o [f] fun q r => 
   ∃ s : Int, q = .int .i64 s ∧
   if (s == p) = true
   then (CallK Try.prog 34 [] B r [f] fun t u => 
    ∃ x : Bool, t = .bool x ∧
    Ret B u (R (.bool x)))
   else (Ret B r (R (.bool false))))
  else (Ret B o (R (.bool false)))
def V4.l0 (B : Nat) (R : Value → World → Prop) : Nat → Int → Int → Int → Int → Nat → Int → Int → Int → Option Addr → Nat → Nat → World → Prop
  | 0 => fun _ _ _ _ _ _ _ _ _ _ _ _ => False
  | k + 1 => fun a c d f g i j l m n o w =>
    if (decide (f < (n : Int))) = true
    then (∃ p : Addr, m = some p ∧ (0 : Int) ≤ f ∧ f < (n : Int) ∧
    ∃ q : Int, w.cell? ((p.add (f.toNat * 3)).add 0) = some (.int .i64 q) ∧
    if (q == 19) = true
     then (V4.b1 B R a c (IntKind.wrap .i64 (d + 16)) g i j l m n o w)
     else ((V4.l0 B R k) a c d (IntKind.wrap .i64 (f + 1)) g i j l m n o w))
    else (V4.b1 B R a c d g i j l m n o w)
def V4.vc (B : Nat) (R : Value → World → Prop) (a : Option Addr) (c d : Nat) (f g i : Int) (w : World) : Prop :=
  CallK Try.prog 35 [.slice a c d] B w [] fun v j => 
  ∃ (l : Option Addr) (m n : Nat), v = .agg ⟨[.slice l m n]⟩ ∧
  ∀ o : Nat, j.heap.size ≤ o → (m : Int) ≠ 0 ∧
  ∃ p : Addr, l = some p ∧ (0 : Int) ≤ Int.tmod (IntKind.wrap .i64 f) (m : Int) ∧ Int.tmod (IntKind.wrap .i64 f) (m : Int) < (m : Int) ∧
  ∃ q : Int, j.cell? ((p.add ((Int.tmod (IntKind.wrap .i64 f) (m : Int)).toNat * 4)).add 0) = some (.int .i64 q) ∧
  ∃ r : Int, j.cell? ((p.add ((Int.tmod (IntKind.wrap .i64 f) (m : Int)).toNat * 4)).add 1) = some (.int .i64 r) ∧
  ∃ s : Int, j.cell? ((p.add ((Int.tmod (IntKind.wrap .i64 f) (m : Int)).toNat * 4)).add 2) = some (.int .i64 s) ∧
  ∃ (t : Option Addr) (u x : Nat), j.cell? ((p.add ((Int.tmod (IntKind.wrap .i64 f) (m : Int)).toNat * 4)).add 3) = some (.slice t u x) ∧
  ∀ y : Nat, j.heap.size ≤ y → j.cell? ((p.add ((Int.tmod (IntKind.wrap .i64 f) (m : Int)).toNat * 4)).add 0) = some (.int .i64 q) ∧ j.cell? ((p.add ((Int.tmod (IntKind.wrap .i64 f) (m : Int)).toNat * 4)).add 1) = some (.int .i64 r) ∧ j.cell? ((p.add ((Int.tmod (IntKind.wrap .i64 f) (m : Int)).toNat * 4)).add 2) = some (.int .i64 s) ∧ j.cell? ((p.add ((Int.tmod (IntKind.wrap .i64 f) (m : Int)).toNat * 4)).add 3) = some (.slice t u x) ∧
  ∃ z, V4.l0 B R z g i (IntKind.wrap .i64 (15 + r)) 0 y q r s t u x j
noncomputable def V4.cfg (B : Nat) : Cfg := ⟨Try.prog, ⟨63, B⟩, [], hasN [32, 34, 35], hasN []⟩
noncomputable def V4.code : Code := (Try.f4.body).getD .skip
noncomputable def V4.cuts (B : Nat) (R : Value → World → Prop) : Nat → Cut := nthC [⟨[(2, .one (.int .i64)), (3, .one (.int .i64)), (11, .one (.int .i64)), (12, .one (.int .i64))], [(10, 29, [.int .i64, .int .i64, .int .i64, .slice])], fun fs vs bs w => V4.l0 B R (nthN fs 0) (iV (nthV vs 0)) (iV (nthV vs 1)) (iV (nthV vs 2)) (iV (nthV vs 3)) (nthB bs 0).blk (iV (nthV (nthB bs 0).cells 0)) (iV (nthV (nthB bs 0).cells 1)) (iV (nthV (nthB bs 0).cells 2)) (slA (nthV (nthB bs 0).cells 3)) (slL (nthV (nthB bs 0).cells 3)) (slC (nthV (nthB bs 0).cells 3)) w⟩,
  ⟨[(2, .one (.int .i64)), (3, .one (.int .i64)), (11, .one (.int .i64))], [(10, 29, [.int .i64, .int .i64, .int .i64, .slice])], fun fs vs bs w => V4.b1 B R (iV (nthV vs 0)) (iV (nthV vs 1)) (iV (nthV vs 2)) (nthB bs 0).blk (iV (nthV (nthB bs 0).cells 0)) (iV (nthV (nthB bs 0).cells 1)) (iV (nthV (nthB bs 0).cells 2)) (slA (nthV (nthB bs 0).cells 3)) (slL (nthV (nthB bs 0).cells 3)) (slC (nthV (nthB bs 0).cells 3)) w⟩]
noncomputable def V4.h : H := .s (.z) (.s (.z) (.s (.r [[0, 1, 2, 3, 4, 5, 6, 7, 8, 9, 10, 11]]) (.s (.z) (.cut 1 (.s (.z) (.b (.l 0 (.s (.s (.z) (.c (.z) (.z))) (.s (.b (.s (.z) (.c (.s (.z) (.z)) (.z)))) (.z)))))) (.s (.z) (.s (.z) (.s (.z) (.z))))))))
theorem V4.vc_eq (B : Nat) (R : Value → World → Prop) (a : Option Addr) (c d : Nat) (f g i : Int) (w : World) : wpf (V4.cfg B) (V4.cuts B R) V4.code V4.h [] (postOf Try.prog B (Try.f4.results.toList) R) (argE 0 [.slice a c d, .int .u8 f, .int .i64 g, .int .i64 i]) [] w = V4.vc B R a c d f g i w := by kernel_rfl
theorem V4.obl (B : Nat) (R : Value → World → Prop) : oblP (V4.cfg B) (V4.cuts B R) V4.code V4.h [] (postOf Try.prog B (Try.f4.results.toList) R) := by
  have e : oblP (V4.cfg B) (V4.cuts B R) V4.code V4.h [] (postOf Try.prog B (Try.f4.results.toList) R) = (True ∧ (True ∧ ((true = true) ∧ (True ∧ ((True ∧ ((∀ (a c d f : Int) (g : Nat) (i j l : Int) (m : Option Addr) (n o : Nat) (w : World), ¬ V4.l0 B R 0 a c d f g i j l m n o w) ∧ (∀ p, ∀ (a c d f : Int) (g : Nat) (i j l : Int) (m : Option Addr) (n o : Nat) (w : World), V4.l0 B R (p + 1) a c d f g i j l m n o w → V4.l0 B R (p + 1) a c d f g i j l m n o w) ∧ ∀ p : Nat, ((True ∧ (True ∧ True)) ∧ ((True ∧ ((True ∧ True) ∧ True)) ∧ True)))) ∧ (∀ (a c d : Int) (g : Nat) (i j l : Int) (m : Option Addr) (n o : Nat) (w : World), V4.b1 B R a c d g i j l m n o w → V4.b1 B R a c d g i j l m n o w) ∧ (True ∧ (True ∧ (True ∧ True)))))))) := by kernel_rfl
  rw [e]
  exact ⟨trivial, ⟨trivial, ⟨rfl, ⟨trivial, ⟨⟨trivial, ⟨fun a c d f g i j l m n o w h => h, fun _ a c d f g i j l m n o w h => h, fun p => ⟨⟨trivial, ⟨trivial, trivial⟩⟩, ⟨⟨trivial, ⟨⟨trivial, trivial⟩, trivial⟩⟩, trivial⟩⟩⟩⟩, fun a c d g i j l m n o w h => h, ⟨trivial, ⟨trivial, ⟨trivial, trivial⟩⟩⟩⟩⟩⟩⟩⟩
theorem V4.cfgOk (B : Nat) : CfgOk (V4.cfg B) := cfgOk_of (by kernel_rfl) (by kernel_rfl)
theorem V4.sound {a : Option Addr} {d f : Nat} {g i j : Int} {w : World} {R : Value → World → Prop} (h : V4.vc w.heap.size R a d f g i j w) : Calls Try.prog 4 ⟨[.slice a d f, .int .u8 g, .int .i64 i, .int .i64 j]⟩ w fun e w' => ∃ v, e = .returned v ∧ R v w' :=
  calls_wpfP (c := V4.cfg w.heap.size) (fn := Try.f4) (x := V4.code) (V4.cuts w.heap.size R) V4.h (V4.cfgOk _) mixed Try.func4 (by kernel_rfl) (by kernel_rfl) (by kernel_rfl) rfl (V4.obl _ _) ((V4.vc_eq _ _ a d f g i j _).symm ▸ h)
end Go.Proofs.Ytlccbaemcfjdoaa
