/-
  What the engine makes of the loaded functions 42, 44, 52, 54, 94, 105, 59: conditions under which a call returns as told, and proofs of that.
  Conditions: none. Printed by a program of this project.
-/
import Derived.Test.YtlccbaemcfjdoaaWB
set_option linter.unusedVariables false
set_option maxRecDepth 100000
namespace Go.Proofs.Ytlccbaemcfjdoaa

/-! function 42 -/
def V42n.l0 (B : Nat) (R : Value → World → Prop) : Nat → Option Addr → Nat → Nat → Int → Int → Int → Int → Int → Int → Nat → Int → Int → Int → Int → Bool → Int → Int → Int → World → Prop
  | 0 => fun _ _ _ _ _ _ _ _ _ _ _ _ _ _ _ _ _ _ _ => False
  | k + 1 => fun w6 w6l w6c mode8 x37 x37_1 x37_2 x37_3 x38 q4 x4 x4_1 x4_2 x4_3 b4 x4_4 x4_5 x4_6 w =>
    if (decide (x38 < 4)) = true
    then ((0 : Int) ≤ x38 ∧ x38 < 4 ∧
    ∃ p43 : Addr, w6 = some p43 ∧ (0 : Int) ≤ ([x37, x37_1, x37_2, x37_3] : List Int).getD x38.toNat 0 ∧ ([x37, x37_1, x37_2, x37_3] : List Int).getD x38.toNat 0 < (w6l : Int) ∧
    ∃ x44 : Int, w.cell? (p43.add ((([x37, x37_1, x37_2, x37_3] : List Int).getD x38.toNat 0).toNat)) = some (.int .u64 x44) ∧
    if (decide (x44 > 2147483648)) = true
     then (Ret B w (R (.tuple ⟨[.agg ⟨[.int .i64 0, .int .i64 0, .int .i64 0, .int .i64 0, .bool false, .int .u64 0, .int .i64 0, .int .i64 0]⟩, .int .i64 6]⟩)))
     else ((V42n.l0 B R k) w6 w6l w6c mode8 x37 x37_1 x37_2 x37_3 (IntKind.wrap .i64 (x38 + 1)) q4 x4 x4_1 x4_2 x4_3 b4 x4_4 x4_5 x4_6 w))
    else (∃ p49 : Addr, w6 = some p49 ∧ (0 : Int) ≤ 0 ∧ (0 : Int) < (w6l : Int) ∧
    ∃ x50 : Int, w.cell? (p49.add 0) = some (.int .u64 x50) ∧
    ∃ p54 : Addr, w6 = some p54 ∧ (0 : Int) ≤ 1 ∧ (1 : Int) < (w6l : Int) ∧
    ∃ x55 : Int, w.cell? (p54.add 1) = some (.int .u64 x55) ∧
    ∃ p58 : Addr, w6 = some p58 ∧ (0 : Int) ≤ 2 ∧ (2 : Int) < (w6l : Int) ∧
    ∃ x59 : Int, w.cell? (p58.add 2) = some (.int .u64 x59) ∧
    ∃ p64 : Addr, w6 = some p64 ∧ (0 : Int) ≤ 3 ∧ (3 : Int) < (w6l : Int) ∧
    ∃ x65 : Int, w.cell? (p64.add 3) = some (.int .u64 x65) ∧
    ∃ p69 : Addr, w6 = some p69 ∧ (0 : Int) ≤ 4 ∧ (4 : Int) < (w6l : Int) ∧
    ∃ x70 : Int, w.cell? (p69.add 4) = some (.int .u64 x70) ∧
    ∃ p72 : Addr, w6 = some p72 ∧ (0 : Int) ≤ 5 ∧ (5 : Int) < (w6l : Int) ∧
    ∃ x73 : Int, w.cell? (p72.add 5) = some (.int .u64 x73) ∧
    ∃ p76 : Addr, w6 = some p76 ∧ (0 : Int) ≤ 6 ∧ (6 : Int) < (w6l : Int) ∧
    ∃ x77 : Int, w.cell? (p76.add 6) = some (.int .u64 x77) ∧
    Ret B w (R (.tuple ⟨[.agg ⟨[.int .i64 (IntKind.wrap .i64 (IntKind.wrap .i64 x50 - 1)), .int .i64 (IntKind.wrap .i64 x55), .int .i64 (IntKind.wrap .i64 x59), .int .i64 (IntKind.wrap .i64 mode8), .bool (x65 != mode8), .int .u64 x70, .int .i64 (IntKind.wrap .i64 x73), .int .i64 (IntKind.wrap .i64 x77)]⟩, .int .i64 0]⟩)))
def V42n.vc (B : Nat) (R : Value → World → Prop) (at1 : Int) (w : World) : Prop :=
  ∀ q4 : Nat, w.heap.size ≤ q4 →
CallK Try.prog 94 [.pointer none, .int .i64 at1, .int .i64 7] B w [q4] fun v w_1 => 
  ∃ (A14 : Option Addr) (A14l A14c : Nat) (x14 : Int), v = .tuple ⟨[.slice A14 A14l A14c, .int .i64 x14]⟩ ∧
  if (x14 != 0) = true
  then (Ret B w_1 (R (.tuple ⟨[.agg ⟨[.int .i64 0, .int .i64 0, .int .i64 0, .int .i64 0, .bool false, .int .u64 0, .int .i64 0, .int .i64 0]⟩, .int .i64 x14]⟩)))
  else (∃ p22 : Addr, A14 = some p22 ∧ (0 : Int) ≤ 3 ∧ (3 : Int) < (A14l : Int) ∧
  ∃ x23 : Int, w_1.cell? (p22.add 3) = some (.int .u64 x23) ∧
  ∃ p26 : Addr, A14 = some p26 ∧ (0 : Int) ≤ 0 ∧ (0 : Int) < (A14l : Int) ∧
  ∃ x27 : Int, w_1.cell? (p26.add 0) = some (.int .u64 x27) ∧
  CallK Try.prog 93 [.pointer none] B w_1 [q4] fun v_1 w_2 => 
   ∃ x29 : Int, v_1 = .int .i64 x29 ∧ w_2.cell? (p26.add 0) = some (.int .u64 x27) ∧
   if (decide (x27 > IntKind.wrap .u64 x29)) = false
   then (if (decide (IntKind.wrap .u64 (((BitVec.ofInt 64 x23 &&& ~~~ BitVec.ofInt 64 4).toNat : Nat) : Int) > 2)) = true
    then (Ret B w_2 (R (.tuple ⟨[.agg ⟨[.int .i64 0, .int .i64 0, .int .i64 0, .int .i64 0, .bool false, .int .u64 0, .int .i64 0, .int .i64 0]⟩, .int .i64 6]⟩)))
    else (∃ k_1, V42n.l0 B R k_1 A14 A14l A14c (IntKind.wrap .u64 (((BitVec.ofInt 64 x23 &&& ~~~ BitVec.ofInt 64 4).toNat : Nat) : Int)) 1 2 5 6 0 q4 0 0 0 0 false 0 0 0 w_2))
   else (Ret B w_2 (R (.tuple ⟨[.agg ⟨[.int .i64 0, .int .i64 0, .int .i64 0, .int .i64 0, .bool false, .int .u64 0, .int .i64 0, .int .i64 0]⟩, .int .i64 6]⟩))))
noncomputable def V42n.cfg (B : Nat) : Cfg := ⟨Try.prog, ⟨80, B⟩, [], hasN [93, 94], hasN []⟩
noncomputable def V42n.code : Code := (Try.f42.body).getD .skip
noncomputable def V42n.cuts (B : Nat) (R : Value → World → Prop) : Nat → Cut := nthC [⟨[(6, .one (.slice)), (8, .one (.int .u64)), (37, .agg [.int .i64, .int .i64, .int .i64, .int .i64]), (38, .one (.int .i64))], [(4, 53, [.int .i64, .int .i64, .int .i64, .int .i64, .bool, .int .u64, .int .i64, .int .i64])], fun fs vs bs w => V42n.l0 B R (nthN fs 0) (slA (nthV vs 0)) (slL (nthV vs 0)) (slC (nthV vs 0)) (iV (nthV vs 1)) (iV (nthV (cellsOfV (nthV vs 2)) 0)) (iV (nthV (cellsOfV (nthV vs 2)) 1)) (iV (nthV (cellsOfV (nthV vs 2)) 2)) (iV (nthV (cellsOfV (nthV vs 2)) 3)) (iV (nthV vs 3)) (nthB bs 0).blk (iV (nthV (nthB bs 0).cells 0)) (iV (nthV (nthB bs 0).cells 1)) (iV (nthV (nthB bs 0).cells 2)) (iV (nthV (nthB bs 0).cells 3)) (bV (nthV (nthB bs 0).cells 4)) (iV (nthV (nthB bs 0).cells 5)) (iV (nthV (nthB bs 0).cells 6)) (iV (nthV (nthB bs 0).cells 7)) w⟩]
noncomputable def V42n.h : H := .s (.z) (.s (.z) (.s (.s (.z) (.c (.s (.z) (.z)) (.z))) (.s (.z) (.s (.s (.r [[0, 1, 2, 3, 4, 5, 6, 7, 8, 9, 10]]) (.c (.s (.z) (.z)) (.z))) (.s (.s (.z) (.b (.l 0 (.s (.z) (.s (.c (.z) (.z)) (.s (.b (.s (.z) (.s (.z) (.c (.s (.z) (.z)) (.z))))) (.z))))))) (.s (.r [[0, 1, 2, 3, 4, 5, 6, 7, 8, 9, 10, 11, 12, 13, 14, 15, 16, 17, 18, 19, 20, 21, 22, 23, 24, 25, 26, 27, 28, 29, 30, 31, 32, 33]]) (.z)))))))
theorem V42n.vc_eq (B : Nat) (R : Value → World → Prop) (at1 : Int) (w : World) : wpf (V42n.cfg B) (V42n.cuts B R) V42n.code V42n.h [] (postOf Try.prog B (Try.f42.results.toList) R) (argE 0 [.pointer none, .int .i64 at1]) [] w = V42n.vc B R at1 w := by kernel_rfl
theorem V42n.obl (B : Nat) (R : Value → World → Prop) : oblP (V42n.cfg B) (V42n.cuts B R) V42n.code V42n.h [] (postOf Try.prog B (Try.f42.results.toList) R) := by
  have e : oblP (V42n.cfg B) (V42n.cuts B R) V42n.code V42n.h [] (postOf Try.prog B (Try.f42.results.toList) R) = (True ∧ (True ∧ ((True ∧ ((True ∧ True) ∧ True)) ∧ (True ∧ (((true = true) ∧ ((True ∧ True) ∧ True)) ∧ ((True ∧ ((∀ (w6 : Option Addr) (w6l w6c : Nat) (mode8 x37 x37_1 x37_2 x37_3 x38 : Int) (q4 : Nat) (x4 x4_1 x4_2 x4_3 : Int) (b4 : Bool) (x4_4 x4_5 x4_6 : Int) (w : World), ¬ V42n.l0 B R 0 w6 w6l w6c mode8 x37 x37_1 x37_2 x37_3 x38 q4 x4 x4_1 x4_2 x4_3 b4 x4_4 x4_5 x4_6 w) ∧ (∀ k0, ∀ (w6 : Option Addr) (w6l w6c : Nat) (mode8 x37 x37_1 x37_2 x37_3 x38 : Int) (q4 : Nat) (x4 x4_1 x4_2 x4_3 : Int) (b4 : Bool) (x4_4 x4_5 x4_6 : Int) (w : World), V42n.l0 B R (k0 + 1) w6 w6l w6c mode8 x37 x37_1 x37_2 x37_3 x38 q4 x4 x4_1 x4_2 x4_3 b4 x4_4 x4_5 x4_6 w → V42n.l0 B R (k0 + 1) w6 w6l w6c mode8 x37 x37_1 x37_2 x37_3 x38 q4 x4 x4_1 x4_2 x4_3 b4 x4_4 x4_5 x4_6 w) ∧ ∀ k0 : Nat, (True ∧ ((True ∧ True) ∧ ((True ∧ (True ∧ ((True ∧ True) ∧ True))) ∧ True))))) ∧ ((true = true) ∧ True))))))) := by kernel_rfl
  rw [e]
  exact ⟨trivial, ⟨trivial, ⟨⟨trivial, ⟨⟨trivial, trivial⟩, trivial⟩⟩, ⟨trivial, ⟨⟨rfl, ⟨⟨trivial, trivial⟩, trivial⟩⟩, ⟨⟨trivial, ⟨fun w6 w6l w6c mode8 x37 x37_1 x37_2 x37_3 x38 q4 x4 x4_1 x4_2 x4_3 b4 x4_4 x4_5 x4_6 w h => h, fun _ w6 w6l w6c mode8 x37 x37_1 x37_2 x37_3 x38 q4 x4 x4_1 x4_2 x4_3 b4 x4_4 x4_5 x4_6 w h => h, fun k0 => ⟨trivial, ⟨⟨trivial, trivial⟩, ⟨⟨trivial, ⟨trivial, ⟨⟨trivial, trivial⟩, trivial⟩⟩⟩, trivial⟩⟩⟩⟩⟩, ⟨rfl, trivial⟩⟩⟩⟩⟩⟩⟩
theorem V42n.cfgOk (B : Nat) : CfgOk (V42n.cfg B) := cfgOk_of (by kernel_rfl) (by kernel_rfl)
theorem V42n.sound {at1 : Int} {w : World} {R : Value → World → Prop} (h : V42n.vc w.heap.size R at1 w) : Calls Try.prog 42 ⟨[.pointer none, .int .i64 at1]⟩ w fun e w' => ∃ v, e = .returned v ∧ R v w' :=
  calls_wpfP (c := V42n.cfg w.heap.size) (fn := Try.f42) (x := V42n.code) (V42n.cuts w.heap.size R) V42n.h (V42n.cfgOk _) mixed Try.func42 (by kernel_rfl) (by kernel_rfl) (by kernel_rfl) rfl (V42n.obl _ _) ((V42n.vc_eq _ _ at1 _).symm ▸ h)

/-! function 44 -/
def V44n.vc (B : Nat) (R : Value → World → Prop) (at1 h2 h2_1 h2_2 h2_3 : Int) (h2_4 : Bool) (h2_5 h2_6 h2_7 : Int) (w : World) : Prop :=
  ∀ q5 : Nat, w.heap.size ≤ q5 →
Ret B w (R (.int .i64 2))
noncomputable def V44n.cfg (B : Nat) : Cfg := ⟨Try.prog, ⟨97, B⟩, [], hasN [], hasN []⟩
noncomputable def V44n.code : Code := (Try.f44.body).getD .skip
noncomputable def V44n.cuts (B : Nat) (R : Value → World → Prop) : Nat → Cut := nthC []
noncomputable def V44n.h : H := .s (.z) (.s (.s (.z) (.c (.s (.z) (.z)) (.z))) (.s (.s (.z) (.s (.z) (.c (.s (.z) (.z)) (.z)))) (.s (.s (.z) (.c (.s (.z) (.z)) (.z))) (.s (.s (.z) (.b (.z))) (.s (.z) (.s (.s (.z) (.c (.z) (.z))) (.s (.s (.z) (.b (.z))) (.s (.z) (.z)))))))))
theorem V44n.vc_eq (B : Nat) (R : Value → World → Prop) (at1 h2 h2_1 h2_2 h2_3 : Int) (h2_4 : Bool) (h2_5 h2_6 h2_7 : Int) (w : World) : wpf (V44n.cfg B) (V44n.cuts B R) V44n.code V44n.h [] (postOf Try.prog B (Try.f44.results.toList) R) (argE 0 [.pointer none, .int .i64 at1, .agg ⟨[.int .i64 h2, .int .i64 h2_1, .int .i64 h2_2, .int .i64 h2_3, .bool h2_4, .int .u64 h2_5, .int .i64 h2_6, .int .i64 h2_7]⟩]) [] w = V44n.vc B R at1 h2 h2_1 h2_2 h2_3 h2_4 h2_5 h2_6 h2_7 w := by kernel_rfl
theorem V44n.obl (B : Nat) (R : Value → World → Prop) : oblP (V44n.cfg B) (V44n.cuts B R) V44n.code V44n.h [] (postOf Try.prog B (Try.f44.results.toList) R) := by
  have e : oblP (V44n.cfg B) (V44n.cuts B R) V44n.code V44n.h [] (postOf Try.prog B (Try.f44.results.toList) R) = (True ∧ ((True ∧ ((True ∧ True) ∧ True)) ∧ ((True ∧ (True ∧ ((True ∧ True) ∧ True))) ∧ ((True ∧ ((True ∧ True) ∧ True)) ∧ ((True ∧ True) ∧ (True ∧ ((True ∧ (True ∧ True)) ∧ ((True ∧ True) ∧ (True ∧ True))))))))) := by kernel_rfl
  rw [e]
  exact ⟨trivial, ⟨⟨trivial, ⟨⟨trivial, trivial⟩, trivial⟩⟩, ⟨⟨trivial, ⟨trivial, ⟨⟨trivial, trivial⟩, trivial⟩⟩⟩, ⟨⟨trivial, ⟨⟨trivial, trivial⟩, trivial⟩⟩, ⟨⟨trivial, trivial⟩, ⟨trivial, ⟨⟨trivial, ⟨trivial, trivial⟩⟩, ⟨⟨trivial, trivial⟩, ⟨trivial, trivial⟩⟩⟩⟩⟩⟩⟩⟩⟩
theorem V44n.cfgOk (B : Nat) : CfgOk (V44n.cfg B) := cfgOk_of (by kernel_rfl) (by kernel_rfl)
theorem V44n.sound {at1 h2 h2_1 h2_2 h2_3 : Int} {h2_4 : Bool} {h2_5 h2_6 h2_7 : Int} {w : World} {R : Value → World → Prop} (h : V44n.vc w.heap.size R at1 h2 h2_1 h2_2 h2_3 h2_4 h2_5 h2_6 h2_7 w) : Calls Try.prog 44 ⟨[.pointer none, .int .i64 at1, .agg ⟨[.int .i64 h2, .int .i64 h2_1, .int .i64 h2_2, .int .i64 h2_3, .bool h2_4, .int .u64 h2_5, .int .i64 h2_6, .int .i64 h2_7]⟩]⟩ w fun e w' => ∃ v, e = .returned v ∧ R v w' :=
  calls_wpfP (c := V44n.cfg w.heap.size) (fn := Try.f44) (x := V44n.code) (V44n.cuts w.heap.size R) V44n.h (V44n.cfgOk _) mixed Try.func44 (by kernel_rfl) (by kernel_rfl) (by kernel_rfl) rfl (V44n.obl _ _) ((V44n.vc_eq _ _ at1 h2 h2_1 h2_2 h2_3 h2_4 h2_5 h2_6 h2_7 _).symm ▸ h)

/-! function 52 -/
def V52n.vc (B : Nat) (R : Value → World → Prop) (p1 : Option Addr) (p1l p1c : Nat) (at2 under3 x4 x4_1 x4_2 : Int) (x4_3 : Bool) (x4_4 : Int) (x4_5 : Option Addr) (x4_5l x4_5c : Nat) (x4_6 : Option Addr) (x4_6l x4_6c : Nat) (x4_7 : Option Addr) (x4_7l x4_7c : Nat) (w : World) : Prop :=
  ∀ q6 : Nat, w.heap.size ≤ q6 →
∀ q9 : Nat, w.heap.size ≤ q9 →
Ret B w (R (.int .i64 2))
noncomputable def V52n.cfg (B : Nat) : Cfg := ⟨Try.prog, ⟨120, B⟩, [], hasN [], hasN []⟩
noncomputable def V52n.code : Code := (Try.f52.body).getD .skip
noncomputable def V52n.cuts (B : Nat) (R : Value → World → Prop) : Nat → Cut := nthC []
noncomputable def V52n.h : H := .s (.z) (.s (.s (.z) (.c (.s (.z) (.z)) (.z))) (.s (.s (.z) (.c (.s (.z) (.z)) (.z))) (.s (.z) (.s (.s (.z) (.s (.z) (.c (.s (.z) (.z)) (.z)))) (.s (.z) (.s (.s (.z) (.b (.z))) (.s (.z) (.s (.z) (.s (.z) (.s (.z) (.z)))))))))))
theorem V52n.vc_eq (B : Nat) (R : Value → World → Prop) (p1 : Option Addr) (p1l p1c : Nat) (at2 under3 x4 x4_1 x4_2 : Int) (x4_3 : Bool) (x4_4 : Int) (x4_5 : Option Addr) (x4_5l x4_5c : Nat) (x4_6 : Option Addr) (x4_6l x4_6c : Nat) (x4_7 : Option Addr) (x4_7l x4_7c : Nat) (w : World) : wpf (V52n.cfg B) (V52n.cuts B R) V52n.code V52n.h [] (postOf Try.prog B (Try.f52.results.toList) R) (argE 0 [.pointer none, .agg ⟨[.slice p1 p1l p1c]⟩, .int .i64 at2, .int .i64 under3, .agg ⟨[.int .i64 x4, .int .i64 x4_1, .int .i64 x4_2, .bool x4_3, .int .u64 x4_4, .slice x4_5 x4_5l x4_5c, .slice x4_6 x4_6l x4_6c, .slice x4_7 x4_7l x4_7c]⟩]) [] w = V52n.vc B R p1 p1l p1c at2 under3 x4 x4_1 x4_2 x4_3 x4_4 x4_5 x4_5l x4_5c x4_6 x4_6l x4_6c x4_7 x4_7l x4_7c w := by kernel_rfl
theorem V52n.obl (B : Nat) (R : Value → World → Prop) : oblP (V52n.cfg B) (V52n.cuts B R) V52n.code V52n.h [] (postOf Try.prog B (Try.f52.results.toList) R) := by
  have e : oblP (V52n.cfg B) (V52n.cuts B R) V52n.code V52n.h [] (postOf Try.prog B (Try.f52.results.toList) R) = (True ∧ ((True ∧ ((True ∧ True) ∧ True)) ∧ ((True ∧ ((True ∧ True) ∧ True)) ∧ (True ∧ ((True ∧ (True ∧ ((True ∧ True) ∧ True))) ∧ (True ∧ ((True ∧ True) ∧ (True ∧ (True ∧ (True ∧ (True ∧ True))))))))))) := by kernel_rfl
  rw [e]
  exact ⟨trivial, ⟨⟨trivial, ⟨⟨trivial, trivial⟩, trivial⟩⟩, ⟨⟨trivial, ⟨⟨trivial, trivial⟩, trivial⟩⟩, ⟨trivial, ⟨⟨trivial, ⟨trivial, ⟨⟨trivial, trivial⟩, trivial⟩⟩⟩, ⟨trivial, ⟨⟨trivial, trivial⟩, ⟨trivial, ⟨trivial, ⟨trivial, ⟨trivial, trivial⟩⟩⟩⟩⟩⟩⟩⟩⟩⟩⟩
theorem V52n.cfgOk (B : Nat) : CfgOk (V52n.cfg B) := cfgOk_of (by kernel_rfl) (by kernel_rfl)
theorem V52n.sound {p1 : Option Addr} {p1l p1c : Nat} {at2 under3 x4 x4_1 x4_2 : Int} {x4_3 : Bool} {x4_4 : Int} {x4_5 : Option Addr} {x4_5l x4_5c : Nat} {x4_6 : Option Addr} {x4_6l x4_6c : Nat} {x4_7 : Option Addr} {x4_7l x4_7c : Nat} {w : World} {R : Value → World → Prop} (h : V52n.vc w.heap.size R p1 p1l p1c at2 under3 x4 x4_1 x4_2 x4_3 x4_4 x4_5 x4_5l x4_5c x4_6 x4_6l x4_6c x4_7 x4_7l x4_7c w) : Calls Try.prog 52 ⟨[.pointer none, .agg ⟨[.slice p1 p1l p1c]⟩, .int .i64 at2, .int .i64 under3, .agg ⟨[.int .i64 x4, .int .i64 x4_1, .int .i64 x4_2, .bool x4_3, .int .u64 x4_4, .slice x4_5 x4_5l x4_5c, .slice x4_6 x4_6l x4_6c, .slice x4_7 x4_7l x4_7c]⟩]⟩ w fun e w' => ∃ v, e = .returned v ∧ R v w' :=
  calls_wpfP (c := V52n.cfg w.heap.size) (fn := Try.f52) (x := V52n.code) (V52n.cuts w.heap.size R) V52n.h (V52n.cfgOk _) mixed Try.func52 (by kernel_rfl) (by kernel_rfl) (by kernel_rfl) rfl (V52n.obl _ _) ((V52n.vc_eq _ _ p1 p1l p1c at2 under3 x4 x4_1 x4_2 x4_3 x4_4 x4_5 x4_5l x4_5c x4_6 x4_6l x4_6c x4_7 x4_7l x4_7c _).symm ▸ h)

/-! function 54 -/
def V54n.l1 (B : Nat) (R : Value → World → Prop) : Nat → Int → Option Addr → Nat → Nat → Int → Int → Nat → Int → Int → Int → Bool → Int → Option Addr → Nat → Nat → Option Addr → Nat → Nat → Option Addr → Nat → Nat → Nat → Int → Int → Int → Option Addr → Nat → Nat → Nat → Int → Int → Int → Int → Bool → Int → Int → Int → Nat → Int → Int → Int → Bool → Int → Option Addr → Nat → Nat → Option Addr → Nat → Nat → Option Addr → Nat → Nat → Nat → Option Addr → Nat → Nat → World → Prop
  | 0 => fun _ _ _ _ _ _ _ _ _ _ _ _ _ _ _ _ _ _ _ _ _ _ _ _ _ _ _ _ _ _ _ _ _ _ _ _ _ _ _ _ _ _ _ _ _ _ _ _ _ _ _ _ _ _ _ _ _ => False
  | k + 1 => fun ahead13 w15 w15l w15c x95 x96 q16 x16 x16_1 x16_2 x16_3 x16_4 x16_5 x16_5l x16_5c x16_6 x16_6l x16_6c x16_7 x16_7l x16_7c q11 f11 f11_1 f11_2 f11_3 f11_3l f11_3c q9 h9 h9_1 h9_2 h9_3 h9_4 h9_5 h9_6 h9_7 q6 x6 x6_1 x6_2 b6 x6_3 A6 A6l A6c A6_1 A6_1l A6_1c A6_2 A6_2l A6_2c q4 p4 p4l p4c w =>
    if (decide (x96 < x95)) = true
    then ((0 : Int) ≤ IntKind.wrap .i64 (7 + IntKind.wrap .i64 (x96 * 4)) ∧ IntKind.wrap .i64 (7 + IntKind.wrap .i64 (x96 * 4)) ≤ (w15l : Int) ∧ (0 : Int) ≤ 4 ∧ (4 : Int) ≤ ((w15c - ((IntKind.wrap .i64 (7 + IntKind.wrap .i64 (x96 * 4))).toNat) : Nat) : Int) ∧
    ∃ p106 : Addr, (if w15c - ((IntKind.wrap .i64 (7 + IntKind.wrap .i64 (x96 * 4))).toNat) = 0 then if w15c = (IntKind.wrap .i64 (7 + IntKind.wrap .i64 (x96 * 4))).toNat then w15 else Option.map (fun a => a.add ((IntKind.wrap .i64 (7 + IntKind.wrap .i64 (x96 * 4))).toNat)) w15 else Option.map (fun a => a.add 0) (if w15c = (IntKind.wrap .i64 (7 + IntKind.wrap .i64 (x96 * 4))).toNat then w15 else Option.map (fun a => a.add ((IntKind.wrap .i64 (7 + IntKind.wrap .i64 (x96 * 4))).toNat)) w15)) = some p106 ∧ (0 : Int) ≤ 0 ∧ (0 : Int) < ((4 - 0 : Nat) : Int) ∧
    ∃ x107 : Int, w.cell? (p106.add 0) = some (.int .u64 x107) ∧
    if (decide (x107 ≥ IntKind.wrap .u64 (p4l : Int))) = true
     then (Ret B w (R (.tuple ⟨[.agg ⟨[.int .i64 0, .int .i64 0, .int .i64 0, .bool false, .int .u64 0, .slice none 0 0, .slice none 0 0, .slice none 0 0]⟩, .int .i64 0, .int .i64 6]⟩)))
     else (∃ p115 : Addr, (if w15c - ((IntKind.wrap .i64 (7 + IntKind.wrap .i64 (x96 * 4))).toNat) = 0 then if w15c = (IntKind.wrap .i64 (7 + IntKind.wrap .i64 (x96 * 4))).toNat then w15 else Option.map (fun a => a.add ((IntKind.wrap .i64 (7 + IntKind.wrap .i64 (x96 * 4))).toNat)) w15 else Option.map (fun a => a.add 0) (if w15c = (IntKind.wrap .i64 (7 + IntKind.wrap .i64 (x96 * 4))).toNat then w15 else Option.map (fun a => a.add ((IntKind.wrap .i64 (7 + IntKind.wrap .i64 (x96 * 4))).toNat)) w15)) = some p115 ∧ (0 : Int) ≤ 0 ∧ (0 : Int) < ((4 - 0 : Nat) : Int) ∧
     ∃ x116 : Int, w.cell? (p115.add 0) = some (.int .u64 x116) ∧
     ∃ p125 : Addr, p4 = some p125 ∧ (0 : Int) ≤ IntKind.wrap .i64 x116 ∧ IntKind.wrap .i64 x116 < (p4l : Int) ∧
     ∃ x127 : Int, w.cell? ((p125.add ((IntKind.wrap .i64 x116).toNat * 4)).add 0) = some (.int .i64 x127) ∧ (0 : Int) ≤ IntKind.wrap .i64 (1 + x127) ∧ IntKind.wrap .i64 (1 + x127) ≤ (((w15c - ((IntKind.wrap .i64 (7 + IntKind.wrap .i64 (x96 * 4))).toNat)) - 0 : Nat) : Int) ∧ (0 : Int) ≤ 1 ∧ (1 : Int) ≤ (((IntKind.wrap .i64 (1 + x127)).toNat : Nat) : Int) ∧
     CallK Try.prog 104 [.slice (if (w15c - ((IntKind.wrap .i64 (7 + IntKind.wrap .i64 (x96 * 4))).toNat)) - 0 = 1 then if w15c - ((IntKind.wrap .i64 (7 + IntKind.wrap .i64 (x96 * 4))).toNat) = 0 then if w15c = (IntKind.wrap .i64 (7 + IntKind.wrap .i64 (x96 * 4))).toNat then w15 else Option.map (fun a => a.add ((IntKind.wrap .i64 (7 + IntKind.wrap .i64 (x96 * 4))).toNat)) w15 else Option.map (fun a => a.add 0) (if w15c = (IntKind.wrap .i64 (7 + IntKind.wrap .i64 (x96 * 4))).toNat then w15 else Option.map (fun a => a.add ((IntKind.wrap .i64 (7 + IntKind.wrap .i64 (x96 * 4))).toNat)) w15) else Option.map (fun a => a.add 1) (if w15c - ((IntKind.wrap .i64 (7 + IntKind.wrap .i64 (x96 * 4))).toNat) = 0 then if w15c = (IntKind.wrap .i64 (7 + IntKind.wrap .i64 (x96 * 4))).toNat then w15 else Option.map (fun a => a.add ((IntKind.wrap .i64 (7 + IntKind.wrap .i64 (x96 * 4))).toNat)) w15 else Option.map (fun a => a.add 0) (if w15c = (IntKind.wrap .i64 (7 + IntKind.wrap .i64 (x96 * 4))).toNat then w15 else Option.map (fun a => a.add ((IntKind.wrap .i64 (7 + IntKind.wrap .i64 (x96 * 4))).toNat)) w15))) (((IntKind.wrap .i64 (1 + x127)).toNat) - 1) (((w15c - ((IntKind.wrap .i64 (7 + IntKind.wrap .i64 (x96 * 4))).toNat)) - 0) - 1)] B w [q16, q11, q9, q6, q4] fun v w_1 => 
      ∃ (A130 : Option Addr) (A130l A130c : Nat), v = .slice A130 A130l A130c ∧
      Expo B w_1 [q16, q11, q9, q6, q4] fun w_2 => 
      Hide [q16, q11, q9, q6, q4] (w_2.alloc (.cells ⟨[.int .i64 (IntKind.wrap .i64 x116), .slice A130 A130l A130c]⟩ 75)) fun w_3 => 
      RunK Try.prog (Builtin.append_ #[65, 65] 65 ⟨[.slice x16_5 x16_5l x16_5c, .slice (some ⟨w_2.heap.size, 0, none⟩) 1 1]⟩) B w_3 [q16, q11, q9, q6, q4] fun v_1 w_4 => 
      ∃ (A133 : Option Addr) (A133l A133c : Nat), v_1 = .slice A133 A133l A133c ∧ (V54n.l1 B R k) ahead13 w15 w15l w15c x95 (IntKind.wrap .i64 (x96 + 1)) q16 x16 x16_1 x16_2 x16_3 x16_4 A133 A133l A133c x16_6 x16_6l x16_6c x16_7 x16_7l x16_7c q11 f11 f11_1 f11_2 f11_3 f11_3l f11_3c q9 h9 h9_1 h9_2 h9_3 h9_4 h9_5 h9_6 h9_7 q6 x6 x6_1 x6_2 b6 x6_3 A6 A6l A6c A6_1 A6_1l A6_1c A6_2 A6_2l A6_2c q4 p4 p4l p4c w_4))
    else ((0 : Int) ≤ IntKind.wrap .i64 (ahead13 + f11_1) ∧ IntKind.wrap .i64 (ahead13 + f11_1) ≤ (w15c : Int) ∧ (0 : Int) ≤ ahead13 ∧ ahead13 ≤ (((IntKind.wrap .i64 (ahead13 + f11_1)).toNat : Nat) : Int) ∧
    CallK Try.prog 104 [.slice (if w15c = ahead13.toNat then w15 else Option.map (fun a => a.add ahead13.toNat) w15) (((IntKind.wrap .i64 (ahead13 + f11_1)).toNat) - ahead13.toNat) (w15c - ahead13.toNat)] B w [q16, q11, q9, q6, q4] fun v w_1 => 
     ∃ (A143 : Option Addr) (A143l A143c : Nat), v = .slice A143 A143l A143c ∧ (0 : Int) ≤ IntKind.wrap .i64 (ahead13 + f11_1) ∧ IntKind.wrap .i64 (ahead13 + f11_1) ≤ (w15l : Int) ∧ (0 : Int) ≤ h9_7 ∧ h9_7 ≤ ((w15c - ((IntKind.wrap .i64 (ahead13 + f11_1)).toNat) : Nat) : Int) ∧
     CallK Try.prog 104 [.slice (if w15c - ((IntKind.wrap .i64 (ahead13 + f11_1)).toNat) = 0 then if w15c = (IntKind.wrap .i64 (ahead13 + f11_1)).toNat then w15 else Option.map (fun a => a.add ((IntKind.wrap .i64 (ahead13 + f11_1)).toNat)) w15 else Option.map (fun a => a.add 0) (if w15c = (IntKind.wrap .i64 (ahead13 + f11_1)).toNat then w15 else Option.map (fun a => a.add ((IntKind.wrap .i64 (ahead13 + f11_1)).toNat)) w15)) (h9_7.toNat - 0) ((w15c - ((IntKind.wrap .i64 (ahead13 + f11_1)).toNat)) - 0)] B w_1 [q16, q11, q9, q6, q4] fun v_1 w_2 => 
     ∃ (A154 : Option Addr) (A154l A154c : Nat), v_1 = .slice A154 A154l A154c ∧
     Ret B w_2 (R (.tuple ⟨[.agg ⟨[.int .i64 x16, .int .i64 x16_1, .int .i64 x16_2, .bool x16_3, .int .u64 x16_4, .slice x16_5 x16_5l x16_5c, .slice A143 A143l A143c, .slice A154 A154l A154c]⟩, .int .i64 h9, .int .i64 0]⟩)))
def V54n.b0 (B : Nat) (R : Value → World → Prop) (a0 : Addr) (at2 ahead13 : Int) (q11 : Nat) (f11 f11_1 f11_2 : Int) (f11_3 : Option Addr) (f11_3l f11_3c q9 : Nat) (h9 h9_1 h9_2 h9_3 : Int) (h9_4 : Bool) (h9_5 h9_6 h9_7 : Int) (q6 : Nat) (x6 x6_1 x6_2 : Int) (b6 : Bool) (x6_3 : Int) (A6 : Option Addr) (A6l A6c : Nat) (A6_1 : Option Addr) (A6_1l A6_1c : Nat) (A6_2 : Option Addr) (A6_2l A6_2c q4 : Nat) (p4 : Option Addr) (p4l p4c : Nat) (w : World) : Prop :=
  CallK Try.prog 32 [.agg ⟨[.int .i64 f11, .int .i64 f11_1, .int .i64 f11_2, .slice f11_3 f11_3l f11_3c]⟩] B w [q11, q9, q6, q4] fun v w_1 => 
  ∃ x75 : Int, v = .int .i64 x75 ∧
  CallK Try.prog 94 [.pointer (some a0), .int .i64 at2, .int .i64 x75] B w_1 [q11, q9, q6, q4] fun v_1 w_2 => 
  ∃ (A76 : Option Addr) (A76l A76c : Nat) (x76 : Int), v_1 = .tuple ⟨[.slice A76 A76l A76c, .int .i64 x76]⟩ ∧
  if (x76 != 0) = true
  then (Ret B w_2 (R (.tuple ⟨[.agg ⟨[.int .i64 0, .int .i64 0, .int .i64 0, .bool false, .int .u64 0, .slice none 0 0, .slice none 0 0, .slice none 0 0]⟩, .int .i64 0, .int .i64 x76]⟩)))
  else (∀ q16 : Nat, w_2.heap.size ≤ q16 →
  ∃ k_1, V54n.l1 B R k_1 ahead13 A76 A76l A76c h9_6 0 q16 h9_1 h9_2 h9_3 h9_4 h9_5 none 0 0 none 0 0 none 0 0 q11 f11 f11_1 f11_2 f11_3 f11_3l f11_3c q9 h9 h9_1 h9_2 h9_3 h9_4 h9_5 h9_6 h9_7 q6 x6 x6_1 x6_2 b6 x6_3 A6 A6l A6c A6_1 A6_1l A6_1c A6_2 A6_2l A6_2c q4 p4 p4l p4c w_2)
def V54n.vc (B : Nat) (R : Value → World → Prop) (p1 : Option Addr) (p1l p1c : Nat) (at2 : Int) (w : World) : Prop :=
  ∀ q4 : Nat, w.heap.size ≤ q4 →
∀ q6 : Nat, w.heap.size ≤ q6 →
CallK Try.prog 42 [.pointer none, .int .i64 at2] B w [q6, q4] fun v w_1 => 
  ∃ (x23 x23_1 x23_2 x23_3 : Int) (b23 : Bool) (x23_4 x23_5 x23_6 x23_7 : Int), v = .tuple ⟨[.agg ⟨[.int .i64 x23, .int .i64 x23_1, .int .i64 x23_2, .int .i64 x23_3, .bool b23, .int .u64 x23_4, .int .i64 x23_5, .int .i64 x23_6]⟩, .int .i64 x23_7]⟩ ∧
  ∀ q9 : Nat, w_1.heap.size ≤ q9 →
  if (x23_7 != 0) = true
  then (Ret B w_1 (R (.tuple ⟨[.agg ⟨[.int .i64 0, .int .i64 0, .int .i64 0, .bool false, .int .u64 0, .slice none 0 0, .slice none 0 0, .slice none 0 0]⟩, .int .i64 0, .int .i64 x23_7]⟩)))
  else (CallK Try.prog 99 [.agg ⟨[.slice p1 p1l p1c]⟩, .int .i64 x23_1] B w_1 [q9, q6, q4] fun v_1 w_2 => 
   ∃ (x34 x34_1 x34_2 : Int) (A34 : Option Addr) (A34l A34c : Nat) (b34 : Bool), v_1 = .tuple ⟨[.agg ⟨[.int .i64 x34, .int .i64 x34_1, .int .i64 x34_2, .slice A34 A34l A34c]⟩, .bool b34]⟩ ∧
   ∀ q11 : Nat, w_2.heap.size ≤ q11 →
   if (!b34) = true
   then (Ret B w_2 (R (.tuple ⟨[.agg ⟨[.int .i64 0, .int .i64 0, .int .i64 0, .bool false, .int .u64 0, .slice none 0 0, .slice none 0 0, .slice none 0 0]⟩, .int .i64 0, .int .i64 6]⟩)))
   else (CallK Try.prog 100 [.agg ⟨[.int .i64 x34, .int .i64 x34_1, .int .i64 x34_2, .slice A34 A34l A34c]⟩] B w_2 [q11, q9, q6, q4] fun v_2 w_3 => 
    ∃ (x42 : Int) (b42 : Bool), v_2 = .tuple ⟨[.int .i64 x42, .bool b42]⟩ ∧
    if (decide (x23_2 > (A34l : Int))) = false
    then (if (decide (x23_5 > 4)) = false
     then (if (decide (x23_5 > 0)) = true
      then (if (!b42) = false
       then (if (decide (x23_6 > 8)) = true
        then (Ret B w_3 (R (.tuple ⟨[.agg ⟨[.int .i64 0, .int .i64 0, .int .i64 0, .bool false, .int .u64 0, .slice none 0 0, .slice none 0 0, .slice none 0 0]⟩, .int .i64 0, .int .i64 6]⟩)))
        else (False))
       else (Ret B w_3 (R (.tuple ⟨[.agg ⟨[.int .i64 0, .int .i64 0, .int .i64 0, .bool false, .int .u64 0, .slice none 0 0, .slice none 0 0, .slice none 0 0]⟩, .int .i64 0, .int .i64 6]⟩))))
      else (if (decide (x23_6 > 8)) = true
       then (Ret B w_3 (R (.tuple ⟨[.agg ⟨[.int .i64 0, .int .i64 0, .int .i64 0, .bool false, .int .u64 0, .slice none 0 0, .slice none 0 0, .slice none 0 0]⟩, .int .i64 0, .int .i64 6]⟩)))
       else (False)))
     else (Ret B w_3 (R (.tuple ⟨[.agg ⟨[.int .i64 0, .int .i64 0, .int .i64 0, .bool false, .int .u64 0, .slice none 0 0, .slice none 0 0, .slice none 0 0]⟩, .int .i64 0, .int .i64 6]⟩))))
    else (Ret B w_3 (R (.tuple ⟨[.agg ⟨[.int .i64 0, .int .i64 0, .int .i64 0, .bool false, .int .u64 0, .slice none 0 0, .slice none 0 0, .slice none 0 0]⟩, .int .i64 0, .int .i64 6]⟩)))))
noncomputable def V54n.cfg (B : Nat) : Cfg := ⟨Try.prog, ⟨159, B⟩, [], hasN [32, 42, 94, 99, 100, 104], hasN []⟩
noncomputable def V54n.code : Code := (Try.f54.body).getD .skip
noncomputable def V54n.cuts (B : Nat) (R : Value → World → Prop) : Nat → Cut := nthC [⟨[(0, .one (.ptr)), (2, .one (.int .i64)), (13, .one (.int .i64))], [(11, 29, [.int .i64, .int .i64, .int .i64, .slice]), (9, 53, [.int .i64, .int .i64, .int .i64, .int .i64, .bool, .int .u64, .int .i64, .int .i64]), (6, 67, [.int .i64, .int .i64, .int .i64, .bool, .int .u64, .slice, .slice, .slice]), (4, 24, [.slice])], fun fs vs bs w => V54n.b0 B R (pV (nthV vs 0)) (iV (nthV vs 1)) (iV (nthV vs 2)) (nthB bs 0).blk (iV (nthV (nthB bs 0).cells 0)) (iV (nthV (nthB bs 0).cells 1)) (iV (nthV (nthB bs 0).cells 2)) (slA (nthV (nthB bs 0).cells 3)) (slL (nthV (nthB bs 0).cells 3)) (slC (nthV (nthB bs 0).cells 3)) (nthB bs 1).blk (iV (nthV (nthB bs 1).cells 0)) (iV (nthV (nthB bs 1).cells 1)) (iV (nthV (nthB bs 1).cells 2)) (iV (nthV (nthB bs 1).cells 3)) (bV (nthV (nthB bs 1).cells 4)) (iV (nthV (nthB bs 1).cells 5)) (iV (nthV (nthB bs 1).cells 6)) (iV (nthV (nthB bs 1).cells 7)) (nthB bs 2).blk (iV (nthV (nthB bs 2).cells 0)) (iV (nthV (nthB bs 2).cells 1)) (iV (nthV (nthB bs 2).cells 2)) (bV (nthV (nthB bs 2).cells 3)) (iV (nthV (nthB bs 2).cells 4)) (slA (nthV (nthB bs 2).cells 5)) (slL (nthV (nthB bs 2).cells 5)) (slC (nthV (nthB bs 2).cells 5)) (slA (nthV (nthB bs 2).cells 6)) (slL (nthV (nthB bs 2).cells 6)) (slC (nthV (nthB bs 2).cells 6)) (slA (nthV (nthB bs 2).cells 7)) (slL (nthV (nthB bs 2).cells 7)) (slC (nthV (nthB bs 2).cells 7)) (nthB bs 3).blk (slA (nthV (nthB bs 3).cells 0)) (slL (nthV (nthB bs 3).cells 0)) (slC (nthV (nthB bs 3).cells 0)) w⟩,
  ⟨[(13, .one (.int .i64)), (15, .one (.slice)), (95, .one (.int .i64)), (96, .one (.int .i64))], [(16, 67, [.int .i64, .int .i64, .int .i64, .bool, .int .u64, .slice, .slice, .slice]), (11, 29, [.int .i64, .int .i64, .int .i64, .slice]), (9, 53, [.int .i64, .int .i64, .int .i64, .int .i64, .bool, .int .u64, .int .i64, .int .i64]), (6, 67, [.int .i64, .int .i64, .int .i64, .bool, .int .u64, .slice, .slice, .slice]), (4, 24, [.slice])], fun fs vs bs w => V54n.l1 B R (nthN fs 0) (iV (nthV vs 0)) (slA (nthV vs 1)) (slL (nthV vs 1)) (slC (nthV vs 1)) (iV (nthV vs 2)) (iV (nthV vs 3)) (nthB bs 0).blk (iV (nthV (nthB bs 0).cells 0)) (iV (nthV (nthB bs 0).cells 1)) (iV (nthV (nthB bs 0).cells 2)) (bV (nthV (nthB bs 0).cells 3)) (iV (nthV (nthB bs 0).cells 4)) (slA (nthV (nthB bs 0).cells 5)) (slL (nthV (nthB bs 0).cells 5)) (slC (nthV (nthB bs 0).cells 5)) (slA (nthV (nthB bs 0).cells 6)) (slL (nthV (nthB bs 0).cells 6)) (slC (nthV (nthB bs 0).cells 6)) (slA (nthV (nthB bs 0).cells 7)) (slL (nthV (nthB bs 0).cells 7)) (slC (nthV (nthB bs 0).cells 7)) (nthB bs 1).blk (iV (nthV (nthB bs 1).cells 0)) (iV (nthV (nthB bs 1).cells 1)) (iV (nthV (nthB bs 1).cells 2)) (slA (nthV (nthB bs 1).cells 3)) (slL (nthV (nthB bs 1).cells 3)) (slC (nthV (nthB bs 1).cells 3)) (nthB bs 2).blk (iV (nthV (nthB bs 2).cells 0)) (iV (nthV (nthB bs 2).cells 1)) (iV (nthV (nthB bs 2).cells 2)) (iV (nthV (nthB bs 2).cells 3)) (bV (nthV (nthB bs 2).cells 4)) (iV (nthV (nthB bs 2).cells 5)) (iV (nthV (nthB bs 2).cells 6)) (iV (nthV (nthB bs 2).cells 7)) (nthB bs 3).blk (iV (nthV (nthB bs 3).cells 0)) (iV (nthV (nthB bs 3).cells 1)) (iV (nthV (nthB bs 3).cells 2)) (bV (nthV (nthB bs 3).cells 3)) (iV (nthV (nthB bs 3).cells 4)) (slA (nthV (nthB bs 3).cells 5)) (slL (nthV (nthB bs 3).cells 5)) (slC (nthV (nthB bs 3).cells 5)) (slA (nthV (nthB bs 3).cells 6)) (slL (nthV (nthB bs 3).cells 6)) (slC (nthV (nthB bs 3).cells 6)) (slA (nthV (nthB bs 3).cells 7)) (slL (nthV (nthB bs 3).cells 7)) (slC (nthV (nthB bs 3).cells 7)) (nthB bs 4).blk (slA (nthV (nthB bs 4).cells 0)) (slL (nthV (nthB bs 4).cells 0)) (slC (nthV (nthB bs 4).cells 0)) w⟩]
noncomputable def V54n.h : H := .s (.z) (.s (.z) (.s (.s (.z) (.c (.s (.z) (.z)) (.z))) (.s (.z) (.s (.s (.z) (.c (.s (.z) (.z)) (.z))) (.s (.z) (.cut 0 (.s (.z) (.c (.s (.z) (.z)) (.z))) (.s (.z) (.s (.s (.z) (.c (.s (.z) (.z)) (.z))) (.s (.z) (.s (.s (.z) (.b (.l 1 (.s (.z) (.s (.c (.z) (.z)) (.s (.b (.s (.z) (.s (.z) (.s (.s (.r [[0, 1, 2, 3, 4, 5, 6, 7]]) (.c (.s (.z) (.z)) (.z))) (.s (.z) (.r [[0, 1, 2, 3, 4, 5, 6, 7, 8, 9, 10, 11, 12, 13, 14, 15, 16, 17]])))))) (.z))))))) (.s (.z) (.s (.r [[0, 1, 2, 3, 4, 5, 6, 7, 8, 9, 10, 11]]) (.s (.r [[0, 1, 2, 3, 4, 5]]) (.z))))))))))))))
theorem V54n.vc_eq (B : Nat) (R : Value → World → Prop) (p1 : Option Addr) (p1l p1c : Nat) (at2 : Int) (w : World) : wpf (V54n.cfg B) (V54n.cuts B R) V54n.code V54n.h [] (postOf Try.prog B (Try.f54.results.toList) R) (argE 0 [.pointer none, .agg ⟨[.slice p1 p1l p1c]⟩, .int .i64 at2]) [] w = V54n.vc B R p1 p1l p1c at2 w := by kernel_rfl
theorem V54n.obl (B : Nat) (R : Value → World → Prop) : oblP (V54n.cfg B) (V54n.cuts B R) V54n.code V54n.h [] (postOf Try.prog B (Try.f54.results.toList) R) := by
  have e : oblP (V54n.cfg B) (V54n.cuts B R) V54n.code V54n.h [] (postOf Try.prog B (Try.f54.results.toList) R) = (True ∧ (True ∧ ((True ∧ ((True ∧ True) ∧ True)) ∧ (True ∧ ((True ∧ ((True ∧ True) ∧ True)) ∧ (True ∧ ((True ∧ ((True ∧ True) ∧ True)) ∧ (∀ (a0 : Addr) (at2 ahead13 : Int) (q11 : Nat) (f11 f11_1 f11_2 : Int) (f11_3 : Option Addr) (f11_3l f11_3c q9 : Nat) (h9 h9_1 h9_2 h9_3 : Int) (h9_4 : Bool) (h9_5 h9_6 h9_7 : Int) (q6 : Nat) (x6 x6_1 x6_2 : Int) (b6 : Bool) (x6_3 : Int) (A6 : Option Addr) (A6l A6c : Nat) (A6_1 : Option Addr) (A6_1l A6_1c : Nat) (A6_2 : Option Addr) (A6_2l A6_2c q4 : Nat) (p4 : Option Addr) (p4l p4c : Nat) (w : World), V54n.b0 B R a0 at2 ahead13 q11 f11 f11_1 f11_2 f11_3 f11_3l f11_3c q9 h9 h9_1 h9_2 h9_3 h9_4 h9_5 h9_6 h9_7 q6 x6 x6_1 x6_2 b6 x6_3 A6 A6l A6c A6_1 A6_1l A6_1c A6_2 A6_2l A6_2c q4 p4 p4l p4c w → V54n.b0 B R a0 at2 ahead13 q11 f11 f11_1 f11_2 f11_3 f11_3l f11_3c q9 h9 h9_1 h9_2 h9_3 h9_4 h9_5 h9_6 h9_7 q6 x6 x6_1 x6_2 b6 x6_3 A6 A6l A6c A6_1 A6_1l A6_1c A6_2 A6_2l A6_2c q4 p4 p4l p4c w) ∧ (True ∧ ((True ∧ ((True ∧ True) ∧ True)) ∧ (True ∧ ((True ∧ ((∀ (ahead13 : Int) (w15 : Option Addr) (w15l w15c : Nat) (x95 x96 : Int) (q16 : Nat) (x16 x16_1 x16_2 : Int) (x16_3 : Bool) (x16_4 : Int) (x16_5 : Option Addr) (x16_5l x16_5c : Nat) (x16_6 : Option Addr) (x16_6l x16_6c : Nat) (x16_7 : Option Addr) (x16_7l x16_7c q11 : Nat) (f11 f11_1 f11_2 : Int) (f11_3 : Option Addr) (f11_3l f11_3c q9 : Nat) (h9 h9_1 h9_2 h9_3 : Int) (h9_4 : Bool) (h9_5 h9_6 h9_7 : Int) (q6 : Nat) (x6 x6_1 x6_2 : Int) (b6 : Bool) (x6_3 : Int) (A6 : Option Addr) (A6l A6c : Nat) (A6_1 : Option Addr) (A6_1l A6_1c : Nat) (A6_2 : Option Addr) (A6_2l A6_2c q4 : Nat) (p4 : Option Addr) (p4l p4c : Nat) (w : World), ¬ V54n.l1 B R 0 ahead13 w15 w15l w15c x95 x96 q16 x16 x16_1 x16_2 x16_3 x16_4 x16_5 x16_5l x16_5c x16_6 x16_6l x16_6c x16_7 x16_7l x16_7c q11 f11 f11_1 f11_2 f11_3 f11_3l f11_3c q9 h9 h9_1 h9_2 h9_3 h9_4 h9_5 h9_6 h9_7 q6 x6 x6_1 x6_2 b6 x6_3 A6 A6l A6c A6_1 A6_1l A6_1c A6_2 A6_2l A6_2c q4 p4 p4l p4c w) ∧ (∀ k1, ∀ (ahead13 : Int) (w15 : Option Addr) (w15l w15c : Nat) (x95 x96 : Int) (q16 : Nat) (x16 x16_1 x16_2 : Int) (x16_3 : Bool) (x16_4 : Int) (x16_5 : Option Addr) (x16_5l x16_5c : Nat) (x16_6 : Option Addr) (x16_6l x16_6c : Nat) (x16_7 : Option Addr) (x16_7l x16_7c q11 : Nat) (f11 f11_1 f11_2 : Int) (f11_3 : Option Addr) (f11_3l f11_3c q9 : Nat) (h9 h9_1 h9_2 h9_3 : Int) (h9_4 : Bool) (h9_5 h9_6 h9_7 : Int) (q6 : Nat) (x6 x6_1 x6_2 : Int) (b6 : Bool) (x6_3 : Int) (A6 : Option Addr) (A6l A6c : Nat) (A6_1 : Option Addr) (A6_1l A6_1c : Nat) (A6_2 : Option Addr) (A6_2l A6_2c q4 : Nat) (p4 : Option Addr) (p4l p4c : Nat) (w : World), V54n.l1 B R (k1 + 1) ahead13 w15 w15l w15c x95 x96 q16 x16 x16_1 x16_2 x16_3 x16_4 x16_5 x16_5l x16_5c x16_6 x16_6l x16_6c x16_7 x16_7l x16_7c q11 f11 f11_1 f11_2 f11_3 f11_3l f11_3c q9 h9 h9_1 h9_2 h9_3 h9_4 h9_5 h9_6 h9_7 q6 x6 x6_1 x6_2 b6 x6_3 A6 A6l A6c A6_1 A6_1l A6_1c A6_2 A6_2l A6_2c q4 p4 p4l p4c w → V54n.l1 B R (k1 + 1) ahead13 w15 w15l w15c x95 x96 q16 x16 x16_1 x16_2 x16_3 x16_4 x16_5 x16_5l x16_5c x16_6 x16_6l x16_6c x16_7 x16_7l x16_7c q11 f11 f11_1 f11_2 f11_3 f11_3l f11_3c q9 h9 h9_1 h9_2 h9_3 h9_4 h9_5 h9_6 h9_7 q6 x6 x6_1 x6_2 b6 x6_3 A6 A6l A6c A6_1 A6_1l A6_1c A6_2 A6_2l A6_2c q4 p4 p4l p4c w) ∧ ∀ k1 : Nat, (True ∧ ((True ∧ True) ∧ ((True ∧ (True ∧ (((true = true) ∧ ((True ∧ True) ∧ True)) ∧ (True ∧ (true = true))))) ∧ True))))) ∧ (True ∧ ((true = true) ∧ ((true = true) ∧ True)))))))))))))) := by kernel_rfl
  rw [e]
  exact ⟨trivial, ⟨trivial, ⟨⟨trivial, ⟨⟨trivial, trivial⟩, trivial⟩⟩, ⟨trivial, ⟨⟨trivial, ⟨⟨trivial, trivial⟩, trivial⟩⟩, ⟨trivial, ⟨⟨trivial, ⟨⟨trivial, trivial⟩, trivial⟩⟩, fun a0 at2 ahead13 q11 f11 f11_1 f11_2 f11_3 f11_3l f11_3c q9 h9 h9_1 h9_2 h9_3 h9_4 h9_5 h9_6 h9_7 q6 x6 x6_1 x6_2 b6 x6_3 A6 A6l A6c A6_1 A6_1l A6_1c A6_2 A6_2l A6_2c q4 p4 p4l p4c w h => h, ⟨trivial, ⟨⟨trivial, ⟨⟨trivial, trivial⟩, trivial⟩⟩, ⟨trivial, ⟨⟨trivial, ⟨fun ahead13 w15 w15l w15c x95 x96 q16 x16 x16_1 x16_2 x16_3 x16_4 x16_5 x16_5l x16_5c x16_6 x16_6l x16_6c x16_7 x16_7l x16_7c q11 f11 f11_1 f11_2 f11_3 f11_3l f11_3c q9 h9 h9_1 h9_2 h9_3 h9_4 h9_5 h9_6 h9_7 q6 x6 x6_1 x6_2 b6 x6_3 A6 A6l A6c A6_1 A6_1l A6_1c A6_2 A6_2l A6_2c q4 p4 p4l p4c w h => h, fun _ ahead13 w15 w15l w15c x95 x96 q16 x16 x16_1 x16_2 x16_3 x16_4 x16_5 x16_5l x16_5c x16_6 x16_6l x16_6c x16_7 x16_7l x16_7c q11 f11 f11_1 f11_2 f11_3 f11_3l f11_3c q9 h9 h9_1 h9_2 h9_3 h9_4 h9_5 h9_6 h9_7 q6 x6 x6_1 x6_2 b6 x6_3 A6 A6l A6c A6_1 A6_1l A6_1c A6_2 A6_2l A6_2c q4 p4 p4l p4c w h => h, fun k1 => ⟨trivial, ⟨⟨trivial, trivial⟩, ⟨⟨trivial, ⟨trivial, ⟨⟨rfl, ⟨⟨trivial, trivial⟩, trivial⟩⟩, ⟨trivial, rfl⟩⟩⟩⟩, trivial⟩⟩⟩⟩⟩, ⟨trivial, ⟨rfl, ⟨rfl, trivial⟩⟩⟩⟩⟩⟩⟩⟩⟩⟩⟩⟩⟩⟩
theorem V54n.cfgOk (B : Nat) : CfgOk (V54n.cfg B) := cfgOk_of (by kernel_rfl) (by kernel_rfl)
theorem V54n.sound {p1 : Option Addr} {p1l p1c : Nat} {at2 : Int} {w : World} {R : Value → World → Prop} (h : V54n.vc w.heap.size R p1 p1l p1c at2 w) : Calls Try.prog 54 ⟨[.pointer none, .agg ⟨[.slice p1 p1l p1c]⟩, .int .i64 at2]⟩ w fun e w' => ∃ v, e = .returned v ∧ R v w' :=
  calls_wpfP (c := V54n.cfg w.heap.size) (fn := Try.f54) (x := V54n.code) (V54n.cuts w.heap.size R) V54n.h (V54n.cfgOk _) mixed Try.func54 (by kernel_rfl) (by kernel_rfl) (by kernel_rfl) rfl (V54n.obl _ _) ((V54n.vc_eq _ _ p1 p1l p1c at2 _).symm ▸ h)

/-! function 94 -/
def V94n.vc (B : Nat) (R : Value → World → Prop) (at1 n2 : Int) (w : World) : Prop :=
  CallK Try.prog 105 [.pointer none, .int .i64 at1, .int .i64 n2] B w [] fun v w_1 => 
  ∃ (A14 : Option Addr) (A14l A14c : Nat) (x14 : Int), v = .tuple ⟨[.slice A14 A14l A14c, .int .i64 x14]⟩ ∧
  CallK Try.prog 124 [.slice A14 A14l A14c] B w_1 [] fun v_1 w_2 => 
  ∃ (A18 : Option Addr) (A18l A18c : Nat), v_1 = .slice A18 A18l A18c ∧
  Ret B w_2 (R (.tuple ⟨[.slice A18 A18l A18c, .int .i64 x14]⟩))
noncomputable def V94n.cfg (B : Nat) : Cfg := ⟨Try.prog, ⟨20, B⟩, [], hasN [105, 124], hasN []⟩
noncomputable def V94n.code : Code := (Try.f94.body).getD .skip
noncomputable def V94n.cuts (B : Nat) (R : Value → World → Prop) : Nat → Cut := nthC []
noncomputable def V94n.h : H := .s (.z) (.s (.z) (.s (.z) (.z)))
theorem V94n.vc_eq (B : Nat) (R : Value → World → Prop) (at1 n2 : Int) (w : World) : wpf (V94n.cfg B) (V94n.cuts B R) V94n.code V94n.h [] (postOf Try.prog B (Try.f94.results.toList) R) (argE 0 [.pointer none, .int .i64 at1, .int .i64 n2]) [] w = V94n.vc B R at1 n2 w := by kernel_rfl
theorem V94n.obl (B : Nat) (R : Value → World → Prop) : oblP (V94n.cfg B) (V94n.cuts B R) V94n.code V94n.h [] (postOf Try.prog B (Try.f94.results.toList) R) := by
  have e : oblP (V94n.cfg B) (V94n.cuts B R) V94n.code V94n.h [] (postOf Try.prog B (Try.f94.results.toList) R) = (True ∧ (True ∧ (True ∧ True))) := by kernel_rfl
  rw [e]
  exact ⟨trivial, ⟨trivial, ⟨trivial, trivial⟩⟩⟩
theorem V94n.cfgOk (B : Nat) : CfgOk (V94n.cfg B) := cfgOk_of (by kernel_rfl) (by kernel_rfl)
theorem V94n.sound {at1 n2 : Int} {w : World} {R : Value → World → Prop} (h : V94n.vc w.heap.size R at1 n2 w) : Calls Try.prog 94 ⟨[.pointer none, .int .i64 at1, .int .i64 n2]⟩ w fun e w' => ∃ v, e = .returned v ∧ R v w' :=
  calls_wpfP (c := V94n.cfg w.heap.size) (fn := Try.f94) (x := V94n.code) (V94n.cuts w.heap.size R) V94n.h (V94n.cfgOk _) mixed Try.func94 (by kernel_rfl) (by kernel_rfl) (by kernel_rfl) rfl (V94n.obl _ _) ((V94n.vc_eq _ _ at1 n2 _).symm ▸ h)

/-! function 105 -/
def V105n.vc (B : Nat) (R : Value → World → Prop) (at1 n2 : Int) (w : World) : Prop :=
  Ret B w (R (.tuple ⟨[.slice none 0 0, .int .i64 2]⟩))
noncomputable def V105n.cfg (B : Nat) : Cfg := ⟨Try.prog, ⟨47, B⟩, [], hasN [], hasN []⟩
noncomputable def V105n.code : Code := (Try.f105.body).getD .skip
noncomputable def V105n.cuts (B : Nat) (R : Value → World → Prop) : Nat → Cut := nthC []
noncomputable def V105n.h : H := .s (.z) (.s (.b (.s (.z) (.c (.s (.z) (.z)) (.s (.z) (.c (.s (.z) (.z)) (.z)))))) (.s (.z) (.z)))
theorem V105n.vc_eq (B : Nat) (R : Value → World → Prop) (at1 n2 : Int) (w : World) : wpf (V105n.cfg B) (V105n.cuts B R) V105n.code V105n.h [] (postOf Try.prog B (Try.f105.results.toList) R) (argE 0 [.pointer none, .int .i64 at1, .int .i64 n2]) [] w = V105n.vc B R at1 n2 w := by kernel_rfl
theorem V105n.obl (B : Nat) (R : Value → World → Prop) : oblP (V105n.cfg B) (V105n.cuts B R) V105n.code V105n.h [] (postOf Try.prog B (Try.f105.results.toList) R) := by
  have e : oblP (V105n.cfg B) (V105n.cuts B R) V105n.code V105n.h [] (postOf Try.prog B (Try.f105.results.toList) R) = (True ∧ ((True ∧ ((True ∧ True) ∧ (True ∧ ((True ∧ True) ∧ True)))) ∧ (True ∧ True))) := by kernel_rfl
  rw [e]
  exact ⟨trivial, ⟨⟨trivial, ⟨⟨trivial, trivial⟩, ⟨trivial, ⟨⟨trivial, trivial⟩, trivial⟩⟩⟩⟩, ⟨trivial, trivial⟩⟩⟩
theorem V105n.cfgOk (B : Nat) : CfgOk (V105n.cfg B) := cfgOk_of (by kernel_rfl) (by kernel_rfl)
theorem V105n.sound {at1 n2 : Int} {w : World} {R : Value → World → Prop} (h : V105n.vc w.heap.size R at1 n2 w) : Calls Try.prog 105 ⟨[.pointer none, .int .i64 at1, .int .i64 n2]⟩ w fun e w' => ∃ v, e = .returned v ∧ R v w' :=
  calls_wpfP (c := V105n.cfg w.heap.size) (fn := Try.f105) (x := V105n.code) (V105n.cuts w.heap.size R) V105n.h (V105n.cfgOk _) mixed Try.func105 (by kernel_rfl) (by kernel_rfl) (by kernel_rfl) rfl (V105n.obl _ _) ((V105n.vc_eq _ _ at1 n2 _).symm ▸ h)

/-! function 59 -/
def V59n.vc (B : Nat) (R : Value → World → Prop) (p1 : Option Addr) (p1l p1c : Nat) (top2 : Int) (w : World) : Prop :=
  ∀ q4 : Nat, w.heap.size ≤ q4 →
Ret B w (R (.tuple ⟨[.slice none 0 0, .int .i64 2]⟩))
noncomputable def V59n.cfg (B : Nat) : Cfg := ⟨Try.prog, ⟨57, B⟩, [], hasN [], hasN []⟩
noncomputable def V59n.code : Code := (Try.f59.body).getD .skip
noncomputable def V59n.cuts (B : Nat) (R : Value → World → Prop) : Nat → Cut := nthC []
noncomputable def V59n.h : H := .s (.z) (.s (.s (.z) (.c (.s (.z) (.z)) (.z))) (.s (.z) (.s (.s (.z) (.b (.z))) (.s (.z) (.z)))))
theorem V59n.vc_eq (B : Nat) (R : Value → World → Prop) (p1 : Option Addr) (p1l p1c : Nat) (top2 : Int) (w : World) : wpf (V59n.cfg B) (V59n.cuts B R) V59n.code V59n.h [] (postOf Try.prog B (Try.f59.results.toList) R) (argE 0 [.pointer none, .agg ⟨[.slice p1 p1l p1c]⟩, .int .i64 top2]) [] w = V59n.vc B R p1 p1l p1c top2 w := by kernel_rfl
theorem V59n.obl (B : Nat) (R : Value → World → Prop) : oblP (V59n.cfg B) (V59n.cuts B R) V59n.code V59n.h [] (postOf Try.prog B (Try.f59.results.toList) R) := by
  have e : oblP (V59n.cfg B) (V59n.cuts B R) V59n.code V59n.h [] (postOf Try.prog B (Try.f59.results.toList) R) = (True ∧ ((True ∧ ((True ∧ True) ∧ True)) ∧ (True ∧ ((True ∧ True) ∧ (True ∧ True))))) := by kernel_rfl
  rw [e]
  exact ⟨trivial, ⟨⟨trivial, ⟨⟨trivial, trivial⟩, trivial⟩⟩, ⟨trivial, ⟨⟨trivial, trivial⟩, ⟨trivial, trivial⟩⟩⟩⟩⟩
theorem V59n.cfgOk (B : Nat) : CfgOk (V59n.cfg B) := cfgOk_of (by kernel_rfl) (by kernel_rfl)
theorem V59n.sound {p1 : Option Addr} {p1l p1c : Nat} {top2 : Int} {w : World} {R : Value → World → Prop} (h : V59n.vc w.heap.size R p1 p1l p1c top2 w) : Calls Try.prog 59 ⟨[.pointer none, .agg ⟨[.slice p1 p1l p1c]⟩, .int .i64 top2]⟩ w fun e w' => ∃ v, e = .returned v ∧ R v w' :=
  calls_wpfP (c := V59n.cfg w.heap.size) (fn := Try.f59) (x := V59n.code) (V59n.cuts w.heap.size R) V59n.h (V59n.cfgOk _) mixed Try.func59 (by kernel_rfl) (by kernel_rfl) (by kernel_rfl) rfl (V59n.obl _ _) ((V59n.vc_eq _ _ p1 p1l p1c top2 _).symm ▸ h)
end Go.Proofs.Ytlccbaemcfjdoaa
