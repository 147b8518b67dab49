/-
  What the engine makes of the loaded functions 42, 43, 44, 45, 47, 49, 50, 52, 53, 54, 55, 56, 96, 97, 99, 100, 101: conditions under which a call returns as told, and proofs of that.
  Conditions: none. Printed by a program of this project.
-/
import Derived.Test.YtlccbaemcfjdoaaWA
set_option linter.unusedVariables false
set_option maxRecDepth 100000
namespace Go.Proofs.Ytlccbaemcfjdoaa

/-! function 42 -/
def V42.l0 (B : Nat) (R : Value → World → Prop) : Nat → Option Addr → Nat → Nat → Int → Int → Int → Int → Int → Int → Nat → Int → Int → Int → Int → Bool → Int → Int → Int → World → Prop
  | 0 => fun _ _ _ _ _ _ _ _ _ _ _ _ _ _ _ _ _ _ _ => False
  | k + 1 => fun w6 w6l w6c mode8 x37 x37_1 x37_2 x37_3 x38 q4 x4 x4_1 x4_2 x4_3 b4 x4_4 x4_5 x4_6 w =>
    if (decide (x38 < 4)) = true
    then ((0 : Int) ≤ x38 ∧ x38 < 4 ∧
    ∃ p43 : Addr, w6 = some p43 ∧ (0 : Int) ≤ ([x37, x37_1, x37_2, x37_3] : List Int).getD x38.toNat 0 ∧ ([x37, x37_1, x37_2, x37_3] : List Int).getD x38.toNat 0 < (w6l : Int) ∧
    ∃ x44 : Int, w.cell? (p43.add ((([x37, x37_1, x37_2, x37_3] : List Int).getD x38.toNat 0).toNat)) = some (.int .u64 x44) ∧
    if (decide (x44 > 2147483648)) = true
     then (Ret B w (R (.tuple ⟨[.agg ⟨[.int .i64 0, .int .i64 0, .int .i64 0, .int .i64 0, .bool false, .int .u64 0, .int .i64 0, .int .i64 0]⟩, .int .i64 6]⟩)))
     else ((V42.l0 B R k) w6 w6l w6c mode8 x37 x37_1 x37_2 x37_3 (IntKind.wrap .i64 (x38 + 1)) q4 x4 x4_1 x4_2 x4_3 b4 x4_4 x4_5 x4_6 w))
    else (∃ p49 : Addr, w6 = some p49 ∧ (0 : Int) ≤ 0 ∧ (0 : Int) < (w6l : Int) ∧
    ∃ x50 : Int, w.cell? (p49.add 0) = some (.int .u64 x50) ∧
    ∃ p54 : Addr, w6 = some p54 ∧ (0 : Int) ≤ 1 ∧ (1 : Int) < (w6l : Int) ∧
    ∃ x55 : Int, w.cell? (p54.add 1) = some (.int .u64 x55) ∧
    ∃ p58 : Addr, w6 = some p58 ∧ (0 : Int) ≤ 2 ∧ (2 : Int) < (w6l : Int) ∧
    ∃ x59 : Int, w.cell? (p58.add 2) = some (.int .u64 x59) ∧
    ∃ p64 : Addr, w6 = some p64 ∧ (0 : Int) ≤ 3 ∧ (3 : Int) < (w6l : Int) ∧
    ∃ x65 : Int, w.cell? (p64.add 3) = some (.int .u64 x65) ∧
    ∃ p69 : Addr, w6 = some p69 ∧ (0 : Int) ≤ 4 ∧ (4 : Int) < (w6l : Int) ∧
    ∃ x70 : Int, w.cell? (p69.add 4) = some (.int .u64 x70) ∧
    ∃ p72 : Addr, w6 = some p72 ∧ (0 : Int) ≤ 5 ∧ (5 : Int) < (w6l : Int) ∧
    ∃ x73 : Int, w.cell? (p72.add 5) = some (.int .u64 x73) ∧
    ∃ p76 : Addr, w6 = some p76 ∧ (0 : Int) ≤ 6 ∧ (6 : Int) < (w6l : Int) ∧
    ∃ x77 : Int, w.cell? (p76.add 6) = some (.int .u64 x77) ∧
    Ret B w (R (.tuple ⟨[.agg ⟨[.int .i64 (IntKind.wrap .i64 (IntKind.wrap .i64 x50 - 1)), .int .i64 (IntKind.wrap .i64 x55), .int .i64 (IntKind.wrap .i64 x59), .int .i64 (IntKind.wrap .i64 mode8), .bool (x65 != mode8), .int .u64 x70, .int .i64 (IntKind.wrap .i64 x73), .int .i64 (IntKind.wrap .i64 x77)]⟩, .int .i64 0]⟩)))
def V42.vc (B : Nat) (R : Value → World → Prop) (a0 : Addr) (at1 : Int) (w : World) : Prop :=
  ∀ q4 : Nat, w.heap.size ≤ q4 →
CallK Try.prog 94 [.pointer (some a0), .int .i64 at1, .int .i64 7] B w [q4] fun v w_1 => 
  ∃ (A14 : Option Addr) (A14l A14c : Nat) (x14 : Int), v = .tuple ⟨[.slice A14 A14l A14c, .int .i64 x14]⟩ ∧
  if (x14 != 0) = true
  then (Ret B w_1 (R (.tuple ⟨[.agg ⟨[.int .i64 0, .int .i64 0, .int .i64 0, .int .i64 0, .bool false, .int .u64 0, .int .i64 0, .int .i64 0]⟩, .int .i64 x14]⟩)))
  else (∃ p22 : Addr, A14 = some p22 ∧ (0 : Int) ≤ 3 ∧ (3 : Int) < (A14l : Int) ∧
  ∃ x23 : Int, w_1.cell? (p22.add 3) = some (.int .u64 x23) ∧
  ∃ p26 : Addr, A14 = some p26 ∧ (0 : Int) ≤ 0 ∧ (0 : Int) < (A14l : Int) ∧
  ∃ x27 : Int, w_1.cell? (p26.add 0) = some (.int .u64 x27) ∧
  CallK Try.prog 93 [.pointer (some a0)] B w_1 [q4] fun v_1 w_2 => 
   ∃ x29 : Int, v_1 = .int .i64 x29 ∧ w_2.cell? (p26.add 0) = some (.int .u64 x27) ∧
   if (decide (x27 > IntKind.wrap .u64 x29)) = false
   then (if (decide (IntKind.wrap .u64 (((BitVec.ofInt 64 x23 &&& ~~~ BitVec.ofInt 64 4).toNat : Nat) : Int) > 2)) = true
    then (Ret B w_2 (R (.tuple ⟨[.agg ⟨[.int .i64 0, .int .i64 0, .int .i64 0, .int .i64 0, .bool false, .int .u64 0, .int .i64 0, .int .i64 0]⟩, .int .i64 6]⟩)))
    else (∃ k_1, V42.l0 B R k_1 A14 A14l A14c (IntKind.wrap .u64 (((BitVec.ofInt 64 x23 &&& ~~~ BitVec.ofInt 64 4).toNat : Nat) : Int)) 1 2 5 6 0 q4 0 0 0 0 false 0 0 0 w_2))
   else (Ret B w_2 (R (.tuple ⟨[.agg ⟨[.int .i64 0, .int .i64 0, .int .i64 0, .int .i64 0, .bool false, .int .u64 0, .int .i64 0, .int .i64 0]⟩, .int .i64 6]⟩))))
noncomputable def V42.cfg (B : Nat) : Cfg := ⟨Try.prog, ⟨80, B⟩, [], hasN [93, 94], hasN []⟩
noncomputable def V42.code : Code := (Try.f42.body).getD .skip
noncomputable def V42.cuts (B : Nat) (R : Value → World → Prop) : Nat → Cut := nthC [⟨[(6, .one (.slice)), (8, .one (.int .u64)), (37, .agg [.int .i64, .int .i64, .int .i64, .int .i64]), (38, .one (.int .i64))], [(4, 53, [.int .i64, .int .i64, .int .i64, .int .i64, .bool, .int .u64, .int .i64, .int .i64])], fun fs vs bs w => V42.l0 B R (nthN fs 0) (slA (nthV vs 0)) (slL (nthV vs 0)) (slC (nthV vs 0)) (iV (nthV vs 1)) (iV (nthV (cellsOfV (nthV vs 2)) 0)) (iV (nthV (cellsOfV (nthV vs 2)) 1)) (iV (nthV (cellsOfV (nthV vs 2)) 2)) (iV (nthV (cellsOfV (nthV vs 2)) 3)) (iV (nthV vs 3)) (nthB bs 0).blk (iV (nthV (nthB bs 0).cells 0)) (iV (nthV (nthB bs 0).cells 1)) (iV (nthV (nthB bs 0).cells 2)) (iV (nthV (nthB bs 0).cells 3)) (bV (nthV (nthB bs 0).cells 4)) (iV (nthV (nthB bs 0).cells 5)) (iV (nthV (nthB bs 0).cells 6)) (iV (nthV (nthB bs 0).cells 7)) w⟩]
noncomputable def V42.h : H := .s (.z) (.s (.z) (.s (.s (.z) (.c (.s (.z) (.z)) (.z))) (.s (.z) (.s (.s (.r [[0, 1, 2, 3, 4, 5, 6, 7, 8, 9, 10]]) (.c (.s (.z) (.z)) (.z))) (.s (.s (.z) (.b (.l 0 (.s (.z) (.s (.c (.z) (.z)) (.s (.b (.s (.z) (.s (.z) (.c (.s (.z) (.z)) (.z))))) (.z))))))) (.s (.r [[0, 1, 2, 3, 4, 5, 6, 7, 8, 9, 10, 11, 12, 13, 14, 15, 16, 17, 18, 19, 20, 21, 22, 23, 24, 25, 26, 27, 28, 29, 30, 31, 32, 33]]) (.z)))))))
theorem V42.vc_eq (B : Nat) (R : Value → World → Prop) (a0 : Addr) (at1 : Int) (w : World) : wpf (V42.cfg B) (V42.cuts B R) V42.code V42.h [] (postOf Try.prog B (Try.f42.results.toList) R) (argE 0 [.pointer (some a0), .int .i64 at1]) [] w = V42.vc B R a0 at1 w := by kernel_rfl
theorem V42.obl (B : Nat) (R : Value → World → Prop) : oblP (V42.cfg B) (V42.cuts B R) V42.code V42.h [] (postOf Try.prog B (Try.f42.results.toList) R) := by
  have e : oblP (V42.cfg B) (V42.cuts B R) V42.code V42.h [] (postOf Try.prog B (Try.f42.results.toList) R) = (True ∧ (True ∧ ((True ∧ ((True ∧ True) ∧ True)) ∧ (True ∧ (((true = true) ∧ ((True ∧ True) ∧ True)) ∧ ((True ∧ ((∀ (w6 : Option Addr) (w6l w6c : Nat) (mode8 x37 x37_1 x37_2 x37_3 x38 : Int) (q4 : Nat) (x4 x4_1 x4_2 x4_3 : Int) (b4 : Bool) (x4_4 x4_5 x4_6 : Int) (w : World), ¬ V42.l0 B R 0 w6 w6l w6c mode8 x37 x37_1 x37_2 x37_3 x38 q4 x4 x4_1 x4_2 x4_3 b4 x4_4 x4_5 x4_6 w) ∧ (∀ k0, ∀ (w6 : Option Addr) (w6l w6c : Nat) (mode8 x37 x37_1 x37_2 x37_3 x38 : Int) (q4 : Nat) (x4 x4_1 x4_2 x4_3 : Int) (b4 : Bool) (x4_4 x4_5 x4_6 : Int) (w : World), V42.l0 B R (k0 + 1) w6 w6l w6c mode8 x37 x37_1 x37_2 x37_3 x38 q4 x4 x4_1 x4_2 x4_3 b4 x4_4 x4_5 x4_6 w → V42.l0 B R (k0 + 1) w6 w6l w6c mode8 x37 x37_1 x37_2 x37_3 x38 q4 x4 x4_1 x4_2 x4_3 b4 x4_4 x4_5 x4_6 w) ∧ ∀ k0 : Nat, (True ∧ ((True ∧ True) ∧ ((True ∧ (True ∧ ((True ∧ True) ∧ True))) ∧ True))))) ∧ ((true = true) ∧ True))))))) := by kernel_rfl
  rw [e]
  exact ⟨trivial, ⟨trivial, ⟨⟨trivial, ⟨⟨trivial, trivial⟩, trivial⟩⟩, ⟨trivial, ⟨⟨rfl, ⟨⟨trivial, trivial⟩, trivial⟩⟩, ⟨⟨trivial, ⟨fun w6 w6l w6c mode8 x37 x37_1 x37_2 x37_3 x38 q4 x4 x4_1 x4_2 x4_3 b4 x4_4 x4_5 x4_6 w h => h, fun _ w6 w6l w6c mode8 x37 x37_1 x37_2 x37_3 x38 q4 x4 x4_1 x4_2 x4_3 b4 x4_4 x4_5 x4_6 w h => h, fun k0 => ⟨trivial, ⟨⟨trivial, trivial⟩, ⟨⟨trivial, ⟨trivial, ⟨⟨trivial, trivial⟩, trivial⟩⟩⟩, trivial⟩⟩⟩⟩⟩, ⟨rfl, trivial⟩⟩⟩⟩⟩⟩⟩
theorem V42.cfgOk (B : Nat) : CfgOk (V42.cfg B) := cfgOk_of (by kernel_rfl) (by kernel_rfl)
theorem V42.sound {a0 : Addr} {at1 : Int} {w : World} {R : Value → World → Prop} (h : V42.vc w.heap.size R a0 at1 w) : Calls Try.prog 42 ⟨[.pointer (some a0), .int .i64 at1]⟩ w fun e w' => ∃ v, e = .returned v ∧ R v w' :=
  calls_wpfP (c := V42.cfg w.heap.size) (fn := Try.f42) (x := V42.code) (V42.cuts w.heap.size R) V42.h (V42.cfgOk _) mixed Try.func42 (by kernel_rfl) (by kernel_rfl) (by kernel_rfl) rfl (V42.obl _ _) ((V42.vc_eq _ _ a0 at1 _).symm ▸ h)

/-! function 43 -/
def V43.vc (B : Nat) (R : Value → World → Prop) (mem0 : Option Addr) (mem0l mem0c : Nat) (at1 : Int) (w : World) : Prop :=
  ∀ q4 : Nat, w.heap.size ≤ q4 →
CallK Try.prog 95 [.slice mem0 mem0l mem0c, .int .i64 at1, .int .i64 7] B w [q4] fun v w_1 => 
  ∃ b9 : Bool, v = .bool b9 ∧
  if (!b9) = true
  then (Ret B w_1 (R (.tuple ⟨[.agg ⟨[.int .i64 0, .int .i64 0, .int .i64 0, .int .i64 0, .bool false, .int .u64 0, .int .i64 0, .int .i64 0]⟩, .int .i64 1]⟩)))
  else ((0 : Int) ≤ IntKind.wrap .i64 (at1 + 7) ∧ IntKind.wrap .i64 (at1 + 7) ≤ (mem0c : Int) ∧ (0 : Int) ≤ at1 ∧ at1 ≤ (((IntKind.wrap .i64 (at1 + 7)).toNat : Nat) : Int) ∧
  ∃ p18 : Addr, (if mem0c = at1.toNat then mem0 else Option.map (fun a => a.add at1.toNat) mem0) = some p18 ∧ (0 : Int) ≤ 0 ∧ (0 : Int) < ((((IntKind.wrap .i64 (at1 + 7)).toNat) - at1.toNat : Nat) : Int) ∧
  ∃ x19 : Int, w_1.cell? (p18.add 0) = some (.int .u64 x19) ∧
  if (decide (x19 > IntKind.wrap .u64 (mem0l : Int))) = false
   then (∃ p26 : Addr, (if mem0c = at1.toNat then mem0 else Option.map (fun a => a.add at1.toNat) mem0) = some p26 ∧ (0 : Int) ≤ 1 ∧ (1 : Int) < ((((IntKind.wrap .i64 (at1 + 7)).toNat) - at1.toNat : Nat) : Int) ∧
   ∃ x27 : Int, w_1.cell? (p26.add 1) = some (.int .u64 x27) ∧
   if (decide (x27 > 2147483648)) = false
    then (∃ p32 : Addr, (if mem0c = at1.toNat then mem0 else Option.map (fun a => a.add at1.toNat) mem0) = some p32 ∧ (0 : Int) ≤ 2 ∧ (2 : Int) < ((((IntKind.wrap .i64 (at1 + 7)).toNat) - at1.toNat : Nat) : Int) ∧
    ∃ x33 : Int, w_1.cell? (p32.add 2) = some (.int .u64 x33) ∧
    if (decide (x33 > 2147483648)) = false
     then (∃ p38 : Addr, (if mem0c = at1.toNat then mem0 else Option.map (fun a => a.add at1.toNat) mem0) = some p38 ∧ (0 : Int) ≤ 5 ∧ (5 : Int) < ((((IntKind.wrap .i64 (at1 + 7)).toNat) - at1.toNat : Nat) : Int) ∧
     ∃ x39 : Int, w_1.cell? (p38.add 5) = some (.int .u64 x39) ∧
     if (decide (x39 > 2147483648)) = false
      then (∃ p44 : Addr, (if mem0c = at1.toNat then mem0 else Option.map (fun a => a.add at1.toNat) mem0) = some p44 ∧ (0 : Int) ≤ 6 ∧ (6 : Int) < ((((IntKind.wrap .i64 (at1 + 7)).toNat) - at1.toNat : Nat) : Int) ∧
      ∃ x45 : Int, w_1.cell? (p44.add 6) = some (.int .u64 x45) ∧
      if (decide (x45 > 2147483648)) = false
       then (∃ p50 : Addr, (if mem0c = at1.toNat then mem0 else Option.map (fun a => a.add at1.toNat) mem0) = some p50 ∧ (0 : Int) ≤ 3 ∧ (3 : Int) < ((((IntKind.wrap .i64 (at1 + 7)).toNat) - at1.toNat : Nat) : Int) ∧
       ∃ x51 : Int, w_1.cell? (p50.add 3) = some (.int .u64 x51) ∧
       if (decide (x51 > 6)) = false
        then (∃ p56 : Addr, (if mem0c = at1.toNat then mem0 else Option.map (fun a => a.add at1.toNat) mem0) = some p56 ∧ (0 : Int) ≤ 3 ∧ (3 : Int) < ((((IntKind.wrap .i64 (at1 + 7)).toNat) - at1.toNat : Nat) : Int) ∧
        ∃ x57 : Int, w_1.cell? (p56.add 3) = some (.int .u64 x57) ∧
        if (x57 == 3) = true
         then (Ret B w_1 (R (.tuple ⟨[.agg ⟨[.int .i64 0, .int .i64 0, .int .i64 0, .int .i64 0, .bool false, .int .u64 0, .int .i64 0, .int .i64 0]⟩, .int .i64 6]⟩)))
         else (∃ p62 : Addr, (if mem0c = at1.toNat then mem0 else Option.map (fun a => a.add at1.toNat) mem0) = some p62 ∧ (0 : Int) ≤ 0 ∧ (0 : Int) < ((((IntKind.wrap .i64 (at1 + 7)).toNat) - at1.toNat : Nat) : Int) ∧
         ∃ x63 : Int, w_1.cell? (p62.add 0) = some (.int .u64 x63) ∧
         ∃ p67 : Addr, (if mem0c = at1.toNat then mem0 else Option.map (fun a => a.add at1.toNat) mem0) = some p67 ∧ (0 : Int) ≤ 1 ∧ (1 : Int) < ((((IntKind.wrap .i64 (at1 + 7)).toNat) - at1.toNat : Nat) : Int) ∧
         ∃ x68 : Int, w_1.cell? (p67.add 1) = some (.int .u64 x68) ∧
         ∃ p71 : Addr, (if mem0c = at1.toNat then mem0 else Option.map (fun a => a.add at1.toNat) mem0) = some p71 ∧ (0 : Int) ≤ 2 ∧ (2 : Int) < ((((IntKind.wrap .i64 (at1 + 7)).toNat) - at1.toNat : Nat) : Int) ∧
         ∃ x72 : Int, w_1.cell? (p71.add 2) = some (.int .u64 x72) ∧
         ∃ p75 : Addr, (if mem0c = at1.toNat then mem0 else Option.map (fun a => a.add at1.toNat) mem0) = some p75 ∧ (0 : Int) ≤ 3 ∧ (3 : Int) < ((((IntKind.wrap .i64 (at1 + 7)).toNat) - at1.toNat : Nat) : Int) ∧
         ∃ x76 : Int, w_1.cell? (p75.add 3) = some (.int .u64 x76) ∧ (4 : Int) ≠ 0 ∧
         ∃ p80 : Addr, (if mem0c = at1.toNat then mem0 else Option.map (fun a => a.add at1.toNat) mem0) = some p80 ∧ (0 : Int) ≤ 3 ∧ (3 : Int) < ((((IntKind.wrap .i64 (at1 + 7)).toNat) - at1.toNat : Nat) : Int) ∧
         ∃ x81 : Int, w_1.cell? (p80.add 3) = some (.int .u64 x81) ∧
         ∃ p84 : Addr, (if mem0c = at1.toNat then mem0 else Option.map (fun a => a.add at1.toNat) mem0) = some p84 ∧ (0 : Int) ≤ 4 ∧ (4 : Int) < ((((IntKind.wrap .i64 (at1 + 7)).toNat) - at1.toNat : Nat) : Int) ∧
         ∃ x85 : Int, w_1.cell? (p84.add 4) = some (.int .u64 x85) ∧
         ∃ p87 : Addr, (if mem0c = at1.toNat then mem0 else Option.map (fun a => a.add at1.toNat) mem0) = some p87 ∧ (0 : Int) ≤ 5 ∧ (5 : Int) < ((((IntKind.wrap .i64 (at1 + 7)).toNat) - at1.toNat : Nat) : Int) ∧
         ∃ x88 : Int, w_1.cell? (p87.add 5) = some (.int .u64 x88) ∧
         ∃ p91 : Addr, (if mem0c = at1.toNat then mem0 else Option.map (fun a => a.add at1.toNat) mem0) = some p91 ∧ (0 : Int) ≤ 6 ∧ (6 : Int) < ((((IntKind.wrap .i64 (at1 + 7)).toNat) - at1.toNat : Nat) : Int) ∧
         ∃ x92 : Int, w_1.cell? (p91.add 6) = some (.int .u64 x92) ∧
         Ret B w_1 (R (.tuple ⟨[.agg ⟨[.int .i64 (IntKind.wrap .i64 (IntKind.wrap .i64 x63 - 1)), .int .i64 (IntKind.wrap .i64 x68), .int .i64 (IntKind.wrap .i64 x72), .int .i64 (IntKind.wrap .i64 (Int.tmod x76 4)), .bool (decide (x81 ≥ 4)), .int .u64 x85, .int .i64 (IntKind.wrap .i64 x88), .int .i64 (IntKind.wrap .i64 x92)]⟩, .int .i64 0]⟩))))
        else (Ret B w_1 (R (.tuple ⟨[.agg ⟨[.int .i64 0, .int .i64 0, .int .i64 0, .int .i64 0, .bool false, .int .u64 0, .int .i64 0, .int .i64 0]⟩, .int .i64 6]⟩))))
       else (Ret B w_1 (R (.tuple ⟨[.agg ⟨[.int .i64 0, .int .i64 0, .int .i64 0, .int .i64 0, .bool false, .int .u64 0, .int .i64 0, .int .i64 0]⟩, .int .i64 6]⟩))))
      else (Ret B w_1 (R (.tuple ⟨[.agg ⟨[.int .i64 0, .int .i64 0, .int .i64 0, .int .i64 0, .bool false, .int .u64 0, .int .i64 0, .int .i64 0]⟩, .int .i64 6]⟩))))
     else (Ret B w_1 (R (.tuple ⟨[.agg ⟨[.int .i64 0, .int .i64 0, .int .i64 0, .int .i64 0, .bool false, .int .u64 0, .int .i64 0, .int .i64 0]⟩, .int .i64 6]⟩))))
    else (Ret B w_1 (R (.tuple ⟨[.agg ⟨[.int .i64 0, .int .i64 0, .int .i64 0, .int .i64 0, .bool false, .int .u64 0, .int .i64 0, .int .i64 0]⟩, .int .i64 6]⟩))))
   else (Ret B w_1 (R (.tuple ⟨[.agg ⟨[.int .i64 0, .int .i64 0, .int .i64 0, .int .i64 0, .bool false, .int .u64 0, .int .i64 0, .int .i64 0]⟩, .int .i64 6]⟩))))
noncomputable def V43.cfg (B : Nat) : Cfg := ⟨Try.prog, ⟨95, B⟩, [], hasN [95], hasN []⟩
noncomputable def V43.code : Code := (Try.f43.body).getD .skip
noncomputable def V43.cuts (B : Nat) (R : Value → World → Prop) : Nat → Cut := nthC []
noncomputable def V43.h : H := .s (.z) (.s (.s (.z) (.c (.s (.z) (.z)) (.z))) (.s (.z) (.s (.s (.z) (.c (.s (.z) (.z)) (.z))) (.s (.r [[0, 1, 2, 3, 4, 5, 6, 7, 8, 9, 10, 11, 12, 13, 14, 15, 16, 17, 18, 19, 20, 21, 22, 23, 24, 25, 26, 27, 28, 29, 30, 31, 32, 33, 34, 35]]) (.z)))))
theorem V43.vc_eq (B : Nat) (R : Value → World → Prop) (mem0 : Option Addr) (mem0l mem0c : Nat) (at1 : Int) (w : World) : wpf (V43.cfg B) (V43.cuts B R) V43.code V43.h [] (postOf Try.prog B (Try.f43.results.toList) R) (argE 0 [.slice mem0 mem0l mem0c, .int .i64 at1]) [] w = V43.vc B R mem0 mem0l mem0c at1 w := by kernel_rfl
theorem V43.obl (B : Nat) (R : Value → World → Prop) : oblP (V43.cfg B) (V43.cuts B R) V43.code V43.h [] (postOf Try.prog B (Try.f43.results.toList) R) := by
  have e : oblP (V43.cfg B) (V43.cuts B R) V43.code V43.h [] (postOf Try.prog B (Try.f43.results.toList) R) = (True ∧ ((True ∧ ((True ∧ True) ∧ True)) ∧ (True ∧ ((True ∧ ((True ∧ True) ∧ True)) ∧ ((true = true) ∧ True))))) := by kernel_rfl
  rw [e]
  exact ⟨trivial, ⟨⟨trivial, ⟨⟨trivial, trivial⟩, trivial⟩⟩, ⟨trivial, ⟨⟨trivial, ⟨⟨trivial, trivial⟩, trivial⟩⟩, ⟨rfl, trivial⟩⟩⟩⟩⟩
theorem V43.cfgOk (B : Nat) : CfgOk (V43.cfg B) := cfgOk_of (by kernel_rfl) (by kernel_rfl)
theorem V43.sound {mem0 : Option Addr} {mem0l mem0c : Nat} {at1 : Int} {w : World} {R : Value → World → Prop} (h : V43.vc w.heap.size R mem0 mem0l mem0c at1 w) : Calls Try.prog 43 ⟨[.slice mem0 mem0l mem0c, .int .i64 at1]⟩ w fun e w' => ∃ v, e = .returned v ∧ R v w' :=
  calls_wpfP (c := V43.cfg w.heap.size) (fn := Try.f43) (x := V43.code) (V43.cuts w.heap.size R) V43.h (V43.cfgOk _) mixed Try.func43 (by kernel_rfl) (by kernel_rfl) (by kernel_rfl) rfl (V43.obl _ _) ((V43.vc_eq _ _ mem0 mem0l mem0c at1 _).symm ▸ h)

/-! function 44 -/
def V44.l2 (B : Nat) (R : Value → World → Prop) : Nat → Addr → Int → Int → Int → Int → Int → Int → Int → Int → Int → World → Prop
  | 0 => fun _ _ _ _ _ _ _ _ _ _ _ => False
  | k + 1 => fun a0 at1 x85 x85_1 x85_2 x85_3 x85_4 x85_5 x85_6 x86 w =>
    if (decide (x86 < 7)) = true
    then ((0 : Int) ≤ x86 ∧ x86 < 7 ∧
    CallK Try.prog 70 [.pointer (some a0), .int .i64 (IntKind.wrap .i64 (at1 + x86)), .int .u64 (([x85, x85_1, x85_2, x85_3, x85_4, x85_5, x85_6] : List Int).getD x86.toNat 0)] B w [] fun v w_1 => 
     ∃ x95 : Int, v = .int .i64 x95 ∧ (V44.l2 B R k) a0 at1 x85 x85_1 x85_2 x85_3 x85_4 x85_5 x85_6 (IntKind.wrap .i64 (x86 + 1)) w_1)
    else (Ret B w (R (.int .i64 0)))
def V44.b1 (B : Nat) (R : Value → World → Prop) (a0 : Addr) (at1 mode11 : Int) (q5 : Nat) (h5 h5_1 h5_2 h5_3 : Int) (h5_4 : Bool) (h5_5 h5_6 h5_7 : Int) (w : World) : Prop :=
  ∃ k_1, V44.l2 B R k_1 a0 at1 (IntKind.wrap .u64 (IntKind.wrap .i64 (h5 + 1))) (IntKind.wrap .u64 h5_1) (IntKind.wrap .u64 h5_2) (IntKind.wrap .u64 mode11) h5_5 (IntKind.wrap .u64 h5_6) (IntKind.wrap .u64 h5_7) 0 w
def V44.l0 (B : Nat) (R : Value → World → Prop) : Nat → Addr → Int → Int → Int → Int → Int → Int → Nat → Int → Int → Int → Int → Bool → Int → Int → Int → World → Prop
  | 0 => fun _ _ _ _ _ _ _ _ _ _ _ _ _ _ _ _ _ => False
  | k + 1 => fun a0 at1 x48 x48_1 x48_2 x48_3 x49 q5 h5 h5_1 h5_2 h5_3 h5_4 h5_5 h5_6 h5_7 w =>
    if (decide (x49 < 4)) = true
    then ((0 : Int) ≤ x49 ∧ x49 < 4 ∧
    if (decide (([x48, x48_1, x48_2, x48_3] : List Int).getD x49.toNat 0 < 0)) = false
     then (if (decide (([x48, x48_1, x48_2, x48_3] : List Int).getD x49.toNat 0 > 2147483648)) = true
      then (Ret B w (R (.int .i64 1)))
      else ((V44.l0 B R k) a0 at1 x48 x48_1 x48_2 x48_3 (IntKind.wrap .i64 (x49 + 1)) q5 h5 h5_1 h5_2 h5_3 h5_4 h5_5 h5_6 h5_7 w))
     else (Ret B w (R (.int .i64 1))))
    else (if h5_4 = true
     then (V44.b1 B R a0 at1 (IntKind.wrap .i64 (h5_3 + 4)) q5 h5 h5_1 h5_2 h5_3 h5_4 h5_5 h5_6 h5_7 w)
     else (V44.b1 B R a0 at1 h5_3 q5 h5 h5_1 h5_2 h5_3 h5_4 h5_5 h5_6 h5_7 w))
def V44.vc (B : Nat) (R : Value → World → Prop) (a0 : Addr) (at1 h2 h2_1 h2_2 h2_3 : Int) (h2_4 : Bool) (h2_5 h2_6 h2_7 : Int) (w : World) : Prop :=
  ∀ q5 : Nat, w.heap.size ≤ q5 →
CallK Try.prog 94 [.pointer (some a0), .int .i64 at1, .int .i64 7] B w [q5] fun v w_1 => 
  ∃ (A19 : Option Addr) (A19l A19c : Nat) (x19 : Int), v = .tuple ⟨[.slice A19 A19l A19c, .int .i64 x19]⟩ ∧
  if (x19 != 0) = true
  then (Ret B w_1 (R (.int .i64 x19)))
  else (CallK Try.prog 96 [.pointer (some a0), .int .i64 h2] B w_1 [q5] fun v_1 w_2 => 
   ∃ b28 : Bool, v_1 = .bool b28 ∧
   if (!b28) = false
   then (if (decide (h2_3 < 0)) = false
    then (if (decide (h2_3 > 2)) = true
     then (Ret B w_2 (R (.int .i64 1)))
     else (∃ k_1, V44.l0 B R k_1 a0 at1 h2_1 h2_2 h2_6 h2_7 0 q5 h2 h2_1 h2_2 h2_3 h2_4 h2_5 h2_6 h2_7 w_2))
    else (Ret B w_2 (R (.int .i64 1))))
   else (Ret B w_2 (R (.int .i64 1))))
noncomputable def V44.cfg (B : Nat) : Cfg := ⟨Try.prog, ⟨97, B⟩, [], hasN [70, 94, 96], hasN []⟩
noncomputable def V44.code : Code := (Try.f44.body).getD .skip
noncomputable def V44.cuts (B : Nat) (R : Value → World → Prop) : Nat → Cut := nthC [⟨[(0, .one (.ptr)), (1, .one (.int .i64)), (48, .agg [.int .i64, .int .i64, .int .i64, .int .i64]), (49, .one (.int .i64))], [(5, 53, [.int .i64, .int .i64, .int .i64, .int .i64, .bool, .int .u64, .int .i64, .int .i64])], fun fs vs bs w => V44.l0 B R (nthN fs 0) (pV (nthV vs 0)) (iV (nthV vs 1)) (iV (nthV (cellsOfV (nthV vs 2)) 0)) (iV (nthV (cellsOfV (nthV vs 2)) 1)) (iV (nthV (cellsOfV (nthV vs 2)) 2)) (iV (nthV (cellsOfV (nthV vs 2)) 3)) (iV (nthV vs 3)) (nthB bs 0).blk (iV (nthV (nthB bs 0).cells 0)) (iV (nthV (nthB bs 0).cells 1)) (iV (nthV (nthB bs 0).cells 2)) (iV (nthV (nthB bs 0).cells 3)) (bV (nthV (nthB bs 0).cells 4)) (iV (nthV (nthB bs 0).cells 5)) (iV (nthV (nthB bs 0).cells 6)) (iV (nthV (nthB bs 0).cells 7)) w⟩,
  ⟨[(0, .one (.ptr)), (1, .one (.int .i64)), (11, .one (.int .i64))], [(5, 53, [.int .i64, .int .i64, .int .i64, .int .i64, .bool, .int .u64, .int .i64, .int .i64])], fun fs vs bs w => V44.b1 B R (pV (nthV vs 0)) (iV (nthV vs 1)) (iV (nthV vs 2)) (nthB bs 0).blk (iV (nthV (nthB bs 0).cells 0)) (iV (nthV (nthB bs 0).cells 1)) (iV (nthV (nthB bs 0).cells 2)) (iV (nthV (nthB bs 0).cells 3)) (bV (nthV (nthB bs 0).cells 4)) (iV (nthV (nthB bs 0).cells 5)) (iV (nthV (nthB bs 0).cells 6)) (iV (nthV (nthB bs 0).cells 7)) w⟩,
  ⟨[(0, .one (.ptr)), (1, .one (.int .i64)), (85, .agg [.int .u64, .int .u64, .int .u64, .int .u64, .int .u64, .int .u64, .int .u64]), (86, .one (.int .i64))], [], fun fs vs bs w => V44.l2 B R (nthN fs 0) (pV (nthV vs 0)) (iV (nthV vs 1)) (iV (nthV (cellsOfV (nthV vs 2)) 0)) (iV (nthV (cellsOfV (nthV vs 2)) 1)) (iV (nthV (cellsOfV (nthV vs 2)) 2)) (iV (nthV (cellsOfV (nthV vs 2)) 3)) (iV (nthV (cellsOfV (nthV vs 2)) 4)) (iV (nthV (cellsOfV (nthV vs 2)) 5)) (iV (nthV (cellsOfV (nthV vs 2)) 6)) (iV (nthV vs 3)) w⟩]
noncomputable def V44.h : H := .s (.z) (.s (.s (.z) (.c (.s (.z) (.z)) (.z))) (.s (.s (.z) (.s (.z) (.c (.s (.z) (.z)) (.z)))) (.s (.s (.z) (.c (.s (.z) (.z)) (.z))) (.s (.s (.z) (.b (.l 0 (.s (.z) (.s (.c (.z) (.z)) (.s (.b (.s (.z) (.s (.z) (.c (.s (.z) (.z)) (.z))))) (.z))))))) (.s (.z) (.cut 1 (.s (.z) (.c (.z) (.z))) (.s (.s (.z) (.b (.l 2 (.s (.z) (.s (.c (.z) (.z)) (.s (.b (.s (.z) (.z))) (.z))))))) (.s (.z) (.z)))))))))
theorem V44.vc_eq (B : Nat) (R : Value → World → Prop) (a0 : Addr) (at1 h2 h2_1 h2_2 h2_3 : Int) (h2_4 : Bool) (h2_5 h2_6 h2_7 : Int) (w : World) : wpf (V44.cfg B) (V44.cuts B R) V44.code V44.h [] (postOf Try.prog B (Try.f44.results.toList) R) (argE 0 [.pointer (some a0), .int .i64 at1, .agg ⟨[.int .i64 h2, .int .i64 h2_1, .int .i64 h2_2, .int .i64 h2_3, .bool h2_4, .int .u64 h2_5, .int .i64 h2_6, .int .i64 h2_7]⟩]) [] w = V44.vc B R a0 at1 h2 h2_1 h2_2 h2_3 h2_4 h2_5 h2_6 h2_7 w := by kernel_rfl
theorem V44.obl (B : Nat) (R : Value → World → Prop) : oblP (V44.cfg B) (V44.cuts B R) V44.code V44.h [] (postOf Try.prog B (Try.f44.results.toList) R) := by
  have e : oblP (V44.cfg B) (V44.cuts B R) V44.code V44.h [] (postOf Try.prog B (Try.f44.results.toList) R) = (True ∧ ((True ∧ ((True ∧ True) ∧ True)) ∧ ((True ∧ (True ∧ ((True ∧ True) ∧ True))) ∧ ((True ∧ ((True ∧ True) ∧ True)) ∧ ((True ∧ ((∀ (a0 : Addr) (at1 x48 x48_1 x48_2 x48_3 x49 : Int) (q5 : Nat) (h5 h5_1 h5_2 h5_3 : Int) (h5_4 : Bool) (h5_5 h5_6 h5_7 : Int) (w : World), ¬ V44.l0 B R 0 a0 at1 x48 x48_1 x48_2 x48_3 x49 q5 h5 h5_1 h5_2 h5_3 h5_4 h5_5 h5_6 h5_7 w) ∧ (∀ k0, ∀ (a0 : Addr) (at1 x48 x48_1 x48_2 x48_3 x49 : Int) (q5 : Nat) (h5 h5_1 h5_2 h5_3 : Int) (h5_4 : Bool) (h5_5 h5_6 h5_7 : Int) (w : World), V44.l0 B R (k0 + 1) a0 at1 x48 x48_1 x48_2 x48_3 x49 q5 h5 h5_1 h5_2 h5_3 h5_4 h5_5 h5_6 h5_7 w → V44.l0 B R (k0 + 1) a0 at1 x48 x48_1 x48_2 x48_3 x49 q5 h5 h5_1 h5_2 h5_3 h5_4 h5_5 h5_6 h5_7 w) ∧ ∀ k0 : Nat, (True ∧ ((True ∧ True) ∧ ((True ∧ (True ∧ ((True ∧ True) ∧ True))) ∧ True))))) ∧ (True ∧ ((True ∧ (True ∧ True)) ∧ (∀ (a0 : Addr) (at1 mode11 : Int) (q5 : Nat) (h5 h5_1 h5_2 h5_3 : Int) (h5_4 : Bool) (h5_5 h5_6 h5_7 : Int) (w : World), V44.b1 B R a0 at1 mode11 q5 h5 h5_1 h5_2 h5_3 h5_4 h5_5 h5_6 h5_7 w → V44.b1 B R a0 at1 mode11 q5 h5 h5_1 h5_2 h5_3 h5_4 h5_5 h5_6 h5_7 w) ∧ ((True ∧ ((∀ (a0 : Addr) (at1 x85 x85_1 x85_2 x85_3 x85_4 x85_5 x85_6 x86 : Int) (w : World), ¬ V44.l2 B R 0 a0 at1 x85 x85_1 x85_2 x85_3 x85_4 x85_5 x85_6 x86 w) ∧ (∀ k2, ∀ (a0 : Addr) (at1 x85 x85_1 x85_2 x85_3 x85_4 x85_5 x85_6 x86 : Int) (w : World), V44.l2 B R (k2 + 1) a0 at1 x85 x85_1 x85_2 x85_3 x85_4 x85_5 x85_6 x86 w → V44.l2 B R (k2 + 1) a0 at1 x85 x85_1 x85_2 x85_3 x85_4 x85_5 x85_6 x86 w) ∧ ∀ k2 : Nat, (True ∧ ((True ∧ True) ∧ ((True ∧ True) ∧ True))))) ∧ (True ∧ True))))))))) := by kernel_rfl
  rw [e]
  exact ⟨trivial, ⟨⟨trivial, ⟨⟨trivial, trivial⟩, trivial⟩⟩, ⟨⟨trivial, ⟨trivial, ⟨⟨trivial, trivial⟩, trivial⟩⟩⟩, ⟨⟨trivial, ⟨⟨trivial, trivial⟩, trivial⟩⟩, ⟨⟨trivial, ⟨fun a0 at1 x48 x48_1 x48_2 x48_3 x49 q5 h5 h5_1 h5_2 h5_3 h5_4 h5_5 h5_6 h5_7 w h => h, fun _ a0 at1 x48 x48_1 x48_2 x48_3 x49 q5 h5 h5_1 h5_2 h5_3 h5_4 h5_5 h5_6 h5_7 w h => h, fun k0 => ⟨trivial, ⟨⟨trivial, trivial⟩, ⟨⟨trivial, ⟨trivial, ⟨⟨trivial, trivial⟩, trivial⟩⟩⟩, trivial⟩⟩⟩⟩⟩, ⟨trivial, ⟨⟨trivial, ⟨trivial, trivial⟩⟩, fun a0 at1 mode11 q5 h5 h5_1 h5_2 h5_3 h5_4 h5_5 h5_6 h5_7 w h => h, ⟨⟨trivial, ⟨fun a0 at1 x85 x85_1 x85_2 x85_3 x85_4 x85_5 x85_6 x86 w h => h, fun _ a0 at1 x85 x85_1 x85_2 x85_3 x85_4 x85_5 x85_6 x86 w h => h, fun k2 => ⟨trivial, ⟨⟨trivial, trivial⟩, ⟨⟨trivial, trivial⟩, trivial⟩⟩⟩⟩⟩, ⟨trivial, trivial⟩⟩⟩⟩⟩⟩⟩⟩⟩
theorem V44.cfgOk (B : Nat) : CfgOk (V44.cfg B) := cfgOk_of (by kernel_rfl) (by kernel_rfl)
theorem V44.sound {a0 : Addr} {at1 h2 h2_1 h2_2 h2_3 : Int} {h2_4 : Bool} {h2_5 h2_6 h2_7 : Int} {w : World} {R : Value → World → Prop} (h : V44.vc w.heap.size R a0 at1 h2 h2_1 h2_2 h2_3 h2_4 h2_5 h2_6 h2_7 w) : Calls Try.prog 44 ⟨[.pointer (some a0), .int .i64 at1, .agg ⟨[.int .i64 h2, .int .i64 h2_1, .int .i64 h2_2, .int .i64 h2_3, .bool h2_4, .int .u64 h2_5, .int .i64 h2_6, .int .i64 h2_7]⟩]⟩ w fun e w' => ∃ v, e = .returned v ∧ R v w' :=
  calls_wpfP (c := V44.cfg w.heap.size) (fn := Try.f44) (x := V44.code) (V44.cuts w.heap.size R) V44.h (V44.cfgOk _) mixed Try.func44 (by kernel_rfl) (by kernel_rfl) (by kernel_rfl) rfl (V44.obl _ _) ((V44.vc_eq _ _ a0 at1 h2 h2_1 h2_2 h2_3 h2_4 h2_5 h2_6 h2_7 _).symm ▸ h)

/-! function 45 -/
def V45.l1 (B : Nat) (R : Value → World → Prop) : Nat → Int → Option Addr → Nat → Nat → Option Addr → Nat → Nat → Int → World → Prop
  | 0 => fun _ _ _ _ _ _ _ _ _ => False
  | k + 1 => fun at1 out8 out8l out8c l10 l10l l10c i11 w =>
    if (decide (i11 < (l10l : Int))) = true
    then (∃ p121 : Addr, l10 = some p121 ∧ (0 : Int) ≤ i11 ∧ i11 < (l10l : Int) ∧
    ∃ x122 : Int, w.cell? (p121.add i11.toNat) = some (.int .u64 x122) ∧
    ∃ p123 : Addr, out8 = some p123 ∧ (0 : Int) ≤ IntKind.wrap .i64 (at1 + i11) ∧ IntKind.wrap .i64 (at1 + i11) < (out8l : Int) ∧
    (∃ u, w.cell? ((p123.add ((IntKind.wrap .i64 (at1 + i11)).toNat)).add 0) = some u) ∧ w.frozen? ((p123.add ((IntKind.wrap .i64 (at1 + i11)).toNat)).add 0) = false ∧
    let w_1 := w.setCell ((p123.add ((IntKind.wrap .i64 (at1 + i11)).toNat)).add 0) (.int .u64 x122);
    (V45.l1 B R k) at1 out8 out8l out8c l10 l10l l10c (IntKind.wrap .i64 (i11 + 1)) w_1)
    else (Ret B w (R (.tuple ⟨[.slice out8 out8l out8c, .int .i64 0]⟩)))
def V45.b0 (B : Nat) (R : Value → World → Prop) (at1 : Int) (out8 : Option Addr) (out8l out8c : Nat) (mode9 : Int) (q5 : Nat) (h5 h5_1 h5_2 h5_3 : Int) (h5_4 : Bool) (h5_5 h5_6 h5_7 : Int) (w : World) : Prop :=
  Expo B w [q5] fun w_1 => 
  Hide [q5] (w_1.alloc (.cells ⟨[.int .u64 (IntKind.wrap .u64 (IntKind.wrap .i64 (h5 + 1))), .int .u64 (IntKind.wrap .u64 h5_1), .int .u64 (IntKind.wrap .u64 h5_2), .int .u64 mode9, .int .u64 h5_5, .int .u64 (IntKind.wrap .u64 h5_6), .int .u64 (IntKind.wrap .u64 h5_7)]⟩ 51)) fun w_2 => 
  ∃ k_1, V45.l1 B R k_1 at1 out8 out8l out8c (some ⟨w_1.heap.size, 0, none⟩) 7 7 0 w_2
def V45.vc (B : Nat) (R : Value → World → Prop) (mem0 : Option Addr) (mem0l mem0c : Nat) (at1 h2 h2_1 h2_2 h2_3 : Int) (h2_4 : Bool) (h2_5 h2_6 h2_7 : Int) (w : World) : Prop :=
  ∀ q5 : Nat, w.heap.size ≤ q5 →
CallK Try.prog 95 [.slice mem0 mem0l mem0c, .int .i64 at1, .int .i64 7] B w [q5] fun v w_1 => 
  ∃ b14 : Bool, v = .bool b14 ∧
  if (!b14) = false
  then (if (decide (h2 < (-1))) = false
   then (if (decide (h2 ≥ (mem0l : Int))) = false
    then (if (decide (h2_1 < 0)) = false
     then (if (decide (h2_1 > 2147483648)) = false
      then (if (decide (h2_2 < 0)) = false
       then (if (decide (h2_2 > 2147483648)) = false
        then (if (decide (h2_6 < 0)) = false
         then (if (decide (h2_6 > 2147483648)) = false
          then (if (decide (h2_7 < 0)) = false
           then (if (decide (h2_7 > 2147483648)) = false
            then (if (decide (h2_3 < 0)) = false
             then (if (decide (h2_3 > 2)) = true
              then (Ret B w_1 (R (.tuple ⟨[.slice mem0 mem0l mem0c, .int .i64 1]⟩)))
              else (Expo B w_1 [q5] fun w_2 => 
               Hide [q5] (w_2.alloc (.cells ⟨[]⟩ 51)) fun w_3 => 
               RunK Try.prog (Builtin.append_ #[50, 50] 50 ⟨[.slice (some ⟨w_2.heap.size, 0, none⟩) 0 0, .slice mem0 mem0l mem0c]⟩) B w_3 [q5] fun v_1 w_4 => 
               ∃ (A81 : Option Addr) (A81l A81c : Nat), v_1 = .slice A81 A81l A81c ∧
               if h2_4 = true
               then (V45.b0 B R at1 A81 A81l A81c (IntKind.wrap .u64 (IntKind.wrap .u64 h2_3 + 4)) q5 h2 h2_1 h2_2 h2_3 h2_4 h2_5 h2_6 h2_7 w_4)
               else (V45.b0 B R at1 A81 A81l A81c (IntKind.wrap .u64 h2_3) q5 h2 h2_1 h2_2 h2_3 h2_4 h2_5 h2_6 h2_7 w_4)))
             else (Ret B w_1 (R (.tuple ⟨[.slice mem0 mem0l mem0c, .int .i64 1]⟩))))
            else (Ret B w_1 (R (.tuple ⟨[.slice mem0 mem0l mem0c, .int .i64 1]⟩))))
           else (Ret B w_1 (R (.tuple ⟨[.slice mem0 mem0l mem0c, .int .i64 1]⟩))))
          else (Ret B w_1 (R (.tuple ⟨[.slice mem0 mem0l mem0c, .int .i64 1]⟩))))
         else (Ret B w_1 (R (.tuple ⟨[.slice mem0 mem0l mem0c, .int .i64 1]⟩))))
        else (Ret B w_1 (R (.tuple ⟨[.slice mem0 mem0l mem0c, .int .i64 1]⟩))))
       else (Ret B w_1 (R (.tuple ⟨[.slice mem0 mem0l mem0c, .int .i64 1]⟩))))
      else (Ret B w_1 (R (.tuple ⟨[.slice mem0 mem0l mem0c, .int .i64 1]⟩))))
     else (Ret B w_1 (R (.tuple ⟨[.slice mem0 mem0l mem0c, .int .i64 1]⟩))))
    else (Ret B w_1 (R (.tuple ⟨[.slice mem0 mem0l mem0c, .int .i64 1]⟩))))
   else (Ret B w_1 (R (.tuple ⟨[.slice mem0 mem0l mem0c, .int .i64 1]⟩))))
  else (Ret B w_1 (R (.tuple ⟨[.slice mem0 mem0l mem0c, .int .i64 1]⟩)))
noncomputable def V45.cfg (B : Nat) : Cfg := ⟨Try.prog, ⟨125, B⟩, [], hasN [95], hasN []⟩
noncomputable def V45.code : Code := (Try.f45.body).getD .skip
noncomputable def V45.cuts (B : Nat) (R : Value → World → Prop) : Nat → Cut := nthC [⟨[(1, .one (.int .i64)), (8, .one (.slice)), (9, .one (.int .u64))], [(5, 53, [.int .i64, .int .i64, .int .i64, .int .i64, .bool, .int .u64, .int .i64, .int .i64])], fun fs vs bs w => V45.b0 B R (iV (nthV vs 0)) (slA (nthV vs 1)) (slL (nthV vs 1)) (slC (nthV vs 1)) (iV (nthV vs 2)) (nthB bs 0).blk (iV (nthV (nthB bs 0).cells 0)) (iV (nthV (nthB bs 0).cells 1)) (iV (nthV (nthB bs 0).cells 2)) (iV (nthV (nthB bs 0).cells 3)) (bV (nthV (nthB bs 0).cells 4)) (iV (nthV (nthB bs 0).cells 5)) (iV (nthV (nthB bs 0).cells 6)) (iV (nthV (nthB bs 0).cells 7)) w⟩,
  ⟨[(1, .one (.int .i64)), (8, .one (.slice)), (10, .one (.slice)), (11, .one (.int .i64))], [], fun fs vs bs w => V45.l1 B R (nthN fs 0) (iV (nthV vs 0)) (slA (nthV vs 1)) (slL (nthV vs 1)) (slC (nthV vs 1)) (slA (nthV vs 2)) (slL (nthV vs 2)) (slC (nthV vs 2)) (iV (nthV vs 3)) w⟩]
noncomputable def V45.h : H := .s (.z) (.s (.s (.z) (.c (.s (.z) (.z)) (.z))) (.s (.z) (.s (.z) (.cut 0 (.s (.z) (.c (.z) (.z))) (.s (.z) (.s (.s (.z) (.b (.l 1 (.s (.s (.z) (.c (.z) (.z))) (.s (.b (.z)) (.z)))))) (.s (.z) (.z))))))))
theorem V45.vc_eq (B : Nat) (R : Value → World → Prop) (mem0 : Option Addr) (mem0l mem0c : Nat) (at1 h2 h2_1 h2_2 h2_3 : Int) (h2_4 : Bool) (h2_5 h2_6 h2_7 : Int) (w : World) : wpf (V45.cfg B) (V45.cuts B R) V45.code V45.h [] (postOf Try.prog B (Try.f45.results.toList) R) (argE 0 [.slice mem0 mem0l mem0c, .int .i64 at1, .agg ⟨[.int .i64 h2, .int .i64 h2_1, .int .i64 h2_2, .int .i64 h2_3, .bool h2_4, .int .u64 h2_5, .int .i64 h2_6, .int .i64 h2_7]⟩]) [] w = V45.vc B R mem0 mem0l mem0c at1 h2 h2_1 h2_2 h2_3 h2_4 h2_5 h2_6 h2_7 w := by kernel_rfl
theorem V45.obl (B : Nat) (R : Value → World → Prop) : oblP (V45.cfg B) (V45.cuts B R) V45.code V45.h [] (postOf Try.prog B (Try.f45.results.toList) R) := by
  have e : oblP (V45.cfg B) (V45.cuts B R) V45.code V45.h [] (postOf Try.prog B (Try.f45.results.toList) R) = (True ∧ ((True ∧ ((True ∧ True) ∧ True)) ∧ (True ∧ (True ∧ ((True ∧ (True ∧ True)) ∧ (∀ (at1 : Int) (out8 : Option Addr) (out8l out8c : Nat) (mode9 : Int) (q5 : Nat) (h5 h5_1 h5_2 h5_3 : Int) (h5_4 : Bool) (h5_5 h5_6 h5_7 : Int) (w : World), V45.b0 B R at1 out8 out8l out8c mode9 q5 h5 h5_1 h5_2 h5_3 h5_4 h5_5 h5_6 h5_7 w → V45.b0 B R at1 out8 out8l out8c mode9 q5 h5 h5_1 h5_2 h5_3 h5_4 h5_5 h5_6 h5_7 w) ∧ (True ∧ ((True ∧ ((∀ (at1 : Int) (out8 : Option Addr) (out8l out8c : Nat) (l10 : Option Addr) (l10l l10c : Nat) (i11 : Int) (w : World), ¬ V45.l1 B R 0 at1 out8 out8l out8c l10 l10l l10c i11 w) ∧ (∀ k1, ∀ (at1 : Int) (out8 : Option Addr) (out8l out8c : Nat) (l10 : Option Addr) (l10l l10c : Nat) (i11 : Int) (w : World), V45.l1 B R (k1 + 1) at1 out8 out8l out8c l10 l10l l10c i11 w → V45.l1 B R (k1 + 1) at1 out8 out8l out8c l10 l10l l10c i11 w) ∧ ∀ k1 : Nat, ((True ∧ (True ∧ True)) ∧ (True ∧ True)))) ∧ (True ∧ True)))))))) := by kernel_rfl
  rw [e]
  exact ⟨trivial, ⟨⟨trivial, ⟨⟨trivial, trivial⟩, trivial⟩⟩, ⟨trivial, ⟨trivial, ⟨⟨trivial, ⟨trivial, trivial⟩⟩, fun at1 out8 out8l out8c mode9 q5 h5 h5_1 h5_2 h5_3 h5_4 h5_5 h5_6 h5_7 w h => h, ⟨trivial, ⟨⟨trivial, ⟨fun at1 out8 out8l out8c l10 l10l l10c i11 w h => h, fun _ at1 out8 out8l out8c l10 l10l l10c i11 w h => h, fun k1 => ⟨⟨trivial, ⟨trivial, trivial⟩⟩, ⟨trivial, trivial⟩⟩⟩⟩, ⟨trivial, trivial⟩⟩⟩⟩⟩⟩⟩⟩
theorem V45.cfgOk (B : Nat) : CfgOk (V45.cfg B) := cfgOk_of (by kernel_rfl) (by kernel_rfl)
theorem V45.sound {mem0 : Option Addr} {mem0l mem0c : Nat} {at1 h2 h2_1 h2_2 h2_3 : Int} {h2_4 : Bool} {h2_5 h2_6 h2_7 : Int} {w : World} {R : Value → World → Prop} (h : V45.vc w.heap.size R mem0 mem0l mem0c at1 h2 h2_1 h2_2 h2_3 h2_4 h2_5 h2_6 h2_7 w) : Calls Try.prog 45 ⟨[.slice mem0 mem0l mem0c, .int .i64 at1, .agg ⟨[.int .i64 h2, .int .i64 h2_1, .int .i64 h2_2, .int .i64 h2_3, .bool h2_4, .int .u64 h2_5, .int .i64 h2_6, .int .i64 h2_7]⟩]⟩ w fun e w' => ∃ v, e = .returned v ∧ R v w' :=
  calls_wpfP (c := V45.cfg w.heap.size) (fn := Try.f45) (x := V45.code) (V45.cuts w.heap.size R) V45.h (V45.cfgOk _) mixed Try.func45 (by kernel_rfl) (by kernel_rfl) (by kernel_rfl) rfl (V45.obl _ _) ((V45.vc_eq _ _ mem0 mem0l mem0c at1 h2 h2_1 h2_2 h2_3 h2_4 h2_5 h2_6 h2_7 _).symm ▸ h)

/-! function 47 -/
def V47.b0 (B : Nat) (R : Value → World → Prop) (a1 : Addr) (w : World) : Prop :=
  Expo B w [] fun w_1 => 
  let w_2 := w_1.alloc (.cells ⟨[.int .u64 9]⟩ 51);
  Expo B w_2 [] fun w_3 => 
  let w_4 := w_3.alloc (.cells ⟨[.int .u64 5]⟩ 51);
  ∀ q2 : Nat, w_4.heap.size ≤ q2 →
  CallK Try.prog 97 [] B w_4 [q2] fun v w_5 => 
  ∃ (A14 : Option Addr) (A14l A14c : Nat), v = .agg ⟨[.slice A14 A14l A14c]⟩ ∧
  CallK Try.prog 52 [.pointer (some a1), .agg ⟨[.slice A14 A14l A14c]⟩, .int .i64 48, .int .i64 (-1), .agg ⟨[.int .i64 0, .int .i64 1, .int .i64 0, .bool false, .int .u64 0, .slice none 0 0, .slice (some ⟨w_1.heap.size, 0, none⟩) 1 1, .slice (some ⟨w_3.heap.size, 0, none⟩) 1 1]⟩] B w_5 [q2] fun v_1 w_6 => 
  ∃ x16 : Int, v_1 = .int .i64 x16 ∧
  CallK Try.prog 97 [] B w_6 [q2] fun v_2 w_7 => 
  ∃ (A19 : Option Addr) (A19l A19c : Nat), v_2 = .agg ⟨[.slice A19 A19l A19c]⟩ ∧
  CallK Try.prog 54 [.pointer (some a1), .agg ⟨[.slice A19 A19l A19c]⟩, .int .i64 48] B w_7 [q2] fun v_3 w_8 => 
  ∃ (x20 x20_1 x20_2 : Int) (b20 : Bool) (x20_3 : Int) (A20 : Option Addr) (A20l A20c : Nat) (A20_1 : Option Addr) (A20_1l A20_1c : Nat) (A20_2 : Option Addr) (A20_2l A20_2c : Nat) (x20_4 x20_5 : Int), v_3 = .tuple ⟨[.agg ⟨[.int .i64 x20, .int .i64 x20_1, .int .i64 x20_2, .bool b20, .int .u64 x20_3, .slice A20 A20l A20c, .slice A20_1 A20_1l A20_1c, .slice A20_2 A20_2l A20_2c]⟩, .int .i64 x20_4, .int .i64 x20_5]⟩ ∧
  ∀ q4 : Nat, w_8.heap.size ≤ q4 →
  if (x16 == 0) = true
  then (CallK Try.prog 97 [] B w_8 [q4, q2] fun v_4 w_9 => 
   ∃ (A28 : Option Addr) (A28l A28c : Nat), v_4 = .agg ⟨[.slice A28 A28l A28c]⟩ ∧
   CallK Try.prog 52 [.pointer (some a1), .agg ⟨[.slice A28 A28l A28c]⟩, .int .i64 49, .int .i64 (-1), .agg ⟨[.int .i64 0, .int .i64 1, .int .i64 0, .bool false, .int .u64 0, .slice none 0 0, .slice (some ⟨w_1.heap.size, 0, none⟩) 1 1, .slice (some ⟨w_3.heap.size, 0, none⟩) 1 1]⟩] B w_9 [q4, q2] fun v_5 w_10 => 
   ∃ x30 : Int, v_5 = .int .i64 x30 ∧
   if (x30 == 1) = true
   then (if (x20_5 == 0) = true
    then (if (x20_4 == (-1)) = true
     then (CallK Try.prog 56 [.agg ⟨[.int .i64 0, .int .i64 1, .int .i64 0, .bool false, .int .u64 0, .slice none 0 0, .slice (some ⟨w_1.heap.size, 0, none⟩) 1 1, .slice (some ⟨w_3.heap.size, 0, none⟩) 1 1]⟩, .agg ⟨[.int .i64 x20, .int .i64 x20_1, .int .i64 x20_2, .bool b20, .int .u64 x20_3, .slice A20 A20l A20c, .slice A20_1 A20_1l A20_1c, .slice A20_2 A20_2l A20_2c]⟩] B w_10 [q4, q2] fun v_6 w_11 => 
      ∃ b44 : Bool, v_6 = .bool b44 ∧
      Ret B w_11 (R (.bool b44)))
     else (Ret B w_10 (R (.bool false))))
    else (Ret B w_10 (R (.bool false))))
   else (Ret B w_10 (R (.bool false))))
  else (Ret B w_8 (R (.bool false)))
def V47.vc (B : Nat) (R : Value → World → Prop) (w : World) : Prop :=
  CallK Try.prog 92 [.int .i64 1] B w [] fun v w_1 => 
  ∃ op7 : Option Addr, v = .pointer op7 ∧
  caseP op7
  (False)
  (fun p7 => V47.b0 B R p7 w_1)
noncomputable def V47.cfg (B : Nat) : Cfg := ⟨Try.prog, ⟨46, B⟩, [], hasN [52, 54, 56, 92, 97], hasN []⟩
noncomputable def V47.code : Code := (Try.f47.body).getD .skip
noncomputable def V47.cuts (B : Nat) (R : Value → World → Prop) : Nat → Cut := nthC [⟨[(1, .one (.ptr))], [], fun fs vs bs w => V47.b0 B R (pV (nthV vs 0)) w⟩]
noncomputable def V47.h : H := .s (.z) (.cut 0 (.z) (.s (.s (.z) (.c (.s (.z) (.z)) (.z))) (.s (.z) (.s (.r [[0, 2, 1, 3, 4]]) (.s (.z) (.s (.r [[0, 1, 2, 3, 5, 4, 6, 7, 8, 9, 10, 11, 12, 13, 14, 15, 16, 17, 18, 19, 20, 21, 22]]) (.z)))))))
theorem V47.vc_eq (B : Nat) (R : Value → World → Prop)  (w : World) : wpf (V47.cfg B) (V47.cuts B R) V47.code V47.h [] (postOf Try.prog B (Try.f47.results.toList) R) (argE 0 []) [] w = V47.vc B R  w := by kernel_rfl
theorem V47.obl (B : Nat) (R : Value → World → Prop) : oblP (V47.cfg B) (V47.cuts B R) V47.code V47.h [] (postOf Try.prog B (Try.f47.results.toList) R) := by
  have e : oblP (V47.cfg B) (V47.cuts B R) V47.code V47.h [] (postOf Try.prog B (Try.f47.results.toList) R) = (True ∧ (True ∧ (∀ (a1 : Addr) (w : World), V47.b0 B R a1 w → V47.b0 B R a1 w) ∧ ((True ∧ ((True ∧ True) ∧ True)) ∧ (True ∧ ((true = true) ∧ (True ∧ ((true = true) ∧ True))))))) := by kernel_rfl
  rw [e]
  exact ⟨trivial, ⟨trivial, fun a1 w h => h, ⟨⟨trivial, ⟨⟨trivial, trivial⟩, trivial⟩⟩, ⟨trivial, ⟨rfl, ⟨trivial, ⟨rfl, trivial⟩⟩⟩⟩⟩⟩⟩
theorem V47.cfgOk (B : Nat) : CfgOk (V47.cfg B) := cfgOk_of (by kernel_rfl) (by kernel_rfl)
theorem V47.sound  {w : World} {R : Value → World → Prop} (h : V47.vc w.heap.size R  w) : Calls Try.prog 47 ⟨[]⟩ w fun e w' => ∃ v, e = .returned v ∧ R v w' :=
  calls_wpfP (c := V47.cfg w.heap.size) (fn := Try.f47) (x := V47.code) (V47.cuts w.heap.size R) V47.h (V47.cfgOk _) mixed Try.func47 (by kernel_rfl) (by kernel_rfl) (by kernel_rfl) rfl (V47.obl _ _) ((V47.vc_eq _ _  _).symm ▸ h)

/-! function 49 -/
def V49.l3 (B : Nat) (R : Value → World → Prop) : Nat → Option Addr → Nat → Nat → Int → Int → Nat → Option Addr → Nat → Nat → World → Prop
  | 0 => fun _ _ _ _ _ _ _ _ _ _ => False
  | k + 1 => fun A78 A78l A78c x79 x80 q2 p2 p2l p2c w =>
    if (decide (x80 < x79)) = true
    then (∃ p82 : Addr, A78 = some p82 ∧ (0 : Int) ≤ x80 ∧ x80 < (A78l : Int) ∧
    ∃ x83 : Int, w.cell? ((p82.add (x80.toNat * 2)).add 0) = some (.int .i64 x83) ∧
    ∃ (A83 : Option Addr) (A83l A83c : Nat), w.cell? ((p82.add (x80.toNat * 2)).add 1) = some (.slice A83 A83l A83c) ∧
    ∀ q10 : Nat, w.heap.size ≤ q10 →
    CallK Try.prog 99 [.agg ⟨[.slice p2 p2l p2c]⟩, .int .i64 x83] B w [q10, q2] fun v w_1 => 
     ∃ (x88 x88_1 x88_2 : Int) (A88 : Option Addr) (A88l A88c : Nat) (b88 : Bool), v = .tuple ⟨[.agg ⟨[.int .i64 x88, .int .i64 x88_1, .int .i64 x88_2, .slice A88 A88l A88c]⟩, .bool b88]⟩ ∧
     ∀ q11 : Nat, w_1.heap.size ≤ q11 →
     if (!b88) = false
     then (if ((A83l : Int) != x88) = true
      then (Ret B w_1 (R (.bool false)))
      else ((V49.l3 B R k) A78 A78l A78c x79 (IntKind.wrap .i64 (x80 + 1)) q2 p2 p2l p2c w_1))
     else (Ret B w_1 (R (.bool false))))
    else (Ret B w (R (.bool true)))
def V49.b2 (B : Nat) (R : Value → World → Prop) (q3 : Nat) (x3 x3_1 x3_2 : Int) (x3_3 : Bool) (x3_4 : Int) (x3_5 : Option Addr) (x3_5l x3_5c : Nat) (x3_6 : Option Addr) (x3_6l x3_6c : Nat) (x3_7 : Option Addr) (x3_7l x3_7c q2 : Nat) (p2 : Option Addr) (p2l p2c : Nat) (w : World) : Prop :=
  ∃ k_1, V49.l3 B R k_1 x3_5 x3_5l x3_5c (x3_5l : Int) 0 q2 p2 p2l p2c w
def V49.b1 (B : Nat) (R : Value → World → Prop) (records8 b49 : Bool) (q3 : Nat) (x3 x3_1 x3_2 : Int) (x3_3 : Bool) (x3_4 : Int) (x3_5 : Option Addr) (x3_5l x3_5c : Nat) (x3_6 : Option Addr) (x3_6l x3_6c : Nat) (x3_7 : Option Addr) (x3_7l x3_7c q2 : Nat) (p2 : Option Addr) (p2l p2c : Nat) (w : World) : Prop :=
  if b49 = true
  then (Ret B w (R (.bool false)))
  else (if (decide ((x3_5l : Int) > 0)) = true
   then (if (!records8) = true
    then (Ret B w (R (.bool false)))
    else (V49.b2 B R q3 x3 x3_1 x3_2 x3_3 x3_4 x3_5 x3_5l x3_5c x3_6 x3_6l x3_6c x3_7 x3_7l x3_7c q2 p2 p2l p2c w))
   else (V49.b2 B R q3 x3 x3_1 x3_2 x3_3 x3_4 x3_5 x3_5l x3_5c x3_6 x3_6l x3_6c x3_7 x3_7l x3_7c q2 p2 p2l p2c w))
def V49.b0 (B : Nat) (R : Value → World → Prop) (records8 b27 : Bool) (q5 : Nat) (f5 f5_1 f5_2 : Int) (f5_3 : Option Addr) (f5_3l f5_3c q3 : Nat) (x3 x3_1 x3_2 : Int) (x3_3 : Bool) (x3_4 : Int) (x3_5 : Option Addr) (x3_5l x3_5c : Nat) (x3_6 : Option Addr) (x3_6l x3_6c : Nat) (x3_7 : Option Addr) (x3_7l x3_7c q2 : Nat) (p2 : Option Addr) (p2l p2c : Nat) (w : World) : Prop :=
  if b27 = true
  then (Ret B w (R (.bool false)))
  else (if ((x3_6l : Int) != f5_1) = false
   then (if (decide ((x3_7l : Int) > 8)) = false
    then (V49.b1 B R records8 (decide ((x3_5l : Int) > 4)) q3 x3 x3_1 x3_2 x3_3 x3_4 x3_5 x3_5l x3_5c x3_6 x3_6l x3_6c x3_7 x3_7l x3_7c q2 p2 p2l p2c w)
    else (V49.b1 B R records8 true q3 x3 x3_1 x3_2 x3_3 x3_4 x3_5 x3_5l x3_5c x3_6 x3_6l x3_6c x3_7 x3_7l x3_7c q2 p2 p2l p2c w))
   else (V49.b1 B R records8 true q3 x3 x3_1 x3_2 x3_3 x3_4 x3_5 x3_5l x3_5c x3_6 x3_6l x3_6c x3_7 x3_7l x3_7c q2 p2 p2l p2c w))
def V49.vc (B : Nat) (R : Value → World → Prop) (p0 : Option Addr) (p0l p0c : Nat) (x1 x1_1 x1_2 : Int) (x1_3 : Bool) (x1_4 : Int) (x1_5 : Option Addr) (x1_5l x1_5c : Nat) (x1_6 : Option Addr) (x1_6l x1_6c : Nat) (x1_7 : Option Addr) (x1_7l x1_7c : Nat) (w : World) : Prop :=
  ∀ q2 : Nat, w.heap.size ≤ q2 →
∀ q3 : Nat, w.heap.size ≤ q3 →
CallK Try.prog 99 [.agg ⟨[.slice p0 p0l p0c]⟩, .int .i64 x1] B w [q3, q2] fun v w_1 => 
  ∃ (x17 x17_1 x17_2 : Int) (A17 : Option Addr) (A17l A17c : Nat) (b17 : Bool), v = .tuple ⟨[.agg ⟨[.int .i64 x17, .int .i64 x17_1, .int .i64 x17_2, .slice A17 A17l A17c]⟩, .bool b17]⟩ ∧
  ∀ q5 : Nat, w_1.heap.size ≤ q5 →
  if (!b17) = true
  then (Ret B w_1 (R (.bool false)))
  else (CallK Try.prog 100 [.agg ⟨[.int .i64 x17, .int .i64 x17_1, .int .i64 x17_2, .slice A17 A17l A17c]⟩] B w_1 [q5, q3, q2] fun v_1 w_2 => 
   ∃ (x24 : Int) (b24 : Bool), v_1 = .tuple ⟨[.int .i64 x24, .bool b24]⟩ ∧
   if (decide (x1_1 < 0)) = false
   then (if (decide (x1_1 > (A17l : Int))) = false
    then (if (decide (x1_2 < 0)) = false
     then (V49.b0 B R b24 (decide (x1_2 > 2)) q5 x17 x17_1 x17_2 A17 A17l A17c q3 x1 x1_1 x1_2 x1_3 x1_4 x1_5 x1_5l x1_5c x1_6 x1_6l x1_6c x1_7 x1_7l x1_7c q2 p0 p0l p0c w_2)
     else (V49.b0 B R b24 true q5 x17 x17_1 x17_2 A17 A17l A17c q3 x1 x1_1 x1_2 x1_3 x1_4 x1_5 x1_5l x1_5c x1_6 x1_6l x1_6c x1_7 x1_7l x1_7c q2 p0 p0l p0c w_2))
    else (V49.b0 B R b24 true q5 x17 x17_1 x17_2 A17 A17l A17c q3 x1 x1_1 x1_2 x1_3 x1_4 x1_5 x1_5l x1_5c x1_6 x1_6l x1_6c x1_7 x1_7l x1_7c q2 p0 p0l p0c w_2))
   else (V49.b0 B R b24 true q5 x17 x17_1 x17_2 A17 A17l A17c q3 x1 x1_1 x1_2 x1_3 x1_4 x1_5 x1_5l x1_5c x1_6 x1_6l x1_6c x1_7 x1_7l x1_7c q2 p0 p0l p0c w_2))
noncomputable def V49.cfg (B : Nat) : Cfg := ⟨Try.prog, ⟨102, B⟩, [], hasN [99, 100], hasN []⟩
noncomputable def V49.code : Code := (Try.f49.body).getD .skip
noncomputable def V49.cuts (B : Nat) (R : Value → World → Prop) : Nat → Cut := nthC [⟨[(8, .one (.bool)), (27, .one (.bool))], [(5, 29, [.int .i64, .int .i64, .int .i64, .slice]), (3, 67, [.int .i64, .int .i64, .int .i64, .bool, .int .u64, .slice, .slice, .slice]), (2, 24, [.slice])], fun fs vs bs w => V49.b0 B R (bV (nthV vs 0)) (bV (nthV vs 1)) (nthB bs 0).blk (iV (nthV (nthB bs 0).cells 0)) (iV (nthV (nthB bs 0).cells 1)) (iV (nthV (nthB bs 0).cells 2)) (slA (nthV (nthB bs 0).cells 3)) (slL (nthV (nthB bs 0).cells 3)) (slC (nthV (nthB bs 0).cells 3)) (nthB bs 1).blk (iV (nthV (nthB bs 1).cells 0)) (iV (nthV (nthB bs 1).cells 1)) (iV (nthV (nthB bs 1).cells 2)) (bV (nthV (nthB bs 1).cells 3)) (iV (nthV (nthB bs 1).cells 4)) (slA (nthV (nthB bs 1).cells 5)) (slL (nthV (nthB bs 1).cells 5)) (slC (nthV (nthB bs 1).cells 5)) (slA (nthV (nthB bs 1).cells 6)) (slL (nthV (nthB bs 1).cells 6)) (slC (nthV (nthB bs 1).cells 6)) (slA (nthV (nthB bs 1).cells 7)) (slL (nthV (nthB bs 1).cells 7)) (slC (nthV (nthB bs 1).cells 7)) (nthB bs 2).blk (slA (nthV (nthB bs 2).cells 0)) (slL (nthV (nthB bs 2).cells 0)) (slC (nthV (nthB bs 2).cells 0)) w⟩,
  ⟨[(8, .one (.bool)), (49, .one (.bool))], [(3, 67, [.int .i64, .int .i64, .int .i64, .bool, .int .u64, .slice, .slice, .slice]), (2, 24, [.slice])], fun fs vs bs w => V49.b1 B R (bV (nthV vs 0)) (bV (nthV vs 1)) (nthB bs 0).blk (iV (nthV (nthB bs 0).cells 0)) (iV (nthV (nthB bs 0).cells 1)) (iV (nthV (nthB bs 0).cells 2)) (bV (nthV (nthB bs 0).cells 3)) (iV (nthV (nthB bs 0).cells 4)) (slA (nthV (nthB bs 0).cells 5)) (slL (nthV (nthB bs 0).cells 5)) (slC (nthV (nthB bs 0).cells 5)) (slA (nthV (nthB bs 0).cells 6)) (slL (nthV (nthB bs 0).cells 6)) (slC (nthV (nthB bs 0).cells 6)) (slA (nthV (nthB bs 0).cells 7)) (slL (nthV (nthB bs 0).cells 7)) (slC (nthV (nthB bs 0).cells 7)) (nthB bs 1).blk (slA (nthV (nthB bs 1).cells 0)) (slL (nthV (nthB bs 1).cells 0)) (slC (nthV (nthB bs 1).cells 0)) w⟩,
  ⟨[], [(3, 67, [.int .i64, .int .i64, .int .i64, .bool, .int .u64, .slice, .slice, .slice]), (2, 24, [.slice])], fun fs vs bs w => V49.b2 B R (nthB bs 0).blk (iV (nthV (nthB bs 0).cells 0)) (iV (nthV (nthB bs 0).cells 1)) (iV (nthV (nthB bs 0).cells 2)) (bV (nthV (nthB bs 0).cells 3)) (iV (nthV (nthB bs 0).cells 4)) (slA (nthV (nthB bs 0).cells 5)) (slL (nthV (nthB bs 0).cells 5)) (slC (nthV (nthB bs 0).cells 5)) (slA (nthV (nthB bs 0).cells 6)) (slL (nthV (nthB bs 0).cells 6)) (slC (nthV (nthB bs 0).cells 6)) (slA (nthV (nthB bs 0).cells 7)) (slL (nthV (nthB bs 0).cells 7)) (slC (nthV (nthB bs 0).cells 7)) (nthB bs 1).blk (slA (nthV (nthB bs 1).cells 0)) (slL (nthV (nthB bs 1).cells 0)) (slC (nthV (nthB bs 1).cells 0)) w⟩,
  ⟨[(78, .one (.slice)), (79, .one (.int .i64)), (80, .one (.int .i64))], [(2, 24, [.slice])], fun fs vs bs w => V49.l3 B R (nthN fs 0) (slA (nthV vs 0)) (slL (nthV vs 0)) (slC (nthV vs 0)) (iV (nthV vs 1)) (iV (nthV vs 2)) (nthB bs 0).blk (slA (nthV (nthB bs 0).cells 0)) (slL (nthV (nthB bs 0).cells 0)) (slC (nthV (nthB bs 0).cells 0)) w⟩]
noncomputable def V49.h : H := .s (.z) (.s (.z) (.s (.s (.z) (.c (.s (.z) (.z)) (.z))) (.s (.z) (.cut 2 (.b (.cut 0 (.z) (.c (.s (.z) (.z)) (.cut 1 (.z) (.c (.s (.z) (.z)) (.s (.z) (.c (.s (.z) (.z)) (.z)))))))) (.s (.s (.z) (.b (.l 3 (.s (.z) (.s (.c (.z) (.z)) (.s (.b (.s (.z) (.s (.z) (.s (.z) (.c (.s (.z) (.z)) (.z)))))) (.z))))))) (.s (.z) (.z)))))))
theorem V49.vc_eq (B : Nat) (R : Value → World → Prop) (p0 : Option Addr) (p0l p0c : Nat) (x1 x1_1 x1_2 : Int) (x1_3 : Bool) (x1_4 : Int) (x1_5 : Option Addr) (x1_5l x1_5c : Nat) (x1_6 : Option Addr) (x1_6l x1_6c : Nat) (x1_7 : Option Addr) (x1_7l x1_7c : Nat) (w : World) : wpf (V49.cfg B) (V49.cuts B R) V49.code V49.h [] (postOf Try.prog B (Try.f49.results.toList) R) (argE 0 [.agg ⟨[.slice p0 p0l p0c]⟩, .agg ⟨[.int .i64 x1, .int .i64 x1_1, .int .i64 x1_2, .bool x1_3, .int .u64 x1_4, .slice x1_5 x1_5l x1_5c, .slice x1_6 x1_6l x1_6c, .slice x1_7 x1_7l x1_7c]⟩]) [] w = V49.vc B R p0 p0l p0c x1 x1_1 x1_2 x1_3 x1_4 x1_5 x1_5l x1_5c x1_6 x1_6l x1_6c x1_7 x1_7l x1_7c w := by kernel_rfl
theorem V49.obl (B : Nat) (R : Value → World → Prop) : oblP (V49.cfg B) (V49.cuts B R) V49.code V49.h [] (postOf Try.prog B (Try.f49.results.toList) R) := by
  have e : oblP (V49.cfg B) (V49.cuts B R) V49.code V49.h [] (postOf Try.prog B (Try.f49.results.toList) R) = (True ∧ (True ∧ ((True ∧ ((True ∧ True) ∧ True)) ∧ (True ∧ ((True ∧ (∀ (records8 b27 : Bool) (q5 : Nat) (f5 f5_1 f5_2 : Int) (f5_3 : Option Addr) (f5_3l f5_3c q3 : Nat) (x3 x3_1 x3_2 : Int) (x3_3 : Bool) (x3_4 : Int) (x3_5 : Option Addr) (x3_5l x3_5c : Nat) (x3_6 : Option Addr) (x3_6l x3_6c : Nat) (x3_7 : Option Addr) (x3_7l x3_7c q2 : Nat) (p2 : Option Addr) (p2l p2c : Nat) (w : World), V49.b0 B R records8 b27 q5 f5 f5_1 f5_2 f5_3 f5_3l f5_3c q3 x3 x3_1 x3_2 x3_3 x3_4 x3_5 x3_5l x3_5c x3_6 x3_6l x3_6c x3_7 x3_7l x3_7c q2 p2 p2l p2c w → V49.b0 B R records8 b27 q5 f5 f5_1 f5_2 f5_3 f5_3l f5_3c q3 x3 x3_1 x3_2 x3_3 x3_4 x3_5 x3_5l x3_5c x3_6 x3_6l x3_6c x3_7 x3_7l x3_7c q2 p2 p2l p2c w) ∧ ((True ∧ True) ∧ (True ∧ (∀ (records8 b49 : Bool) (q3 : Nat) (x3 x3_1 x3_2 : Int) (x3_3 : Bool) (x3_4 : Int) (x3_5 : Option Addr) (x3_5l x3_5c : Nat) (x3_6 : Option Addr) (x3_6l x3_6c : Nat) (x3_7 : Option Addr) (x3_7l x3_7c q2 : Nat) (p2 : Option Addr) (p2l p2c : Nat) (w : World), V49.b1 B R records8 b49 q3 x3 x3_1 x3_2 x3_3 x3_4 x3_5 x3_5l x3_5c x3_6 x3_6l x3_6c x3_7 x3_7l x3_7c q2 p2 p2l p2c w → V49.b1 B R records8 b49 q3 x3 x3_1 x3_2 x3_3 x3_4 x3_5 x3_5l x3_5c x3_6 x3_6l x3_6c x3_7 x3_7l x3_7c q2 p2 p2l p2c w) ∧ ((True ∧ True) ∧ (True ∧ ((True ∧ True) ∧ True)))))) ∧ (∀ (q3 : Nat) (x3 x3_1 x3_2 : Int) (x3_3 : Bool) (x3_4 : Int) (x3_5 : Option Addr) (x3_5l x3_5c : Nat) (x3_6 : Option Addr) (x3_6l x3_6c : Nat) (x3_7 : Option Addr) (x3_7l x3_7c q2 : Nat) (p2 : Option Addr) (p2l p2c : Nat) (w : World), V49.b2 B R q3 x3 x3_1 x3_2 x3_3 x3_4 x3_5 x3_5l x3_5c x3_6 x3_6l x3_6c x3_7 x3_7l x3_7c q2 p2 p2l p2c w → V49.b2 B R q3 x3 x3_1 x3_2 x3_3 x3_4 x3_5 x3_5l x3_5c x3_6 x3_6l x3_6c x3_7 x3_7l x3_7c q2 p2 p2l p2c w) ∧ ((True ∧ ((∀ (A78 : Option Addr) (A78l A78c : Nat) (x79 x80 : Int) (q2 : Nat) (p2 : Option Addr) (p2l p2c : Nat) (w : World), ¬ V49.l3 B R 0 A78 A78l A78c x79 x80 q2 p2 p2l p2c w) ∧ (∀ k3, ∀ (A78 : Option Addr) (A78l A78c : Nat) (x79 x80 : Int) (q2 : Nat) (p2 : Option Addr) (p2l p2c : Nat) (w : World), V49.l3 B R (k3 + 1) A78 A78l A78c x79 x80 q2 p2 p2l p2c w → V49.l3 B R (k3 + 1) A78 A78l A78c x79 x80 q2 p2 p2l p2c w) ∧ ∀ k3 : Nat, (True ∧ ((True ∧ True) ∧ ((True ∧ (True ∧ (True ∧ ((True ∧ True) ∧ True)))) ∧ True))))) ∧ (True ∧ True))))))) := by kernel_rfl
  rw [e]
  exact ⟨trivial, ⟨trivial, ⟨⟨trivial, ⟨⟨trivial, trivial⟩, trivial⟩⟩, ⟨trivial, ⟨⟨trivial, fun records8 b27 q5 f5 f5_1 f5_2 f5_3 f5_3l f5_3c q3 x3 x3_1 x3_2 x3_3 x3_4 x3_5 x3_5l x3_5c x3_6 x3_6l x3_6c x3_7 x3_7l x3_7c q2 p2 p2l p2c w h => h, ⟨⟨trivial, trivial⟩, ⟨trivial, fun records8 b49 q3 x3 x3_1 x3_2 x3_3 x3_4 x3_5 x3_5l x3_5c x3_6 x3_6l x3_6c x3_7 x3_7l x3_7c q2 p2 p2l p2c w h => h, ⟨⟨trivial, trivial⟩, ⟨trivial, ⟨⟨trivial, trivial⟩, trivial⟩⟩⟩⟩⟩⟩, fun q3 x3 x3_1 x3_2 x3_3 x3_4 x3_5 x3_5l x3_5c x3_6 x3_6l x3_6c x3_7 x3_7l x3_7c q2 p2 p2l p2c w h => h, ⟨⟨trivial, ⟨fun A78 A78l A78c x79 x80 q2 p2 p2l p2c w h => h, fun _ A78 A78l A78c x79 x80 q2 p2 p2l p2c w h => h, fun k3 => ⟨trivial, ⟨⟨trivial, trivial⟩, ⟨⟨trivial, ⟨trivial, ⟨trivial, ⟨⟨trivial, trivial⟩, trivial⟩⟩⟩⟩, trivial⟩⟩⟩⟩⟩, ⟨trivial, trivial⟩⟩⟩⟩⟩⟩⟩
theorem V49.cfgOk (B : Nat) : CfgOk (V49.cfg B) := cfgOk_of (by kernel_rfl) (by kernel_rfl)
theorem V49.sound {p0 : Option Addr} {p0l p0c : Nat} {x1 x1_1 x1_2 : Int} {x1_3 : Bool} {x1_4 : Int} {x1_5 : Option Addr} {x1_5l x1_5c : Nat} {x1_6 : Option Addr} {x1_6l x1_6c : Nat} {x1_7 : Option Addr} {x1_7l x1_7c : Nat} {w : World} {R : Value → World → Prop} (h : V49.vc w.heap.size R p0 p0l p0c x1 x1_1 x1_2 x1_3 x1_4 x1_5 x1_5l x1_5c x1_6 x1_6l x1_6c x1_7 x1_7l x1_7c w) : Calls Try.prog 49 ⟨[.agg ⟨[.slice p0 p0l p0c]⟩, .agg ⟨[.int .i64 x1, .int .i64 x1_1, .int .i64 x1_2, .bool x1_3, .int .u64 x1_4, .slice x1_5 x1_5l x1_5c, .slice x1_6 x1_6l x1_6c, .slice x1_7 x1_7l x1_7c]⟩]⟩ w fun e w' => ∃ v, e = .returned v ∧ R v w' :=
  calls_wpfP (c := V49.cfg w.heap.size) (fn := Try.f49) (x := V49.code) (V49.cuts w.heap.size R) V49.h (V49.cfgOk _) mixed Try.func49 (by kernel_rfl) (by kernel_rfl) (by kernel_rfl) rfl (V49.obl _ _) ((V49.vc_eq _ _ p0 p0l p0c x1 x1_1 x1_2 x1_3 x1_4 x1_5 x1_5l x1_5c x1_6 x1_6l x1_6c x1_7 x1_7l x1_7c _).symm ▸ h)

/-! function 50 -/
def V50.l0 (B : Nat) (R : Value → World → Prop) : Nat → Int → Nat → Int → Int → Int → Bool → Int → Option Addr → Nat → Nat → Option Addr → Nat → Nat → Option Addr → Nat → Nat → Nat → Option Addr → Nat → Nat → World → Prop
  | 0 => fun _ _ _ _ _ _ _ _ _ _ _ _ _ _ _ _ _ _ _ _ _ => False
  | k + 1 => fun i6 q3 x3 x3_1 x3_2 x3_3 x3_4 x3_5 x3_5l x3_5c x3_6 x3_6l x3_6c x3_7 x3_7l x3_7c q2 p2 p2l p2c w =>
    if (decide (i6 < (x3_5l : Int))) = true
    then (∃ p78 : Addr, x3_5 = some p78 ∧ (0 : Int) ≤ i6 ∧ i6 < (x3_5l : Int) ∧
    ∃ x79 : Int, w.cell? ((p78.add (i6.toNat * 2)).add 0) = some (.int .i64 x79) ∧
    ∃ (A79 : Option Addr) (A79l A79c : Nat), w.cell? ((p78.add (i6.toNat * 2)).add 1) = some (.slice A79 A79l A79c) ∧
    ∀ q7 : Nat, w.heap.size ≤ q7 →
    if (decide (x79 < 0)) = false
     then (if (decide (x79 ≥ (p2l : Int))) = false
      then (∃ p99 : Addr, p2 = some p99 ∧ (0 : Int) ≤ x79 ∧ x79 < (p2l : Int) ∧
      ∃ x101 : Int, w.cell? ((p99.add (x79.toNat * 4)).add 0) = some (.int .i64 x101) ∧
      if ((A79l : Int) != x101) = true
       then (Ret B w (R (.bool false)))
       else ((V50.l0 B R k) (IntKind.wrap .i64 (i6 + 1)) q3 x3 x3_1 x3_2 x3_3 x3_4 x3_5 x3_5l x3_5c x3_6 x3_6l x3_6c x3_7 x3_7l x3_7c q2 p2 p2l p2c w))
      else (Ret B w (R (.bool false))))
     else (Ret B w (R (.bool false))))
    else (Ret B w (R (.bool true)))
def V50.vc (B : Nat) (R : Value → World → Prop) (p0 : Option Addr) (p0l p0c : Nat) (x1 x1_1 x1_2 : Int) (x1_3 : Bool) (x1_4 : Int) (x1_5 : Option Addr) (x1_5l x1_5c : Nat) (x1_6 : Option Addr) (x1_6l x1_6c : Nat) (x1_7 : Option Addr) (x1_7l x1_7c : Nat) (w : World) : Prop :=
  ∀ q2 : Nat, w.heap.size ≤ q2 →
∀ q3 : Nat, w.heap.size ≤ q3 →
if (decide (x1 < 0)) = false
  then (if (decide (x1 ≥ (p0l : Int))) = true
   then (Ret B w (R (.bool false)))
   else (∃ p23 : Addr, p0 = some p23 ∧ (0 : Int) ≤ x1 ∧ x1 < (p0l : Int) ∧
   ∃ x24 : Int, w.cell? ((p23.add (x1.toNat * 4)).add 0) = some (.int .i64 x24) ∧
   ∃ x24_1 : Int, w.cell? ((p23.add (x1.toNat * 4)).add 1) = some (.int .i64 x24_1) ∧
   ∃ x24_2 : Int, w.cell? ((p23.add (x1.toNat * 4)).add 2) = some (.int .i64 x24_2) ∧
   ∃ (A24 : Option Addr) (A24l A24c : Nat), w.cell? ((p23.add (x1.toNat * 4)).add 3) = some (.slice A24 A24l A24c) ∧
   ∀ q5 : Nat, w.heap.size ≤ q5 →
   if (decide (x1_1 < 0)) = false
    then (if (decide (x1_1 > (A24l : Int))) = false
     then (if (decide (x1_2 < 0)) = false
      then (if (decide (x1_2 > 2)) = false
       then (if ((x1_6l : Int) != x24_1) = false
        then (if (decide ((x1_7l : Int) > 8)) = false
         then (CallK Try.prog 101 [.agg ⟨[.int .i64 x24, .int .i64 x24_1, .int .i64 x24_2, .slice A24 A24l A24c]⟩] B w [q5, q3, q2] fun v w_1 => 
          ∃ x65 : Int, v = .int .i64 x65 ∧
          if (decide ((x1_5l : Int) > x65)) = true
          then (Ret B w_1 (R (.bool false)))
          else (∃ k_1, V50.l0 B R k_1 0 q3 x1 x1_1 x1_2 x1_3 x1_4 x1_5 x1_5l x1_5c x1_6 x1_6l x1_6c x1_7 x1_7l x1_7c q2 p0 p0l p0c w_1))
         else (Ret B w (R (.bool false))))
        else (Ret B w (R (.bool false))))
       else (Ret B w (R (.bool false))))
      else (Ret B w (R (.bool false))))
     else (Ret B w (R (.bool false))))
    else (Ret B w (R (.bool false)))))
  else (Ret B w (R (.bool false)))
noncomputable def V50.cfg (B : Nat) : Cfg := ⟨Try.prog, ⟨104, B⟩, [], hasN [101], hasN []⟩
noncomputable def V50.code : Code := (Try.f50.body).getD .skip
noncomputable def V50.cuts (B : Nat) (R : Value → World → Prop) : Nat → Cut := nthC [⟨[(6, .one (.int .i64))], [(3, 67, [.int .i64, .int .i64, .int .i64, .bool, .int .u64, .slice, .slice, .slice]), (2, 24, [.slice])], fun fs vs bs w => V50.l0 B R (nthN fs 0) (iV (nthV vs 0)) (nthB bs 0).blk (iV (nthV (nthB bs 0).cells 0)) (iV (nthV (nthB bs 0).cells 1)) (iV (nthV (nthB bs 0).cells 2)) (bV (nthV (nthB bs 0).cells 3)) (iV (nthV (nthB bs 0).cells 4)) (slA (nthV (nthB bs 0).cells 5)) (slL (nthV (nthB bs 0).cells 5)) (slC (nthV (nthB bs 0).cells 5)) (slA (nthV (nthB bs 0).cells 6)) (slL (nthV (nthB bs 0).cells 6)) (slC (nthV (nthB bs 0).cells 6)) (slA (nthV (nthB bs 0).cells 7)) (slL (nthV (nthB bs 0).cells 7)) (slC (nthV (nthB bs 0).cells 7)) (nthB bs 1).blk (slA (nthV (nthB bs 1).cells 0)) (slL (nthV (nthB bs 1).cells 0)) (slC (nthV (nthB bs 1).cells 0)) w⟩]
noncomputable def V50.h : H := .s (.z) (.s (.s (.z) (.c (.s (.z) (.z)) (.z))) (.s (.z) (.s (.s (.r [[0, 1, 2, 3, 4, 5, 6, 7, 8, 9, 10, 11, 12, 13, 14, 15, 16, 17, 18, 19, 20, 21, 22, 23, 24, 25, 26, 27, 28, 29, 30, 31, 32, 33, 34, 35, 36, 37, 38, 39, 40, 41, 42]]) (.c (.s (.z) (.z)) (.z))) (.s (.s (.z) (.b (.l 0 (.s (.s (.z) (.c (.z) (.z))) (.s (.b (.s (.z) (.s (.r [[0, 1, 2, 3, 4, 5, 6, 7, 8, 9, 10, 11, 12, 13, 14, 15, 16, 17, 18, 19, 20, 21, 22, 23]]) (.c (.s (.z) (.z)) (.z))))) (.z)))))) (.s (.z) (.z))))))
theorem V50.vc_eq (B : Nat) (R : Value → World → Prop) (p0 : Option Addr) (p0l p0c : Nat) (x1 x1_1 x1_2 : Int) (x1_3 : Bool) (x1_4 : Int) (x1_5 : Option Addr) (x1_5l x1_5c : Nat) (x1_6 : Option Addr) (x1_6l x1_6c : Nat) (x1_7 : Option Addr) (x1_7l x1_7c : Nat) (w : World) : wpf (V50.cfg B) (V50.cuts B R) V50.code V50.h [] (postOf Try.prog B (Try.f50.results.toList) R) (argE 0 [.agg ⟨[.slice p0 p0l p0c]⟩, .agg ⟨[.int .i64 x1, .int .i64 x1_1, .int .i64 x1_2, .bool x1_3, .int .u64 x1_4, .slice x1_5 x1_5l x1_5c, .slice x1_6 x1_6l x1_6c, .slice x1_7 x1_7l x1_7c]⟩]) [] w = V50.vc B R p0 p0l p0c x1 x1_1 x1_2 x1_3 x1_4 x1_5 x1_5l x1_5c x1_6 x1_6l x1_6c x1_7 x1_7l x1_7c w := by kernel_rfl
theorem V50.obl (B : Nat) (R : Value → World → Prop) : oblP (V50.cfg B) (V50.cuts B R) V50.code V50.h [] (postOf Try.prog B (Try.f50.results.toList) R) := by
  have e : oblP (V50.cfg B) (V50.cuts B R) V50.code V50.h [] (postOf Try.prog B (Try.f50.results.toList) R) = (True ∧ ((True ∧ ((True ∧ True) ∧ True)) ∧ (True ∧ (((true = true) ∧ ((True ∧ True) ∧ True)) ∧ ((True ∧ ((∀ (i6 : Int) (q3 : Nat) (x3 x3_1 x3_2 : Int) (x3_3 : Bool) (x3_4 : Int) (x3_5 : Option Addr) (x3_5l x3_5c : Nat) (x3_6 : Option Addr) (x3_6l x3_6c : Nat) (x3_7 : Option Addr) (x3_7l x3_7c q2 : Nat) (p2 : Option Addr) (p2l p2c : Nat) (w : World), ¬ V50.l0 B R 0 i6 q3 x3 x3_1 x3_2 x3_3 x3_4 x3_5 x3_5l x3_5c x3_6 x3_6l x3_6c x3_7 x3_7l x3_7c q2 p2 p2l p2c w) ∧ (∀ k0, ∀ (i6 : Int) (q3 : Nat) (x3 x3_1 x3_2 : Int) (x3_3 : Bool) (x3_4 : Int) (x3_5 : Option Addr) (x3_5l x3_5c : Nat) (x3_6 : Option Addr) (x3_6l x3_6c : Nat) (x3_7 : Option Addr) (x3_7l x3_7c q2 : Nat) (p2 : Option Addr) (p2l p2c : Nat) (w : World), V50.l0 B R (k0 + 1) i6 q3 x3 x3_1 x3_2 x3_3 x3_4 x3_5 x3_5l x3_5c x3_6 x3_6l x3_6c x3_7 x3_7l x3_7c q2 p2 p2l p2c w → V50.l0 B R (k0 + 1) i6 q3 x3 x3_1 x3_2 x3_3 x3_4 x3_5 x3_5l x3_5c x3_6 x3_6l x3_6c x3_7 x3_7l x3_7c q2 p2 p2l p2c w) ∧ ∀ k0 : Nat, ((True ∧ (True ∧ True)) ∧ ((True ∧ ((true = true) ∧ ((True ∧ True) ∧ True))) ∧ True)))) ∧ (True ∧ True)))))) := by kernel_rfl
  rw [e]
  exact ⟨trivial, ⟨⟨trivial, ⟨⟨trivial, trivial⟩, trivial⟩⟩, ⟨trivial, ⟨⟨rfl, ⟨⟨trivial, trivial⟩, trivial⟩⟩, ⟨⟨trivial, ⟨fun i6 q3 x3 x3_1 x3_2 x3_3 x3_4 x3_5 x3_5l x3_5c x3_6 x3_6l x3_6c x3_7 x3_7l x3_7c q2 p2 p2l p2c w h => h, fun _ i6 q3 x3 x3_1 x3_2 x3_3 x3_4 x3_5 x3_5l x3_5c x3_6 x3_6l x3_6c x3_7 x3_7l x3_7c q2 p2 p2l p2c w h => h, fun k0 => ⟨⟨trivial, ⟨trivial, trivial⟩⟩, ⟨⟨trivial, ⟨rfl, ⟨⟨trivial, trivial⟩, trivial⟩⟩⟩, trivial⟩⟩⟩⟩, ⟨trivial, trivial⟩⟩⟩⟩⟩⟩
theorem V50.cfgOk (B : Nat) : CfgOk (V50.cfg B) := cfgOk_of (by kernel_rfl) (by kernel_rfl)
theorem V50.sound {p0 : Option Addr} {p0l p0c : Nat} {x1 x1_1 x1_2 : Int} {x1_3 : Bool} {x1_4 : Int} {x1_5 : Option Addr} {x1_5l x1_5c : Nat} {x1_6 : Option Addr} {x1_6l x1_6c : Nat} {x1_7 : Option Addr} {x1_7l x1_7c : Nat} {w : World} {R : Value → World → Prop} (h : V50.vc w.heap.size R p0 p0l p0c x1 x1_1 x1_2 x1_3 x1_4 x1_5 x1_5l x1_5c x1_6 x1_6l x1_6c x1_7 x1_7l x1_7c w) : Calls Try.prog 50 ⟨[.agg ⟨[.slice p0 p0l p0c]⟩, .agg ⟨[.int .i64 x1, .int .i64 x1_1, .int .i64 x1_2, .bool x1_3, .int .u64 x1_4, .slice x1_5 x1_5l x1_5c, .slice x1_6 x1_6l x1_6c, .slice x1_7 x1_7l x1_7c]⟩]⟩ w fun e w' => ∃ v, e = .returned v ∧ R v w' :=
  calls_wpfP (c := V50.cfg w.heap.size) (fn := Try.f50) (x := V50.code) (V50.cuts w.heap.size R) V50.h (V50.cfgOk _) mixed Try.func50 (by kernel_rfl) (by kernel_rfl) (by kernel_rfl) rfl (V50.obl _ _) ((V50.vc_eq _ _ p0 p0l p0c x1 x1_1 x1_2 x1_3 x1_4 x1_5 x1_5l x1_5c x1_6 x1_6l x1_6c x1_7 x1_7l x1_7c _).symm ▸ h)

/-! function 52 -/
def V52.l0 (B : Nat) (R : Value → World → Prop) : Nat → Addr → Int → Option Addr → Nat → Nat → Int → Int → Nat → Int → Int → Int → Option Addr → Nat → Nat → Nat → Int → Int → Int → Bool → Int → Option Addr → Nat → Nat → Option Addr → Nat → Nat → Option Addr → Nat → Nat → World → Prop
  | 0 => fun _ _ _ _ _ _ _ _ _ _ _ _ _ _ _ _ _ _ _ _ _ _ _ _ _ _ _ _ _ _ => False
  | k + 1 => fun a0 at2 A70 A70l A70c x71 x72 q11 f11 f11_1 f11_2 f11_3 f11_3l f11_3c q9 x9 x9_1 x9_2 x9_3 x9_4 x9_5 x9_5l x9_5c x9_6 x9_6l x9_6c x9_7 x9_7l x9_7c w =>
    if (decide (x72 < x71)) = true
    then (∃ p75 : Addr, A70 = some p75 ∧ (0 : Int) ≤ x72 ∧ x72 < (A70l : Int) ∧
    ∃ x76 : Int, w.cell? ((p75.add (x72.toNat * 2)).add 0) = some (.int .i64 x76) ∧
    ∃ (A76 : Option Addr) (A76l A76c : Nat), w.cell? ((p75.add (x72.toNat * 2)).add 1) = some (.slice A76 A76l A76c) ∧
    ∀ q15 : Nat, w.heap.size ≤ q15 →
    CallK Try.prog 102 [.pointer (some a0), .int .i64 (IntKind.wrap .i64 (IntKind.wrap .i64 (at2 + 7) + IntKind.wrap .i64 (x72 * 4))), .int .i64 4, .int .u64 0] B w [q15, q11, q9] fun v w_1 => 
     ∃ x84 : Int, v = .int .i64 x84 ∧
     CallK Try.prog 70 [.pointer (some a0), .int .i64 (IntKind.wrap .i64 (IntKind.wrap .i64 (at2 + 7) + IntKind.wrap .i64 (x72 * 4))), .int .u64 (IntKind.wrap .u64 x76)] B w_1 [q15, q11, q9] fun v_1 w_2 => 
     ∃ x90 : Int, v_1 = .int .i64 x90 ∧
     CallK Try.prog 103 [.pointer (some a0), .int .i64 (IntKind.wrap .i64 (IntKind.wrap .i64 (IntKind.wrap .i64 (at2 + 7) + IntKind.wrap .i64 (x72 * 4)) + 1)), .slice A76 A76l A76c] B w_2 [q15, q11, q9] fun v_2 w_3 => 
     v_2 = .tuple ⟨[]⟩ ∧ (V52.l0 B R k) a0 at2 A70 A70l A70c x71 (IntKind.wrap .i64 (x72 + 1)) q11 f11 f11_1 f11_2 f11_3 f11_3l f11_3c q9 x9 x9_1 x9_2 x9_3 x9_4 x9_5 x9_5l x9_5c x9_6 x9_6l x9_6c x9_7 x9_7l x9_7c w_3)
    else (CallK Try.prog 100 [.agg ⟨[.int .i64 f11, .int .i64 f11_1, .int .i64 f11_2, .slice f11_3 f11_3l f11_3c]⟩] B w [q11, q9] fun v w_1 => 
     ∃ (x100 : Int) (b100 : Bool), v = .tuple ⟨[.int .i64 x100, .bool b100]⟩ ∧
     CallK Try.prog 103 [.pointer (some a0), .int .i64 (IntKind.wrap .i64 (at2 + x100)), .slice x9_6 x9_6l x9_6c] B w_1 [q11, q9] fun v_1 w_2 => 
     v_1 = .tuple ⟨[]⟩ ∧
     CallK Try.prog 103 [.pointer (some a0), .int .i64 (IntKind.wrap .i64 (IntKind.wrap .i64 (at2 + x100) + f11_1)), .slice x9_7 x9_7l x9_7c] B w_2 [q11, q9] fun v_2 w_3 => 
     v_2 = .tuple ⟨[]⟩ ∧
     Ret B w_3 (R (.int .i64 0)))
def V52.vc (B : Nat) (R : Value → World → Prop) (a0 : Addr) (p1 : Option Addr) (p1l p1c : Nat) (at2 under3 x4 x4_1 x4_2 : Int) (x4_3 : Bool) (x4_4 : Int) (x4_5 : Option Addr) (x4_5l x4_5c : Nat) (x4_6 : Option Addr) (x4_6l x4_6c : Nat) (x4_7 : Option Addr) (x4_7l x4_7c : Nat) (w : World) : Prop :=
  ∀ q6 : Nat, w.heap.size ≤ q6 →
∀ q9 : Nat, w.heap.size ≤ q9 →
CallK Try.prog 49 [.agg ⟨[.slice p1 p1l p1c]⟩, .agg ⟨[.int .i64 x4, .int .i64 x4_1, .int .i64 x4_2, .bool x4_3, .int .u64 x4_4, .slice x4_5 x4_5l x4_5c, .slice x4_6 x4_6l x4_6c, .slice x4_7 x4_7l x4_7c]⟩] B w [q9, q6] fun v w_1 => 
  ∃ b23 : Bool, v = .bool b23 ∧
  if (!b23) = false
  then (CallK Try.prog 96 [.pointer (some a0), .int .i64 under3] B w_1 [q9, q6] fun v_1 w_2 => 
   ∃ b28 : Bool, v_1 = .bool b28 ∧
   if (!b28) = true
   then (Ret B w_2 (R (.int .i64 1)))
   else (∃ p35 : Addr, p1 = some p35 ∧ (0 : Int) ≤ x4 ∧ x4 < (p1l : Int) ∧
   ∃ x36 : Int, w_2.cell? ((p35.add (x4.toNat * 4)).add 0) = some (.int .i64 x36) ∧
   ∃ x36_1 : Int, w_2.cell? ((p35.add (x4.toNat * 4)).add 1) = some (.int .i64 x36_1) ∧
   ∃ x36_2 : Int, w_2.cell? ((p35.add (x4.toNat * 4)).add 2) = some (.int .i64 x36_2) ∧
   ∃ (A36 : Option Addr) (A36l A36c : Nat), w_2.cell? ((p35.add (x4.toNat * 4)).add 3) = some (.slice A36 A36l A36c) ∧
   ∀ q11 : Nat, w_2.heap.size ≤ q11 →
   CallK Try.prog 32 [.agg ⟨[.int .i64 x36, .int .i64 x36_1, .int .i64 x36_2, .slice A36 A36l A36c]⟩] B w_2 [q11, q9, q6] fun v_2 w_3 => 
    ∃ x41 : Int, v_2 = .int .i64 x41 ∧
    CallK Try.prog 94 [.pointer (some a0), .int .i64 at2, .int .i64 x41] B w_3 [q11, q9, q6] fun v_3 w_4 => 
    ∃ (A42 : Option Addr) (A42l A42c : Nat) (x42 : Int), v_3 = .tuple ⟨[.slice A42 A42l A42c, .int .i64 x42]⟩ ∧
    if (x42 != 0) = true
    then (Ret B w_4 (R (.int .i64 x42)))
    else (CallK Try.prog 44 [.pointer (some a0), .int .i64 at2, .agg ⟨[.int .i64 under3, .int .i64 x4, .int .i64 x4_1, .int .i64 x4_2, .bool x4_3, .int .u64 x4_4, .int .i64 (x4_5l : Int), .int .i64 (x4_7l : Int)]⟩] B w_4 [q11, q9, q6] fun v_4 w_5 => 
     ∃ x68 : Int, v_4 = .int .i64 x68 ∧
     ∃ k_1, V52.l0 B R k_1 a0 at2 x4_5 x4_5l x4_5c (x4_5l : Int) 0 q11 x36 x36_1 x36_2 A36 A36l A36c q9 x4 x4_1 x4_2 x4_3 x4_4 x4_5 x4_5l x4_5c x4_6 x4_6l x4_6c x4_7 x4_7l x4_7c w_5)))
  else (Ret B w_1 (R (.int .i64 1)))
noncomputable def V52.cfg (B : Nat) : Cfg := ⟨Try.prog, ⟨120, B⟩, [], hasN [32, 44, 49, 70, 94, 96, 100, 102, 103], hasN []⟩
noncomputable def V52.code : Code := (Try.f52.body).getD .skip
noncomputable def V52.cuts (B : Nat) (R : Value → World → Prop) : Nat → Cut := nthC [⟨[(0, .one (.ptr)), (2, .one (.int .i64)), (70, .one (.slice)), (71, .one (.int .i64)), (72, .one (.int .i64))], [(11, 29, [.int .i64, .int .i64, .int .i64, .slice]), (9, 67, [.int .i64, .int .i64, .int .i64, .bool, .int .u64, .slice, .slice, .slice])], fun fs vs bs w => V52.l0 B R (nthN fs 0) (pV (nthV vs 0)) (iV (nthV vs 1)) (slA (nthV vs 2)) (slL (nthV vs 2)) (slC (nthV vs 2)) (iV (nthV vs 3)) (iV (nthV vs 4)) (nthB bs 0).blk (iV (nthV (nthB bs 0).cells 0)) (iV (nthV (nthB bs 0).cells 1)) (iV (nthV (nthB bs 0).cells 2)) (slA (nthV (nthB bs 0).cells 3)) (slL (nthV (nthB bs 0).cells 3)) (slC (nthV (nthB bs 0).cells 3)) (nthB bs 1).blk (iV (nthV (nthB bs 1).cells 0)) (iV (nthV (nthB bs 1).cells 1)) (iV (nthV (nthB bs 1).cells 2)) (bV (nthV (nthB bs 1).cells 3)) (iV (nthV (nthB bs 1).cells 4)) (slA (nthV (nthB bs 1).cells 5)) (slL (nthV (nthB bs 1).cells 5)) (slC (nthV (nthB bs 1).cells 5)) (slA (nthV (nthB bs 1).cells 6)) (slL (nthV (nthB bs 1).cells 6)) (slC (nthV (nthB bs 1).cells 6)) (slA (nthV (nthB bs 1).cells 7)) (slL (nthV (nthB bs 1).cells 7)) (slC (nthV (nthB bs 1).cells 7)) w⟩]
noncomputable def V52.h : H := .s (.z) (.s (.s (.z) (.c (.s (.z) (.z)) (.z))) (.s (.s (.z) (.c (.s (.z) (.z)) (.z))) (.s (.z) (.s (.s (.z) (.s (.z) (.c (.s (.z) (.z)) (.z)))) (.s (.z) (.s (.s (.z) (.b (.l 0 (.s (.z) (.s (.c (.z) (.z)) (.s (.b (.s (.z) (.s (.z) (.s (.z) (.s (.z) (.z)))))) (.z))))))) (.s (.z) (.s (.z) (.s (.z) (.s (.z) (.z)))))))))))
theorem V52.vc_eq (B : Nat) (R : Value → World → Prop) (a0 : Addr) (p1 : Option Addr) (p1l p1c : Nat) (at2 under3 x4 x4_1 x4_2 : Int) (x4_3 : Bool) (x4_4 : Int) (x4_5 : Option Addr) (x4_5l x4_5c : Nat) (x4_6 : Option Addr) (x4_6l x4_6c : Nat) (x4_7 : Option Addr) (x4_7l x4_7c : Nat) (w : World) : wpf (V52.cfg B) (V52.cuts B R) V52.code V52.h [] (postOf Try.prog B (Try.f52.results.toList) R) (argE 0 [.pointer (some a0), .agg ⟨[.slice p1 p1l p1c]⟩, .int .i64 at2, .int .i64 under3, .agg ⟨[.int .i64 x4, .int .i64 x4_1, .int .i64 x4_2, .bool x4_3, .int .u64 x4_4, .slice x4_5 x4_5l x4_5c, .slice x4_6 x4_6l x4_6c, .slice x4_7 x4_7l x4_7c]⟩]) [] w = V52.vc B R a0 p1 p1l p1c at2 under3 x4 x4_1 x4_2 x4_3 x4_4 x4_5 x4_5l x4_5c x4_6 x4_6l x4_6c x4_7 x4_7l x4_7c w := by kernel_rfl
theorem V52.obl (B : Nat) (R : Value → World → Prop) : oblP (V52.cfg B) (V52.cuts B R) V52.code V52.h [] (postOf Try.prog B (Try.f52.results.toList) R) := by
  have e : oblP (V52.cfg B) (V52.cuts B R) V52.code V52.h [] (postOf Try.prog B (Try.f52.results.toList) R) = (True ∧ ((True ∧ ((True ∧ True) ∧ True)) ∧ ((True ∧ ((True ∧ True) ∧ True)) ∧ (True ∧ ((True ∧ (True ∧ ((True ∧ True) ∧ True))) ∧ (True ∧ ((True ∧ ((∀ (a0 : Addr) (at2 : Int) (A70 : Option Addr) (A70l A70c : Nat) (x71 x72 : Int) (q11 : Nat) (f11 f11_1 f11_2 : Int) (f11_3 : Option Addr) (f11_3l f11_3c q9 : Nat) (x9 x9_1 x9_2 : Int) (x9_3 : Bool) (x9_4 : Int) (x9_5 : Option Addr) (x9_5l x9_5c : Nat) (x9_6 : Option Addr) (x9_6l x9_6c : Nat) (x9_7 : Option Addr) (x9_7l x9_7c : Nat) (w : World), ¬ V52.l0 B R 0 a0 at2 A70 A70l A70c x71 x72 q11 f11 f11_1 f11_2 f11_3 f11_3l f11_3c q9 x9 x9_1 x9_2 x9_3 x9_4 x9_5 x9_5l x9_5c x9_6 x9_6l x9_6c x9_7 x9_7l x9_7c w) ∧ (∀ k0, ∀ (a0 : Addr) (at2 : Int) (A70 : Option Addr) (A70l A70c : Nat) (x71 x72 : Int) (q11 : Nat) (f11 f11_1 f11_2 : Int) (f11_3 : Option Addr) (f11_3l f11_3c q9 : Nat) (x9 x9_1 x9_2 : Int) (x9_3 : Bool) (x9_4 : Int) (x9_5 : Option Addr) (x9_5l x9_5c : Nat) (x9_6 : Option Addr) (x9_6l x9_6c : Nat) (x9_7 : Option Addr) (x9_7l x9_7c : Nat) (w : World), V52.l0 B R (k0 + 1) a0 at2 A70 A70l A70c x71 x72 q11 f11 f11_1 f11_2 f11_3 f11_3l f11_3c q9 x9 x9_1 x9_2 x9_3 x9_4 x9_5 x9_5l x9_5c x9_6 x9_6l x9_6c x9_7 x9_7l x9_7c w → V52.l0 B R (k0 + 1) a0 at2 A70 A70l A70c x71 x72 q11 f11 f11_1 f11_2 f11_3 f11_3l f11_3c q9 x9 x9_1 x9_2 x9_3 x9_4 x9_5 x9_5l x9_5c x9_6 x9_6l x9_6c x9_7 x9_7l x9_7c w) ∧ ∀ k0 : Nat, (True ∧ ((True ∧ True) ∧ ((True ∧ (True ∧ (True ∧ (True ∧ True)))) ∧ True))))) ∧ (True ∧ (True ∧ (True ∧ (True ∧ True))))))))))) := by kernel_rfl
  rw [e]
  exact ⟨trivial, ⟨⟨trivial, ⟨⟨trivial, trivial⟩, trivial⟩⟩, ⟨⟨trivial, ⟨⟨trivial, trivial⟩, trivial⟩⟩, ⟨trivial, ⟨⟨trivial, ⟨trivial, ⟨⟨trivial, trivial⟩, trivial⟩⟩⟩, ⟨trivial, ⟨⟨trivial, ⟨fun a0 at2 A70 A70l A70c x71 x72 q11 f11 f11_1 f11_2 f11_3 f11_3l f11_3c q9 x9 x9_1 x9_2 x9_3 x9_4 x9_5 x9_5l x9_5c x9_6 x9_6l x9_6c x9_7 x9_7l x9_7c w h => h, fun _ a0 at2 A70 A70l A70c x71 x72 q11 f11 f11_1 f11_2 f11_3 f11_3l f11_3c q9 x9 x9_1 x9_2 x9_3 x9_4 x9_5 x9_5l x9_5c x9_6 x9_6l x9_6c x9_7 x9_7l x9_7c w h => h, fun k0 => ⟨trivial, ⟨⟨trivial, trivial⟩, ⟨⟨trivial, ⟨trivial, ⟨trivial, ⟨trivial, trivial⟩⟩⟩⟩, trivial⟩⟩⟩⟩⟩, ⟨trivial, ⟨trivial, ⟨trivial, ⟨trivial, trivial⟩⟩⟩⟩⟩⟩⟩⟩⟩⟩⟩
theorem V52.cfgOk (B : Nat) : CfgOk (V52.cfg B) := cfgOk_of (by kernel_rfl) (by kernel_rfl)
theorem V52.sound {a0 : Addr} {p1 : Option Addr} {p1l p1c : Nat} {at2 under3 x4 x4_1 x4_2 : Int} {x4_3 : Bool} {x4_4 : Int} {x4_5 : Option Addr} {x4_5l x4_5c : Nat} {x4_6 : Option Addr} {x4_6l x4_6c : Nat} {x4_7 : Option Addr} {x4_7l x4_7c : Nat} {w : World} {R : Value → World → Prop} (h : V52.vc w.heap.size R a0 p1 p1l p1c at2 under3 x4 x4_1 x4_2 x4_3 x4_4 x4_5 x4_5l x4_5c x4_6 x4_6l x4_6c x4_7 x4_7l x4_7c w) : Calls Try.prog 52 ⟨[.pointer (some a0), .agg ⟨[.slice p1 p1l p1c]⟩, .int .i64 at2, .int .i64 under3, .agg ⟨[.int .i64 x4, .int .i64 x4_1, .int .i64 x4_2, .bool x4_3, .int .u64 x4_4, .slice x4_5 x4_5l x4_5c, .slice x4_6 x4_6l x4_6c, .slice x4_7 x4_7l x4_7c]⟩]⟩ w fun e w' => ∃ v, e = .returned v ∧ R v w' :=
  calls_wpfP (c := V52.cfg w.heap.size) (fn := Try.f52) (x := V52.code) (V52.cuts w.heap.size R) V52.h (V52.cfgOk _) mixed Try.func52 (by kernel_rfl) (by kernel_rfl) (by kernel_rfl) rfl (V52.obl _ _) ((V52.vc_eq _ _ a0 p1 p1l p1c at2 under3 x4 x4_1 x4_2 x4_3 x4_4 x4_5 x4_5l x4_5c x4_6 x4_6l x4_6c x4_7 x4_7l x4_7c _).symm ▸ h)

/-! function 53 -/
def V53.l1 (B : Nat) (R : Value → World → Prop) (L0 : Option Addr → Nat → Nat → Int → Int → Nat → Int → Int → Int → Bool → Int → Option Addr → Nat → Nat → Option Addr → Nat → Nat → Option Addr → Nat → Nat → Nat → Option Addr → Nat → Nat → World → Prop) : Nat → Option Addr → Nat → Nat → Int → Int → Int → Nat → Int → Int → Int → Bool → Int → Option Addr → Nat → Nat → Option Addr → Nat → Nat → Option Addr → Nat → Nat → Nat → Option Addr → Nat → Nat → World → Prop
  | 0 => fun _ _ _ _ _ _ _ _ _ _ _ _ _ _ _ _ _ _ _ _ _ _ _ _ _ _ => False
  | k + 1 => fun out12 out12l out12c k14 i15 j16 q9 x9 x9_1 x9_2 x9_3 x9_4 x9_5 x9_5l x9_5c x9_6 x9_6l x9_6c x9_7 x9_7l x9_7c q6 p6 p6l p6c w =>
    if (decide (j16 < 3)) = true
    then (∃ p109 : Addr, out12 = some p109 ∧ (0 : Int) ≤ IntKind.wrap .i64 (IntKind.wrap .i64 (IntKind.wrap .i64 (k14 + IntKind.wrap .i64 (i15 * 4)) + 1) + j16) ∧ IntKind.wrap .i64 (IntKind.wrap .i64 (IntKind.wrap .i64 (k14 + IntKind.wrap .i64 (i15 * 4)) + 1) + j16) < (out12l : Int) ∧
    (∃ u, w.cell? ((p109.add ((IntKind.wrap .i64 (IntKind.wrap .i64 (IntKind.wrap .i64 (k14 + IntKind.wrap .i64 (i15 * 4)) + 1) + j16)).toNat)).add 0) = some u) ∧ w.frozen? ((p109.add ((IntKind.wrap .i64 (IntKind.wrap .i64 (IntKind.wrap .i64 (k14 + IntKind.wrap .i64 (i15 * 4)) + 1) + j16)).toNat)).add 0) = false ∧
    let w_1 := w.setCell ((p109.add ((IntKind.wrap .i64 (IntKind.wrap .i64 (IntKind.wrap .i64 (k14 + IntKind.wrap .i64 (i15 * 4)) + 1) + j16)).toNat)).add 0) (.int .u64 0);
    ∃ p114 : Addr, x9_5 = some p114 ∧ (0 : Int) ≤ i15 ∧ i15 < (x9_5l : Int) ∧
    ∃ (A116 : Option Addr) (A116l A116c : Nat), w_1.cell? ((p114.add (i15.toNat * 2)).add 1) = some (.slice A116 A116l A116c) ∧
    if (decide (j16 < (A116l : Int))) = true
     then (∃ p130 : Addr, x9_5 = some p130 ∧ (0 : Int) ≤ i15 ∧ i15 < (x9_5l : Int) ∧
     ∃ (A132 : Option Addr) (A132l A132c : Nat), w_1.cell? ((p130.add (i15.toNat * 2)).add 1) = some (.slice A132 A132l A132c) ∧
     ∃ p134 : Addr, A132 = some p134 ∧ (0 : Int) ≤ j16 ∧ j16 < (A132l : Int) ∧
     ∃ x135 : Int, w_1.cell? (p134.add j16.toNat) = some (.int .u64 x135) ∧
     ∃ p136 : Addr, out12 = some p136 ∧ (0 : Int) ≤ IntKind.wrap .i64 (IntKind.wrap .i64 (IntKind.wrap .i64 (k14 + IntKind.wrap .i64 (i15 * 4)) + 1) + j16) ∧ IntKind.wrap .i64 (IntKind.wrap .i64 (IntKind.wrap .i64 (k14 + IntKind.wrap .i64 (i15 * 4)) + 1) + j16) < (out12l : Int) ∧
     (∃ u_1, w_1.cell? ((p136.add ((IntKind.wrap .i64 (IntKind.wrap .i64 (IntKind.wrap .i64 (k14 + IntKind.wrap .i64 (i15 * 4)) + 1) + j16)).toNat)).add 0) = some u_1) ∧ w_1.frozen? ((p136.add ((IntKind.wrap .i64 (IntKind.wrap .i64 (IntKind.wrap .i64 (k14 + IntKind.wrap .i64 (i15 * 4)) + 1) + j16)).toNat)).add 0) = false ∧
     let w_2 := w_1.setCell ((p136.add ((IntKind.wrap .i64 (IntKind.wrap .i64 (IntKind.wrap .i64 (k14 + IntKind.wrap .i64 (i15 * 4)) + 1) + j16)).toNat)).add 0) (.int .u64 x135);
     (V53.l1 B R L0 k) out12 out12l out12c k14 i15 (IntKind.wrap .i64 (j16 + 1)) q9 x9 x9_1 x9_2 x9_3 x9_4 x9_5 x9_5l x9_5c x9_6 x9_6l x9_6c x9_7 x9_7l x9_7c q6 p6 p6l p6c w_2)
     else ((V53.l1 B R L0 k) out12 out12l out12c k14 i15 (IntKind.wrap .i64 (j16 + 1)) q9 x9 x9_1 x9_2 x9_3 x9_4 x9_5 x9_5l x9_5c x9_6 x9_6l x9_6c x9_7 x9_7l x9_7c q6 p6 p6l p6c w_1))
    else (L0 out12 out12l out12c k14 (IntKind.wrap .i64 (i15 + 1)) q9 x9 x9_1 x9_2 x9_3 x9_4 x9_5 x9_5l x9_5c x9_6 x9_6l x9_6c x9_7 x9_7l x9_7c q6 p6 p6l p6c w)
def V53.l3 (B : Nat) (R : Value → World → Prop) : Nat → Option Addr → Nat → Nat → Int → Int → Nat → Int → Int → Int → Bool → Int → Option Addr → Nat → Nat → Option Addr → Nat → Nat → Option Addr → Nat → Nat → World → Prop
  | 0 => fun _ _ _ _ _ _ _ _ _ _ _ _ _ _ _ _ _ _ _ _ _ => False
  | k + 1 => fun out12 out12l out12c k14 i18 q9 x9 x9_1 x9_2 x9_3 x9_4 x9_5 x9_5l x9_5c x9_6 x9_6l x9_6c x9_7 x9_7l x9_7c w =>
    if (decide (i18 < (x9_7l : Int))) = true
    then (∃ p183 : Addr, x9_7 = some p183 ∧ (0 : Int) ≤ i18 ∧ i18 < (x9_7l : Int) ∧
    ∃ x184 : Int, w.cell? (p183.add i18.toNat) = some (.int .u64 x184) ∧
    ∃ p185 : Addr, out12 = some p185 ∧ (0 : Int) ≤ IntKind.wrap .i64 (k14 + i18) ∧ IntKind.wrap .i64 (k14 + i18) < (out12l : Int) ∧
    (∃ u, w.cell? ((p185.add ((IntKind.wrap .i64 (k14 + i18)).toNat)).add 0) = some u) ∧ w.frozen? ((p185.add ((IntKind.wrap .i64 (k14 + i18)).toNat)).add 0) = false ∧
    let w_1 := w.setCell ((p185.add ((IntKind.wrap .i64 (k14 + i18)).toNat)).add 0) (.int .u64 x184);
    (V53.l3 B R k) out12 out12l out12c k14 (IntKind.wrap .i64 (i18 + 1)) q9 x9 x9_1 x9_2 x9_3 x9_4 x9_5 x9_5l x9_5c x9_6 x9_6l x9_6c x9_7 x9_7l x9_7c w_1)
    else (Ret B w (R (.tuple ⟨[.slice out12 out12l out12c, .int .i64 0]⟩)))
def V53.l2 (B : Nat) (R : Value → World → Prop) : Nat → Option Addr → Nat → Nat → Int → Int → Nat → Int → Int → Int → Bool → Int → Option Addr → Nat → Nat → Option Addr → Nat → Nat → Option Addr → Nat → Nat → World → Prop
  | 0 => fun _ _ _ _ _ _ _ _ _ _ _ _ _ _ _ _ _ _ _ _ _ => False
  | k + 1 => fun out12 out12l out12c k14 i17 q9 x9 x9_1 x9_2 x9_3 x9_4 x9_5 x9_5l x9_5c x9_6 x9_6l x9_6c x9_7 x9_7l x9_7c w =>
    if (decide (i17 < (x9_6l : Int))) = true
    then (∃ p161 : Addr, x9_6 = some p161 ∧ (0 : Int) ≤ i17 ∧ i17 < (x9_6l : Int) ∧
    ∃ x162 : Int, w.cell? (p161.add i17.toNat) = some (.int .u64 x162) ∧
    ∃ p163 : Addr, out12 = some p163 ∧ (0 : Int) ≤ IntKind.wrap .i64 (k14 + i17) ∧ IntKind.wrap .i64 (k14 + i17) < (out12l : Int) ∧
    (∃ u, w.cell? ((p163.add ((IntKind.wrap .i64 (k14 + i17)).toNat)).add 0) = some u) ∧ w.frozen? ((p163.add ((IntKind.wrap .i64 (k14 + i17)).toNat)).add 0) = false ∧
    let w_1 := w.setCell ((p163.add ((IntKind.wrap .i64 (k14 + i17)).toNat)).add 0) (.int .u64 x162);
    (V53.l2 B R k) out12 out12l out12c k14 (IntKind.wrap .i64 (i17 + 1)) q9 x9 x9_1 x9_2 x9_3 x9_4 x9_5 x9_5l x9_5c x9_6 x9_6l x9_6c x9_7 x9_7l x9_7c w_1)
    else (∃ k_1, V53.l3 B R k_1 out12 out12l out12c (IntKind.wrap .i64 (k14 + (x9_6l : Int))) 0 q9 x9 x9_1 x9_2 x9_3 x9_4 x9_5 x9_5l x9_5c x9_6 x9_6l x9_6c x9_7 x9_7l x9_7c w)
def V53.l0 (B : Nat) (R : Value → World → Prop) : Nat → Option Addr → Nat → Nat → Int → Int → Nat → Int → Int → Int → Bool → Int → Option Addr → Nat → Nat → Option Addr → Nat → Nat → Option Addr → Nat → Nat → Nat → Option Addr → Nat → Nat → World → Prop
  | 0 => fun _ _ _ _ _ _ _ _ _ _ _ _ _ _ _ _ _ _ _ _ _ _ _ _ _ => False
  | k + 1 => fun out12 out12l out12c k14 i15 q9 x9 x9_1 x9_2 x9_3 x9_4 x9_5 x9_5l x9_5c x9_6 x9_6l x9_6c x9_7 x9_7l x9_7c q6 p6 p6l p6c w =>
    if (decide (i15 < (x9_5l : Int))) = true
    then (∃ p92 : Addr, x9_5 = some p92 ∧ (0 : Int) ≤ i15 ∧ i15 < (x9_5l : Int) ∧
    ∃ x94 : Int, w.cell? ((p92.add (i15.toNat * 2)).add 0) = some (.int .i64 x94) ∧
    ∃ p96 : Addr, out12 = some p96 ∧ (0 : Int) ≤ IntKind.wrap .i64 (k14 + IntKind.wrap .i64 (i15 * 4)) ∧ IntKind.wrap .i64 (k14 + IntKind.wrap .i64 (i15 * 4)) < (out12l : Int) ∧
    (∃ u, w.cell? ((p96.add ((IntKind.wrap .i64 (k14 + IntKind.wrap .i64 (i15 * 4))).toNat)).add 0) = some u) ∧ w.frozen? ((p96.add ((IntKind.wrap .i64 (k14 + IntKind.wrap .i64 (i15 * 4))).toNat)).add 0) = false ∧
    let w_1 := w.setCell ((p96.add ((IntKind.wrap .i64 (k14 + IntKind.wrap .i64 (i15 * 4))).toNat)).add 0) (.int .u64 (IntKind.wrap .u64 x94));
    ∃ k_1, V53.l1 B R (V53.l0 B R k) k_1 out12 out12l out12c k14 i15 0 q9 x9 x9_1 x9_2 x9_3 x9_4 x9_5 x9_5l x9_5c x9_6 x9_6l x9_6c x9_7 x9_7l x9_7c q6 p6 p6l p6c w_1)
    else (∃ p142 : Addr, p6 = some p142 ∧ (0 : Int) ≤ x9 ∧ x9 < (p6l : Int) ∧
    ∃ x143 : Int, w.cell? ((p142.add (x9.toNat * 4)).add 0) = some (.int .i64 x143) ∧
    ∃ x143_1 : Int, w.cell? ((p142.add (x9.toNat * 4)).add 1) = some (.int .i64 x143_1) ∧
    ∃ x143_2 : Int, w.cell? ((p142.add (x9.toNat * 4)).add 2) = some (.int .i64 x143_2) ∧
    ∃ (A143 : Option Addr) (A143l A143c : Nat), w.cell? ((p142.add (x9.toNat * 4)).add 3) = some (.slice A143 A143l A143c) ∧
    CallK Try.prog 101 [.agg ⟨[.int .i64 x143, .int .i64 x143_1, .int .i64 x143_2, .slice A143 A143l A143c]⟩] B w [q9, q6] fun v w_1 => 
     ∃ x144 : Int, v = .int .i64 x144 ∧
     ∃ k_1, V53.l2 B R k_1 out12 out12l out12c (IntKind.wrap .i64 (k14 + IntKind.wrap .i64 (x144 * 4))) 0 q9 x9 x9_1 x9_2 x9_3 x9_4 x9_5 x9_5l x9_5c x9_6 x9_6l x9_6c x9_7 x9_7l x9_7c w_1)
def V53.vc (B : Nat) (R : Value → World → Prop) (mem0 : Option Addr) (mem0l mem0c : Nat) (p1 : Option Addr) (p1l p1c : Nat) (at2 below3 x4 x4_1 x4_2 : Int) (x4_3 : Bool) (x4_4 : Int) (x4_5 : Option Addr) (x4_5l x4_5c : Nat) (x4_6 : Option Addr) (x4_6l x4_6c : Nat) (x4_7 : Option Addr) (x4_7l x4_7c : Nat) (w : World) : Prop :=
  ∀ q6 : Nat, w.heap.size ≤ q6 →
∀ q9 : Nat, w.heap.size ≤ q9 →
CallK Try.prog 50 [.agg ⟨[.slice p1 p1l p1c]⟩, .agg ⟨[.int .i64 x4, .int .i64 x4_1, .int .i64 x4_2, .bool x4_3, .int .u64 x4_4, .slice x4_5 x4_5l x4_5c, .slice x4_6 x4_6l x4_6c, .slice x4_7 x4_7l x4_7c]⟩] B w [q9, q6] fun v w_1 => 
  ∃ b21 : Bool, v = .bool b21 ∧
  if (!b21) = false
  then (if (decide (below3 < (-1))) = false
   then (if (decide (below3 ≥ (mem0l : Int))) = false
    then (∃ p40 : Addr, p1 = some p40 ∧ (0 : Int) ≤ x4 ∧ x4 < (p1l : Int) ∧
    ∃ x41 : Int, w_1.cell? ((p40.add (x4.toNat * 4)).add 0) = some (.int .i64 x41) ∧
    ∃ x41_1 : Int, w_1.cell? ((p40.add (x4.toNat * 4)).add 1) = some (.int .i64 x41_1) ∧
    ∃ x41_2 : Int, w_1.cell? ((p40.add (x4.toNat * 4)).add 2) = some (.int .i64 x41_2) ∧
    ∃ (A41 : Option Addr) (A41l A41c : Nat), w_1.cell? ((p40.add (x4.toNat * 4)).add 3) = some (.slice A41 A41l A41c) ∧
    CallK Try.prog 33 [.agg ⟨[.int .i64 x41, .int .i64 x41_1, .int .i64 x41_2, .slice A41 A41l A41c]⟩] B w_1 [q9, q6] fun v_1 w_2 => 
     ∃ x42 : Int, v_1 = .int .i64 x42 ∧
     CallK Try.prog 95 [.slice mem0 mem0l mem0c, .int .i64 at2, .int .i64 x42] B w_2 [q9, q6] fun v_2 w_3 => 
     ∃ b43 : Bool, v_2 = .bool b43 ∧
     if (!b43) = true
     then (Ret B w_3 (R (.tuple ⟨[.slice mem0 mem0l mem0c, .int .i64 1]⟩)))
     else (CallK Try.prog 45 [.slice mem0 mem0l mem0c, .int .i64 at2, .agg ⟨[.int .i64 below3, .int .i64 x4, .int .i64 x4_1, .int .i64 x4_2, .bool x4_3, .int .u64 x4_4, .int .i64 (x4_5l : Int), .int .i64 (x4_7l : Int)]⟩] B w_3 [q9, q6] fun v_3 w_4 => 
      ∃ (A68 : Option Addr) (A68l A68c : Nat) (x68 : Int), v_3 = .tuple ⟨[.slice A68 A68l A68c, .int .i64 x68]⟩ ∧
      if (x68 != 0) = true
      then (Ret B w_4 (R (.tuple ⟨[.slice mem0 mem0l mem0c, .int .i64 x68]⟩)))
      else (∃ k_1, V53.l0 B R k_1 A68 A68l A68c (IntKind.wrap .i64 (at2 + 7)) 0 q9 x4 x4_1 x4_2 x4_3 x4_4 x4_5 x4_5l x4_5c x4_6 x4_6l x4_6c x4_7 x4_7l x4_7c q6 p1 p1l p1c w_4)))
    else (Ret B w_1 (R (.tuple ⟨[.slice mem0 mem0l mem0c, .int .i64 1]⟩))))
   else (Ret B w_1 (R (.tuple ⟨[.slice mem0 mem0l mem0c, .int .i64 1]⟩))))
  else (Ret B w_1 (R (.tuple ⟨[.slice mem0 mem0l mem0c, .int .i64 1]⟩)))
noncomputable def V53.cfg (B : Nat) : Cfg := ⟨Try.prog, ⟨187, B⟩, [], hasN [33, 45, 50, 95, 101], hasN []⟩
noncomputable def V53.code : Code := (Try.f53.body).getD .skip
noncomputable def V53.cuts (B : Nat) (R : Value → World → Prop) : Nat → Cut := nthC [⟨[(12, .one (.slice)), (14, .one (.int .i64)), (15, .one (.int .i64))], [(9, 67, [.int .i64, .int .i64, .int .i64, .bool, .int .u64, .slice, .slice, .slice]), (6, 24, [.slice])], fun fs vs bs w => V53.l0 B R (nthN fs 0) (slA (nthV vs 0)) (slL (nthV vs 0)) (slC (nthV vs 0)) (iV (nthV vs 1)) (iV (nthV vs 2)) (nthB bs 0).blk (iV (nthV (nthB bs 0).cells 0)) (iV (nthV (nthB bs 0).cells 1)) (iV (nthV (nthB bs 0).cells 2)) (bV (nthV (nthB bs 0).cells 3)) (iV (nthV (nthB bs 0).cells 4)) (slA (nthV (nthB bs 0).cells 5)) (slL (nthV (nthB bs 0).cells 5)) (slC (nthV (nthB bs 0).cells 5)) (slA (nthV (nthB bs 0).cells 6)) (slL (nthV (nthB bs 0).cells 6)) (slC (nthV (nthB bs 0).cells 6)) (slA (nthV (nthB bs 0).cells 7)) (slL (nthV (nthB bs 0).cells 7)) (slC (nthV (nthB bs 0).cells 7)) (nthB bs 1).blk (slA (nthV (nthB bs 1).cells 0)) (slL (nthV (nthB bs 1).cells 0)) (slC (nthV (nthB bs 1).cells 0)) w⟩,
  ⟨[(12, .one (.slice)), (14, .one (.int .i64)), (15, .one (.int .i64)), (16, .one (.int .i64))], [(9, 67, [.int .i64, .int .i64, .int .i64, .bool, .int .u64, .slice, .slice, .slice]), (6, 24, [.slice])], fun fs vs bs w => V53.l1 B R (V53.l0 B R (nthN fs 1)) (nthN fs 0) (slA (nthV vs 0)) (slL (nthV vs 0)) (slC (nthV vs 0)) (iV (nthV vs 1)) (iV (nthV vs 2)) (iV (nthV vs 3)) (nthB bs 0).blk (iV (nthV (nthB bs 0).cells 0)) (iV (nthV (nthB bs 0).cells 1)) (iV (nthV (nthB bs 0).cells 2)) (bV (nthV (nthB bs 0).cells 3)) (iV (nthV (nthB bs 0).cells 4)) (slA (nthV (nthB bs 0).cells 5)) (slL (nthV (nthB bs 0).cells 5)) (slC (nthV (nthB bs 0).cells 5)) (slA (nthV (nthB bs 0).cells 6)) (slL (nthV (nthB bs 0).cells 6)) (slC (nthV (nthB bs 0).cells 6)) (slA (nthV (nthB bs 0).cells 7)) (slL (nthV (nthB bs 0).cells 7)) (slC (nthV (nthB bs 0).cells 7)) (nthB bs 1).blk (slA (nthV (nthB bs 1).cells 0)) (slL (nthV (nthB bs 1).cells 0)) (slC (nthV (nthB bs 1).cells 0)) w⟩,
  ⟨[(12, .one (.slice)), (14, .one (.int .i64)), (17, .one (.int .i64))], [(9, 67, [.int .i64, .int .i64, .int .i64, .bool, .int .u64, .slice, .slice, .slice])], fun fs vs bs w => V53.l2 B R (nthN fs 0) (slA (nthV vs 0)) (slL (nthV vs 0)) (slC (nthV vs 0)) (iV (nthV vs 1)) (iV (nthV vs 2)) (nthB bs 0).blk (iV (nthV (nthB bs 0).cells 0)) (iV (nthV (nthB bs 0).cells 1)) (iV (nthV (nthB bs 0).cells 2)) (bV (nthV (nthB bs 0).cells 3)) (iV (nthV (nthB bs 0).cells 4)) (slA (nthV (nthB bs 0).cells 5)) (slL (nthV (nthB bs 0).cells 5)) (slC (nthV (nthB bs 0).cells 5)) (slA (nthV (nthB bs 0).cells 6)) (slL (nthV (nthB bs 0).cells 6)) (slC (nthV (nthB bs 0).cells 6)) (slA (nthV (nthB bs 0).cells 7)) (slL (nthV (nthB bs 0).cells 7)) (slC (nthV (nthB bs 0).cells 7)) w⟩,
  ⟨[(12, .one (.slice)), (14, .one (.int .i64)), (18, .one (.int .i64))], [(9, 67, [.int .i64, .int .i64, .int .i64, .bool, .int .u64, .slice, .slice, .slice])], fun fs vs bs w => V53.l3 B R (nthN fs 0) (slA (nthV vs 0)) (slL (nthV vs 0)) (slC (nthV vs 0)) (iV (nthV vs 1)) (iV (nthV vs 2)) (nthB bs 0).blk (iV (nthV (nthB bs 0).cells 0)) (iV (nthV (nthB bs 0).cells 1)) (iV (nthV (nthB bs 0).cells 2)) (bV (nthV (nthB bs 0).cells 3)) (iV (nthV (nthB bs 0).cells 4)) (slA (nthV (nthB bs 0).cells 5)) (slL (nthV (nthB bs 0).cells 5)) (slC (nthV (nthB bs 0).cells 5)) (slA (nthV (nthB bs 0).cells 6)) (slL (nthV (nthB bs 0).cells 6)) (slC (nthV (nthB bs 0).cells 6)) (slA (nthV (nthB bs 0).cells 7)) (slL (nthV (nthB bs 0).cells 7)) (slC (nthV (nthB bs 0).cells 7)) w⟩]
noncomputable def V53.h : H := .s (.z) (.s (.s (.z) (.c (.s (.z) (.z)) (.z))) (.s (.z) (.s (.s (.z) (.c (.s (.z) (.z)) (.z))) (.s (.z) (.s (.s (.z) (.b (.l 0 (.s (.s (.z) (.c (.z) (.z))) (.s (.b (.s (.z) (.s (.z) (.b (.l 1 (.s (.s (.z) (.c (.z) (.z))) (.s (.b (.s (.z) (.s (.z) (.c (.z) (.z))))) (.z)))))))) (.z)))))) (.s (.z) (.s (.s (.z) (.b (.l 2 (.s (.s (.z) (.c (.z) (.z))) (.s (.b (.z)) (.z)))))) (.s (.z) (.s (.s (.z) (.b (.l 3 (.s (.s (.z) (.c (.z) (.z))) (.s (.b (.z)) (.z)))))) (.s (.z) (.z)))))))))))
theorem V53.vc_eq (B : Nat) (R : Value → World → Prop) (mem0 : Option Addr) (mem0l mem0c : Nat) (p1 : Option Addr) (p1l p1c : Nat) (at2 below3 x4 x4_1 x4_2 : Int) (x4_3 : Bool) (x4_4 : Int) (x4_5 : Option Addr) (x4_5l x4_5c : Nat) (x4_6 : Option Addr) (x4_6l x4_6c : Nat) (x4_7 : Option Addr) (x4_7l x4_7c : Nat) (w : World) : wpf (V53.cfg B) (V53.cuts B R) V53.code V53.h [] (postOf Try.prog B (Try.f53.results.toList) R) (argE 0 [.slice mem0 mem0l mem0c, .agg ⟨[.slice p1 p1l p1c]⟩, .int .i64 at2, .int .i64 below3, .agg ⟨[.int .i64 x4, .int .i64 x4_1, .int .i64 x4_2, .bool x4_3, .int .u64 x4_4, .slice x4_5 x4_5l x4_5c, .slice x4_6 x4_6l x4_6c, .slice x4_7 x4_7l x4_7c]⟩]) [] w = V53.vc B R mem0 mem0l mem0c p1 p1l p1c at2 below3 x4 x4_1 x4_2 x4_3 x4_4 x4_5 x4_5l x4_5c x4_6 x4_6l x4_6c x4_7 x4_7l x4_7c w := by kernel_rfl
theorem V53.obl (B : Nat) (R : Value → World → Prop) : oblP (V53.cfg B) (V53.cuts B R) V53.code V53.h [] (postOf Try.prog B (Try.f53.results.toList) R) := by
  have e : oblP (V53.cfg B) (V53.cuts B R) V53.code V53.h [] (postOf Try.prog B (Try.f53.results.toList) R) = (True ∧ ((True ∧ ((True ∧ True) ∧ True)) ∧ (True ∧ ((True ∧ ((True ∧ True) ∧ True)) ∧ (True ∧ ((True ∧ ((∀ (out12 : Option Addr) (out12l out12c : Nat) (k14 i15 : Int) (q9 : Nat) (x9 x9_1 x9_2 : Int) (x9_3 : Bool) (x9_4 : Int) (x9_5 : Option Addr) (x9_5l x9_5c : Nat) (x9_6 : Option Addr) (x9_6l x9_6c : Nat) (x9_7 : Option Addr) (x9_7l x9_7c q6 : Nat) (p6 : Option Addr) (p6l p6c : Nat) (w : World), ¬ V53.l0 B R 0 out12 out12l out12c k14 i15 q9 x9 x9_1 x9_2 x9_3 x9_4 x9_5 x9_5l x9_5c x9_6 x9_6l x9_6c x9_7 x9_7l x9_7c q6 p6 p6l p6c w) ∧ (∀ k0, ∀ (out12 : Option Addr) (out12l out12c : Nat) (k14 i15 : Int) (q9 : Nat) (x9 x9_1 x9_2 : Int) (x9_3 : Bool) (x9_4 : Int) (x9_5 : Option Addr) (x9_5l x9_5c : Nat) (x9_6 : Option Addr) (x9_6l x9_6c : Nat) (x9_7 : Option Addr) (x9_7l x9_7c q6 : Nat) (p6 : Option Addr) (p6l p6c : Nat) (w : World), V53.l0 B R (k0 + 1) out12 out12l out12c k14 i15 q9 x9 x9_1 x9_2 x9_3 x9_4 x9_5 x9_5l x9_5c x9_6 x9_6l x9_6c x9_7 x9_7l x9_7c q6 p6 p6l p6c w → V53.l0 B R (k0 + 1) out12 out12l out12c k14 i15 q9 x9 x9_1 x9_2 x9_3 x9_4 x9_5 x9_5l x9_5c x9_6 x9_6l x9_6c x9_7 x9_7l x9_7c q6 p6 p6l p6c w) ∧ ∀ k0 : Nat, ((True ∧ (True ∧ True)) ∧ ((True ∧ (True ∧ ((∀ (out12 : Option Addr) (out12l out12c : Nat) (k14 i15 j16 : Int) (q9 : Nat) (x9 x9_1 x9_2 : Int) (x9_3 : Bool) (x9_4 : Int) (x9_5 : Option Addr) (x9_5l x9_5c : Nat) (x9_6 : Option Addr) (x9_6l x9_6c : Nat) (x9_7 : Option Addr) (x9_7l x9_7c q6 : Nat) (p6 : Option Addr) (p6l p6c : Nat) (w : World), ¬ V53.l1 B R (V53.l0 B R k0) 0 out12 out12l out12c k14 i15 j16 q9 x9 x9_1 x9_2 x9_3 x9_4 x9_5 x9_5l x9_5c x9_6 x9_6l x9_6c x9_7 x9_7l x9_7c q6 p6 p6l p6c w) ∧ (∀ k1, ∀ (out12 : Option Addr) (out12l out12c : Nat) (k14 i15 j16 : Int) (q9 : Nat) (x9 x9_1 x9_2 : Int) (x9_3 : Bool) (x9_4 : Int) (x9_5 : Option Addr) (x9_5l x9_5c : Nat) (x9_6 : Option Addr) (x9_6l x9_6c : Nat) (x9_7 : Option Addr) (x9_7l x9_7c q6 : Nat) (p6 : Option Addr) (p6l p6c : Nat) (w : World), V53.l1 B R (V53.l0 B R k0) (k1 + 1) out12 out12l out12c k14 i15 j16 q9 x9 x9_1 x9_2 x9_3 x9_4 x9_5 x9_5l x9_5c x9_6 x9_6l x9_6c x9_7 x9_7l x9_7c q6 p6 p6l p6c w → V53.l1 B R (V53.l0 B R k0) (k1 + 1) out12 out12l out12c k14 i15 j16 q9 x9 x9_1 x9_2 x9_3 x9_4 x9_5 x9_5l x9_5c x9_6 x9_6l x9_6c x9_7 x9_7l x9_7c q6 p6 p6l p6c w) ∧ ∀ k1 : Nat, ((True ∧ (True ∧ True)) ∧ ((True ∧ (True ∧ (True ∧ True))) ∧ True))))) ∧ True)))) ∧ (True ∧ ((True ∧ ((∀ (out12 : Option Addr) (out12l out12c : Nat) (k14 i17 : Int) (q9 : Nat) (x9 x9_1 x9_2 : Int) (x9_3 : Bool) (x9_4 : Int) (x9_5 : Option Addr) (x9_5l x9_5c : Nat) (x9_6 : Option Addr) (x9_6l x9_6c : Nat) (x9_7 : Option Addr) (x9_7l x9_7c : Nat) (w : World), ¬ V53.l2 B R 0 out12 out12l out12c k14 i17 q9 x9 x9_1 x9_2 x9_3 x9_4 x9_5 x9_5l x9_5c x9_6 x9_6l x9_6c x9_7 x9_7l x9_7c w) ∧ (∀ k2, ∀ (out12 : Option Addr) (out12l out12c : Nat) (k14 i17 : Int) (q9 : Nat) (x9 x9_1 x9_2 : Int) (x9_3 : Bool) (x9_4 : Int) (x9_5 : Option Addr) (x9_5l x9_5c : Nat) (x9_6 : Option Addr) (x9_6l x9_6c : Nat) (x9_7 : Option Addr) (x9_7l x9_7c : Nat) (w : World), V53.l2 B R (k2 + 1) out12 out12l out12c k14 i17 q9 x9 x9_1 x9_2 x9_3 x9_4 x9_5 x9_5l x9_5c x9_6 x9_6l x9_6c x9_7 x9_7l x9_7c w → V53.l2 B R (k2 + 1) out12 out12l out12c k14 i17 q9 x9 x9_1 x9_2 x9_3 x9_4 x9_5 x9_5l x9_5c x9_6 x9_6l x9_6c x9_7 x9_7l x9_7c w) ∧ ∀ k2 : Nat, ((True ∧ (True ∧ True)) ∧ (True ∧ True)))) ∧ (True ∧ ((True ∧ ((∀ (out12 : Option Addr) (out12l out12c : Nat) (k14 i18 : Int) (q9 : Nat) (x9 x9_1 x9_2 : Int) (x9_3 : Bool) (x9_4 : Int) (x9_5 : Option Addr) (x9_5l x9_5c : Nat) (x9_6 : Option Addr) (x9_6l x9_6c : Nat) (x9_7 : Option Addr) (x9_7l x9_7c : Nat) (w : World), ¬ V53.l3 B R 0 out12 out12l out12c k14 i18 q9 x9 x9_1 x9_2 x9_3 x9_4 x9_5 x9_5l x9_5c x9_6 x9_6l x9_6c x9_7 x9_7l x9_7c w) ∧ (∀ k3, ∀ (out12 : Option Addr) (out12l out12c : Nat) (k14 i18 : Int) (q9 : Nat) (x9 x9_1 x9_2 : Int) (x9_3 : Bool) (x9_4 : Int) (x9_5 : Option Addr) (x9_5l x9_5c : Nat) (x9_6 : Option Addr) (x9_6l x9_6c : Nat) (x9_7 : Option Addr) (x9_7l x9_7c : Nat) (w : World), V53.l3 B R (k3 + 1) out12 out12l out12c k14 i18 q9 x9 x9_1 x9_2 x9_3 x9_4 x9_5 x9_5l x9_5c x9_6 x9_6l x9_6c x9_7 x9_7l x9_7c w → V53.l3 B R (k3 + 1) out12 out12l out12c k14 i18 q9 x9 x9_1 x9_2 x9_3 x9_4 x9_5 x9_5l x9_5c x9_6 x9_6l x9_6c x9_7 x9_7l x9_7c w) ∧ ∀ k3 : Nat, ((True ∧ (True ∧ True)) ∧ (True ∧ True)))) ∧ (True ∧ True))))))))))) := by kernel_rfl
  rw [e]
  exact ⟨trivial, ⟨⟨trivial, ⟨⟨trivial, trivial⟩, trivial⟩⟩, ⟨trivial, ⟨⟨trivial, ⟨⟨trivial, trivial⟩, trivial⟩⟩, ⟨trivial, ⟨⟨trivial, ⟨fun out12 out12l out12c k14 i15 q9 x9 x9_1 x9_2 x9_3 x9_4 x9_5 x9_5l x9_5c x9_6 x9_6l x9_6c x9_7 x9_7l x9_7c q6 p6 p6l p6c w h => h, fun _ out12 out12l out12c k14 i15 q9 x9 x9_1 x9_2 x9_3 x9_4 x9_5 x9_5l x9_5c x9_6 x9_6l x9_6c x9_7 x9_7l x9_7c q6 p6 p6l p6c w h => h, fun k0 => ⟨⟨trivial, ⟨trivial, trivial⟩⟩, ⟨⟨trivial, ⟨trivial, ⟨fun out12 out12l out12c k14 i15 j16 q9 x9 x9_1 x9_2 x9_3 x9_4 x9_5 x9_5l x9_5c x9_6 x9_6l x9_6c x9_7 x9_7l x9_7c q6 p6 p6l p6c w h => h, fun _ out12 out12l out12c k14 i15 j16 q9 x9 x9_1 x9_2 x9_3 x9_4 x9_5 x9_5l x9_5c x9_6 x9_6l x9_6c x9_7 x9_7l x9_7c q6 p6 p6l p6c w h => h, fun k1 => ⟨⟨trivial, ⟨trivial, trivial⟩⟩, ⟨⟨trivial, ⟨trivial, ⟨trivial, trivial⟩⟩⟩, trivial⟩⟩⟩⟩⟩, trivial⟩⟩⟩⟩, ⟨trivial, ⟨⟨trivial, ⟨fun out12 out12l out12c k14 i17 q9 x9 x9_1 x9_2 x9_3 x9_4 x9_5 x9_5l x9_5c x9_6 x9_6l x9_6c x9_7 x9_7l x9_7c w h => h, fun _ out12 out12l out12c k14 i17 q9 x9 x9_1 x9_2 x9_3 x9_4 x9_5 x9_5l x9_5c x9_6 x9_6l x9_6c x9_7 x9_7l x9_7c w h => h, fun k2 => ⟨⟨trivial, ⟨trivial, trivial⟩⟩, ⟨trivial, trivial⟩⟩⟩⟩, ⟨trivial, ⟨⟨trivial, ⟨fun out12 out12l out12c k14 i18 q9 x9 x9_1 x9_2 x9_3 x9_4 x9_5 x9_5l x9_5c x9_6 x9_6l x9_6c x9_7 x9_7l x9_7c w h => h, fun _ out12 out12l out12c k14 i18 q9 x9 x9_1 x9_2 x9_3 x9_4 x9_5 x9_5l x9_5c x9_6 x9_6l x9_6c x9_7 x9_7l x9_7c w h => h, fun k3 => ⟨⟨trivial, ⟨trivial, trivial⟩⟩, ⟨trivial, trivial⟩⟩⟩⟩, ⟨trivial, trivial⟩⟩⟩⟩⟩⟩⟩⟩⟩⟩⟩
theorem V53.cfgOk (B : Nat) : CfgOk (V53.cfg B) := cfgOk_of (by kernel_rfl) (by kernel_rfl)
theorem V53.sound {mem0 : Option Addr} {mem0l mem0c : Nat} {p1 : Option Addr} {p1l p1c : Nat} {at2 below3 x4 x4_1 x4_2 : Int} {x4_3 : Bool} {x4_4 : Int} {x4_5 : Option Addr} {x4_5l x4_5c : Nat} {x4_6 : Option Addr} {x4_6l x4_6c : Nat} {x4_7 : Option Addr} {x4_7l x4_7c : Nat} {w : World} {R : Value → World → Prop} (h : V53.vc w.heap.size R mem0 mem0l mem0c p1 p1l p1c at2 below3 x4 x4_1 x4_2 x4_3 x4_4 x4_5 x4_5l x4_5c x4_6 x4_6l x4_6c x4_7 x4_7l x4_7c w) : Calls Try.prog 53 ⟨[.slice mem0 mem0l mem0c, .agg ⟨[.slice p1 p1l p1c]⟩, .int .i64 at2, .int .i64 below3, .agg ⟨[.int .i64 x4, .int .i64 x4_1, .int .i64 x4_2, .bool x4_3, .int .u64 x4_4, .slice x4_5 x4_5l x4_5c, .slice x4_6 x4_6l x4_6c, .slice x4_7 x4_7l x4_7c]⟩]⟩ w fun e w' => ∃ v, e = .returned v ∧ R v w' :=
  calls_wpfP (c := V53.cfg w.heap.size) (fn := Try.f53) (x := V53.code) (V53.cuts w.heap.size R) V53.h (V53.cfgOk _) mixed Try.func53 (by kernel_rfl) (by kernel_rfl) (by kernel_rfl) rfl (V53.obl _ _) ((V53.vc_eq _ _ mem0 mem0l mem0c p1 p1l p1c at2 below3 x4 x4_1 x4_2 x4_3 x4_4 x4_5 x4_5l x4_5c x4_6 x4_6l x4_6c x4_7 x4_7l x4_7c _).symm ▸ h)

/-! function 54 -/
def V54.l1 (B : Nat) (R : Value → World → Prop) : Nat → Int → Option Addr → Nat → Nat → Int → Int → Nat → Int → Int → Int → Bool → Int → Option Addr → Nat → Nat → Option Addr → Nat → Nat → Option Addr → Nat → Nat → Nat → Int → Int → Int → Option Addr → Nat → Nat → Nat → Int → Int → Int → Int → Bool → Int → Int → Int → Nat → Int → Int → Int → Bool → Int → Option Addr → Nat → Nat → Option Addr → Nat → Nat → Option Addr → Nat → Nat → Nat → Option Addr → Nat → Nat → World → Prop
  | 0 => fun _ _ _ _ _ _ _ _ _ _ _ _ _ _ _ _ _ _ _ _ _ _ _ _ _ _ _ _ _ _ _ _ _ _ _ _ _ _ _ _ _ _ _ _ _ _ _ _ _ _ _ _ _ _ _ _ _ => False
  | k + 1 => fun ahead13 w15 w15l w15c x95 x96 q16 x16 x16_1 x16_2 x16_3 x16_4 x16_5 x16_5l x16_5c x16_6 x16_6l x16_6c x16_7 x16_7l x16_7c q11 f11 f11_1 f11_2 f11_3 f11_3l f11_3c q9 h9 h9_1 h9_2 h9_3 h9_4 h9_5 h9_6 h9_7 q6 x6 x6_1 x6_2 b6 x6_3 A6 A6l A6c A6_1 A6_1l A6_1c A6_2 A6_2l A6_2c q4 p4 p4l p4c w =>
    if (decide (x96 < x95)) = true
    then ((0 : Int) ≤ IntKind.wrap .i64 (7 + IntKind.wrap .i64 (x96 * 4)) ∧ IntKind.wrap .i64 (7 + IntKind.wrap .i64 (x96 * 4)) ≤ (w15l : Int) ∧ (0 : Int) ≤ 4 ∧ (4 : Int) ≤ ((w15c - ((IntKind.wrap .i64 (7 + IntKind.wrap .i64 (x96 * 4))).toNat) : Nat) : Int) ∧
    ∃ p106 : Addr, (if w15c - ((IntKind.wrap .i64 (7 + IntKind.wrap .i64 (x96 * 4))).toNat) = 0 then if w15c = (IntKind.wrap .i64 (7 + IntKind.wrap .i64 (x96 * 4))).toNat then w15 else Option.map (fun a => a.add ((IntKind.wrap .i64 (7 + IntKind.wrap .i64 (x96 * 4))).toNat)) w15 else Option.map (fun a => a.add 0) (if w15c = (IntKind.wrap .i64 (7 + IntKind.wrap .i64 (x96 * 4))).toNat then w15 else Option.map (fun a => a.add ((IntKind.wrap .i64 (7 + IntKind.wrap .i64 (x96 * 4))).toNat)) w15)) = some p106 ∧ (0 : Int) ≤ 0 ∧ (0 : Int) < ((4 - 0 : Nat) : Int) ∧
    ∃ x107 : Int, w.cell? (p106.add 0) = some (.int .u64 x107) ∧
    if (decide (x107 ≥ IntKind.wrap .u64 (p4l : Int))) = true
     then (Ret B w (R (.tuple ⟨[.agg ⟨[.int .i64 0, .int .i64 0, .int .i64 0, .bool false, .int .u64 0, .slice none 0 0, .slice none 0 0, .slice none 0 0]⟩, .int .i64 0, .int .i64 6]⟩)))
     else (∃ p115 : Addr, (if w15c - ((IntKind.wrap .i64 (7 + IntKind.wrap .i64 (x96 * 4))).toNat) = 0 then if w15c = (IntKind.wrap .i64 (7 + IntKind.wrap .i64 (x96 * 4))).toNat then w15 else Option.map (fun a => a.add ((IntKind.wrap .i64 (7 + IntKind.wrap .i64 (x96 * 4))).toNat)) w15 else Option.map (fun a => a.add 0) (if w15c = (IntKind.wrap .i64 (7 + IntKind.wrap .i64 (x96 * 4))).toNat then w15 else Option.map (fun a => a.add ((IntKind.wrap .i64 (7 + IntKind.wrap .i64 (x96 * 4))).toNat)) w15)) = some p115 ∧ (0 : Int) ≤ 0 ∧ (0 : Int) < ((4 - 0 : Nat) : Int) ∧
     ∃ x116 : Int, w.cell? (p115.add 0) = some (.int .u64 x116) ∧
     ∃ p125 : Addr, p4 = some p125 ∧ (0 : Int) ≤ IntKind.wrap .i64 x116 ∧ IntKind.wrap .i64 x116 < (p4l : Int) ∧
     ∃ x127 : Int, w.cell? ((p125.add ((IntKind.wrap .i64 x116).toNat * 4)).add 0) = some (.int .i64 x127) ∧ (0 : Int) ≤ IntKind.wrap .i64 (1 + x127) ∧ IntKind.wrap .i64 (1 + x127) ≤ (((w15c - ((IntKind.wrap .i64 (7 + IntKind.wrap .i64 (x96 * 4))).toNat)) - 0 : Nat) : Int) ∧ (0 : Int) ≤ 1 ∧ (1 : Int) ≤ (((IntKind.wrap .i64 (1 + x127)).toNat : Nat) : Int) ∧
     CallK Try.prog 104 [.slice (if (w15c - ((IntKind.wrap .i64 (7 + IntKind.wrap .i64 (x96 * 4))).toNat)) - 0 = 1 then if w15c - ((IntKind.wrap .i64 (7 + IntKind.wrap .i64 (x96 * 4))).toNat) = 0 then if w15c = (IntKind.wrap .i64 (7 + IntKind.wrap .i64 (x96 * 4))).toNat then w15 else Option.map (fun a => a.add ((IntKind.wrap .i64 (7 + IntKind.wrap .i64 (x96 * 4))).toNat)) w15 else Option.map (fun a => a.add 0) (if w15c = (IntKind.wrap .i64 (7 + IntKind.wrap .i64 (x96 * 4))).toNat then w15 else Option.map (fun a => a.add ((IntKind.wrap .i64 (7 + IntKind.wrap .i64 (x96 * 4))).toNat)) w15) else Option.map (fun a => a.add 1) (if w15c - ((IntKind.wrap .i64 (7 + IntKind.wrap .i64 (x96 * 4))).toNat) = 0 then if w15c = (IntKind.wrap .i64 (7 + IntKind.wrap .i64 (x96 * 4))).toNat then w15 else Option.map (fun a => a.add ((IntKind.wrap .i64 (7 + IntKind.wrap .i64 (x96 * 4))).toNat)) w15 else Option.map (fun a => a.add 0) (if w15c = (IntKind.wrap .i64 (7 + IntKind.wrap .i64 (x96 * 4))).toNat then w15 else Option.map (fun a => a.add ((IntKind.wrap .i64 (7 + IntKind.wrap .i64 (x96 * 4))).toNat)) w15))) (((IntKind.wrap .i64 (1 + x127)).toNat) - 1) (((w15c - ((IntKind.wrap .i64 (7 + IntKind.wrap .i64 (x96 * 4))).toNat)) - 0) - 1)] B w [q16, q11, q9, q6, q4] fun v w_1 => 
      ∃ (A130 : Option Addr) (A130l A130c : Nat), v = .slice A130 A130l A130c ∧
      Expo B w_1 [q16, q11, q9, q6, q4] fun w_2 => 
      Hide [q16, q11, q9, q6, q4] (w_2.alloc (.cells ⟨[.int .i64 (IntKind.wrap .i64 x116), .slice A130 A130l A130c]⟩ 75)) fun w_3 => 
      RunK Try.prog (Builtin.append_ #[65, 65] 65 ⟨[.slice x16_5 x16_5l x16_5c, .slice (some ⟨w_2.heap.size, 0, none⟩) 1 1]⟩) B w_3 [q16, q11, q9, q6, q4] fun v_1 w_4 => 
      ∃ (A133 : Option Addr) (A133l A133c : Nat), v_1 = .slice A133 A133l A133c ∧ (V54.l1 B R k) ahead13 w15 w15l w15c x95 (IntKind.wrap .i64 (x96 + 1)) q16 x16 x16_1 x16_2 x16_3 x16_4 A133 A133l A133c x16_6 x16_6l x16_6c x16_7 x16_7l x16_7c q11 f11 f11_1 f11_2 f11_3 f11_3l f11_3c q9 h9 h9_1 h9_2 h9_3 h9_4 h9_5 h9_6 h9_7 q6 x6 x6_1 x6_2 b6 x6_3 A6 A6l A6c A6_1 A6_1l A6_1c A6_2 A6_2l A6_2c q4 p4 p4l p4c w_4))
    else ((0 : Int) ≤ IntKind.wrap .i64 (ahead13 + f11_1) ∧ IntKind.wrap .i64 (ahead13 + f11_1) ≤ (w15c : Int) ∧ (0 : Int) ≤ ahead13 ∧ ahead13 ≤ (((IntKind.wrap .i64 (ahead13 + f11_1)).toNat : Nat) : Int) ∧
    CallK Try.prog 104 [.slice (if w15c = ahead13.toNat then w15 else Option.map (fun a => a.add ahead13.toNat) w15) (((IntKind.wrap .i64 (ahead13 + f11_1)).toNat) - ahead13.toNat) (w15c - ahead13.toNat)] B w [q16, q11, q9, q6, q4] fun v w_1 => 
     ∃ (A143 : Option Addr) (A143l A143c : Nat), v = .slice A143 A143l A143c ∧ (0 : Int) ≤ IntKind.wrap .i64 (ahead13 + f11_1) ∧ IntKind.wrap .i64 (ahead13 + f11_1) ≤ (w15l : Int) ∧ (0 : Int) ≤ h9_7 ∧ h9_7 ≤ ((w15c - ((IntKind.wrap .i64 (ahead13 + f11_1)).toNat) : Nat) : Int) ∧
     CallK Try.prog 104 [.slice (if w15c - ((IntKind.wrap .i64 (ahead13 + f11_1)).toNat) = 0 then if w15c = (IntKind.wrap .i64 (ahead13 + f11_1)).toNat then w15 else Option.map (fun a => a.add ((IntKind.wrap .i64 (ahead13 + f11_1)).toNat)) w15 else Option.map (fun a => a.add 0) (if w15c = (IntKind.wrap .i64 (ahead13 + f11_1)).toNat then w15 else Option.map (fun a => a.add ((IntKind.wrap .i64 (ahead13 + f11_1)).toNat)) w15)) (h9_7.toNat - 0) ((w15c - ((IntKind.wrap .i64 (ahead13 + f11_1)).toNat)) - 0)] B w_1 [q16, q11, q9, q6, q4] fun v_1 w_2 => 
     ∃ (A154 : Option Addr) (A154l A154c : Nat), v_1 = .slice A154 A154l A154c ∧
     Ret B w_2 (R (.tuple ⟨[.agg ⟨[.int .i64 x16, .int .i64 x16_1, .int .i64 x16_2, .bool x16_3, .int .u64 x16_4, .slice x16_5 x16_5l x16_5c, .slice A143 A143l A143c, .slice A154 A154l A154c]⟩, .int .i64 h9, .int .i64 0]⟩)))
def V54.b0 (B : Nat) (R : Value → World → Prop) (a0 : Addr) (at2 ahead13 : Int) (q11 : Nat) (f11 f11_1 f11_2 : Int) (f11_3 : Option Addr) (f11_3l f11_3c q9 : Nat) (h9 h9_1 h9_2 h9_3 : Int) (h9_4 : Bool) (h9_5 h9_6 h9_7 : Int) (q6 : Nat) (x6 x6_1 x6_2 : Int) (b6 : Bool) (x6_3 : Int) (A6 : Option Addr) (A6l A6c : Nat) (A6_1 : Option Addr) (A6_1l A6_1c : Nat) (A6_2 : Option Addr) (A6_2l A6_2c q4 : Nat) (p4 : Option Addr) (p4l p4c : Nat) (w : World) : Prop :=
  CallK Try.prog 32 [.agg ⟨[.int .i64 f11, .int .i64 f11_1, .int .i64 f11_2, .slice f11_3 f11_3l f11_3c]⟩] B w [q11, q9, q6, q4] fun v w_1 => 
  ∃ x75 : Int, v = .int .i64 x75 ∧
  CallK Try.prog 94 [.pointer (some a0), .int .i64 at2, .int .i64 x75] B w_1 [q11, q9, q6, q4] fun v_1 w_2 => 
  ∃ (A76 : Option Addr) (A76l A76c : Nat) (x76 : Int), v_1 = .tuple ⟨[.slice A76 A76l A76c, .int .i64 x76]⟩ ∧
  if (x76 != 0) = true
  then (Ret B w_2 (R (.tuple ⟨[.agg ⟨[.int .i64 0, .int .i64 0, .int .i64 0, .bool false, .int .u64 0, .slice none 0 0, .slice none 0 0, .slice none 0 0]⟩, .int .i64 0, .int .i64 x76]⟩)))
  else (∀ q16 : Nat, w_2.heap.size ≤ q16 →
  ∃ k_1, V54.l1 B R k_1 ahead13 A76 A76l A76c h9_6 0 q16 h9_1 h9_2 h9_3 h9_4 h9_5 none 0 0 none 0 0 none 0 0 q11 f11 f11_1 f11_2 f11_3 f11_3l f11_3c q9 h9 h9_1 h9_2 h9_3 h9_4 h9_5 h9_6 h9_7 q6 x6 x6_1 x6_2 b6 x6_3 A6 A6l A6c A6_1 A6_1l A6_1c A6_2 A6_2l A6_2c q4 p4 p4l p4c w_2)
def V54.vc (B : Nat) (R : Value → World → Prop) (a0 : Addr) (p1 : Option Addr) (p1l p1c : Nat) (at2 : Int) (w : World) : Prop :=
  ∀ q4 : Nat, w.heap.size ≤ q4 →
∀ q6 : Nat, w.heap.size ≤ q6 →
CallK Try.prog 42 [.pointer (some a0), .int .i64 at2] B w [q6, q4] fun v w_1 => 
  ∃ (x23 x23_1 x23_2 x23_3 : Int) (b23 : Bool) (x23_4 x23_5 x23_6 x23_7 : Int), v = .tuple ⟨[.agg ⟨[.int .i64 x23, .int .i64 x23_1, .int .i64 x23_2, .int .i64 x23_3, .bool b23, .int .u64 x23_4, .int .i64 x23_5, .int .i64 x23_6]⟩, .int .i64 x23_7]⟩ ∧
  ∀ q9 : Nat, w_1.heap.size ≤ q9 →
  if (x23_7 != 0) = true
  then (Ret B w_1 (R (.tuple ⟨[.agg ⟨[.int .i64 0, .int .i64 0, .int .i64 0, .bool false, .int .u64 0, .slice none 0 0, .slice none 0 0, .slice none 0 0]⟩, .int .i64 0, .int .i64 x23_7]⟩)))
  else (CallK Try.prog 99 [.agg ⟨[.slice p1 p1l p1c]⟩, .int .i64 x23_1] B w_1 [q9, q6, q4] fun v_1 w_2 => 
   ∃ (x34 x34_1 x34_2 : Int) (A34 : Option Addr) (A34l A34c : Nat) (b34 : Bool), v_1 = .tuple ⟨[.agg ⟨[.int .i64 x34, .int .i64 x34_1, .int .i64 x34_2, .slice A34 A34l A34c]⟩, .bool b34]⟩ ∧
   ∀ q11 : Nat, w_2.heap.size ≤ q11 →
   if (!b34) = true
   then (Ret B w_2 (R (.tuple ⟨[.agg ⟨[.int .i64 0, .int .i64 0, .int .i64 0, .bool false, .int .u64 0, .slice none 0 0, .slice none 0 0, .slice none 0 0]⟩, .int .i64 0, .int .i64 6]⟩)))
   else (CallK Try.prog 100 [.agg ⟨[.int .i64 x34, .int .i64 x34_1, .int .i64 x34_2, .slice A34 A34l A34c]⟩] B w_2 [q11, q9, q6, q4] fun v_2 w_3 => 
    ∃ (x42 : Int) (b42 : Bool), v_2 = .tuple ⟨[.int .i64 x42, .bool b42]⟩ ∧
    if (decide (x23_2 > (A34l : Int))) = false
    then (if (decide (x23_5 > 4)) = false
     then (if (decide (x23_5 > 0)) = true
      then (if (!b42) = false
       then (if (decide (x23_6 > 8)) = true
        then (Ret B w_3 (R (.tuple ⟨[.agg ⟨[.int .i64 0, .int .i64 0, .int .i64 0, .bool false, .int .u64 0, .slice none 0 0, .slice none 0 0, .slice none 0 0]⟩, .int .i64 0, .int .i64 6]⟩)))
        else (V54.b0 B R a0 at2 x42 q11 x34 x34_1 x34_2 A34 A34l A34c q9 x23 x23_1 x23_2 x23_3 b23 x23_4 x23_5 x23_6 q6 0 0 0 false 0 none 0 0 none 0 0 none 0 0 q4 p1 p1l p1c w_3))
       else (Ret B w_3 (R (.tuple ⟨[.agg ⟨[.int .i64 0, .int .i64 0, .int .i64 0, .bool false, .int .u64 0, .slice none 0 0, .slice none 0 0, .slice none 0 0]⟩, .int .i64 0, .int .i64 6]⟩))))
      else (if (decide (x23_6 > 8)) = true
       then (Ret B w_3 (R (.tuple ⟨[.agg ⟨[.int .i64 0, .int .i64 0, .int .i64 0, .bool false, .int .u64 0, .slice none 0 0, .slice none 0 0, .slice none 0 0]⟩, .int .i64 0, .int .i64 6]⟩)))
       else (V54.b0 B R a0 at2 x42 q11 x34 x34_1 x34_2 A34 A34l A34c q9 x23 x23_1 x23_2 x23_3 b23 x23_4 x23_5 x23_6 q6 0 0 0 false 0 none 0 0 none 0 0 none 0 0 q4 p1 p1l p1c w_3)))
     else (Ret B w_3 (R (.tuple ⟨[.agg ⟨[.int .i64 0, .int .i64 0, .int .i64 0, .bool false, .int .u64 0, .slice none 0 0, .slice none 0 0, .slice none 0 0]⟩, .int .i64 0, .int .i64 6]⟩))))
    else (Ret B w_3 (R (.tuple ⟨[.agg ⟨[.int .i64 0, .int .i64 0, .int .i64 0, .bool false, .int .u64 0, .slice none 0 0, .slice none 0 0, .slice none 0 0]⟩, .int .i64 0, .int .i64 6]⟩)))))
noncomputable def V54.cfg (B : Nat) : Cfg := ⟨Try.prog, ⟨159, B⟩, [], hasN [32, 42, 94, 99, 100, 104], hasN []⟩
noncomputable def V54.code : Code := (Try.f54.body).getD .skip
noncomputable def V54.cuts (B : Nat) (R : Value → World → Prop) : Nat → Cut := nthC [⟨[(0, .one (.ptr)), (2, .one (.int .i64)), (13, .one (.int .i64))], [(11, 29, [.int .i64, .int .i64, .int .i64, .slice]), (9, 53, [.int .i64, .int .i64, .int .i64, .int .i64, .bool, .int .u64, .int .i64, .int .i64]), (6, 67, [.int .i64, .int .i64, .int .i64, .bool, .int .u64, .slice, .slice, .slice]), (4, 24, [.slice])], fun fs vs bs w => V54.b0 B R (pV (nthV vs 0)) (iV (nthV vs 1)) (iV (nthV vs 2)) (nthB bs 0).blk (iV (nthV (nthB bs 0).cells 0)) (iV (nthV (nthB bs 0).cells 1)) (iV (nthV (nthB bs 0).cells 2)) (slA (nthV (nthB bs 0).cells 3)) (slL (nthV (nthB bs 0).cells 3)) (slC (nthV (nthB bs 0).cells 3)) (nthB bs 1).blk (iV (nthV (nthB bs 1).cells 0)) (iV (nthV (nthB bs 1).cells 1)) (iV (nthV (nthB bs 1).cells 2)) (iV (nthV (nthB bs 1).cells 3)) (bV (nthV (nthB bs 1).cells 4)) (iV (nthV (nthB bs 1).cells 5)) (iV (nthV (nthB bs 1).cells 6)) (iV (nthV (nthB bs 1).cells 7)) (nthB bs 2).blk (iV (nthV (nthB bs 2).cells 0)) (iV (nthV (nthB bs 2).cells 1)) (iV (nthV (nthB bs 2).cells 2)) (bV (nthV (nthB bs 2).cells 3)) (iV (nthV (nthB bs 2).cells 4)) (slA (nthV (nthB bs 2).cells 5)) (slL (nthV (nthB bs 2).cells 5)) (slC (nthV (nthB bs 2).cells 5)) (slA (nthV (nthB bs 2).cells 6)) (slL (nthV (nthB bs 2).cells 6)) (slC (nthV (nthB bs 2).cells 6)) (slA (nthV (nthB bs 2).cells 7)) (slL (nthV (nthB bs 2).cells 7)) (slC (nthV (nthB bs 2).cells 7)) (nthB bs 3).blk (slA (nthV (nthB bs 3).cells 0)) (slL (nthV (nthB bs 3).cells 0)) (slC (nthV (nthB bs 3).cells 0)) w⟩,
  ⟨[(13, .one (.int .i64)), (15, .one (.slice)), (95, .one (.int .i64)), (96, .one (.int .i64))], [(16, 67, [.int .i64, .int .i64, .int .i64, .bool, .int .u64, .slice, .slice, .slice]), (11, 29, [.int .i64, .int .i64, .int .i64, .slice]), (9, 53, [.int .i64, .int .i64, .int .i64, .int .i64, .bool, .int .u64, .int .i64, .int .i64]), (6, 67, [.int .i64, .int .i64, .int .i64, .bool, .int .u64, .slice, .slice, .slice]), (4, 24, [.slice])], fun fs vs bs w => V54.l1 B R (nthN fs 0) (iV (nthV vs 0)) (slA (nthV vs 1)) (slL (nthV vs 1)) (slC (nthV vs 1)) (iV (nthV vs 2)) (iV (nthV vs 3)) (nthB bs 0).blk (iV (nthV (nthB bs 0).cells 0)) (iV (nthV (nthB bs 0).cells 1)) (iV (nthV (nthB bs 0).cells 2)) (bV (nthV (nthB bs 0).cells 3)) (iV (nthV (nthB bs 0).cells 4)) (slA (nthV (nthB bs 0).cells 5)) (slL (nthV (nthB bs 0).cells 5)) (slC (nthV (nthB bs 0).cells 5)) (slA (nthV (nthB bs 0).cells 6)) (slL (nthV (nthB bs 0).cells 6)) (slC (nthV (nthB bs 0).cells 6)) (slA (nthV (nthB bs 0).cells 7)) (slL (nthV (nthB bs 0).cells 7)) (slC (nthV (nthB bs 0).cells 7)) (nthB bs 1).blk (iV (nthV (nthB bs 1).cells 0)) (iV (nthV (nthB bs 1).cells 1)) (iV (nthV (nthB bs 1).cells 2)) (slA (nthV (nthB bs 1).cells 3)) (slL (nthV (nthB bs 1).cells 3)) (slC (nthV (nthB bs 1).cells 3)) (nthB bs 2).blk (iV (nthV (nthB bs 2).cells 0)) (iV (nthV (nthB bs 2).cells 1)) (iV (nthV (nthB bs 2).cells 2)) (iV (nthV (nthB bs 2).cells 3)) (bV (nthV (nthB bs 2).cells 4)) (iV (nthV (nthB bs 2).cells 5)) (iV (nthV (nthB bs 2).cells 6)) (iV (nthV (nthB bs 2).cells 7)) (nthB bs 3).blk (iV (nthV (nthB bs 3).cells 0)) (iV (nthV (nthB bs 3).cells 1)) (iV (nthV (nthB bs 3).cells 2)) (bV (nthV (nthB bs 3).cells 3)) (iV (nthV (nthB bs 3).cells 4)) (slA (nthV (nthB bs 3).cells 5)) (slL (nthV (nthB bs 3).cells 5)) (slC (nthV (nthB bs 3).cells 5)) (slA (nthV (nthB bs 3).cells 6)) (slL (nthV (nthB bs 3).cells 6)) (slC (nthV (nthB bs 3).cells 6)) (slA (nthV (nthB bs 3).cells 7)) (slL (nthV (nthB bs 3).cells 7)) (slC (nthV (nthB bs 3).cells 7)) (nthB bs 4).blk (slA (nthV (nthB bs 4).cells 0)) (slL (nthV (nthB bs 4).cells 0)) (slC (nthV (nthB bs 4).cells 0)) w⟩]
noncomputable def V54.h : H := .s (.z) (.s (.z) (.s (.s (.z) (.c (.s (.z) (.z)) (.z))) (.s (.z) (.s (.s (.z) (.c (.s (.z) (.z)) (.z))) (.s (.z) (.cut 0 (.s (.z) (.c (.s (.z) (.z)) (.z))) (.s (.z) (.s (.s (.z) (.c (.s (.z) (.z)) (.z))) (.s (.z) (.s (.s (.z) (.b (.l 1 (.s (.z) (.s (.c (.z) (.z)) (.s (.b (.s (.z) (.s (.z) (.s (.s (.r [[0, 1, 2, 3, 4, 5, 6, 7]]) (.c (.s (.z) (.z)) (.z))) (.s (.z) (.r [[0, 1, 2, 3, 4, 5, 6, 7, 8, 9, 10, 11, 12, 13, 14, 15, 16, 17]])))))) (.z))))))) (.s (.z) (.s (.r [[0, 1, 2, 3, 4, 5, 6, 7, 8, 9, 10, 11]]) (.s (.r [[0, 1, 2, 3, 4, 5]]) (.z))))))))))))))
theorem V54.vc_eq (B : Nat) (R : Value → World → Prop) (a0 : Addr) (p1 : Option Addr) (p1l p1c : Nat) (at2 : Int) (w : World) : wpf (V54.cfg B) (V54.cuts B R) V54.code V54.h [] (postOf Try.prog B (Try.f54.results.toList) R) (argE 0 [.pointer (some a0), .agg ⟨[.slice p1 p1l p1c]⟩, .int .i64 at2]) [] w = V54.vc B R a0 p1 p1l p1c at2 w := by kernel_rfl
theorem V54.obl (B : Nat) (R : Value → World → Prop) : oblP (V54.cfg B) (V54.cuts B R) V54.code V54.h [] (postOf Try.prog B (Try.f54.results.toList) R) := by
  have e : oblP (V54.cfg B) (V54.cuts B R) V54.code V54.h [] (postOf Try.prog B (Try.f54.results.toList) R) = (True ∧ (True ∧ ((True ∧ ((True ∧ True) ∧ True)) ∧ (True ∧ ((True ∧ ((True ∧ True) ∧ True)) ∧ (True ∧ ((True ∧ ((True ∧ True) ∧ True)) ∧ (∀ (a0 : Addr) (at2 ahead13 : Int) (q11 : Nat) (f11 f11_1 f11_2 : Int) (f11_3 : Option Addr) (f11_3l f11_3c q9 : Nat) (h9 h9_1 h9_2 h9_3 : Int) (h9_4 : Bool) (h9_5 h9_6 h9_7 : Int) (q6 : Nat) (x6 x6_1 x6_2 : Int) (b6 : Bool) (x6_3 : Int) (A6 : Option Addr) (A6l A6c : Nat) (A6_1 : Option Addr) (A6_1l A6_1c : Nat) (A6_2 : Option Addr) (A6_2l A6_2c q4 : Nat) (p4 : Option Addr) (p4l p4c : Nat) (w : World), V54.b0 B R a0 at2 ahead13 q11 f11 f11_1 f11_2 f11_3 f11_3l f11_3c q9 h9 h9_1 h9_2 h9_3 h9_4 h9_5 h9_6 h9_7 q6 x6 x6_1 x6_2 b6 x6_3 A6 A6l A6c A6_1 A6_1l A6_1c A6_2 A6_2l A6_2c q4 p4 p4l p4c w → V54.b0 B R a0 at2 ahead13 q11 f11 f11_1 f11_2 f11_3 f11_3l f11_3c q9 h9 h9_1 h9_2 h9_3 h9_4 h9_5 h9_6 h9_7 q6 x6 x6_1 x6_2 b6 x6_3 A6 A6l A6c A6_1 A6_1l A6_1c A6_2 A6_2l A6_2c q4 p4 p4l p4c w) ∧ (True ∧ ((True ∧ ((True ∧ True) ∧ True)) ∧ (True ∧ ((True ∧ ((∀ (ahead13 : Int) (w15 : Option Addr) (w15l w15c : Nat) (x95 x96 : Int) (q16 : Nat) (x16 x16_1 x16_2 : Int) (x16_3 : Bool) (x16_4 : Int) (x16_5 : Option Addr) (x16_5l x16_5c : Nat) (x16_6 : Option Addr) (x16_6l x16_6c : Nat) (x16_7 : Option Addr) (x16_7l x16_7c q11 : Nat) (f11 f11_1 f11_2 : Int) (f11_3 : Option Addr) (f11_3l f11_3c q9 : Nat) (h9 h9_1 h9_2 h9_3 : Int) (h9_4 : Bool) (h9_5 h9_6 h9_7 : Int) (q6 : Nat) (x6 x6_1 x6_2 : Int) (b6 : Bool) (x6_3 : Int) (A6 : Option Addr) (A6l A6c : Nat) (A6_1 : Option Addr) (A6_1l A6_1c : Nat) (A6_2 : Option Addr) (A6_2l A6_2c q4 : Nat) (p4 : Option Addr) (p4l p4c : Nat) (w : World), ¬ V54.l1 B R 0 ahead13 w15 w15l w15c x95 x96 q16 x16 x16_1 x16_2 x16_3 x16_4 x16_5 x16_5l x16_5c x16_6 x16_6l x16_6c x16_7 x16_7l x16_7c q11 f11 f11_1 f11_2 f11_3 f11_3l f11_3c q9 h9 h9_1 h9_2 h9_3 h9_4 h9_5 h9_6 h9_7 q6 x6 x6_1 x6_2 b6 x6_3 A6 A6l A6c A6_1 A6_1l A6_1c A6_2 A6_2l A6_2c q4 p4 p4l p4c w) ∧ (∀ k1, ∀ (ahead13 : Int) (w15 : Option Addr) (w15l w15c : Nat) (x95 x96 : Int) (q16 : Nat) (x16 x16_1 x16_2 : Int) (x16_3 : Bool) (x16_4 : Int) (x16_5 : Option Addr) (x16_5l x16_5c : Nat) (x16_6 : Option Addr) (x16_6l x16_6c : Nat) (x16_7 : Option Addr) (x16_7l x16_7c q11 : Nat) (f11 f11_1 f11_2 : Int) (f11_3 : Option Addr) (f11_3l f11_3c q9 : Nat) (h9 h9_1 h9_2 h9_3 : Int) (h9_4 : Bool) (h9_5 h9_6 h9_7 : Int) (q6 : Nat) (x6 x6_1 x6_2 : Int) (b6 : Bool) (x6_3 : Int) (A6 : Option Addr) (A6l A6c : Nat) (A6_1 : Option Addr) (A6_1l A6_1c : Nat) (A6_2 : Option Addr) (A6_2l A6_2c q4 : Nat) (p4 : Option Addr) (p4l p4c : Nat) (w : World), V54.l1 B R (k1 + 1) ahead13 w15 w15l w15c x95 x96 q16 x16 x16_1 x16_2 x16_3 x16_4 x16_5 x16_5l x16_5c x16_6 x16_6l x16_6c x16_7 x16_7l x16_7c q11 f11 f11_1 f11_2 f11_3 f11_3l f11_3c q9 h9 h9_1 h9_2 h9_3 h9_4 h9_5 h9_6 h9_7 q6 x6 x6_1 x6_2 b6 x6_3 A6 A6l A6c A6_1 A6_1l A6_1c A6_2 A6_2l A6_2c q4 p4 p4l p4c w → V54.l1 B R (k1 + 1) ahead13 w15 w15l w15c x95 x96 q16 x16 x16_1 x16_2 x16_3 x16_4 x16_5 x16_5l x16_5c x16_6 x16_6l x16_6c x16_7 x16_7l x16_7c q11 f11 f11_1 f11_2 f11_3 f11_3l f11_3c q9 h9 h9_1 h9_2 h9_3 h9_4 h9_5 h9_6 h9_7 q6 x6 x6_1 x6_2 b6 x6_3 A6 A6l A6c A6_1 A6_1l A6_1c A6_2 A6_2l A6_2c q4 p4 p4l p4c w) ∧ ∀ k1 : Nat, (True ∧ ((True ∧ True) ∧ ((True ∧ (True ∧ (((true = true) ∧ ((True ∧ True) ∧ True)) ∧ (True ∧ (true = true))))) ∧ True))))) ∧ (True ∧ ((true = true) ∧ ((true = true) ∧ True)))))))))))))) := by kernel_rfl
  rw [e]
  exact ⟨trivial, ⟨trivial, ⟨⟨trivial, ⟨⟨trivial, trivial⟩, trivial⟩⟩, ⟨trivial, ⟨⟨trivial, ⟨⟨trivial, trivial⟩, trivial⟩⟩, ⟨trivial, ⟨⟨trivial, ⟨⟨trivial, trivial⟩, trivial⟩⟩, fun a0 at2 ahead13 q11 f11 f11_1 f11_2 f11_3 f11_3l f11_3c q9 h9 h9_1 h9_2 h9_3 h9_4 h9_5 h9_6 h9_7 q6 x6 x6_1 x6_2 b6 x6_3 A6 A6l A6c A6_1 A6_1l A6_1c A6_2 A6_2l A6_2c q4 p4 p4l p4c w h => h, ⟨trivial, ⟨⟨trivial, ⟨⟨trivial, trivial⟩, trivial⟩⟩, ⟨trivial, ⟨⟨trivial, ⟨fun ahead13 w15 w15l w15c x95 x96 q16 x16 x16_1 x16_2 x16_3 x16_4 x16_5 x16_5l x16_5c x16_6 x16_6l x16_6c x16_7 x16_7l x16_7c q11 f11 f11_1 f11_2 f11_3 f11_3l f11_3c q9 h9 h9_1 h9_2 h9_3 h9_4 h9_5 h9_6 h9_7 q6 x6 x6_1 x6_2 b6 x6_3 A6 A6l A6c A6_1 A6_1l A6_1c A6_2 A6_2l A6_2c q4 p4 p4l p4c w h => h, fun _ ahead13 w15 w15l w15c x95 x96 q16 x16 x16_1 x16_2 x16_3 x16_4 x16_5 x16_5l x16_5c x16_6 x16_6l x16_6c x16_7 x16_7l x16_7c q11 f11 f11_1 f11_2 f11_3 f11_3l f11_3c q9 h9 h9_1 h9_2 h9_3 h9_4 h9_5 h9_6 h9_7 q6 x6 x6_1 x6_2 b6 x6_3 A6 A6l A6c A6_1 A6_1l A6_1c A6_2 A6_2l A6_2c q4 p4 p4l p4c w h => h, fun k1 => ⟨trivial, ⟨⟨trivial, trivial⟩, ⟨⟨trivial, ⟨trivial, ⟨⟨rfl, ⟨⟨trivial, trivial⟩, trivial⟩⟩, ⟨trivial, rfl⟩⟩⟩⟩, trivial⟩⟩⟩⟩⟩, ⟨trivial, ⟨rfl, ⟨rfl, trivial⟩⟩⟩⟩⟩⟩⟩⟩⟩⟩⟩⟩⟩⟩
theorem V54.cfgOk (B : Nat) : CfgOk (V54.cfg B) := cfgOk_of (by kernel_rfl) (by kernel_rfl)
theorem V54.sound {a0 : Addr} {p1 : Option Addr} {p1l p1c : Nat} {at2 : Int} {w : World} {R : Value → World → Prop} (h : V54.vc w.heap.size R a0 p1 p1l p1c at2 w) : Calls Try.prog 54 ⟨[.pointer (some a0), .agg ⟨[.slice p1 p1l p1c]⟩, .int .i64 at2]⟩ w fun e w' => ∃ v, e = .returned v ∧ R v w' :=
  calls_wpfP (c := V54.cfg w.heap.size) (fn := Try.f54) (x := V54.code) (V54.cuts w.heap.size R) V54.h (V54.cfgOk _) mixed Try.func54 (by kernel_rfl) (by kernel_rfl) (by kernel_rfl) rfl (V54.obl _ _) ((V54.vc_eq _ _ a0 p1 p1l p1c at2 _).symm ▸ h)

/-! function 55 -/
def V55.l1 (B : Nat) (R : Value → World → Prop) (L0 : Option Addr → Nat → Nat → Int → Int → Nat → Int → Int → Int → Bool → Int → Option Addr → Nat → Nat → Option Addr → Nat → Nat → Option Addr → Nat → Nat → Nat → Int → Int → Int → Option Addr → Nat → Nat → Nat → Int → Int → Int → Int → Bool → Int → Int → Int → Nat → Int → Int → Int → Bool → Int → Option Addr → Nat → Nat → Option Addr → Nat → Nat → Option Addr → Nat → Nat → Nat → Option Addr → Nat → Nat → World → Prop) : Nat → Option Addr → Nat → Nat → Int → Int → Int → Nat → Int → Option Addr → Nat → Nat → Nat → Int → Int → Int → Bool → Int → Option Addr → Nat → Nat → Option Addr → Nat → Nat → Option Addr → Nat → Nat → Nat → Int → Int → Int → Option Addr → Nat → Nat → Nat → Int → Int → Int → Int → Bool → Int → Int → Int → Nat → Int → Int → Int → Bool → Int → Option Addr → Nat → Nat → Option Addr → Nat → Nat → Option Addr → Nat → Nat → Nat → Option Addr → Nat → Nat → World → Prop
  | 0 => fun _ _ _ _ _ _ _ _ _ _ _ _ _ _ _ _ _ _ _ _ _ _ _ _ _ _ _ _ _ _ _ _ _ _ _ _ _ _ _ _ _ _ _ _ _ _ _ _ _ _ _ _ _ _ _ _ _ _ _ _ _ _ => False
  | k + 1 => fun mem0 mem0l mem0c k13 i14 j17 q16 d16 d16_1 d16_1l d16_1c q12 x12 x12_1 x12_2 x12_3 x12_4 x12_5 x12_5l x12_5c x12_6 x12_6l x12_6c x12_7 x12_7l x12_7c q11 f11 f11_1 f11_2 f11_3 f11_3l f11_3c q9 h9 h9_1 h9_2 h9_3 h9_4 h9_5 h9_6 h9_7 q6 x6 x6_1 x6_2 b6 x6_3 A6 A6l A6c A6_1 A6_1l A6_1c A6_2 A6_2l A6_2c q4 p4 p4l p4c w =>
    ∃ p110 : Addr, p4 = some p110 ∧ (0 : Int) ≤ d16 ∧ d16 < (p4l : Int) ∧
∃ x112 : Int, w.cell? ((p110.add (d16.toNat * 4)).add 0) = some (.int .i64 x112) ∧
if (decide (j17 < x112)) = true
    then (∃ p126 : Addr, mem0 = some p126 ∧ (0 : Int) ≤ IntKind.wrap .i64 (IntKind.wrap .i64 (IntKind.wrap .i64 (k13 + IntKind.wrap .i64 (i14 * 4)) + 1) + j17) ∧ IntKind.wrap .i64 (IntKind.wrap .i64 (IntKind.wrap .i64 (k13 + IntKind.wrap .i64 (i14 * 4)) + 1) + j17) < (mem0l : Int) ∧
    ∃ x127 : Int, w.cell? (p126.add ((IntKind.wrap .i64 (IntKind.wrap .i64 (IntKind.wrap .i64 (k13 + IntKind.wrap .i64 (i14 * 4)) + 1) + j17)).toNat)) = some (.int .u64 x127) ∧
    Expo B w [q16, q12, q11, q9, q6, q4] fun w_1 => 
     Hide [q16, q12, q11, q9, q6, q4] (w_1.alloc (.cells ⟨[.int .u64 x127]⟩ 51)) fun w_2 => 
     RunK Try.prog (Builtin.append_ #[50, 50] 50 ⟨[.slice d16_1 d16_1l d16_1c, .slice (some ⟨w_1.heap.size, 0, none⟩) 1 1]⟩) B w_2 [q16, q12, q11, q9, q6, q4] fun v w_3 => 
     ∃ (A129 : Option Addr) (A129l A129c : Nat), v = .slice A129 A129l A129c ∧ (V55.l1 B R L0 k) mem0 mem0l mem0c k13 i14 (IntKind.wrap .i64 (j17 + 1)) q16 d16 A129 A129l A129c q12 x12 x12_1 x12_2 x12_3 x12_4 x12_5 x12_5l x12_5c x12_6 x12_6l x12_6c x12_7 x12_7l x12_7c q11 f11 f11_1 f11_2 f11_3 f11_3l f11_3c q9 h9 h9_1 h9_2 h9_3 h9_4 h9_5 h9_6 h9_7 q6 x6 x6_1 x6_2 b6 x6_3 A6 A6l A6c A6_1 A6_1l A6_1c A6_2 A6_2l A6_2c q4 p4 p4l p4c w_3)
    else (Expo B w [q16, q12, q11, q9, q6, q4] fun w_1 => 
     Hide [q16, q12, q11, q9, q6, q4] (w_1.alloc (.cells ⟨[.int .i64 d16, .slice d16_1 d16_1l d16_1c]⟩ 75)) fun w_2 => 
     RunK Try.prog (Builtin.append_ #[65, 65] 65 ⟨[.slice x12_5 x12_5l x12_5c, .slice (some ⟨w_1.heap.size, 0, none⟩) 1 1]⟩) B w_2 [q16, q12, q11, q9, q6, q4] fun v w_3 => 
     ∃ (A135 : Option Addr) (A135l A135c : Nat), v = .slice A135 A135l A135c ∧ L0 mem0 mem0l mem0c k13 (IntKind.wrap .i64 (i14 + 1)) q12 x12 x12_1 x12_2 x12_3 x12_4 A135 A135l A135c x12_6 x12_6l x12_6c x12_7 x12_7l x12_7c q11 f11 f11_1 f11_2 f11_3 f11_3l f11_3c q9 h9 h9_1 h9_2 h9_3 h9_4 h9_5 h9_6 h9_7 q6 x6 x6_1 x6_2 b6 x6_3 A6 A6l A6c A6_1 A6_1l A6_1c A6_2 A6_2l A6_2c q4 p4 p4l p4c w_3)
def V55.l3 (B : Nat) (R : Value → World → Prop) : Nat → Option Addr → Nat → Nat → Int → Int → Nat → Int → Int → Int → Bool → Int → Option Addr → Nat → Nat → Option Addr → Nat → Nat → Option Addr → Nat → Nat → Nat → Int → Int → Int → Int → Bool → Int → Int → Int → Nat → Int → Int → Int → Bool → Int → Option Addr → Nat → Nat → Option Addr → Nat → Nat → Option Addr → Nat → Nat → World → Prop
  | 0 => fun _ _ _ _ _ _ _ _ _ _ _ _ _ _ _ _ _ _ _ _ _ _ _ _ _ _ _ _ _ _ _ _ _ _ _ _ _ _ _ _ _ _ _ _ _ => False
  | k + 1 => fun mem0 mem0l mem0c k13 i19 q12 x12 x12_1 x12_2 x12_3 x12_4 x12_5 x12_5l x12_5c x12_6 x12_6l x12_6c x12_7 x12_7l x12_7c q9 h9 h9_1 h9_2 h9_3 h9_4 h9_5 h9_6 h9_7 q6 x6 x6_1 x6_2 b6 x6_3 A6 A6l A6c A6_1 A6_1l A6_1c A6_2 A6_2l A6_2c w =>
    if (decide (i19 < h9_7)) = true
    then (∃ p175 : Addr, mem0 = some p175 ∧ (0 : Int) ≤ IntKind.wrap .i64 (k13 + i19) ∧ IntKind.wrap .i64 (k13 + i19) < (mem0l : Int) ∧
    ∃ x176 : Int, w.cell? (p175.add ((IntKind.wrap .i64 (k13 + i19)).toNat)) = some (.int .u64 x176) ∧
    Expo B w [q12, q9, q6] fun w_1 => 
     Hide [q12, q9, q6] (w_1.alloc (.cells ⟨[.int .u64 x176]⟩ 51)) fun w_2 => 
     RunK Try.prog (Builtin.append_ #[50, 50] 50 ⟨[.slice x12_7 x12_7l x12_7c, .slice (some ⟨w_1.heap.size, 0, none⟩) 1 1]⟩) B w_2 [q12, q9, q6] fun v w_3 => 
     ∃ (A178 : Option Addr) (A178l A178c : Nat), v = .slice A178 A178l A178c ∧ (V55.l3 B R k) mem0 mem0l mem0c k13 (IntKind.wrap .i64 (i19 + 1)) q12 x12 x12_1 x12_2 x12_3 x12_4 x12_5 x12_5l x12_5c x12_6 x12_6l x12_6c A178 A178l A178c q9 h9 h9_1 h9_2 h9_3 h9_4 h9_5 h9_6 h9_7 q6 x6 x6_1 x6_2 b6 x6_3 A6 A6l A6c A6_1 A6_1l A6_1c A6_2 A6_2l A6_2c w_3)
    else (Ret B w (R (.tuple ⟨[.agg ⟨[.int .i64 x12, .int .i64 x12_1, .int .i64 x12_2, .bool x12_3, .int .u64 x12_4, .slice x12_5 x12_5l x12_5c, .slice x12_6 x12_6l x12_6c, .slice x12_7 x12_7l x12_7c]⟩, .int .i64 h9, .int .i64 0]⟩)))
def V55.l2 (B : Nat) (R : Value → World → Prop) : Nat → Option Addr → Nat → Nat → Int → Int → Nat → Int → Int → Int → Bool → Int → Option Addr → Nat → Nat → Option Addr → Nat → Nat → Option Addr → Nat → Nat → Nat → Int → Int → Int → Option Addr → Nat → Nat → Nat → Int → Int → Int → Int → Bool → Int → Int → Int → Nat → Int → Int → Int → Bool → Int → Option Addr → Nat → Nat → Option Addr → Nat → Nat → Option Addr → Nat → Nat → World → Prop
  | 0 => fun _ _ _ _ _ _ _ _ _ _ _ _ _ _ _ _ _ _ _ _ _ _ _ _ _ _ _ _ _ _ _ _ _ _ _ _ _ _ _ _ _ _ _ _ _ _ _ _ _ _ _ _ => False
  | k + 1 => fun mem0 mem0l mem0c k13 i18 q12 x12 x12_1 x12_2 x12_3 x12_4 x12_5 x12_5l x12_5c x12_6 x12_6l x12_6c x12_7 x12_7l x12_7c q11 f11 f11_1 f11_2 f11_3 f11_3l f11_3c q9 h9 h9_1 h9_2 h9_3 h9_4 h9_5 h9_6 h9_7 q6 x6 x6_1 x6_2 b6 x6_3 A6 A6l A6c A6_1 A6_1l A6_1c A6_2 A6_2l A6_2c w =>
    if (decide (i18 < f11_1)) = true
    then (∃ p154 : Addr, mem0 = some p154 ∧ (0 : Int) ≤ IntKind.wrap .i64 (k13 + i18) ∧ IntKind.wrap .i64 (k13 + i18) < (mem0l : Int) ∧
    ∃ x155 : Int, w.cell? (p154.add ((IntKind.wrap .i64 (k13 + i18)).toNat)) = some (.int .u64 x155) ∧
    Expo B w [q12, q11, q9, q6] fun w_1 => 
     Hide [q12, q11, q9, q6] (w_1.alloc (.cells ⟨[.int .u64 x155]⟩ 51)) fun w_2 => 
     RunK Try.prog (Builtin.append_ #[50, 50] 50 ⟨[.slice x12_6 x12_6l x12_6c, .slice (some ⟨w_1.heap.size, 0, none⟩) 1 1]⟩) B w_2 [q12, q11, q9, q6] fun v w_3 => 
     ∃ (A157 : Option Addr) (A157l A157c : Nat), v = .slice A157 A157l A157c ∧ (V55.l2 B R k) mem0 mem0l mem0c k13 (IntKind.wrap .i64 (i18 + 1)) q12 x12 x12_1 x12_2 x12_3 x12_4 x12_5 x12_5l x12_5c A157 A157l A157c x12_7 x12_7l x12_7c q11 f11 f11_1 f11_2 f11_3 f11_3l f11_3c q9 h9 h9_1 h9_2 h9_3 h9_4 h9_5 h9_6 h9_7 q6 x6 x6_1 x6_2 b6 x6_3 A6 A6l A6c A6_1 A6_1l A6_1c A6_2 A6_2l A6_2c w_3)
    else (∃ k_1, V55.l3 B R k_1 mem0 mem0l mem0c (IntKind.wrap .i64 (k13 + f11_1)) 0 q12 x12 x12_1 x12_2 x12_3 x12_4 x12_5 x12_5l x12_5c x12_6 x12_6l x12_6c x12_7 x12_7l x12_7c q9 h9 h9_1 h9_2 h9_3 h9_4 h9_5 h9_6 h9_7 q6 x6 x6_1 x6_2 b6 x6_3 A6 A6l A6c A6_1 A6_1l A6_1c A6_2 A6_2l A6_2c w)
def V55.l0 (B : Nat) (R : Value → World → Prop) : Nat → Option Addr → Nat → Nat → Int → Int → Nat → Int → Int → Int → Bool → Int → Option Addr → Nat → Nat → Option Addr → Nat → Nat → Option Addr → Nat → Nat → Nat → Int → Int → Int → Option Addr → Nat → Nat → Nat → Int → Int → Int → Int → Bool → Int → Int → Int → Nat → Int → Int → Int → Bool → Int → Option Addr → Nat → Nat → Option Addr → Nat → Nat → Option Addr → Nat → Nat → Nat → Option Addr → Nat → Nat → World → Prop
  | 0 => fun _ _ _ _ _ _ _ _ _ _ _ _ _ _ _ _ _ _ _ _ _ _ _ _ _ _ _ _ _ _ _ _ _ _ _ _ _ _ _ _ _ _ _ _ _ _ _ _ _ _ _ _ _ _ _ _ => False
  | k + 1 => fun mem0 mem0l mem0c k13 i14 q12 x12 x12_1 x12_2 x12_3 x12_4 x12_5 x12_5l x12_5c x12_6 x12_6l x12_6c x12_7 x12_7l x12_7c q11 f11 f11_1 f11_2 f11_3 f11_3l f11_3c q9 h9 h9_1 h9_2 h9_3 h9_4 h9_5 h9_6 h9_7 q6 x6 x6_1 x6_2 b6 x6_3 A6 A6l A6c A6_1 A6_1l A6_1c A6_2 A6_2l A6_2c q4 p4 p4l p4c w =>
    if (decide (i14 < h9_6)) = true
    then (∃ p93 : Addr, mem0 = some p93 ∧ (0 : Int) ≤ IntKind.wrap .i64 (k13 + IntKind.wrap .i64 (i14 * 4)) ∧ IntKind.wrap .i64 (k13 + IntKind.wrap .i64 (i14 * 4)) < (mem0l : Int) ∧
    ∃ x94 : Int, w.cell? (p93.add ((IntKind.wrap .i64 (k13 + IntKind.wrap .i64 (i14 * 4))).toNat)) = some (.int .u64 x94) ∧
    if (decide (x94 ≥ IntKind.wrap .u64 (p4l : Int))) = true
     then (Ret B w (R (.tuple ⟨[.agg ⟨[.int .i64 0, .int .i64 0, .int .i64 0, .bool false, .int .u64 0, .slice none 0 0, .slice none 0 0, .slice none 0 0]⟩, .int .i64 0, .int .i64 6]⟩)))
     else (∀ q16 : Nat, w.heap.size ≤ q16 →
     ∃ k_1, V55.l1 B R (V55.l0 B R k) k_1 mem0 mem0l mem0c k13 i14 0 q16 (IntKind.wrap .i64 x94) none 0 0 q12 x12 x12_1 x12_2 x12_3 x12_4 x12_5 x12_5l x12_5c x12_6 x12_6l x12_6c x12_7 x12_7l x12_7c q11 f11 f11_1 f11_2 f11_3 f11_3l f11_3c q9 h9 h9_1 h9_2 h9_3 h9_4 h9_5 h9_6 h9_7 q6 x6 x6_1 x6_2 b6 x6_3 A6 A6l A6c A6_1 A6_1l A6_1c A6_2 A6_2l A6_2c q4 p4 p4l p4c w))
    else (CallK Try.prog 101 [.agg ⟨[.int .i64 f11, .int .i64 f11_1, .int .i64 f11_2, .slice f11_3 f11_3l f11_3c]⟩] B w [q12, q11, q9, q6, q4] fun v w_1 => 
     ∃ x139 : Int, v = .int .i64 x139 ∧
     ∃ k_1, V55.l2 B R k_1 mem0 mem0l mem0c (IntKind.wrap .i64 (k13 + IntKind.wrap .i64 (x139 * 4))) 0 q12 x12 x12_1 x12_2 x12_3 x12_4 x12_5 x12_5l x12_5c x12_6 x12_6l x12_6c x12_7 x12_7l x12_7c q11 f11 f11_1 f11_2 f11_3 f11_3l f11_3c q9 h9 h9_1 h9_2 h9_3 h9_4 h9_5 h9_6 h9_7 q6 x6 x6_1 x6_2 b6 x6_3 A6 A6l A6c A6_1 A6_1l A6_1c A6_2 A6_2l A6_2c w_1)
def V55.vc (B : Nat) (R : Value → World → Prop) (mem0 : Option Addr) (mem0l mem0c : Nat) (p1 : Option Addr) (p1l p1c : Nat) (at2 : Int) (w : World) : Prop :=
  ∀ q4 : Nat, w.heap.size ≤ q4 →
∀ q6 : Nat, w.heap.size ≤ q6 →
CallK Try.prog 43 [.slice mem0 mem0l mem0c, .int .i64 at2] B w [q6, q4] fun v w_1 => 
  ∃ (x23 x23_1 x23_2 x23_3 : Int) (b23 : Bool) (x23_4 x23_5 x23_6 x23_7 : Int), v = .tuple ⟨[.agg ⟨[.int .i64 x23, .int .i64 x23_1, .int .i64 x23_2, .int .i64 x23_3, .bool b23, .int .u64 x23_4, .int .i64 x23_5, .int .i64 x23_6]⟩, .int .i64 x23_7]⟩ ∧
  ∀ q9 : Nat, w_1.heap.size ≤ q9 →
  if (x23_7 != 0) = true
  then (Ret B w_1 (R (.tuple ⟨[.agg ⟨[.int .i64 0, .int .i64 0, .int .i64 0, .bool false, .int .u64 0, .slice none 0 0, .slice none 0 0, .slice none 0 0]⟩, .int .i64 0, .int .i64 x23_7]⟩)))
  else (if (decide (x23_1 ≥ (p1l : Int))) = true
   then (Ret B w_1 (R (.tuple ⟨[.agg ⟨[.int .i64 0, .int .i64 0, .int .i64 0, .bool false, .int .u64 0, .slice none 0 0, .slice none 0 0, .slice none 0 0]⟩, .int .i64 0, .int .i64 6]⟩)))
   else (∃ p41 : Addr, p1 = some p41 ∧ (0 : Int) ≤ x23_1 ∧ x23_1 < (p1l : Int) ∧
   ∃ x42 : Int, w_1.cell? ((p41.add (x23_1.toNat * 4)).add 0) = some (.int .i64 x42) ∧
   ∃ x42_1 : Int, w_1.cell? ((p41.add (x23_1.toNat * 4)).add 1) = some (.int .i64 x42_1) ∧
   ∃ x42_2 : Int, w_1.cell? ((p41.add (x23_1.toNat * 4)).add 2) = some (.int .i64 x42_2) ∧
   ∃ (A42 : Option Addr) (A42l A42c : Nat), w_1.cell? ((p41.add (x23_1.toNat * 4)).add 3) = some (.slice A42 A42l A42c) ∧
   ∀ q11 : Nat, w_1.heap.size ≤ q11 →
   if (decide (x23_2 > (A42l : Int))) = false
    then (CallK Try.prog 101 [.agg ⟨[.int .i64 x42, .int .i64 x42_1, .int .i64 x42_2, .slice A42 A42l A42c]⟩] B w_1 [q11, q9, q6, q4] fun v_1 w_2 => 
     ∃ x53 : Int, v_1 = .int .i64 x53 ∧
     if (decide (x23_5 > x53)) = false
     then (if (decide (x23_6 > 8)) = true
      then (Ret B w_2 (R (.tuple ⟨[.agg ⟨[.int .i64 0, .int .i64 0, .int .i64 0, .bool false, .int .u64 0, .slice none 0 0, .slice none 0 0, .slice none 0 0]⟩, .int .i64 0, .int .i64 6]⟩)))
      else (CallK Try.prog 33 [.agg ⟨[.int .i64 x42, .int .i64 x42_1, .int .i64 x42_2, .slice A42 A42l A42c]⟩] B w_2 [q11, q9, q6, q4] fun v_2 w_3 => 
       ∃ x65 : Int, v_2 = .int .i64 x65 ∧
       CallK Try.prog 95 [.slice mem0 mem0l mem0c, .int .i64 at2, .int .i64 x65] B w_3 [q11, q9, q6, q4] fun v_3 w_4 => 
       ∃ b66 : Bool, v_3 = .bool b66 ∧
       if (!b66) = true
       then (Ret B w_4 (R (.tuple ⟨[.agg ⟨[.int .i64 0, .int .i64 0, .int .i64 0, .bool false, .int .u64 0, .slice none 0 0, .slice none 0 0, .slice none 0 0]⟩, .int .i64 0, .int .i64 1]⟩)))
       else (∀ q12 : Nat, w_4.heap.size ≤ q12 →
       ∃ k_1, V55.l0 B R k_1 mem0 mem0l mem0c (IntKind.wrap .i64 (at2 + 7)) 0 q12 x23_1 x23_2 x23_3 b23 x23_4 none 0 0 none 0 0 none 0 0 q11 x42 x42_1 x42_2 A42 A42l A42c q9 x23 x23_1 x23_2 x23_3 b23 x23_4 x23_5 x23_6 q6 0 0 0 false 0 none 0 0 none 0 0 none 0 0 q4 p1 p1l p1c w_4)))
     else (Ret B w_2 (R (.tuple ⟨[.agg ⟨[.int .i64 0, .int .i64 0, .int .i64 0, .bool false, .int .u64 0, .slice none 0 0, .slice none 0 0, .slice none 0 0]⟩, .int .i64 0, .int .i64 6]⟩))))
    else (Ret B w_1 (R (.tuple ⟨[.agg ⟨[.int .i64 0, .int .i64 0, .int .i64 0, .bool false, .int .u64 0, .slice none 0 0, .slice none 0 0, .slice none 0 0]⟩, .int .i64 0, .int .i64 6]⟩)))))
noncomputable def V55.cfg (B : Nat) : Cfg := ⟨Try.prog, ⟨183, B⟩, [], hasN [33, 43, 95, 101], hasN []⟩
noncomputable def V55.code : Code := (Try.f55.body).getD .skip
noncomputable def V55.cuts (B : Nat) (R : Value → World → Prop) : Nat → Cut := nthC [⟨[(0, .one (.slice)), (13, .one (.int .i64)), (14, .one (.int .i64))], [(12, 67, [.int .i64, .int .i64, .int .i64, .bool, .int .u64, .slice, .slice, .slice]), (11, 29, [.int .i64, .int .i64, .int .i64, .slice]), (9, 53, [.int .i64, .int .i64, .int .i64, .int .i64, .bool, .int .u64, .int .i64, .int .i64]), (6, 67, [.int .i64, .int .i64, .int .i64, .bool, .int .u64, .slice, .slice, .slice]), (4, 24, [.slice])], fun fs vs bs w => V55.l0 B R (nthN fs 0) (slA (nthV vs 0)) (slL (nthV vs 0)) (slC (nthV vs 0)) (iV (nthV vs 1)) (iV (nthV vs 2)) (nthB bs 0).blk (iV (nthV (nthB bs 0).cells 0)) (iV (nthV (nthB bs 0).cells 1)) (iV (nthV (nthB bs 0).cells 2)) (bV (nthV (nthB bs 0).cells 3)) (iV (nthV (nthB bs 0).cells 4)) (slA (nthV (nthB bs 0).cells 5)) (slL (nthV (nthB bs 0).cells 5)) (slC (nthV (nthB bs 0).cells 5)) (slA (nthV (nthB bs 0).cells 6)) (slL (nthV (nthB bs 0).cells 6)) (slC (nthV (nthB bs 0).cells 6)) (slA (nthV (nthB bs 0).cells 7)) (slL (nthV (nthB bs 0).cells 7)) (slC (nthV (nthB bs 0).cells 7)) (nthB bs 1).blk (iV (nthV (nthB bs 1).cells 0)) (iV (nthV (nthB bs 1).cells 1)) (iV (nthV (nthB bs 1).cells 2)) (slA (nthV (nthB bs 1).cells 3)) (slL (nthV (nthB bs 1).cells 3)) (slC (nthV (nthB bs 1).cells 3)) (nthB bs 2).blk (iV (nthV (nthB bs 2).cells 0)) (iV (nthV (nthB bs 2).cells 1)) (iV (nthV (nthB bs 2).cells 2)) (iV (nthV (nthB bs 2).cells 3)) (bV (nthV (nthB bs 2).cells 4)) (iV (nthV (nthB bs 2).cells 5)) (iV (nthV (nthB bs 2).cells 6)) (iV (nthV (nthB bs 2).cells 7)) (nthB bs 3).blk (iV (nthV (nthB bs 3).cells 0)) (iV (nthV (nthB bs 3).cells 1)) (iV (nthV (nthB bs 3).cells 2)) (bV (nthV (nthB bs 3).cells 3)) (iV (nthV (nthB bs 3).cells 4)) (slA (nthV (nthB bs 3).cells 5)) (slL (nthV (nthB bs 3).cells 5)) (slC (nthV (nthB bs 3).cells 5)) (slA (nthV (nthB bs 3).cells 6)) (slL (nthV (nthB bs 3).cells 6)) (slC (nthV (nthB bs 3).cells 6)) (slA (nthV (nthB bs 3).cells 7)) (slL (nthV (nthB bs 3).cells 7)) (slC (nthV (nthB bs 3).cells 7)) (nthB bs 4).blk (slA (nthV (nthB bs 4).cells 0)) (slL (nthV (nthB bs 4).cells 0)) (slC (nthV (nthB bs 4).cells 0)) w⟩,
  ⟨[(0, .one (.slice)), (13, .one (.int .i64)), (14, .one (.int .i64)), (17, .one (.int .i64))], [(16, 75, [.int .i64, .slice]), (12, 67, [.int .i64, .int .i64, .int .i64, .bool, .int .u64, .slice, .slice, .slice]), (11, 29, [.int .i64, .int .i64, .int .i64, .slice]), (9, 53, [.int .i64, .int .i64, .int .i64, .int .i64, .bool, .int .u64, .int .i64, .int .i64]), (6, 67, [.int .i64, .int .i64, .int .i64, .bool, .int .u64, .slice, .slice, .slice]), (4, 24, [.slice])], fun fs vs bs w => V55.l1 B R (V55.l0 B R (nthN fs 1)) (nthN fs 0) (slA (nthV vs 0)) (slL (nthV vs 0)) (slC (nthV vs 0)) (iV (nthV vs 1)) (iV (nthV vs 2)) (iV (nthV vs 3)) (nthB bs 0).blk (iV (nthV (nthB bs 0).cells 0)) (slA (nthV (nthB bs 0).cells 1)) (slL (nthV (nthB bs 0).cells 1)) (slC (nthV (nthB bs 0).cells 1)) (nthB bs 1).blk (iV (nthV (nthB bs 1).cells 0)) (iV (nthV (nthB bs 1).cells 1)) (iV (nthV (nthB bs 1).cells 2)) (bV (nthV (nthB bs 1).cells 3)) (iV (nthV (nthB bs 1).cells 4)) (slA (nthV (nthB bs 1).cells 5)) (slL (nthV (nthB bs 1).cells 5)) (slC (nthV (nthB bs 1).cells 5)) (slA (nthV (nthB bs 1).cells 6)) (slL (nthV (nthB bs 1).cells 6)) (slC (nthV (nthB bs 1).cells 6)) (slA (nthV (nthB bs 1).cells 7)) (slL (nthV (nthB bs 1).cells 7)) (slC (nthV (nthB bs 1).cells 7)) (nthB bs 2).blk (iV (nthV (nthB bs 2).cells 0)) (iV (nthV (nthB bs 2).cells 1)) (iV (nthV (nthB bs 2).cells 2)) (slA (nthV (nthB bs 2).cells 3)) (slL (nthV (nthB bs 2).cells 3)) (slC (nthV (nthB bs 2).cells 3)) (nthB bs 3).blk (iV (nthV (nthB bs 3).cells 0)) (iV (nthV (nthB bs 3).cells 1)) (iV (nthV (nthB bs 3).cells 2)) (iV (nthV (nthB bs 3).cells 3)) (bV (nthV (nthB bs 3).cells 4)) (iV (nthV (nthB bs 3).cells 5)) (iV (nthV (nthB bs 3).cells 6)) (iV (nthV (nthB bs 3).cells 7)) (nthB bs 4).blk (iV (nthV (nthB bs 4).cells 0)) (iV (nthV (nthB bs 4).cells 1)) (iV (nthV (nthB bs 4).cells 2)) (bV (nthV (nthB bs 4).cells 3)) (iV (nthV (nthB bs 4).cells 4)) (slA (nthV (nthB bs 4).cells 5)) (slL (nthV (nthB bs 4).cells 5)) (slC (nthV (nthB bs 4).cells 5)) (slA (nthV (nthB bs 4).cells 6)) (slL (nthV (nthB bs 4).cells 6)) (slC (nthV (nthB bs 4).cells 6)) (slA (nthV (nthB bs 4).cells 7)) (slL (nthV (nthB bs 4).cells 7)) (slC (nthV (nthB bs 4).cells 7)) (nthB bs 5).blk (slA (nthV (nthB bs 5).cells 0)) (slL (nthV (nthB bs 5).cells 0)) (slC (nthV (nthB bs 5).cells 0)) w⟩,
  ⟨[(0, .one (.slice)), (13, .one (.int .i64)), (18, .one (.int .i64))], [(12, 67, [.int .i64, .int .i64, .int .i64, .bool, .int .u64, .slice, .slice, .slice]), (11, 29, [.int .i64, .int .i64, .int .i64, .slice]), (9, 53, [.int .i64, .int .i64, .int .i64, .int .i64, .bool, .int .u64, .int .i64, .int .i64]), (6, 67, [.int .i64, .int .i64, .int .i64, .bool, .int .u64, .slice, .slice, .slice])], fun fs vs bs w => V55.l2 B R (nthN fs 0) (slA (nthV vs 0)) (slL (nthV vs 0)) (slC (nthV vs 0)) (iV (nthV vs 1)) (iV (nthV vs 2)) (nthB bs 0).blk (iV (nthV (nthB bs 0).cells 0)) (iV (nthV (nthB bs 0).cells 1)) (iV (nthV (nthB bs 0).cells 2)) (bV (nthV (nthB bs 0).cells 3)) (iV (nthV (nthB bs 0).cells 4)) (slA (nthV (nthB bs 0).cells 5)) (slL (nthV (nthB bs 0).cells 5)) (slC (nthV (nthB bs 0).cells 5)) (slA (nthV (nthB bs 0).cells 6)) (slL (nthV (nthB bs 0).cells 6)) (slC (nthV (nthB bs 0).cells 6)) (slA (nthV (nthB bs 0).cells 7)) (slL (nthV (nthB bs 0).cells 7)) (slC (nthV (nthB bs 0).cells 7)) (nthB bs 1).blk (iV (nthV (nthB bs 1).cells 0)) (iV (nthV (nthB bs 1).cells 1)) (iV (nthV (nthB bs 1).cells 2)) (slA (nthV (nthB bs 1).cells 3)) (slL (nthV (nthB bs 1).cells 3)) (slC (nthV (nthB bs 1).cells 3)) (nthB bs 2).blk (iV (nthV (nthB bs 2).cells 0)) (iV (nthV (nthB bs 2).cells 1)) (iV (nthV (nthB bs 2).cells 2)) (iV (nthV (nthB bs 2).cells 3)) (bV (nthV (nthB bs 2).cells 4)) (iV (nthV (nthB bs 2).cells 5)) (iV (nthV (nthB bs 2).cells 6)) (iV (nthV (nthB bs 2).cells 7)) (nthB bs 3).blk (iV (nthV (nthB bs 3).cells 0)) (iV (nthV (nthB bs 3).cells 1)) (iV (nthV (nthB bs 3).cells 2)) (bV (nthV (nthB bs 3).cells 3)) (iV (nthV (nthB bs 3).cells 4)) (slA (nthV (nthB bs 3).cells 5)) (slL (nthV (nthB bs 3).cells 5)) (slC (nthV (nthB bs 3).cells 5)) (slA (nthV (nthB bs 3).cells 6)) (slL (nthV (nthB bs 3).cells 6)) (slC (nthV (nthB bs 3).cells 6)) (slA (nthV (nthB bs 3).cells 7)) (slL (nthV (nthB bs 3).cells 7)) (slC (nthV (nthB bs 3).cells 7)) w⟩,
  ⟨[(0, .one (.slice)), (13, .one (.int .i64)), (19, .one (.int .i64))], [(12, 67, [.int .i64, .int .i64, .int .i64, .bool, .int .u64, .slice, .slice, .slice]), (9, 53, [.int .i64, .int .i64, .int .i64, .int .i64, .bool, .int .u64, .int .i64, .int .i64]), (6, 67, [.int .i64, .int .i64, .int .i64, .bool, .int .u64, .slice, .slice, .slice])], fun fs vs bs w => V55.l3 B R (nthN fs 0) (slA (nthV vs 0)) (slL (nthV vs 0)) (slC (nthV vs 0)) (iV (nthV vs 1)) (iV (nthV vs 2)) (nthB bs 0).blk (iV (nthV (nthB bs 0).cells 0)) (iV (nthV (nthB bs 0).cells 1)) (iV (nthV (nthB bs 0).cells 2)) (bV (nthV (nthB bs 0).cells 3)) (iV (nthV (nthB bs 0).cells 4)) (slA (nthV (nthB bs 0).cells 5)) (slL (nthV (nthB bs 0).cells 5)) (slC (nthV (nthB bs 0).cells 5)) (slA (nthV (nthB bs 0).cells 6)) (slL (nthV (nthB bs 0).cells 6)) (slC (nthV (nthB bs 0).cells 6)) (slA (nthV (nthB bs 0).cells 7)) (slL (nthV (nthB bs 0).cells 7)) (slC (nthV (nthB bs 0).cells 7)) (nthB bs 1).blk (iV (nthV (nthB bs 1).cells 0)) (iV (nthV (nthB bs 1).cells 1)) (iV (nthV (nthB bs 1).cells 2)) (iV (nthV (nthB bs 1).cells 3)) (bV (nthV (nthB bs 1).cells 4)) (iV (nthV (nthB bs 1).cells 5)) (iV (nthV (nthB bs 1).cells 6)) (iV (nthV (nthB bs 1).cells 7)) (nthB bs 2).blk (iV (nthV (nthB bs 2).cells 0)) (iV (nthV (nthB bs 2).cells 1)) (iV (nthV (nthB bs 2).cells 2)) (bV (nthV (nthB bs 2).cells 3)) (iV (nthV (nthB bs 2).cells 4)) (slA (nthV (nthB bs 2).cells 5)) (slL (nthV (nthB bs 2).cells 5)) (slC (nthV (nthB bs 2).cells 5)) (slA (nthV (nthB bs 2).cells 6)) (slL (nthV (nthB bs 2).cells 6)) (slC (nthV (nthB bs 2).cells 6)) (slA (nthV (nthB bs 2).cells 7)) (slL (nthV (nthB bs 2).cells 7)) (slC (nthV (nthB bs 2).cells 7)) w⟩]
noncomputable def V55.h : H := .s (.z) (.s (.z) (.s (.s (.z) (.c (.s (.z) (.z)) (.z))) (.s (.s (.z) (.c (.s (.z) (.z)) (.z))) (.s (.z) (.s (.s (.r [[0, 1, 2, 3, 4, 5, 6, 7, 8, 9, 10, 11, 12, 13, 14, 15, 16, 17]]) (.c (.s (.z) (.z)) (.z))) (.s (.s (.z) (.c (.s (.z) (.z)) (.z))) (.s (.z) (.s (.z) (.s (.s (.z) (.b (.l 0 (.s (.s (.z) (.c (.z) (.z))) (.s (.b (.s (.z) (.s (.s (.z) (.c (.s (.z) (.z)) (.z))) (.s (.z) (.s (.s (.z) (.b (.l 1 (.s (.s (.z) (.c (.z) (.z))) (.s (.b (.r [[0, 1, 2, 3, 4, 5, 6, 7, 8, 9, 10, 11, 12, 13, 14, 15]])) (.z)))))) (.z)))))) (.z)))))) (.s (.z) (.s (.s (.z) (.b (.l 2 (.s (.s (.z) (.c (.z) (.z))) (.s (.b (.r [[0, 1, 2, 3, 4, 5, 6, 7, 8, 9, 10, 11]])) (.z)))))) (.s (.z) (.s (.s (.z) (.b (.l 3 (.s (.s (.z) (.c (.z) (.z))) (.s (.b (.r [[0, 1, 2, 3, 4, 5, 6, 7, 8, 9, 10, 11]])) (.z)))))) (.s (.r [[0, 1, 2, 3, 4, 5]]) (.z)))))))))))))))
theorem V55.vc_eq (B : Nat) (R : Value → World → Prop) (mem0 : Option Addr) (mem0l mem0c : Nat) (p1 : Option Addr) (p1l p1c : Nat) (at2 : Int) (w : World) : wpf (V55.cfg B) (V55.cuts B R) V55.code V55.h [] (postOf Try.prog B (Try.f55.results.toList) R) (argE 0 [.slice mem0 mem0l mem0c, .agg ⟨[.slice p1 p1l p1c]⟩, .int .i64 at2]) [] w = V55.vc B R mem0 mem0l mem0c p1 p1l p1c at2 w := by kernel_rfl
theorem V55.obl (B : Nat) (R : Value → World → Prop) : oblP (V55.cfg B) (V55.cuts B R) V55.code V55.h [] (postOf Try.prog B (Try.f55.results.toList) R) := by
  have e : oblP (V55.cfg B) (V55.cuts B R) V55.code V55.h [] (postOf Try.prog B (Try.f55.results.toList) R) = (True ∧ (True ∧ ((True ∧ ((True ∧ True) ∧ True)) ∧ ((True ∧ ((True ∧ True) ∧ True)) ∧ (True ∧ (((true = true) ∧ ((True ∧ True) ∧ True)) ∧ ((True ∧ ((True ∧ True) ∧ True)) ∧ (True ∧ (True ∧ ((True ∧ ((∀ (mem0 : Option Addr) (mem0l mem0c : Nat) (k13 i14 : Int) (q12 : Nat) (x12 x12_1 x12_2 : Int) (x12_3 : Bool) (x12_4 : Int) (x12_5 : Option Addr) (x12_5l x12_5c : Nat) (x12_6 : Option Addr) (x12_6l x12_6c : Nat) (x12_7 : Option Addr) (x12_7l x12_7c q11 : Nat) (f11 f11_1 f11_2 : Int) (f11_3 : Option Addr) (f11_3l f11_3c q9 : Nat) (h9 h9_1 h9_2 h9_3 : Int) (h9_4 : Bool) (h9_5 h9_6 h9_7 : Int) (q6 : Nat) (x6 x6_1 x6_2 : Int) (b6 : Bool) (x6_3 : Int) (A6 : Option Addr) (A6l A6c : Nat) (A6_1 : Option Addr) (A6_1l A6_1c : Nat) (A6_2 : Option Addr) (A6_2l A6_2c q4 : Nat) (p4 : Option Addr) (p4l p4c : Nat) (w : World), ¬ V55.l0 B R 0 mem0 mem0l mem0c k13 i14 q12 x12 x12_1 x12_2 x12_3 x12_4 x12_5 x12_5l x12_5c x12_6 x12_6l x12_6c x12_7 x12_7l x12_7c q11 f11 f11_1 f11_2 f11_3 f11_3l f11_3c q9 h9 h9_1 h9_2 h9_3 h9_4 h9_5 h9_6 h9_7 q6 x6 x6_1 x6_2 b6 x6_3 A6 A6l A6c A6_1 A6_1l A6_1c A6_2 A6_2l A6_2c q4 p4 p4l p4c w) ∧ (∀ k0, ∀ (mem0 : Option Addr) (mem0l mem0c : Nat) (k13 i14 : Int) (q12 : Nat) (x12 x12_1 x12_2 : Int) (x12_3 : Bool) (x12_4 : Int) (x12_5 : Option Addr) (x12_5l x12_5c : Nat) (x12_6 : Option Addr) (x12_6l x12_6c : Nat) (x12_7 : Option Addr) (x12_7l x12_7c q11 : Nat) (f11 f11_1 f11_2 : Int) (f11_3 : Option Addr) (f11_3l f11_3c q9 : Nat) (h9 h9_1 h9_2 h9_3 : Int) (h9_4 : Bool) (h9_5 h9_6 h9_7 : Int) (q6 : Nat) (x6 x6_1 x6_2 : Int) (b6 : Bool) (x6_3 : Int) (A6 : Option Addr) (A6l A6c : Nat) (A6_1 : Option Addr) (A6_1l A6_1c : Nat) (A6_2 : Option Addr) (A6_2l A6_2c q4 : Nat) (p4 : Option Addr) (p4l p4c : Nat) (w : World), V55.l0 B R (k0 + 1) mem0 mem0l mem0c k13 i14 q12 x12 x12_1 x12_2 x12_3 x12_4 x12_5 x12_5l x12_5c x12_6 x12_6l x12_6c x12_7 x12_7l x12_7c q11 f11 f11_1 f11_2 f11_3 f11_3l f11_3c q9 h9 h9_1 h9_2 h9_3 h9_4 h9_5 h9_6 h9_7 q6 x6 x6_1 x6_2 b6 x6_3 A6 A6l A6c A6_1 A6_1l A6_1c A6_2 A6_2l A6_2c q4 p4 p4l p4c w → V55.l0 B R (k0 + 1) mem0 mem0l mem0c k13 i14 q12 x12 x12_1 x12_2 x12_3 x12_4 x12_5 x12_5l x12_5c x12_6 x12_6l x12_6c x12_7 x12_7l x12_7c q11 f11 f11_1 f11_2 f11_3 f11_3l f11_3c q9 h9 h9_1 h9_2 h9_3 h9_4 h9_5 h9_6 h9_7 q6 x6 x6_1 x6_2 b6 x6_3 A6 A6l A6c A6_1 A6_1l A6_1c A6_2 A6_2l A6_2c q4 p4 p4l p4c w) ∧ ∀ k0 : Nat, ((True ∧ (True ∧ True)) ∧ ((True ∧ ((True ∧ ((True ∧ True) ∧ True)) ∧ (True ∧ ((True ∧ ((∀ (mem0 : Option Addr) (mem0l mem0c : Nat) (k13 i14 j17 : Int) (q16 : Nat) (d16 : Int) (d16_1 : Option Addr) (d16_1l d16_1c q12 : Nat) (x12 x12_1 x12_2 : Int) (x12_3 : Bool) (x12_4 : Int) (x12_5 : Option Addr) (x12_5l x12_5c : Nat) (x12_6 : Option Addr) (x12_6l x12_6c : Nat) (x12_7 : Option Addr) (x12_7l x12_7c q11 : Nat) (f11 f11_1 f11_2 : Int) (f11_3 : Option Addr) (f11_3l f11_3c q9 : Nat) (h9 h9_1 h9_2 h9_3 : Int) (h9_4 : Bool) (h9_5 h9_6 h9_7 : Int) (q6 : Nat) (x6 x6_1 x6_2 : Int) (b6 : Bool) (x6_3 : Int) (A6 : Option Addr) (A6l A6c : Nat) (A6_1 : Option Addr) (A6_1l A6_1c : Nat) (A6_2 : Option Addr) (A6_2l A6_2c q4 : Nat) (p4 : Option Addr) (p4l p4c : Nat) (w : World), ¬ V55.l1 B R (V55.l0 B R k0) 0 mem0 mem0l mem0c k13 i14 j17 q16 d16 d16_1 d16_1l d16_1c q12 x12 x12_1 x12_2 x12_3 x12_4 x12_5 x12_5l x12_5c x12_6 x12_6l x12_6c x12_7 x12_7l x12_7c q11 f11 f11_1 f11_2 f11_3 f11_3l f11_3c q9 h9 h9_1 h9_2 h9_3 h9_4 h9_5 h9_6 h9_7 q6 x6 x6_1 x6_2 b6 x6_3 A6 A6l A6c A6_1 A6_1l A6_1c A6_2 A6_2l A6_2c q4 p4 p4l p4c w) ∧ (∀ k1, ∀ (mem0 : Option Addr) (mem0l mem0c : Nat) (k13 i14 j17 : Int) (q16 : Nat) (d16 : Int) (d16_1 : Option Addr) (d16_1l d16_1c q12 : Nat) (x12 x12_1 x12_2 : Int) (x12_3 : Bool) (x12_4 : Int) (x12_5 : Option Addr) (x12_5l x12_5c : Nat) (x12_6 : Option Addr) (x12_6l x12_6c : Nat) (x12_7 : Option Addr) (x12_7l x12_7c q11 : Nat) (f11 f11_1 f11_2 : Int) (f11_3 : Option Addr) (f11_3l f11_3c q9 : Nat) (h9 h9_1 h9_2 h9_3 : Int) (h9_4 : Bool) (h9_5 h9_6 h9_7 : Int) (q6 : Nat) (x6 x6_1 x6_2 : Int) (b6 : Bool) (x6_3 : Int) (A6 : Option Addr) (A6l A6c : Nat) (A6_1 : Option Addr) (A6_1l A6_1c : Nat) (A6_2 : Option Addr) (A6_2l A6_2c q4 : Nat) (p4 : Option Addr) (p4l p4c : Nat) (w : World), V55.l1 B R (V55.l0 B R k0) (k1 + 1) mem0 mem0l mem0c k13 i14 j17 q16 d16 d16_1 d16_1l d16_1c q12 x12 x12_1 x12_2 x12_3 x12_4 x12_5 x12_5l x12_5c x12_6 x12_6l x12_6c x12_7 x12_7l x12_7c q11 f11 f11_1 f11_2 f11_3 f11_3l f11_3c q9 h9 h9_1 h9_2 h9_3 h9_4 h9_5 h9_6 h9_7 q6 x6 x6_1 x6_2 b6 x6_3 A6 A6l A6c A6_1 A6_1l A6_1c A6_2 A6_2l A6_2c q4 p4 p4l p4c w → V55.l1 B R (V55.l0 B R k0) (k1 + 1) mem0 mem0l mem0c k13 i14 j17 q16 d16 d16_1 d16_1l d16_1c q12 x12 x12_1 x12_2 x12_3 x12_4 x12_5 x12_5l x12_5c x12_6 x12_6l x12_6c x12_7 x12_7l x12_7c q11 f11 f11_1 f11_2 f11_3 f11_3l f11_3c q9 h9 h9_1 h9_2 h9_3 h9_4 h9_5 h9_6 h9_7 q6 x6 x6_1 x6_2 b6 x6_3 A6 A6l A6c A6_1 A6_1l A6_1c A6_2 A6_2l A6_2c q4 p4 p4l p4c w) ∧ ∀ k1 : Nat, ((True ∧ (True ∧ True)) ∧ ((true = true) ∧ True)))) ∧ True)))) ∧ True)))) ∧ (True ∧ ((True ∧ ((∀ (mem0 : Option Addr) (mem0l mem0c : Nat) (k13 i18 : Int) (q12 : Nat) (x12 x12_1 x12_2 : Int) (x12_3 : Bool) (x12_4 : Int) (x12_5 : Option Addr) (x12_5l x12_5c : Nat) (x12_6 : Option Addr) (x12_6l x12_6c : Nat) (x12_7 : Option Addr) (x12_7l x12_7c q11 : Nat) (f11 f11_1 f11_2 : Int) (f11_3 : Option Addr) (f11_3l f11_3c q9 : Nat) (h9 h9_1 h9_2 h9_3 : Int) (h9_4 : Bool) (h9_5 h9_6 h9_7 : Int) (q6 : Nat) (x6 x6_1 x6_2 : Int) (b6 : Bool) (x6_3 : Int) (A6 : Option Addr) (A6l A6c : Nat) (A6_1 : Option Addr) (A6_1l A6_1c : Nat) (A6_2 : Option Addr) (A6_2l A6_2c : Nat) (w : World), ¬ V55.l2 B R 0 mem0 mem0l mem0c k13 i18 q12 x12 x12_1 x12_2 x12_3 x12_4 x12_5 x12_5l x12_5c x12_6 x12_6l x12_6c x12_7 x12_7l x12_7c q11 f11 f11_1 f11_2 f11_3 f11_3l f11_3c q9 h9 h9_1 h9_2 h9_3 h9_4 h9_5 h9_6 h9_7 q6 x6 x6_1 x6_2 b6 x6_3 A6 A6l A6c A6_1 A6_1l A6_1c A6_2 A6_2l A6_2c w) ∧ (∀ k2, ∀ (mem0 : Option Addr) (mem0l mem0c : Nat) (k13 i18 : Int) (q12 : Nat) (x12 x12_1 x12_2 : Int) (x12_3 : Bool) (x12_4 : Int) (x12_5 : Option Addr) (x12_5l x12_5c : Nat) (x12_6 : Option Addr) (x12_6l x12_6c : Nat) (x12_7 : Option Addr) (x12_7l x12_7c q11 : Nat) (f11 f11_1 f11_2 : Int) (f11_3 : Option Addr) (f11_3l f11_3c q9 : Nat) (h9 h9_1 h9_2 h9_3 : Int) (h9_4 : Bool) (h9_5 h9_6 h9_7 : Int) (q6 : Nat) (x6 x6_1 x6_2 : Int) (b6 : Bool) (x6_3 : Int) (A6 : Option Addr) (A6l A6c : Nat) (A6_1 : Option Addr) (A6_1l A6_1c : Nat) (A6_2 : Option Addr) (A6_2l A6_2c : Nat) (w : World), V55.l2 B R (k2 + 1) mem0 mem0l mem0c k13 i18 q12 x12 x12_1 x12_2 x12_3 x12_4 x12_5 x12_5l x12_5c x12_6 x12_6l x12_6c x12_7 x12_7l x12_7c q11 f11 f11_1 f11_2 f11_3 f11_3l f11_3c q9 h9 h9_1 h9_2 h9_3 h9_4 h9_5 h9_6 h9_7 q6 x6 x6_1 x6_2 b6 x6_3 A6 A6l A6c A6_1 A6_1l A6_1c A6_2 A6_2l A6_2c w → V55.l2 B R (k2 + 1) mem0 mem0l mem0c k13 i18 q12 x12 x12_1 x12_2 x12_3 x12_4 x12_5 x12_5l x12_5c x12_6 x12_6l x12_6c x12_7 x12_7l x12_7c q11 f11 f11_1 f11_2 f11_3 f11_3l f11_3c q9 h9 h9_1 h9_2 h9_3 h9_4 h9_5 h9_6 h9_7 q6 x6 x6_1 x6_2 b6 x6_3 A6 A6l A6c A6_1 A6_1l A6_1c A6_2 A6_2l A6_2c w) ∧ ∀ k2 : Nat, ((True ∧ (True ∧ True)) ∧ ((true = true) ∧ True)))) ∧ (True ∧ ((True ∧ ((∀ (mem0 : Option Addr) (mem0l mem0c : Nat) (k13 i19 : Int) (q12 : Nat) (x12 x12_1 x12_2 : Int) (x12_3 : Bool) (x12_4 : Int) (x12_5 : Option Addr) (x12_5l x12_5c : Nat) (x12_6 : Option Addr) (x12_6l x12_6c : Nat) (x12_7 : Option Addr) (x12_7l x12_7c q9 : Nat) (h9 h9_1 h9_2 h9_3 : Int) (h9_4 : Bool) (h9_5 h9_6 h9_7 : Int) (q6 : Nat) (x6 x6_1 x6_2 : Int) (b6 : Bool) (x6_3 : Int) (A6 : Option Addr) (A6l A6c : Nat) (A6_1 : Option Addr) (A6_1l A6_1c : Nat) (A6_2 : Option Addr) (A6_2l A6_2c : Nat) (w : World), ¬ V55.l3 B R 0 mem0 mem0l mem0c k13 i19 q12 x12 x12_1 x12_2 x12_3 x12_4 x12_5 x12_5l x12_5c x12_6 x12_6l x12_6c x12_7 x12_7l x12_7c q9 h9 h9_1 h9_2 h9_3 h9_4 h9_5 h9_6 h9_7 q6 x6 x6_1 x6_2 b6 x6_3 A6 A6l A6c A6_1 A6_1l A6_1c A6_2 A6_2l A6_2c w) ∧ (∀ k3, ∀ (mem0 : Option Addr) (mem0l mem0c : Nat) (k13 i19 : Int) (q12 : Nat) (x12 x12_1 x12_2 : Int) (x12_3 : Bool) (x12_4 : Int) (x12_5 : Option Addr) (x12_5l x12_5c : Nat) (x12_6 : Option Addr) (x12_6l x12_6c : Nat) (x12_7 : Option Addr) (x12_7l x12_7c q9 : Nat) (h9 h9_1 h9_2 h9_3 : Int) (h9_4 : Bool) (h9_5 h9_6 h9_7 : Int) (q6 : Nat) (x6 x6_1 x6_2 : Int) (b6 : Bool) (x6_3 : Int) (A6 : Option Addr) (A6l A6c : Nat) (A6_1 : Option Addr) (A6_1l A6_1c : Nat) (A6_2 : Option Addr) (A6_2l A6_2c : Nat) (w : World), V55.l3 B R (k3 + 1) mem0 mem0l mem0c k13 i19 q12 x12 x12_1 x12_2 x12_3 x12_4 x12_5 x12_5l x12_5c x12_6 x12_6l x12_6c x12_7 x12_7l x12_7c q9 h9 h9_1 h9_2 h9_3 h9_4 h9_5 h9_6 h9_7 q6 x6 x6_1 x6_2 b6 x6_3 A6 A6l A6c A6_1 A6_1l A6_1c A6_2 A6_2l A6_2c w → V55.l3 B R (k3 + 1) mem0 mem0l mem0c k13 i19 q12 x12 x12_1 x12_2 x12_3 x12_4 x12_5 x12_5l x12_5c x12_6 x12_6l x12_6c x12_7 x12_7l x12_7c q9 h9 h9_1 h9_2 h9_3 h9_4 h9_5 h9_6 h9_7 q6 x6 x6_1 x6_2 b6 x6_3 A6 A6l A6c A6_1 A6_1l A6_1c A6_2 A6_2l A6_2c w) ∧ ∀ k3 : Nat, ((True ∧ (True ∧ True)) ∧ ((true = true) ∧ True)))) ∧ ((true = true) ∧ True))))))))))))))) := by kernel_rfl
  rw [e]
  exact ⟨trivial, ⟨trivial, ⟨⟨trivial, ⟨⟨trivial, trivial⟩, trivial⟩⟩, ⟨⟨trivial, ⟨⟨trivial, trivial⟩, trivial⟩⟩, ⟨trivial, ⟨⟨rfl, ⟨⟨trivial, trivial⟩, trivial⟩⟩, ⟨⟨trivial, ⟨⟨trivial, trivial⟩, trivial⟩⟩, ⟨trivial, ⟨trivial, ⟨⟨trivial, ⟨fun mem0 mem0l mem0c k13 i14 q12 x12 x12_1 x12_2 x12_3 x12_4 x12_5 x12_5l x12_5c x12_6 x12_6l x12_6c x12_7 x12_7l x12_7c q11 f11 f11_1 f11_2 f11_3 f11_3l f11_3c q9 h9 h9_1 h9_2 h9_3 h9_4 h9_5 h9_6 h9_7 q6 x6 x6_1 x6_2 b6 x6_3 A6 A6l A6c A6_1 A6_1l A6_1c A6_2 A6_2l A6_2c q4 p4 p4l p4c w h => h, fun _ mem0 mem0l mem0c k13 i14 q12 x12 x12_1 x12_2 x12_3 x12_4 x12_5 x12_5l x12_5c x12_6 x12_6l x12_6c x12_7 x12_7l x12_7c q11 f11 f11_1 f11_2 f11_3 f11_3l f11_3c q9 h9 h9_1 h9_2 h9_3 h9_4 h9_5 h9_6 h9_7 q6 x6 x6_1 x6_2 b6 x6_3 A6 A6l A6c A6_1 A6_1l A6_1c A6_2 A6_2l A6_2c q4 p4 p4l p4c w h => h, fun k0 => ⟨⟨trivial, ⟨trivial, trivial⟩⟩, ⟨⟨trivial, ⟨⟨trivial, ⟨⟨trivial, trivial⟩, trivial⟩⟩, ⟨trivial, ⟨⟨trivial, ⟨fun mem0 mem0l mem0c k13 i14 j17 q16 d16 d16_1 d16_1l d16_1c q12 x12 x12_1 x12_2 x12_3 x12_4 x12_5 x12_5l x12_5c x12_6 x12_6l x12_6c x12_7 x12_7l x12_7c q11 f11 f11_1 f11_2 f11_3 f11_3l f11_3c q9 h9 h9_1 h9_2 h9_3 h9_4 h9_5 h9_6 h9_7 q6 x6 x6_1 x6_2 b6 x6_3 A6 A6l A6c A6_1 A6_1l A6_1c A6_2 A6_2l A6_2c q4 p4 p4l p4c w h => h, fun _ mem0 mem0l mem0c k13 i14 j17 q16 d16 d16_1 d16_1l d16_1c q12 x12 x12_1 x12_2 x12_3 x12_4 x12_5 x12_5l x12_5c x12_6 x12_6l x12_6c x12_7 x12_7l x12_7c q11 f11 f11_1 f11_2 f11_3 f11_3l f11_3c q9 h9 h9_1 h9_2 h9_3 h9_4 h9_5 h9_6 h9_7 q6 x6 x6_1 x6_2 b6 x6_3 A6 A6l A6c A6_1 A6_1l A6_1c A6_2 A6_2l A6_2c q4 p4 p4l p4c w h => h, fun k1 => ⟨⟨trivial, ⟨trivial, trivial⟩⟩, ⟨rfl, trivial⟩⟩⟩⟩, trivial⟩⟩⟩⟩, trivial⟩⟩⟩⟩, ⟨trivial, ⟨⟨trivial, ⟨fun mem0 mem0l mem0c k13 i18 q12 x12 x12_1 x12_2 x12_3 x12_4 x12_5 x12_5l x12_5c x12_6 x12_6l x12_6c x12_7 x12_7l x12_7c q11 f11 f11_1 f11_2 f11_3 f11_3l f11_3c q9 h9 h9_1 h9_2 h9_3 h9_4 h9_5 h9_6 h9_7 q6 x6 x6_1 x6_2 b6 x6_3 A6 A6l A6c A6_1 A6_1l A6_1c A6_2 A6_2l A6_2c w h => h, fun _ mem0 mem0l mem0c k13 i18 q12 x12 x12_1 x12_2 x12_3 x12_4 x12_5 x12_5l x12_5c x12_6 x12_6l x12_6c x12_7 x12_7l x12_7c q11 f11 f11_1 f11_2 f11_3 f11_3l f11_3c q9 h9 h9_1 h9_2 h9_3 h9_4 h9_5 h9_6 h9_7 q6 x6 x6_1 x6_2 b6 x6_3 A6 A6l A6c A6_1 A6_1l A6_1c A6_2 A6_2l A6_2c w h => h, fun k2 => ⟨⟨trivial, ⟨trivial, trivial⟩⟩, ⟨rfl, trivial⟩⟩⟩⟩, ⟨trivial, ⟨⟨trivial, ⟨fun mem0 mem0l mem0c k13 i19 q12 x12 x12_1 x12_2 x12_3 x12_4 x12_5 x12_5l x12_5c x12_6 x12_6l x12_6c x12_7 x12_7l x12_7c q9 h9 h9_1 h9_2 h9_3 h9_4 h9_5 h9_6 h9_7 q6 x6 x6_1 x6_2 b6 x6_3 A6 A6l A6c A6_1 A6_1l A6_1c A6_2 A6_2l A6_2c w h => h, fun _ mem0 mem0l mem0c k13 i19 q12 x12 x12_1 x12_2 x12_3 x12_4 x12_5 x12_5l x12_5c x12_6 x12_6l x12_6c x12_7 x12_7l x12_7c q9 h9 h9_1 h9_2 h9_3 h9_4 h9_5 h9_6 h9_7 q6 x6 x6_1 x6_2 b6 x6_3 A6 A6l A6c A6_1 A6_1l A6_1c A6_2 A6_2l A6_2c w h => h, fun k3 => ⟨⟨trivial, ⟨trivial, trivial⟩⟩, ⟨rfl, trivial⟩⟩⟩⟩, ⟨rfl, trivial⟩⟩⟩⟩⟩⟩⟩⟩⟩⟩⟩⟩⟩⟩⟩
theorem V55.cfgOk (B : Nat) : CfgOk (V55.cfg B) := cfgOk_of (by kernel_rfl) (by kernel_rfl)
theorem V55.sound {mem0 : Option Addr} {mem0l mem0c : Nat} {p1 : Option Addr} {p1l p1c : Nat} {at2 : Int} {w : World} {R : Value → World → Prop} (h : V55.vc w.heap.size R mem0 mem0l mem0c p1 p1l p1c at2 w) : Calls Try.prog 55 ⟨[.slice mem0 mem0l mem0c, .agg ⟨[.slice p1 p1l p1c]⟩, .int .i64 at2]⟩ w fun e w' => ∃ v, e = .returned v ∧ R v w' :=
  calls_wpfP (c := V55.cfg w.heap.size) (fn := Try.f55) (x := V55.code) (V55.cuts w.heap.size R) V55.h (V55.cfgOk _) mixed Try.func55 (by kernel_rfl) (by kernel_rfl) (by kernel_rfl) rfl (V55.obl _ _) ((V55.vc_eq _ _ mem0 mem0l mem0c p1 p1l p1c at2 _).symm ▸ h)

/-! function 56 -/
def V56.l0 (B : Nat) (R : Value → World → Prop) : Nat → Int → Nat → Int → Int → Int → Bool → Int → Option Addr → Nat → Nat → Option Addr → Nat → Nat → Option Addr → Nat → Nat → Nat → Int → Int → Int → Bool → Int → Option Addr → Nat → Nat → Option Addr → Nat → Nat → Option Addr → Nat → Nat → World → Prop
  | 0 => fun _ _ _ _ _ _ _ _ _ _ _ _ _ _ _ _ _ _ _ _ _ _ _ _ _ _ _ _ _ _ _ _ => False
  | k + 1 => fun i5 q3 b3 b3_1 b3_2 b3_3 b3_4 b3_5 b3_5l b3_5c b3_6 b3_6l b3_6c b3_7 b3_7l b3_7c q2 a2 a2_1 a2_2 a2_3 a2_4 a2_5 a2_5l a2_5c a2_6 a2_6l a2_6c a2_7 a2_7l a2_7c w =>
    if (decide (i5 < (a2_5l : Int))) = true
    then (∃ p58 : Addr, a2_5 = some p58 ∧ (0 : Int) ≤ i5 ∧ i5 < (a2_5l : Int) ∧
    ∃ x60 : Int, w.cell? ((p58.add (i5.toNat * 2)).add 0) = some (.int .i64 x60) ∧
    ∃ p64 : Addr, b3_5 = some p64 ∧ (0 : Int) ≤ i5 ∧ i5 < (b3_5l : Int) ∧
    ∃ x66 : Int, w.cell? ((p64.add (i5.toNat * 2)).add 0) = some (.int .i64 x66) ∧
    if (x60 != x66) = false
     then (∃ p72 : Addr, a2_5 = some p72 ∧ (0 : Int) ≤ i5 ∧ i5 < (a2_5l : Int) ∧
     ∃ (A74 : Option Addr) (A74l A74c : Nat), w.cell? ((p72.add (i5.toNat * 2)).add 1) = some (.slice A74 A74l A74c) ∧
     ∃ p78 : Addr, b3_5 = some p78 ∧ (0 : Int) ≤ i5 ∧ i5 < (b3_5l : Int) ∧
     ∃ (A80 : Option Addr) (A80l A80c : Nat), w.cell? ((p78.add (i5.toNat * 2)).add 1) = some (.slice A80 A80l A80c) ∧
     CallK Try.prog 68 [.slice A74 A74l A74c, .slice A80 A80l A80c] B w [q3, q2] fun v w_1 => 
      ∃ b81 : Bool, v = .bool b81 ∧
      if (!b81) = true
      then (Ret B w_1 (R (.bool false)))
      else ((V56.l0 B R k) (IntKind.wrap .i64 (i5 + 1)) q3 b3 b3_1 b3_2 b3_3 b3_4 b3_5 b3_5l b3_5c b3_6 b3_6l b3_6c b3_7 b3_7l b3_7c q2 a2 a2_1 a2_2 a2_3 a2_4 a2_5 a2_5l a2_5c a2_6 a2_6l a2_6c a2_7 a2_7l a2_7c w_1))
     else (Ret B w (R (.bool false))))
    else (CallK Try.prog 68 [.slice a2_6 a2_6l a2_6c, .slice b3_6 b3_6l b3_6c] B w [q3, q2] fun v w_1 => 
     ∃ b88 : Bool, v = .bool b88 ∧
     if b88 = true
     then (CallK Try.prog 68 [.slice a2_7 a2_7l a2_7c, .slice b3_7 b3_7l b3_7c] B w_1 [q3, q2] fun v_1 w_2 => 
      ∃ b94 : Bool, v_1 = .bool b94 ∧
      Ret B w_2 (R (.bool b94)))
     else (Ret B w_1 (R (.bool false))))
def V56.vc (B : Nat) (R : Value → World → Prop) (a0 a0_1 a0_2 : Int) (a0_3 : Bool) (a0_4 : Int) (a0_5 : Option Addr) (a0_5l a0_5c : Nat) (a0_6 : Option Addr) (a0_6l a0_6c : Nat) (a0_7 : Option Addr) (a0_7l a0_7c : Nat) (b1 b1_1 b1_2 : Int) (b1_3 : Bool) (b1_4 : Int) (b1_5 : Option Addr) (b1_5l b1_5c : Nat) (b1_6 : Option Addr) (b1_6l b1_6c : Nat) (b1_7 : Option Addr) (b1_7l b1_7c : Nat) (w : World) : Prop :=
  ∀ q2 : Nat, w.heap.size ≤ q2 →
∀ q3 : Nat, w.heap.size ≤ q3 →
if (a0 != b1) = false
  then (if (a0_1 != b1_1) = false
   then (if (a0_2 != b1_2) = false
    then (if (!(a0_3 == b1_3)) = false
     then (if (a0_4 != b1_4) = false
      then (if ((a0_5l : Int) != (b1_5l : Int)) = true
       then (Ret B w (R (.bool false)))
       else (∃ k_1, V56.l0 B R k_1 0 q3 b1 b1_1 b1_2 b1_3 b1_4 b1_5 b1_5l b1_5c b1_6 b1_6l b1_6c b1_7 b1_7l b1_7c q2 a0 a0_1 a0_2 a0_3 a0_4 a0_5 a0_5l a0_5c a0_6 a0_6l a0_6c a0_7 a0_7l a0_7c w))
      else (Ret B w (R (.bool false))))
     else (Ret B w (R (.bool false))))
    else (Ret B w (R (.bool false))))
   else (Ret B w (R (.bool false))))
  else (Ret B w (R (.bool false)))
noncomputable def V56.cfg (B : Nat) : Cfg := ⟨Try.prog, ⟨96, B⟩, [], hasN [68], hasN []⟩
noncomputable def V56.code : Code := (Try.f56.body).getD .skip
noncomputable def V56.cuts (B : Nat) (R : Value → World → Prop) : Nat → Cut := nthC [⟨[(5, .one (.int .i64))], [(3, 67, [.int .i64, .int .i64, .int .i64, .bool, .int .u64, .slice, .slice, .slice]), (2, 67, [.int .i64, .int .i64, .int .i64, .bool, .int .u64, .slice, .slice, .slice])], fun fs vs bs w => V56.l0 B R (nthN fs 0) (iV (nthV vs 0)) (nthB bs 0).blk (iV (nthV (nthB bs 0).cells 0)) (iV (nthV (nthB bs 0).cells 1)) (iV (nthV (nthB bs 0).cells 2)) (bV (nthV (nthB bs 0).cells 3)) (iV (nthV (nthB bs 0).cells 4)) (slA (nthV (nthB bs 0).cells 5)) (slL (nthV (nthB bs 0).cells 5)) (slC (nthV (nthB bs 0).cells 5)) (slA (nthV (nthB bs 0).cells 6)) (slL (nthV (nthB bs 0).cells 6)) (slC (nthV (nthB bs 0).cells 6)) (slA (nthV (nthB bs 0).cells 7)) (slL (nthV (nthB bs 0).cells 7)) (slC (nthV (nthB bs 0).cells 7)) (nthB bs 1).blk (iV (nthV (nthB bs 1).cells 0)) (iV (nthV (nthB bs 1).cells 1)) (iV (nthV (nthB bs 1).cells 2)) (bV (nthV (nthB bs 1).cells 3)) (iV (nthV (nthB bs 1).cells 4)) (slA (nthV (nthB bs 1).cells 5)) (slL (nthV (nthB bs 1).cells 5)) (slC (nthV (nthB bs 1).cells 5)) (slA (nthV (nthB bs 1).cells 6)) (slL (nthV (nthB bs 1).cells 6)) (slC (nthV (nthB bs 1).cells 6)) (slA (nthV (nthB bs 1).cells 7)) (slL (nthV (nthB bs 1).cells 7)) (slC (nthV (nthB bs 1).cells 7)) w⟩]
noncomputable def V56.h : H := .s (.z) (.s (.s (.z) (.c (.s (.z) (.z)) (.z))) (.s (.s (.z) (.b (.l 0 (.s (.s (.z) (.c (.z) (.z))) (.s (.b (.s (.r [[0, 1, 2, 3, 4, 5, 6, 7, 8, 9, 10, 11, 12, 13, 14, 15, 16, 17, 18, 19, 20, 21, 22, 23, 24, 25, 26, 27, 28]]) (.c (.s (.z) (.z)) (.z)))) (.z)))))) (.s (.z) (.z))))
theorem V56.vc_eq (B : Nat) (R : Value → World → Prop) (a0 a0_1 a0_2 : Int) (a0_3 : Bool) (a0_4 : Int) (a0_5 : Option Addr) (a0_5l a0_5c : Nat) (a0_6 : Option Addr) (a0_6l a0_6c : Nat) (a0_7 : Option Addr) (a0_7l a0_7c : Nat) (b1 b1_1 b1_2 : Int) (b1_3 : Bool) (b1_4 : Int) (b1_5 : Option Addr) (b1_5l b1_5c : Nat) (b1_6 : Option Addr) (b1_6l b1_6c : Nat) (b1_7 : Option Addr) (b1_7l b1_7c : Nat) (w : World) : wpf (V56.cfg B) (V56.cuts B R) V56.code V56.h [] (postOf Try.prog B (Try.f56.results.toList) R) (argE 0 [.agg ⟨[.int .i64 a0, .int .i64 a0_1, .int .i64 a0_2, .bool a0_3, .int .u64 a0_4, .slice a0_5 a0_5l a0_5c, .slice a0_6 a0_6l a0_6c, .slice a0_7 a0_7l a0_7c]⟩, .agg ⟨[.int .i64 b1, .int .i64 b1_1, .int .i64 b1_2, .bool b1_3, .int .u64 b1_4, .slice b1_5 b1_5l b1_5c, .slice b1_6 b1_6l b1_6c, .slice b1_7 b1_7l b1_7c]⟩]) [] w = V56.vc B R a0 a0_1 a0_2 a0_3 a0_4 a0_5 a0_5l a0_5c a0_6 a0_6l a0_6c a0_7 a0_7l a0_7c b1 b1_1 b1_2 b1_3 b1_4 b1_5 b1_5l b1_5c b1_6 b1_6l b1_6c b1_7 b1_7l b1_7c w := by kernel_rfl
theorem V56.obl (B : Nat) (R : Value → World → Prop) : oblP (V56.cfg B) (V56.cuts B R) V56.code V56.h [] (postOf Try.prog B (Try.f56.results.toList) R) := by
  have e : oblP (V56.cfg B) (V56.cuts B R) V56.code V56.h [] (postOf Try.prog B (Try.f56.results.toList) R) = (True ∧ ((True ∧ ((True ∧ True) ∧ True)) ∧ ((True ∧ ((∀ (i5 : Int) (q3 : Nat) (b3 b3_1 b3_2 : Int) (b3_3 : Bool) (b3_4 : Int) (b3_5 : Option Addr) (b3_5l b3_5c : Nat) (b3_6 : Option Addr) (b3_6l b3_6c : Nat) (b3_7 : Option Addr) (b3_7l b3_7c q2 : Nat) (a2 a2_1 a2_2 : Int) (a2_3 : Bool) (a2_4 : Int) (a2_5 : Option Addr) (a2_5l a2_5c : Nat) (a2_6 : Option Addr) (a2_6l a2_6c : Nat) (a2_7 : Option Addr) (a2_7l a2_7c : Nat) (w : World), ¬ V56.l0 B R 0 i5 q3 b3 b3_1 b3_2 b3_3 b3_4 b3_5 b3_5l b3_5c b3_6 b3_6l b3_6c b3_7 b3_7l b3_7c q2 a2 a2_1 a2_2 a2_3 a2_4 a2_5 a2_5l a2_5c a2_6 a2_6l a2_6c a2_7 a2_7l a2_7c w) ∧ (∀ k0, ∀ (i5 : Int) (q3 : Nat) (b3 b3_1 b3_2 : Int) (b3_3 : Bool) (b3_4 : Int) (b3_5 : Option Addr) (b3_5l b3_5c : Nat) (b3_6 : Option Addr) (b3_6l b3_6c : Nat) (b3_7 : Option Addr) (b3_7l b3_7c q2 : Nat) (a2 a2_1 a2_2 : Int) (a2_3 : Bool) (a2_4 : Int) (a2_5 : Option Addr) (a2_5l a2_5c : Nat) (a2_6 : Option Addr) (a2_6l a2_6c : Nat) (a2_7 : Option Addr) (a2_7l a2_7c : Nat) (w : World), V56.l0 B R (k0 + 1) i5 q3 b3 b3_1 b3_2 b3_3 b3_4 b3_5 b3_5l b3_5c b3_6 b3_6l b3_6c b3_7 b3_7l b3_7c q2 a2 a2_1 a2_2 a2_3 a2_4 a2_5 a2_5l a2_5c a2_6 a2_6l a2_6c a2_7 a2_7l a2_7c w → V56.l0 B R (k0 + 1) i5 q3 b3 b3_1 b3_2 b3_3 b3_4 b3_5 b3_5l b3_5c b3_6 b3_6l b3_6c b3_7 b3_7l b3_7c q2 a2 a2_1 a2_2 a2_3 a2_4 a2_5 a2_5l a2_5c a2_6 a2_6l a2_6c a2_7 a2_7l a2_7c w) ∧ ∀ k0 : Nat, ((True ∧ (True ∧ True)) ∧ (((true = true) ∧ ((True ∧ True) ∧ True)) ∧ True)))) ∧ (True ∧ True)))) := by kernel_rfl
  rw [e]
  exact ⟨trivial, ⟨⟨trivial, ⟨⟨trivial, trivial⟩, trivial⟩⟩, ⟨⟨trivial, ⟨fun i5 q3 b3 b3_1 b3_2 b3_3 b3_4 b3_5 b3_5l b3_5c b3_6 b3_6l b3_6c b3_7 b3_7l b3_7c q2 a2 a2_1 a2_2 a2_3 a2_4 a2_5 a2_5l a2_5c a2_6 a2_6l a2_6c a2_7 a2_7l a2_7c w h => h, fun _ i5 q3 b3 b3_1 b3_2 b3_3 b3_4 b3_5 b3_5l b3_5c b3_6 b3_6l b3_6c b3_7 b3_7l b3_7c q2 a2 a2_1 a2_2 a2_3 a2_4 a2_5 a2_5l a2_5c a2_6 a2_6l a2_6c a2_7 a2_7l a2_7c w h => h, fun k0 => ⟨⟨trivial, ⟨trivial, trivial⟩⟩, ⟨⟨rfl, ⟨⟨trivial, trivial⟩, trivial⟩⟩, trivial⟩⟩⟩⟩, ⟨trivial, trivial⟩⟩⟩⟩
theorem V56.cfgOk (B : Nat) : CfgOk (V56.cfg B) := cfgOk_of (by kernel_rfl) (by kernel_rfl)
theorem V56.sound {a0 a0_1 a0_2 : Int} {a0_3 : Bool} {a0_4 : Int} {a0_5 : Option Addr} {a0_5l a0_5c : Nat} {a0_6 : Option Addr} {a0_6l a0_6c : Nat} {a0_7 : Option Addr} {a0_7l a0_7c : Nat} {b1 b1_1 b1_2 : Int} {b1_3 : Bool} {b1_4 : Int} {b1_5 : Option Addr} {b1_5l b1_5c : Nat} {b1_6 : Option Addr} {b1_6l b1_6c : Nat} {b1_7 : Option Addr} {b1_7l b1_7c : Nat} {w : World} {R : Value → World → Prop} (h : V56.vc w.heap.size R a0 a0_1 a0_2 a0_3 a0_4 a0_5 a0_5l a0_5c a0_6 a0_6l a0_6c a0_7 a0_7l a0_7c b1 b1_1 b1_2 b1_3 b1_4 b1_5 b1_5l b1_5c b1_6 b1_6l b1_6c b1_7 b1_7l b1_7c w) : Calls Try.prog 56 ⟨[.agg ⟨[.int .i64 a0, .int .i64 a0_1, .int .i64 a0_2, .bool a0_3, .int .u64 a0_4, .slice a0_5 a0_5l a0_5c, .slice a0_6 a0_6l a0_6c, .slice a0_7 a0_7l a0_7c]⟩, .agg ⟨[.int .i64 b1, .int .i64 b1_1, .int .i64 b1_2, .bool b1_3, .int .u64 b1_4, .slice b1_5 b1_5l b1_5c, .slice b1_6 b1_6l b1_6c, .slice b1_7 b1_7l b1_7c]⟩]⟩ w fun e w' => ∃ v, e = .returned v ∧ R v w' :=
  calls_wpfP (c := V56.cfg w.heap.size) (fn := Try.f56) (x := V56.code) (V56.cuts w.heap.size R) V56.h (V56.cfgOk _) mixed Try.func56 (by kernel_rfl) (by kernel_rfl) (by kernel_rfl) rfl (V56.obl _ _) ((V56.vc_eq _ _ a0 a0_1 a0_2 a0_3 a0_4 a0_5 a0_5l a0_5c a0_6 a0_6l a0_6c a0_7 a0_7l a0_7c b1 b1_1 b1_2 b1_3 b1_4 b1_5 b1_5l b1_5c b1_6 b1_6l b1_6c b1_7 b1_7l b1_7c _).symm ▸ h)

/-! function 96 -/
def V96.vc (B : Nat) (R : Value → World → Prop) (a0 : Addr) (at1 : Int) (w : World) : Prop :=
  if (decide (at1 ≥ (-1))) = true
  then (CallK Try.prog 93 [.pointer (some a0)] B w [] fun v w_1 => 
   ∃ x10 : Int, v = .int .i64 x10 ∧
   Ret B w_1 (R (.bool (decide (at1 < x10)))))
  else (Ret B w (R (.bool false)))
noncomputable def V96.cfg (B : Nat) : Cfg := ⟨Try.prog, ⟨13, B⟩, [], hasN [93], hasN []⟩
noncomputable def V96.code : Code := (Try.f96.body).getD .skip
noncomputable def V96.cuts (B : Nat) (R : Value → World → Prop) : Nat → Cut := nthC []
noncomputable def V96.h : H := .s (.z) (.s (.z) (.z))
theorem V96.vc_eq (B : Nat) (R : Value → World → Prop) (a0 : Addr) (at1 : Int) (w : World) : wpf (V96.cfg B) (V96.cuts B R) V96.code V96.h [] (postOf Try.prog B (Try.f96.results.toList) R) (argE 0 [.pointer (some a0), .int .i64 at1]) [] w = V96.vc B R a0 at1 w := by kernel_rfl
theorem V96.obl (B : Nat) (R : Value → World → Prop) : oblP (V96.cfg B) (V96.cuts B R) V96.code V96.h [] (postOf Try.prog B (Try.f96.results.toList) R) := by
  have e : oblP (V96.cfg B) (V96.cuts B R) V96.code V96.h [] (postOf Try.prog B (Try.f96.results.toList) R) = (True ∧ (True ∧ True)) := by kernel_rfl
  rw [e]
  exact ⟨trivial, ⟨trivial, trivial⟩⟩
theorem V96.cfgOk (B : Nat) : CfgOk (V96.cfg B) := cfgOk_of (by kernel_rfl) (by kernel_rfl)
theorem V96.sound {a0 : Addr} {at1 : Int} {w : World} {R : Value → World → Prop} (h : V96.vc w.heap.size R a0 at1 w) : Calls Try.prog 96 ⟨[.pointer (some a0), .int .i64 at1]⟩ w fun e w' => ∃ v, e = .returned v ∧ R v w' :=
  calls_wpfP (c := V96.cfg w.heap.size) (fn := Try.f96) (x := V96.code) (V96.cuts w.heap.size R) V96.h (V96.cfgOk _) mixed Try.func96 (by kernel_rfl) (by kernel_rfl) (by kernel_rfl) rfl (V96.obl _ _) ((V96.vc_eq _ _ a0 at1 _).symm ▸ h)

/-! function 97 -/
def V97.vc (B : Nat) (R : Value → World → Prop) (w : World) : Prop :=
  ∀ q0 : Nat, w.heap.size ≤ q0 →
Expo B w [q0] fun w_1 => 
  Hide [q0] (w_1.alloc (.cells ⟨[.int .i64 3, .int .i64 0, .int .i64 0, .int .i64 18, .int .i64 0, .int .i64 0]⟩ 26)) fun w_2 => 
  Expo B w_2 [q0] fun w_3 => 
  Hide [q0] (w_3.alloc (.cells ⟨[.int .i64 0, .int .i64 1, .int .i64 0, .slice (some ⟨w_1.heap.size, 0, none⟩) 2 2]⟩ 29)) fun w_4 => 
  Ret B w_4 (R (.agg ⟨[.slice (some ⟨w_3.heap.size, 0, none⟩) 1 1]⟩))
noncomputable def V97.cfg (B : Nat) : Cfg := ⟨Try.prog, ⟨7, B⟩, [], hasN [], hasN []⟩
noncomputable def V97.code : Code := (Try.f97.body).getD .skip
noncomputable def V97.cuts (B : Nat) (R : Value → World → Prop) : Nat → Cut := nthC []
noncomputable def V97.h : H := .s (.z) (.s (.z) (.z))
theorem V97.vc_eq (B : Nat) (R : Value → World → Prop)  (w : World) : wpf (V97.cfg B) (V97.cuts B R) V97.code V97.h [] (postOf Try.prog B (Try.f97.results.toList) R) (argE 0 []) [] w = V97.vc B R  w := by kernel_rfl
theorem V97.obl (B : Nat) (R : Value → World → Prop) : oblP (V97.cfg B) (V97.cuts B R) V97.code V97.h [] (postOf Try.prog B (Try.f97.results.toList) R) := by
  have e : oblP (V97.cfg B) (V97.cuts B R) V97.code V97.h [] (postOf Try.prog B (Try.f97.results.toList) R) = (True ∧ (True ∧ True)) := by kernel_rfl
  rw [e]
  exact ⟨trivial, ⟨trivial, trivial⟩⟩
theorem V97.cfgOk (B : Nat) : CfgOk (V97.cfg B) := cfgOk_of (by kernel_rfl) (by kernel_rfl)
theorem V97.sound  {w : World} {R : Value → World → Prop} (h : V97.vc w.heap.size R  w) : Calls Try.prog 97 ⟨[]⟩ w fun e w' => ∃ v, e = .returned v ∧ R v w' :=
  calls_wpfP (c := V97.cfg w.heap.size) (fn := Try.f97) (x := V97.code) (V97.cuts w.heap.size R) V97.h (V97.cfgOk _) mixed Try.func97 (by kernel_rfl) (by kernel_rfl) (by kernel_rfl) rfl (V97.obl _ _) ((V97.vc_eq _ _  _).symm ▸ h)

/-! function 99 -/
def V99.vc (B : Nat) (R : Value → World → Prop) (p0 : Option Addr) (p0l p0c : Nat) (f1 : Int) (w : World) : Prop :=
  ∀ q2 : Nat, w.heap.size ≤ q2 →
∀ q4 : Nat, w.heap.size ≤ q4 →
if (decide (f1 < 0)) = false
  then (if (decide (f1 ≥ (p0l : Int))) = true
   then (Ret B w (R (.tuple ⟨[.agg ⟨[.int .i64 0, .int .i64 0, .int .i64 0, .slice none 0 0]⟩, .bool false]⟩)))
   else (∃ p19 : Addr, p0 = some p19 ∧ (0 : Int) ≤ f1 ∧ f1 < (p0l : Int) ∧
   ∃ x20 : Int, w.cell? ((p19.add (f1.toNat * 4)).add 0) = some (.int .i64 x20) ∧
   ∃ x20_1 : Int, w.cell? ((p19.add (f1.toNat * 4)).add 1) = some (.int .i64 x20_1) ∧
   ∃ x20_2 : Int, w.cell? ((p19.add (f1.toNat * 4)).add 2) = some (.int .i64 x20_2) ∧
   ∃ (A20 : Option Addr) (A20l A20c : Nat), w.cell? ((p19.add (f1.toNat * 4)).add 3) = some (.slice A20 A20l A20c) ∧
   ∃ p24 : Addr, p0 = some p24 ∧ (0 : Int) ≤ f1 ∧ f1 < (p0l : Int) ∧
   ∃ x25 : Int, w.cell? ((p24.add (f1.toNat * 4)).add 0) = some (.int .i64 x25) ∧
   ∃ x25_1 : Int, w.cell? ((p24.add (f1.toNat * 4)).add 1) = some (.int .i64 x25_1) ∧
   ∃ x25_2 : Int, w.cell? ((p24.add (f1.toNat * 4)).add 2) = some (.int .i64 x25_2) ∧
   ∃ (A25 : Option Addr) (A25l A25c : Nat), w.cell? ((p24.add (f1.toNat * 4)).add 3) = some (.slice A25 A25l A25c) ∧
   CallK Try.prog 89 [.agg ⟨[.int .i64 x25, .int .i64 x25_1, .int .i64 x25_2, .slice A25 A25l A25c]⟩] B w [q4, q2] fun v w_1 => 
    ∃ b26 : Bool, v = .bool b26 ∧ w_1.cell? ((p19.add (f1.toNat * 4)).add 0) = some (.int .i64 x20) ∧ w_1.cell? ((p19.add (f1.toNat * 4)).add 1) = some (.int .i64 x20_1) ∧ w_1.cell? ((p19.add (f1.toNat * 4)).add 2) = some (.int .i64 x20_2) ∧ w_1.cell? ((p19.add (f1.toNat * 4)).add 3) = some (.slice A20 A20l A20c) ∧
    Ret B w_1 (R (.tuple ⟨[.agg ⟨[.int .i64 x20, .int .i64 x20_1, .int .i64 x20_2, .slice A20 A20l A20c]⟩, .bool b26]⟩))))
  else (Ret B w (R (.tuple ⟨[.agg ⟨[.int .i64 0, .int .i64 0, .int .i64 0, .slice none 0 0]⟩, .bool false]⟩)))
noncomputable def V99.cfg (B : Nat) : Cfg := ⟨Try.prog, ⟨27, B⟩, [], hasN [89], hasN []⟩
noncomputable def V99.code : Code := (Try.f99.body).getD .skip
noncomputable def V99.cuts (B : Nat) (R : Value → World → Prop) : Nat → Cut := nthC []
noncomputable def V99.h : H := .s (.z) (.s (.s (.z) (.c (.s (.z) (.z)) (.z))) (.s (.r [[0, 1, 2, 3, 4, 5, 6, 7, 8, 9, 10, 11, 12]]) (.z)))
theorem V99.vc_eq (B : Nat) (R : Value → World → Prop) (p0 : Option Addr) (p0l p0c : Nat) (f1 : Int) (w : World) : wpf (V99.cfg B) (V99.cuts B R) V99.code V99.h [] (postOf Try.prog B (Try.f99.results.toList) R) (argE 0 [.agg ⟨[.slice p0 p0l p0c]⟩, .int .i64 f1]) [] w = V99.vc B R p0 p0l p0c f1 w := by kernel_rfl
theorem V99.obl (B : Nat) (R : Value → World → Prop) : oblP (V99.cfg B) (V99.cuts B R) V99.code V99.h [] (postOf Try.prog B (Try.f99.results.toList) R) := by
  have e : oblP (V99.cfg B) (V99.cuts B R) V99.code V99.h [] (postOf Try.prog B (Try.f99.results.toList) R) = (True ∧ ((True ∧ ((True ∧ True) ∧ True)) ∧ ((true = true) ∧ True))) := by kernel_rfl
  rw [e]
  exact ⟨trivial, ⟨⟨trivial, ⟨⟨trivial, trivial⟩, trivial⟩⟩, ⟨rfl, trivial⟩⟩⟩
theorem V99.cfgOk (B : Nat) : CfgOk (V99.cfg B) := cfgOk_of (by kernel_rfl) (by kernel_rfl)
theorem V99.sound {p0 : Option Addr} {p0l p0c : Nat} {f1 : Int} {w : World} {R : Value → World → Prop} (h : V99.vc w.heap.size R p0 p0l p0c f1 w) : Calls Try.prog 99 ⟨[.agg ⟨[.slice p0 p0l p0c]⟩, .int .i64 f1]⟩ w fun e w' => ∃ v, e = .returned v ∧ R v w' :=
  calls_wpfP (c := V99.cfg w.heap.size) (fn := Try.f99) (x := V99.code) (V99.cuts w.heap.size R) V99.h (V99.cfgOk _) mixed Try.func99 (by kernel_rfl) (by kernel_rfl) (by kernel_rfl) rfl (V99.obl _ _) ((V99.vc_eq _ _ p0 p0l p0c f1 _).symm ▸ h)

/-! function 100 -/
def V100.vc (B : Nat) (R : Value → World → Prop) (f0 f0_1 f0_2 : Int) (f0_3 : Option Addr) (f0_3l f0_3c : Nat) (w : World) : Prop :=
  ∀ q1 : Nat, w.heap.size ≤ q1 →
CallK Try.prog 32 [.agg ⟨[.int .i64 f0, .int .i64 f0_1, .int .i64 f0_2, .slice f0_3 f0_3l f0_3c]⟩] B w [q1] fun v w_1 => 
  ∃ x6 : Int, v = .int .i64 x6 ∧
  Ret B w_1 (R (.tuple ⟨[.int .i64 (IntKind.wrap .i64 (IntKind.wrap .i64 (x6 - f0_1) - 8)), .bool (decide (IntKind.wrap .i64 (IntKind.wrap .i64 (x6 - f0_1) - 8) > 7))]⟩))
noncomputable def V100.cfg (B : Nat) : Cfg := ⟨Try.prog, ⟨14, B⟩, [], hasN [32], hasN []⟩
noncomputable def V100.code : Code := (Try.f100.body).getD .skip
noncomputable def V100.cuts (B : Nat) (R : Value → World → Prop) : Nat → Cut := nthC []
noncomputable def V100.h : H := .s (.z) (.s (.r [[0, 2, 3, 1, 4, 5, 6]]) (.s (.z) (.z)))
theorem V100.vc_eq (B : Nat) (R : Value → World → Prop) (f0 f0_1 f0_2 : Int) (f0_3 : Option Addr) (f0_3l f0_3c : Nat) (w : World) : wpf (V100.cfg B) (V100.cuts B R) V100.code V100.h [] (postOf Try.prog B (Try.f100.results.toList) R) (argE 0 [.agg ⟨[.int .i64 f0, .int .i64 f0_1, .int .i64 f0_2, .slice f0_3 f0_3l f0_3c]⟩]) [] w = V100.vc B R f0 f0_1 f0_2 f0_3 f0_3l f0_3c w := by kernel_rfl
theorem V100.obl (B : Nat) (R : Value → World → Prop) : oblP (V100.cfg B) (V100.cuts B R) V100.code V100.h [] (postOf Try.prog B (Try.f100.results.toList) R) := by
  have e : oblP (V100.cfg B) (V100.cuts B R) V100.code V100.h [] (postOf Try.prog B (Try.f100.results.toList) R) = (True ∧ ((true = true) ∧ (True ∧ True))) := by kernel_rfl
  rw [e]
  exact ⟨trivial, ⟨rfl, ⟨trivial, trivial⟩⟩⟩
theorem V100.cfgOk (B : Nat) : CfgOk (V100.cfg B) := cfgOk_of (by kernel_rfl) (by kernel_rfl)
theorem V100.sound {f0 f0_1 f0_2 : Int} {f0_3 : Option Addr} {f0_3l f0_3c : Nat} {w : World} {R : Value → World → Prop} (h : V100.vc w.heap.size R f0 f0_1 f0_2 f0_3 f0_3l f0_3c w) : Calls Try.prog 100 ⟨[.agg ⟨[.int .i64 f0, .int .i64 f0_1, .int .i64 f0_2, .slice f0_3 f0_3l f0_3c]⟩]⟩ w fun e w' => ∃ v, e = .returned v ∧ R v w' :=
  calls_wpfP (c := V100.cfg w.heap.size) (fn := Try.f100) (x := V100.code) (V100.cuts w.heap.size R) V100.h (V100.cfgOk _) mixed Try.func100 (by kernel_rfl) (by kernel_rfl) (by kernel_rfl) rfl (V100.obl _ _) ((V100.vc_eq _ _ f0 f0_1 f0_2 f0_3 f0_3l f0_3c _).symm ▸ h)

/-! function 101 -/
def V101.vc (B : Nat) (R : Value → World → Prop) (f0 f0_1 f0_2 : Int) (f0_3 : Option Addr) (f0_3l f0_3c : Nat) (w : World) : Prop :=
  ∀ q1 : Nat, w.heap.size ≤ q1 →
CallK Try.prog 84 [.agg ⟨[.int .i64 f0, .int .i64 f0_1, .int .i64 f0_2, .slice f0_3 f0_3l f0_3c]⟩] B w [q1] fun v w_1 => 
  ∃ b4 : Bool, v = .bool b4 ∧
  if b4 = true
  then (Ret B w_1 (R (.int .i64 4)))
  else (Ret B w_1 (R (.int .i64 0)))
noncomputable def V101.cfg (B : Nat) : Cfg := ⟨Try.prog, ⟨5, B⟩, [], hasN [84], hasN []⟩
noncomputable def V101.code : Code := (Try.f101.body).getD .skip
noncomputable def V101.cuts (B : Nat) (R : Value → World → Prop) : Nat → Cut := nthC []
noncomputable def V101.h : H := .s (.z) (.s (.s (.z) (.c (.s (.z) (.z)) (.z))) (.s (.z) (.z)))
theorem V101.vc_eq (B : Nat) (R : Value → World → Prop) (f0 f0_1 f0_2 : Int) (f0_3 : Option Addr) (f0_3l f0_3c : Nat) (w : World) : wpf (V101.cfg B) (V101.cuts B R) V101.code V101.h [] (postOf Try.prog B (Try.f101.results.toList) R) (argE 0 [.agg ⟨[.int .i64 f0, .int .i64 f0_1, .int .i64 f0_2, .slice f0_3 f0_3l f0_3c]⟩]) [] w = V101.vc B R f0 f0_1 f0_2 f0_3 f0_3l f0_3c w := by kernel_rfl
theorem V101.obl (B : Nat) (R : Value → World → Prop) : oblP (V101.cfg B) (V101.cuts B R) V101.code V101.h [] (postOf Try.prog B (Try.f101.results.toList) R) := by
  have e : oblP (V101.cfg B) (V101.cuts B R) V101.code V101.h [] (postOf Try.prog B (Try.f101.results.toList) R) = (True ∧ ((True ∧ ((True ∧ True) ∧ True)) ∧ (True ∧ True))) := by kernel_rfl
  rw [e]
  exact ⟨trivial, ⟨⟨trivial, ⟨⟨trivial, trivial⟩, trivial⟩⟩, ⟨trivial, trivial⟩⟩⟩
theorem V101.cfgOk (B : Nat) : CfgOk (V101.cfg B) := cfgOk_of (by kernel_rfl) (by kernel_rfl)
theorem V101.sound {f0 f0_1 f0_2 : Int} {f0_3 : Option Addr} {f0_3l f0_3c : Nat} {w : World} {R : Value → World → Prop} (h : V101.vc w.heap.size R f0 f0_1 f0_2 f0_3 f0_3l f0_3c w) : Calls Try.prog 101 ⟨[.agg ⟨[.int .i64 f0, .int .i64 f0_1, .int .i64 f0_2, .slice f0_3 f0_3l f0_3c]⟩]⟩ w fun e w' => ∃ v, e = .returned v ∧ R v w' :=
  calls_wpfP (c := V101.cfg w.heap.size) (fn := Try.f101) (x := V101.code) (V101.cuts w.heap.size R) V101.h (V101.cfgOk _) mixed Try.func101 (by kernel_rfl) (by kernel_rfl) (by kernel_rfl) rfl (V101.obl _ _) ((V101.vc_eq _ _ f0 f0_1 f0_2 f0_3 f0_3l f0_3c _).symm ▸ h)
end Go.Proofs.Ytlccbaemcfjdoaa
