import Derived.Test.YtidcpndlloppdaaGreatDoorZN21
import Derived.Test.YtidcpndlloppdaaGreatDoorZMB
import Derived.Test.YtidcpndlloppdaaGreatDoorZN29
/-
  Layer 29, plain: what a machine shows by so many acts; traces that agree.
  Conditions: the program is right.
-/
set_option linter.unusedVariables false
set_option linter.unusedSimpArgs false
set_option maxRecDepth 20000
namespace Go.Proofs.YtidcpndlloppdaaGreatDoor
def agrM (l : List Mk) (over : Bool) (t : List Mk) : Bool := match t.getLast? with
  | none => true
  | some d => if d.k = 3 ∨ d.k = 4 then over && eqMs l t else if d.k = 5 ∨ d.k = 6 then begM t.dropLast l else begM t l
def WdT (m : Mach) : Prop := ∀ d ∈ m.trace, d.w < 18446744073709551616
theorem WdT.app {m m' : Mach} (h : WdT m) {d : Mk} (hd : d.w < 18446744073709551616) (e : m'.trace = m.trace ++ [d]) : WdT m' := fun c hc => by
  rw [e] at hc
  rcases List.mem_append.1 hc with hc | hc
  · exact h c hc
  · rw [List.mem_singleton] at hc; subst hc; exact hd
theorem WdT.same {m m' : Mach} (h : WdT m) (e : m'.trace = m.trace) : WdT m' := fun c hc => h c (by rw [← e]; exact hc)
theorem step_wds {p : List Fnc} {m : Mach} (ho : MOk p m) (h : WdT m) : WdT (stepM p m).1 := by
  unfold stepM
  split
  · exact h
  split
  · exact h
  unfold goM
  simp only
  split
  · exact h.same rfl
  split
  · exact h
  rename_i x r hm
  have hx := (ho.frames x (by rw [hm]; exact List.mem_cons_self)).wd
  have hrest : ∀ u ∈ r, u.value.toNat < 18446744073709551616 := fun u hu => by
    have := (ho.frames u (by rw [hm]; exact List.mem_cons_of_mem _ hu)).wd.value
    omega
  have hxv := hx.value
  split
  · unfold runMach actM
    split
    · exact h.same rfl
    split
    · unfold recvM
      cases r with
      | nil => exact h.same rfl
      | cons u r' =>
        simp only
        split
        · exact h.app (d := ⟨2, u.value.toNat⟩) (hrest u List.mem_cons_self) rfl
        · exact h.same rfl
    split
    · exact h.app (toNat_lt (popL_wd hx) 0) rfl
    split
    · exact h.same rfl
    split
    · exact h.same rfl
    split
    · exact h.same rfl
    split
    · exact h.same rfl
    · exact h.same rfl
  · unfold leaveM
    split
    · exact h.same rfl
    split
    · exact h.app (by show x.value.toNat < _; omega) rfl
    split
    · exact h.same rfl
    split
    · exact h.same rfl
    · exact h.same rfl
theorem shown_wd {p : List Fnc} {f : Int} {fn : Fnc} (hr : Rt p) (hf : fnAt p f = some fn) (h0 : fn.params = 0) : ∀ n, n ≤ 100000 → WdT (playM p (newM f) n)
  | 0, _ => fun d hd => by simp [playM, newM] at hd
  | n + 1, hn => by
    have ho := (play_ok hr (newM_ok hf h0) (newM_lim f) n (by omega)).1
    exact step_wds (wake_ok ho) ((shown_wd hr hf h0 n (by omega)).same rfl)
def bumpM (t : List Mk) (k : Nat) : List Mk := match t[k]? with
  | some d => t.set k { d with w := (d.w + 1) % 18446744073709551616 }
  | none => t
def cutM (t : List Mk) (cut : Int) (more : List Mk) (how : Int) : List Mk :=
  if how % 6 = 0 then t.take (cut % ((t.length : Int) + 1)).toNat ++ more
  else if how % 6 = 1 then (if 0 < (cut % ((t.length : Int) + 1)).toNat then bumpM (t.take (cut % ((t.length : Int) + 1)).toNat) ((cut % ((t.length : Int) + 1)).toNat - 1) else t.take (cut % ((t.length : Int) + 1)).toNat)
  else if how % 6 = 2 then t.take (cut % ((t.length : Int) + 1)).toNat ++ [⟨5, 0⟩]
  else if how % 6 = 3 then t.take (cut % ((t.length : Int) + 1)).toNat ++ [⟨6, 0⟩]
  else if how % 6 = 4 then t else t.take (cut % ((t.length : Int) + 1)).toNat
end Go.Proofs.YtidcpndlloppdaaGreatDoor

/-
 What the engine makes of the loaded functions 20, 8, 12, 11, 5: conditions under which a call returns as told, and proofs of that.
 Conditions: none. Printed by a program of this project.
-/
set_option linter.unusedVariables false
set_option maxRecDepth 100000
namespace Go.Proofs.YtidcpndlloppdaaGreatDoor
def V20.b2 (B : Nat) (R : Value → World → Prop) (a : Addr) (w : World) : Prop :=
 CallK Tryz.prog 39 [.pointer (some a)] B w [] fun v c => 
 ∃ (d : Option Addr) (f g : Nat), v = .slice d f g ∧
 CallK Tryz.prog 36 [.pointer (some a)] B c [] fun i j => 
 ∃ l : Bool, i = .bool l ∧
 Ret B j (R (.tuple ⟨[.slice d f g, .bool l, .bool true]⟩))
def V20.l1 (B : Nat) (R : Value → World → Prop) : Nat → Addr → Int → World → Prop
 | 0 => fun _ _ _ => False
 | k + 1 => fun a c w =>
 if (decide (c > 0)) = true
 then (CallK Tryz.prog 36 [.pointer (some a)] B w [] fun v d => 
 ∃ f : Bool, v = .bool f ∧
 if (!f) = true
 then (CallK Tryz.prog 37 [.pointer (some a)] B d [] fun g i => 
 ∃ j : Int, g = .int .i64 j ∧
 CallK Tryz.prog 38 [.pointer (some a)] B i [] fun l m => 
 l = .tuple ⟨[]⟩ ∧ (V20.l1 B R k) a (IntKind.wrap .i64 (c - 1)) m)
 else (V20.b2 B R a d))
 else (V20.b2 B R a w)
def V20.b0 (B : Nat) (R : Value → World → Prop) (a : Int) (c : Addr) (w : World) : Prop :=
 ∃ d, V20.l1 B R d c (if 1048576 < a then 1048576 else a) w
def V20.vc (B : Nat) (R : Value → World → Prop) (a : Option Addr) (c d : Nat) (f g : Int) (w : World) : Prop :=
 ∀ i : Nat, w.heap.size ≤ i →
 CallK Tryz.prog 35 [.agg ⟨[.slice a c d]⟩, .int .i64 f] B w [i] fun v j => 
 ∃ l : Option Addr, v = .pointer l ∧
 caseP l
 (False)
 (fun m => V20.b0 B R g m j)
noncomputable def V20.cfg (B : Nat) : Cfg := ⟨Tryz.prog, ⟨35, B⟩, [], hasN [35, 36, 37, 38, 39], hasN [], look []⟩
noncomputable def V20.code : Code := (Tryz.f20.body).getD .skip
noncomputable def V20.cuts (B : Nat) (R : Value → World → Prop) : Nat → Cut := nthC [⟨[(2, .one (.int .i64)), (9, .one (.ptr))], [], fun fs vs bs w => V20.b0 B R (iV (nthV vs 0)) (pV (nthV vs 1)) w⟩,
 ⟨[(9, .one (.ptr)), (10, .one (.int .i64))], [], fun fs vs bs w => V20.l1 B R (nthN fs 0) (pV (nthV vs 0)) (iV (nthV vs 1)) w⟩,
 ⟨[(9, .one (.ptr))], [], fun fs vs bs w => V20.b2 B R (pV (nthV vs 0)) w⟩]
noncomputable def V20.h : H := .s (.z) (.cut 0 (.z) (.s (.s (.z) (.c (.s (.z) (.z)) (.z))) (.cut 2 (.s (.z) (.b (.l 1 (.s (.s (.z) (.c (.z) (.z))) (.s (.b (.s (.z) (.z))) (.z)))))) (.s (.z) (.z)))))
theorem V20.vc_eq (B : Nat) (R : Value → World → Prop) (a : Option Addr) (c d : Nat) (f g : Int) (w : World) : wpf (V20.cfg B) (V20.cuts B R) V20.code V20.h [] (postOf Tryz.prog B (Tryz.f20.results.toList) R) (argE 0 [.agg ⟨[.slice a c d]⟩, .int .i64 f, .int .i64 g]) [] w = V20.vc B R a c d f g w := by kernel_rfl
theorem V20.obl (B : Nat) (R : Value → World → Prop) : oblP (V20.cfg B) (V20.cuts B R) V20.code V20.h [] (postOf Tryz.prog B (Tryz.f20.results.toList) R) := by
 have e : oblP (V20.cfg B) (V20.cuts B R) V20.code V20.h [] (postOf Tryz.prog B (Tryz.f20.results.toList) R) = (True ∧ (True ∧ (∀ (a : Int) (c : Addr) (w : World), V20.b0 B R a c w → V20.b0 B R a c w) ∧ ((True ∧ ((True ∧ True) ∧ True)) ∧ ((True ∧ ((∀ (c : Addr) (d : Int) (w : World), ¬ V20.l1 B R 0 c d w) ∧ (∀ f, ∀ (c : Addr) (d : Int) (w : World), V20.l1 B R (f + 1) c d w → V20.l1 B R (f + 1) c d w) ∧ ∀ f : Nat, ((True ∧ (True ∧ True)) ∧ ((True ∧ True) ∧ True)))) ∧ (∀ (c : Addr) (w : World), V20.b2 B R c w → V20.b2 B R c w) ∧ (True ∧ True))))) := by kernel_rfl
 exact e.mpr (⟨trivial, ⟨trivial, fun a c w h => h, ⟨⟨trivial, ⟨⟨trivial, trivial⟩, trivial⟩⟩, ⟨⟨trivial, ⟨fun c d w h => h, fun _ c d w h => h, fun f => ⟨⟨trivial, ⟨trivial, trivial⟩⟩, ⟨⟨trivial, trivial⟩, trivial⟩⟩⟩⟩, fun c w h => h, ⟨trivial, trivial⟩⟩⟩⟩⟩)
theorem V20.cfgOk (B : Nat) : CfgOk (V20.cfg B) := cfgOk_of (by kernel_rfl) (by kernel_rfl) extNil
theorem V20.sound {a : Option Addr} {d f : Nat} {g i : Int} {w : World} {R : Value → World → Prop} (h : V20.vc w.heap.size R a d f g i w) : Calls Tryz.prog 20 ⟨[.agg ⟨[.slice a d f]⟩, .int .i64 g, .int .i64 i]⟩ w fun e w' => ∃ v, e = .returned v ∧ R v w' :=
 calls_wpfP (c := V20.cfg w.heap.size) (fn := Tryz.f20) (x := V20.code) (V20.cuts w.heap.size R) V20.h (V20.cfgOk _) mixed Tryz.func20 (by kernel_rfl) (by kernel_rfl) (by kernel_rfl) rfl (V20.obl _ _) ((V20.vc_eq _ _ a d f g i _).symm ▸ h)
def V12.b1 (B : Nat) (R : Value → World → Prop) (c : Option Addr) (d f : Nat) (g : Option Addr) (i j : Nat) (l : Int) (m : Bool) (w : World) : Prop :=
 if m = true
 then ((0 : Int) ≤ IntKind.wrap .i64 (l - 1) ∧ IntKind.wrap .i64 (l - 1) ≤ (f : Int) ∧
 CallK Tryz.prog 15 [.slice (if f = 0 then c else Option.map (fun a => a.add (0 * 2)) c) (((IntKind.wrap .i64 (l - 1)).toNat) - 0) (f - 0), .slice g i j] B w [] fun v n => 
 ∃ o : Bool, v = .bool o ∧
 Ret B n (R (.bool o)))
 else (CallK Tryz.prog 15 [.slice c d f, .slice g i j] B w [] fun v n => 
 ∃ p : Bool, v = .bool p ∧
 Ret B n (R (.bool p)))
def V12.b0 (B : Nat) (R : Value → World → Prop) (a : Option Addr) (c d : Nat) (f : Option Addr) (g i : Nat) (j : Bool) (l m : Int) (n : Bool) (w : World) : Prop :=
 if n = true
 then (if j = true
 then (CallK Tryz.prog 24 [.slice f g i, .slice a c d] B w [] fun v o => 
 ∃ p : Bool, v = .bool p ∧
 Ret B o (R (.bool p)))
 else (Ret B w (R (.bool false))))
 else (if (m == 5) = true
 then (V12.b1 B R a c d f g i l (m == 5) w)
 else (V12.b1 B R a c d f g i l (m == 6) w))
def V12.vc (B : Nat) (R : Value → World → Prop) (a : Option Addr) (c d : Nat) (f g : Int) (i : Option Addr) (j l : Nat) (w : World) : Prop :=
 ∀ m : Nat, w.heap.size ≤ m →
 CallK Tryz.prog 20 [.agg ⟨[.slice a c d]⟩, .int .i64 f, .int .i64 g] B w [m] fun v n => 
 ∃ (o : Option Addr) (p q : Nat) (r s : Bool), v = .tuple ⟨[.slice o p q, .bool r, .bool s]⟩ ∧
 if (!s) = false
 then (if ((j : Int) == 0) = true
 then (Ret B n (R (.bool s)))
 else (∃ t : Addr, i = some t ∧ (0 : Int) ≤ IntKind.wrap .i64 ((j : Int) - 1) ∧ IntKind.wrap .i64 ((j : Int) - 1) < (j : Int) ∧
 ∃ u : Int, n.cell? ((t.add ((IntKind.wrap .i64 ((j : Int) - 1)).toNat * 2)).add 0) = some (.int .i64 u) ∧
 if (u == 3) = true
 then (V12.b0 B R i j l o p q r (j : Int) u (u == 3) n)
 else (V12.b0 B R i j l o p q r (j : Int) u (u == 4) n)))
 else (Ret B n (R (.bool s)))
noncomputable def V12.cfg (B : Nat) : Cfg := ⟨Tryz.prog, ⟨57, B⟩, [], hasN [15, 20, 24], hasN [], look []⟩
noncomputable def V12.code : Code := (Tryz.f12.body).getD .skip
noncomputable def V12.cuts (B : Nat) (R : Value → World → Prop) : Nat → Cut := nthC [⟨[(3, .one (.slice)), (9, .one (.slice)), (10, .one (.bool)), (12, .one (.int .i64)), (35, .one (.int .i64)), (36, .one (.bool))], [], fun fs vs bs w => V12.b0 B R (slA (nthV vs 0)) (slL (nthV vs 0)) (slC (nthV vs 0)) (slA (nthV vs 1)) (slL (nthV vs 1)) (slC (nthV vs 1)) (bV (nthV vs 2)) (iV (nthV vs 3)) (iV (nthV vs 4)) (bV (nthV vs 5)) w⟩,
 ⟨[(3, .one (.slice)), (9, .one (.slice)), (12, .one (.int .i64)), (45, .one (.bool))], [], fun fs vs bs w => V12.b1 B R (slA (nthV vs 0)) (slL (nthV vs 0)) (slC (nthV vs 0)) (slA (nthV vs 1)) (slL (nthV vs 1)) (slC (nthV vs 1)) (iV (nthV vs 2)) (bV (nthV vs 3)) w⟩]
noncomputable def V12.h : H := .s (.z) (.s (.z) (.s (.z) (.s (.s (.z) (.c (.s (.z) (.z)) (.z))) (.s (.s (.z) (.b (.cut 0 (.s (.z) (.c (.z) (.z))) (.c (.s (.z) (.z)) (.cut 1 (.s (.z) (.c (.z) (.z))) (.c (.s (.z) (.z)) (.z))))))) (.s (.z) (.z))))))
theorem V12.vc_eq (B : Nat) (R : Value → World → Prop) (a : Option Addr) (c d : Nat) (f g : Int) (i : Option Addr) (j l : Nat) (w : World) : wpf (V12.cfg B) (V12.cuts B R) V12.code V12.h [] (postOf Tryz.prog B (Tryz.f12.results.toList) R) (argE 0 [.agg ⟨[.slice a c d]⟩, .int .i64 f, .int .i64 g, .slice i j l]) [] w = V12.vc B R a c d f g i j l w := by kernel_rfl
theorem V12.obl (B : Nat) (R : Value → World → Prop) : oblP (V12.cfg B) (V12.cuts B R) V12.code V12.h [] (postOf Tryz.prog B (Tryz.f12.results.toList) R) := by
 have e : oblP (V12.cfg B) (V12.cuts B R) V12.code V12.h [] (postOf Tryz.prog B (Tryz.f12.results.toList) R) = (True ∧ (True ∧ (True ∧ ((True ∧ ((True ∧ True) ∧ True)) ∧ ((True ∧ ((True ∧ (True ∧ True)) ∧ (∀ (a : Option Addr) (c d : Nat) (f : Option Addr) (g i : Nat) (j : Bool) (l m : Int) (n : Bool) (w : World), V12.b0 B R a c d f g i j l m n w → V12.b0 B R a c d f g i j l m n w) ∧ ((True ∧ True) ∧ ((True ∧ (True ∧ True)) ∧ (∀ (a : Option Addr) (c d : Nat) (f : Option Addr) (g i : Nat) (l : Int) (o : Bool) (w : World), V12.b1 B R a c d f g i l o w → V12.b1 B R a c d f g i l o w) ∧ ((True ∧ True) ∧ True))))) ∧ (True ∧ True)))))) := by kernel_rfl
 exact e.mpr (⟨trivial, ⟨trivial, ⟨trivial, ⟨⟨trivial, ⟨⟨trivial, trivial⟩, trivial⟩⟩, ⟨⟨trivial, ⟨⟨trivial, ⟨trivial, trivial⟩⟩, fun a c d f g i j l m n w h => h, ⟨⟨trivial, trivial⟩, ⟨⟨trivial, ⟨trivial, trivial⟩⟩, fun a c d f g i l o w h => h, ⟨⟨trivial, trivial⟩, trivial⟩⟩⟩⟩⟩, ⟨trivial, trivial⟩⟩⟩⟩⟩⟩)
theorem V12.cfgOk (B : Nat) : CfgOk (V12.cfg B) := cfgOk_of (by kernel_rfl) (by kernel_rfl) extNil
theorem V12.sound {a : Option Addr} {d f : Nat} {g i : Int} {j : Option Addr} {l m : Nat} {w : World} {R : Value → World → Prop} (h : V12.vc w.heap.size R a d f g i j l m w) : Calls Tryz.prog 12 ⟨[.agg ⟨[.slice a d f]⟩, .int .i64 g, .int .i64 i, .slice j l m]⟩ w fun e w' => ∃ v, e = .returned v ∧ R v w' :=
 calls_wpfP (c := V12.cfg w.heap.size) (fn := Tryz.f12) (x := V12.code) (V12.cuts w.heap.size R) V12.h (V12.cfgOk _) mixed Tryz.func12 (by kernel_rfl) (by kernel_rfl) (by kernel_rfl) rfl (V12.obl _ _) ((V12.vc_eq _ _ a d f g i j l m _).symm ▸ h)
def V11.vc (B : Nat) (R : Value → World → Prop) (c : Option Addr) (d f : Nat) (g : Int) (i : Option Addr) (j l : Nat) (m : Int) (w : World) : Prop :=
 IntKind.wrap .i64 ((d : Int) + 1) ≠ 0 ∧
 Expo B w [] fun n => 
 let o := n.alloc (.cells ⟨[]⟩ 41);
 (0 : Int) ≤ Int.tmod (IntKind.wrap .i64 g) (IntKind.wrap .i64 ((d : Int) + 1)) ∧ Int.tmod (IntKind.wrap .i64 g) (IntKind.wrap .i64 ((d : Int) + 1)) ≤ (f : Int) ∧
 RunK Tryz.prog (Builtin.append_ #[27, 27] 27 ⟨[.slice (some ⟨n.heap.size, 0, none⟩) 0 0, .slice (if f = 0 then c else Option.map (fun a => a.add (0 * 2)) c) (((Int.tmod (IntKind.wrap .i64 g) (IntKind.wrap .i64 ((d : Int) + 1))).toNat) - 0) (f - 0)]⟩) B o [] fun v p => 
 ∃ (q : Option Addr) (r s : Nat), v = .slice q r s ∧ (6 : Int) ≠ 0 ∧
 if (Int.tmod m 6 == 0) = true
 then (RunK Tryz.prog (Builtin.append_ #[27, 27] 27 ⟨[.slice q r s, .slice i j l]⟩) B p [] fun t x => 
 ∃ (y : Option Addr) (z A : Nat), t = .slice y z A ∧
 Ret B x (R (.slice y z A)))
 else (if (Int.tmod m 6 == 1) = true
 then (if (decide (Int.tmod (IntKind.wrap .i64 g) (IntKind.wrap .i64 ((d : Int) + 1)) > 0)) = true
 then (∃ C : Addr, q = some C ∧ (0 : Int) ≤ IntKind.wrap .i64 (Int.tmod (IntKind.wrap .i64 g) (IntKind.wrap .i64 ((d : Int) + 1)) - 1) ∧ IntKind.wrap .i64 (Int.tmod (IntKind.wrap .i64 g) (IntKind.wrap .i64 ((d : Int) + 1)) - 1) < (r : Int) ∧
 ∃ D : Int, p.cell? ((C.add ((IntKind.wrap .i64 (Int.tmod (IntKind.wrap .i64 g) (IntKind.wrap .i64 ((d : Int) + 1)) - 1)).toNat * 2)).add 1) = some (.int .u64 D) ∧
 ∃ E : Addr, q = some E ∧ (0 : Int) ≤ IntKind.wrap .i64 (Int.tmod (IntKind.wrap .i64 g) (IntKind.wrap .i64 ((d : Int) + 1)) - 1) ∧ IntKind.wrap .i64 (Int.tmod (IntKind.wrap .i64 g) (IntKind.wrap .i64 ((d : Int) + 1)) - 1) < (r : Int) ∧
 (∃ u, p.cell? (((E.add ((IntKind.wrap .i64 (Int.tmod (IntKind.wrap .i64 g) (IntKind.wrap .i64 ((d : Int) + 1)) - 1)).toNat * 2)).add 1).add 0) = some u) ∧ p.frozen? (((E.add ((IntKind.wrap .i64 (Int.tmod (IntKind.wrap .i64 g) (IntKind.wrap .i64 ((d : Int) + 1)) - 1)).toNat * 2)).add 1).add 0) = false ∧
 let x := p.setCell (((E.add ((IntKind.wrap .i64 (Int.tmod (IntKind.wrap .i64 g) (IntKind.wrap .i64 ((d : Int) + 1)) - 1)).toNat * 2)).add 1).add 0) (.int .u64 (IntKind.wrap .u64 (D + 1)));
 Ret B x (R (.slice q r s)))
 else (Ret B p (R (.slice q r s))))
 else (if (Int.tmod m 6 == 2) = true
 then (Expo B p [] fun x => 
 let F := x.alloc (.cells ⟨[.int .i64 5, .int .u64 0]⟩ 41);
 RunK Tryz.prog (Builtin.append_ #[27, 27] 27 ⟨[.slice q r s, .slice (some ⟨x.heap.size, 0, none⟩) 1 1]⟩) B F [] fun t G => 
 ∃ (I : Option Addr) (J L : Nat), t = .slice I J L ∧
 Ret B G (R (.slice I J L)))
 else (if (Int.tmod m 6 == 3) = true
 then (Expo B p [] fun x => 
 let F := x.alloc (.cells ⟨[.int .i64 6, .int .u64 0]⟩ 41);
 RunK Tryz.prog (Builtin.append_ #[27, 27] 27 ⟨[.slice q r s, .slice (some ⟨x.heap.size, 0, none⟩) 1 1]⟩) B F [] fun t G => 
 ∃ (M : Option Addr) (N O : Nat), t = .slice M N O ∧
 Ret B G (R (.slice M N O)))
 else (if (Int.tmod m 6 == 4) = true
 then (Expo B p [] fun x => 
 let F := x.alloc (.cells ⟨[]⟩ 41);
 RunK Tryz.prog (Builtin.append_ #[27, 27] 27 ⟨[.slice (some ⟨x.heap.size, 0, none⟩) 0 0, .slice c d f]⟩) B F [] fun t G => 
 ∃ (P : Option Addr) (Q S : Nat), t = .slice P Q S ∧
 Ret B G (R (.slice P Q S)))
 else (Ret B p (R (.slice q r s)))))))
noncomputable def V11.cfg (B : Nat) : Cfg := ⟨Tryz.prog, ⟨60, B⟩, [], hasN [], hasN [], look []⟩
noncomputable def V11.code : Code := (Tryz.f11.body).getD .skip
noncomputable def V11.cuts (B : Nat) (R : Value → World → Prop) : Nat → Cut := nthC []
noncomputable def V11.h : H := .s (.z) (.s (.z) (.s (.z) (.s (.s (.z) (.b (.s (.z) (.c (.z) (.s (.z) (.c (.s (.z) (.c (.z) (.z))) (.s (.z) (.c (.z) (.s (.z) (.c (.z) (.s (.z) (.c (.z) (.z))))))))))))) (.s (.z) (.z)))))
theorem V11.vc_eq (B : Nat) (R : Value → World → Prop) (a : Option Addr) (c d : Nat) (f : Int) (g : Option Addr) (i j : Nat) (l : Int) (w : World) : wpf (V11.cfg B) (V11.cuts B R) V11.code V11.h [] (postOf Tryz.prog B (Tryz.f11.results.toList) R) (argE 0 [.slice a c d, .int .u8 f, .slice g i j, .int .u8 l]) [] w = V11.vc B R a c d f g i j l w := by kernel_rfl
theorem V11.obl (B : Nat) (R : Value → World → Prop) : oblP (V11.cfg B) (V11.cuts B R) V11.code V11.h [] (postOf Tryz.prog B (Tryz.f11.results.toList) R) := by
 have e : oblP (V11.cfg B) (V11.cuts B R) V11.code V11.h [] (postOf Tryz.prog B (Tryz.f11.results.toList) R) = (True ∧ (True ∧ (True ∧ ((True ∧ (True ∧ (True ∧ (True ∧ ((True ∧ (True ∧ True)) ∧ (True ∧ (True ∧ (True ∧ (True ∧ (True ∧ (True ∧ True))))))))))) ∧ (True ∧ True))))) := by kernel_rfl
 exact e.mpr (⟨trivial, ⟨trivial, ⟨trivial, ⟨⟨trivial, ⟨trivial, ⟨trivial, ⟨trivial, ⟨⟨trivial, ⟨trivial, trivial⟩⟩, ⟨trivial, ⟨trivial, ⟨trivial, ⟨trivial, ⟨trivial, ⟨trivial, trivial⟩⟩⟩⟩⟩⟩⟩⟩⟩⟩⟩, ⟨trivial, trivial⟩⟩⟩⟩⟩)
theorem V11.cfgOk (B : Nat) : CfgOk (V11.cfg B) := cfgOk_of (by kernel_rfl) (by kernel_rfl) extNil
theorem V11.sound {a : Option Addr} {d f : Nat} {g : Int} {i : Option Addr} {j l : Nat} {m : Int} {w : World} {R : Value → World → Prop} (h : V11.vc w.heap.size R a d f g i j l m w) : Calls Tryz.prog 11 ⟨[.slice a d f, .int .u8 g, .slice i j l, .int .u8 m]⟩ w fun e w' => ∃ v, e = .returned v ∧ R v w' :=
 calls_wpfP (c := V11.cfg w.heap.size) (fn := Tryz.f11) (x := V11.code) (V11.cuts w.heap.size R) V11.h (V11.cfgOk _) mixed Tryz.func11 (by kernel_rfl) (by kernel_rfl) (by kernel_rfl) rfl (V11.obl _ _) ((V11.vc_eq _ _ a d f g i j l m _).symm ▸ h)
end Go.Proofs.YtidcpndlloppdaaGreatDoor

/-
  Layer 29: play, Play, Agrees.
  Conditions: the program is right.
-/
set_option linter.unusedVariables false
set_option linter.unusedSimpArgs false
set_option maxRecDepth 20000
namespace Go.Proofs.YtidcpndlloppdaaGreatDoor
open Go.RowKit
def PlayR (tr : List Mk) (over : Bool) (w : World) : Value → World → Prop := fun v w' => ∃ A c, v = .tuple ⟨[.slice A tr.length c, .bool over, .bool true]⟩ ∧ OwnMs w' w.heap.size (.slice A tr.length c) tr
theorem b1_12 {w0 w : World} {A A' : Option Addr} {l c l' c' : Nat} {t tr : List Mk} (hw : Below w0.heap.size w0 w) (ht : Marks w A l t) (hc : l ≤ c) (htr : Marks w A' l' tr) (hc' : l' ≤ c') (hpos : 0 < l) (hlen : l ≤ 100000) (m : Bool) :
    V12.b1 w0.heap.size (IsV w0 (.bool (if m = true then begM t.dropLast tr else begM t tr))) A l c A' l' c' (l : Int) m w := by
  unfold V12.b1
  obtain rfl := ht.len
  cases m with
  | true =>
    rw [if_pos rfl, wrap_id (n := ((t.length : Nat) : Int) - 1) (by omega) (by omega)]
    refine ⟨by omega, by omega, ?_⟩
    have e : (((t.length : Nat) : Int) - 1).toNat - 0 = t.length - 1 := by omega
    rw [sub_same, e, Nat.sub_zero]
    have hd : t.dropLast = t.take (t.length - 1) := List.dropLast_eq_take
    refine call_gives hw (fun w1 e1 _ => gives15 (Marks.take (RowAt.keep MarkE.kept ht (ext_keeps e1)) (k := t.length - 1) (by omega)) (RowAt.keep MarkE.kept htr (ext_keeps e1)) hc') fun w1 _ h1 => ⟨_, rfl, ret_is h1 ?_⟩
    rw [if_pos rfl, hd]
  | false =>
    rw [if_neg (by simp)]
    refine call_gives hw (fun w1 e1 _ => gives15 (RowAt.keep MarkE.kept ht (ext_keeps e1)) (RowAt.keep MarkE.kept htr (ext_keeps e1)) hc') fun w1 _ h1 => ⟨_, rfl, ret_is h1 ?_⟩
    rw [if_neg (by simp)]
section
variable {p : List Fnc} {f : Int} {fn : Fnc} (hr : Rt p) (hf : fnAt p f = some fn) (h0 : fn.params = 0)
include hr hf h0
theorem shown_ok (n : Nat) (hn : n ≤ 100000) : MOk p (playM p (newM f) n) ∧ Lim (playM p (newM f) n) n := by
  have := play_ok hr (newM_ok hf h0) (newM_lim f) n (by omega)
  rwa [Nat.zero_add] at this
theorem b2_20 {w0 w : World} {n i : Nat} (hn : n ≤ 3000) (hi : i ≤ n) (hs : i = n ∨ (playM p (newM f) i).ended = true) {g : Nat} {C : Option Addr} {c : Nat} {F T : Value} {ss : List Sl} (hw : Below w0.heap.size w0 w) (h : MachAt w w0.heap.size g C c p (wakeM (playM p (newM f) i)) F T ss) :
    V20.b2 w0.heap.size (IsQ w0 (PlayR (playM p (newM f) n).trace (playM p (newM f) n).ended w0)) ⟨g, 0, none⟩ w := by
  unfold V20.b2
  have e : (playM p (newM f) n).trace = (playM p (newM f) i).trace ∧ (playM p (newM f) n).ended = (playM p (newM f) i).ended := by
    rcases hs with rfl | hs
    · exact ⟨rfl, rfl⟩
    · obtain ⟨d, rfl⟩ := Nat.le.dest hi
      rw [playM_add]
      obtain ⟨a, b, _⟩ := play_over (p := p) hs d
      exact ⟨a, b.trans hs.symm⟩
  rw [e.1, e.2]
  have hl := (shown_ok hr hf h0 i (by omega)).2.trace
  refine call_yieldsX (Q := fun w1 v w2 => OwnMs w2 w1.heap.size v (playM p (newM f) i).trace) hw.size (fun w1 e1 => yields39 (m := wakeM (playM p (newM f) i)) (h.ext e1) (by show (playM p (newM f) i).trace.length ≤ _; omega)) fun w1 v w2 w' hs hQ hnew he => ?_
  have ho : OwnMs w' w.heap.size v (playM p (newM f) i).trace := owns_down (owns_other hQ fun j hj => hnew j (hQ.lt j hj).1) hs
  obtain ⟨A', c', hv⟩ := owns_slice0 ho
  subst hv
  refine ⟨A', _, c', rfl, ?_⟩
  have hw' := he.after hw
  refine call_gives hw' (fun w3 e3 _ => gives36 ((h.ext he).ext e3)) fun w3 e3 hw3 => ⟨_, rfl, ?_⟩
  exact ret_q hw3 fun w4 e4 => ⟨A', c', rfl, owns_down ((e3.trans e4).owns ho) hw.size⟩
theorem l1_20 {w0 : World} {n : Nat} (hn : n ≤ 3000) : ∀ (k i : Nat) (w : World) (g : Nat) (C : Option Addr) (c : Nat) (F T : Value) (ss : List Sl), n < i + k → i ≤ n → Below w0.heap.size w0 w → MachAt w w0.heap.size g C c p (wakeM (playM p (newM f) i)) F T ss →
    V20.l1 w0.heap.size (IsQ w0 (PlayR (playM p (newM f) n).trace (playM p (newM f) n).ended w0)) k ⟨g, 0, none⟩ ((n : Int) - (i : Int)) w
  | 0, i, w, g, C, c, F, T, ss, hk, hi, _, _ => by omega
  | k + 1, i, w, g, C, c, F, T, ss, hk, hi, hw, h => by
    dsimp -zeta only [V20.l1]
    obtain ⟨ho, hl⟩ := shown_ok hr hf h0 i (by omega)
    by_cases hin : i < n
    · rw [if_pos (by simp; omega)]
      refine call_gives hw (fun w1 e1 _ => gives36 (h.ext e1)) fun w1 e1 hw1 => ⟨_, rfl, ?_⟩
      have h1 := h.ext e1
      by_cases hov : (playM p (newM f) i).ended = true
      · rw [if_neg (by show ¬ (!(playM p (newM f) i).ended) = true; rw [hov]; simp)]
        exact b2_20 hr hf h0 hn hi (.inr hov) hw1 h1
      · rw [if_pos (by show (!(playM p (newM f) i).ended) = true; simpa using hov)]
        refine call_step hw1.size hr h1 (wake_ok ho) (wake_lim hl) (by omega) fun w2 F2 T2 ss2 h2 e2 hf2 => ⟨_, rfl, ?_⟩
        have hw2 := e2.after (fun j hj => (h1.ty hj).1) hw1
        refine call_wake hw2.size h2 fun w3 F3 T3 ss3 h3 e3 hf3 => ⟨rfl, ?_⟩
        have hw3 := e3.after (fun j hj => (h2.ty hj).1) hw2
        rw [wrap_id (n := (n : Int) - (i : Int) - 1) (by omega) (by omega), show (n : Int) - (i : Int) - 1 = (n : Int) - ((i + 1 : Nat) : Int) by omega]
        exact l1_20 hn k (i + 1) w3 g C c F3 T3 ss3 (by omega) (by omega) hw3 h3
    · have : i = n := by omega
      subst this
      rw [if_neg (by simp)]
      exact b2_20 hr hf h0 hn (Nat.le_refl _) (.inl rfl) hw h
def Acts (most : Int) (n : Nat) : Prop := n ≤ 3000 ∧ (most = (n : Int) ∨ most ≤ 0 ∧ n = 0)
theorem yields20 {w : World} {P : Option Addr} {cap n : Nat} {most : Int} (hp : ProgAt w P p.length p) (hn : Acts most n) : Yields Tryz.prog 20 [.agg ⟨[.slice P p.length cap]⟩, .int .i64 f, .int .i64 most] w (PlayR (playM p (newM f) n).trace (playM p (newM f) n).ended w) := by
  obtain ⟨hn3, hm⟩ := hn
  refine yields_of (V20.sound ?_)
  intro d _
  refine call_newO (Nat.le_refl _) hp hr hf h0 fun g C c w1 h1 e1 => ⟨_, rfl, ?_⟩
  simp only [caseP]
  unfold V20.b0
  have hw1 := e1.after (Below.refl _ _)
  rw [if_neg (by omega)]
  rcases hm with rfl | ⟨hm, rfl⟩
  · refine ⟨n + 1, ?_⟩
    have := l1_20 (n := n) hr hf h0 hn3 (n + 1) 0 w1 g C c N0 N0 [] (by omega) (by omega) hw1 h1.mach
    simpa using this
  · refine ⟨1, ?_⟩
    dsimp -zeta only [V20.l1]
    rw [if_neg (by simp; omega)]
    exact b2_20 (n := 0) (i := 0) hr hf h0 (by omega) (Nat.le_refl _) (.inl rfl) hw1 h1.mach
theorem call_play {w0 w : World} {bs : List Nat} {P : Option Addr} {cap n : Nat} {most : Int} {K : Value → World → Prop} (hB : w0.heap.size ≤ w.heap.size) (hp : ProgAt w P p.length p) (hn : Acts most n)
    (hk : ∀ A c w', Ext w0.heap.size w w' → OwnMs w' w.heap.size (.slice A (playM p (newM f) n).trace.length c) (playM p (newM f) n).trace → K (.tuple ⟨[.slice A (playM p (newM f) n).trace.length c, .bool (playM p (newM f) n).ended, .bool true]⟩) w') :
    CallK Tryz.prog 20 [.agg ⟨[.slice P p.length cap]⟩, .int .i64 f, .int .i64 most] w0.heap.size w bs K := by
  refine call_yieldsX (Q := fun w1 => PlayR (playM p (newM f) n).trace (playM p (newM f) n).ended w1) hB (fun w1 e1 => yields20 hr hf h0 (RowAt.keep FncE.kept hp (ext_keeps e1)) hn) fun w1 v w2 w' hs hQ hnew he => ?_
  obtain ⟨A, c, rfl, ho⟩ := hQ
  exact hk A c w' he (owns_down (owns_other ho fun j hj => hnew j (ho.lt j hj).1) hs)
def ShowR (tr : List Mk) (over : Bool) (w : World) : Value → World → Prop := fun v w' => ∃ A c, v = .tuple ⟨[.slice A tr.length c, .bool over]⟩ ∧ OwnMs w' w.heap.size (.slice A tr.length c) tr
theorem gives12 {w : World} {P : Option Addr} {cap n : Nat} {most : Int} (hp : ProgAt w P p.length p) (hn : Acts most n) {A : Option Addr} {l c : Nat} {t : List Mk} (ht : Marks w A l t) (hc : l ≤ c) (hlen : l ≤ 100000) :
    Gives Tryz.prog 12 [.agg ⟨[.slice P p.length cap]⟩, .int .i64 f, .int .i64 most, .slice A l c] w (.bool (agrM (playM p (newM f) n).trace (playM p (newM f) n).ended t)) := by
  refine gives_of (V12.sound ?_)
  intro d _
  refine call_play hr hf h0 (Nat.le_refl _) hp hn fun A1 c1 w1 e1 ho => ⟨A1, _, c1, _, _, rfl, ?_⟩
  have hw1 := e1.after (Below.refl _ _)
  rw [if_pos (by rfl)]
  obtain rfl := ht.len
  have ht1 := RowAt.keep MarkE.kept ht (ext_keeps e1)
  have hlt := (shown_ok hr hf h0 n (by have := hn.1; omega)).2.trace
  have hn1 := hn.1
  have htr := marks_own ho (by omega)
  have hcap := (marks_of ho (by omega)).2.2
  by_cases hz : t.length = 0
  · have hnil : t = [] := List.eq_nil_of_length_eq_zero hz
    subst hnil
    rw [if_pos (by simp)]
    exact ret_is hw1 rfl
  · rw [if_neg (by simp; intro h; rw [h] at hz; simp at hz), wrap_id (n := ((t.length : Nat) : Int) - 1) (by omega) (by omega)]
    obtain ⟨d, q, hd, hq, d0, d1⟩ := Marks.cells ht1 (i := t.length - 1) (by omega)
    have hlast : t.getLast? = some d := by rw [List.getLast?_eq_getElem?]; exact hd
    have hix : (((t.length : Nat) : Int) - 1).toNat = t.length - 1 := by omega
    rw [hix]
    refine ⟨q, hq, by omega, by omega, d.k, d0, ?_⟩
    unfold agrM
    rw [hlast]
    simp only
    have ends : (d.k = 3 ∨ d.k = 4) → V12.b0 w.heap.size (IsV w (.bool ((playM p (newM f) n).ended && eqMs (playM p (newM f) n).trace t))) A t.length c A1 (playM p (newM f) n).trace.length c1 (playM p (newM f) n).ended ((t.length : Nat) : Int) d.k true w1 := fun _ => by
      unfold V12.b0
      rw [if_pos rfl]
      cases (playM p (newM f) n).ended with
      | true =>
        rw [if_pos rfl]
        exact call_gives hw1 (fun w2 e2 _ => gives24 (RowAt.keep MarkE.kept htr (ext_keeps e2)) (RowAt.keep MarkE.kept ht1 (ext_keeps e2))) fun w2 _ h2 => ⟨_, rfl, ret_is h2 rfl⟩
      | false =>
        rw [if_neg (by simp)]
        exact ret_is hw1 rfl
    by_cases h3 : d.k = 3
    · rw [if_pos (by simpa using h3), if_pos (.inl h3)]
      have := ends (.inl h3)
      rw [show (d.k == 3) = true by simpa using h3]
      exact this
    · rw [if_neg (by simpa using h3)]
      by_cases h4 : d.k = 4
      · rw [if_pos (.inr h4), show (d.k == 4) = true by simpa using h4]
        exact ends (.inr h4)
      · rw [if_neg (by omega), show (d.k == 4) = false by simpa using h4]
        unfold V12.b0
        rw [if_neg (by simp)]
        by_cases h5 : d.k = 5
        · rw [if_pos (by simpa using h5), if_pos (.inl h5)]
          have := b1_12 (w0 := w) hw1 ht1 hc htr hcap (by omega) hlen (d.k == 5)
          rw [show (d.k == 5) = true by simpa using h5] at this ⊢
          rw [if_pos rfl] at this
          exact this
        · rw [if_neg (by simpa using h5)]
          have := b1_12 (w0 := w) hw1 ht1 hc htr hcap (by omega) hlen (d.k == 6)
          by_cases h6 : d.k = 6
          · rw [if_pos (.inr h6)]
            rw [show (d.k == 6) = true by simpa using h6] at this ⊢
            rw [if_pos rfl] at this
            exact this
          · rw [if_neg (by omega)]
            rw [show (d.k == 6) = false by simpa using h6] at this ⊢
            rw [if_neg (by simp)] at this
            exact this
end
end Go.Proofs.YtidcpndlloppdaaGreatDoor
