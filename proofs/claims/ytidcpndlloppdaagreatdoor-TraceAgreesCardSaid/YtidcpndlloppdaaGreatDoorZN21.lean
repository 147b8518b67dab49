import Derived.Test.YtidcpndlloppdaaGreatDoorZC17h
import Derived.Test.YtidcpndlloppdaaGreatDoorZWH
import Derived.Test.YtidcpndlloppdaaGreatDoorZMB
import Derived.Test.YtidcpndlloppdaaGreatDoorZM21n
/-
  Layer 17: the reference's Check, and both Depths, return what one plain rule tells; the document's examples hold.
  Conditions: the arguments' memory says what their values are.
-/
set_option linter.unusedVariables false
set_option linter.unusedSimpArgs false
namespace Go.Proofs.YtidcpndlloppdaaGreatDoor
open Go.RowKit
section
variable {w0 : World} {v : Int × Int × Int} {cP q1 : Nat} {A : Option Addr} {p : List Fnc}
theorem l3_17 (hp : ProgAt w0 A p.length p) (hfew : Few p) (hlen : ∀ f ∈ p, f.code.length ≤ 1000) (hjmp : ∀ f ∈ p, ∀ x ∈ f.code, x.op = 15 ∨ x.op = 16 → 0 ≤ x.a) : ∀ (k i : Nat) (w : World), p.length < i + k ∧ 1 ≤ k → i ≤ p.length → Below w0.heap.size w0 w →
    (∀ a b, flowsM p (p.drop i) i = some (a, b) → v = (9, (a : Int), (b : Int))) → (flowsM p (p.drop i) i = none → v = (0, 0, 0)) → V17.l3 w0.heap.size (IsV w0 (tripV v)) k i q1 A p.length cP w
  | 0, i, w, hk, _, _, _, _ => by omega
  | k + 1, i, w, hk, hi, hw, h1, h2 => by
    dsimp -zeta only [V17.l3]
    by_cases h : i < p.length
    · rw [if_pos (by simpa using h)]
      obtain ⟨f, a, C, c, hf, ha, c0, c1, c2, c3, hc⟩ := prog_at (hp.keep hw) h
      rw [drop_at hf] at h1 h2
      unfold flowsM at h1 h2
      have hm := List.mem_of_getElem? hf
      refine ⟨a, ha, by omega, by omega, f.params, by simpa using c0, f.locals, by simpa using c1, f.refs, by simpa using c2, C, f.code.length, c, by simpa using c3, ?_⟩
      refine call_yields (Q := FlowQ p f.code) hw (fun w1 e1 hb => yields29 (hp.keep hb) hfew (RowAt.keep InsE.kept hc (ext_keeps e1)) (hjmp f hm) (hlen f hm) _ _ _) fun w4 u w5 w6 hs _ hQ _ hnew he6 hw6 => ?_
      unfold FlowQ at hQ
      cases hd : depthsM p f.code with
      | inl j =>
        simp only [hd] at hQ h1
        subst hQ
        refine ⟨none, 0, 0, j, rfl, ?_⟩
        rw [if_pos (by simp)]
        exact ret_is hw6 (by rw [h1 i j rfl]; rfl)
      | inr d =>
        simp only [hd] at hQ h1 h2
        obtain ⟨g, _, rfl, _⟩ := hQ
        refine ⟨_, _, _, -1, rfl, ?_⟩
        rw [if_neg (by simp), wrap_succ h hp.small]
        exact l3_17 hp hfew hlen hjmp k (i + 1) w6 ⟨by omega, by omega⟩ (by omega) hw6 h1 h2
    · rw [if_neg (by simpa using h)]
      rw [List.drop_eq_nil_of_le (by omega)] at h2
      exact ret_is hw (by rw [h2 rfl]; rfl)
theorem l2_17 {L1 : Int → Nat → Option Addr → Nat → Nat → World → Prop} (hp : ProgAt w0 A p.length p) {i : Nat} {f : Fnc} (hi : i < p.length) (hf : p[i]? = some f) : ∀ (k j : Nat) (w : World), f.code.length < j + k ∧ 1 ≤ k → j ≤ f.code.length → Below w0.heap.size w0 w →
    (∀ b, firstNot (shapedI p.length f) (f.code.drop j) j = some b → v = (6, (i : Int), (b : Int))) →
    (firstNot (shapedI p.length f) (f.code.drop j) j = none → ∀ w', Below w0.heap.size w0 w' → L1 (IntKind.wrap .i64 ((i : Int) + 1)) q1 A p.length cP w') →
    V17.l2 w0.heap.size (IsV w0 (tripV v)) L1 k i j q1 A p.length cP w
  | 0, j, w, hk, _, _, _, _ => by omega
  | k + 1, j, w, hk, hj, hw, h1, h2 => by
    dsimp -zeta only [V17.l2]
    obtain ⟨f', a, C, c, hf', ha, c0, c1, c2, c3, hc⟩ := prog_at (hp.keep hw) hi
    rw [hf] at hf'
    cases hf'
    refine ⟨a, ha, by omega, by omega, C, f.code.length, c, by simpa using c3, ?_⟩
    by_cases h : j < f.code.length
    · rw [if_pos (by simpa using h)]
      obtain ⟨x, b, hx, hb, he⟩ := hc.at h
      rw [drop_at hx] at h1 h2
      unfold firstNot at h1 h2
      refine ⟨a, ha, by omega, by omega, f.params, by simpa using c0, f.locals, by simpa using c1, f.refs, by simpa using c2, C, f.code.length, c, by simpa using c3, a, ha, by omega, by omega, C, f.code.length, c, by simpa using c3,
        b, hb, by omega, by omega, x.op, by simpa using he.1, x.a, by simpa using he.2.1, x.b, by simpa using he.2.2, ?_⟩
      refine call_gives hw (fun w1 _ hb => gives28 (hp.keep hb) _ _ _ _ _ _ _ _ _) fun w1 _ hw1 => ⟨_, rfl, ?_⟩
      by_cases hs : shapedI p.length f x = true
      · simp only [if_pos hs] at h1 h2
        have hs' : shapedM p.length f.locals f.refs f.code.length x.op x.a x.b = true := hs
        rw [if_neg (by rw [hs']; simp), wrap_succ h hc.small]
        exact l2_17 hp hi hf k (j + 1) w1 ⟨by omega, by omega⟩ (by omega) hw1 h1 h2
      · simp only [if_neg hs] at h1
        have hs' : ¬ shapedM p.length f.locals f.refs f.code.length x.op x.a x.b = true := hs
        rw [if_pos (by rw [Bool.eq_false_iff.2 hs']; simp)]
        exact ret_is hw1 (by rw [h1 j rfl]; rfl)
    · rw [if_neg (by simpa using h)]
      rw [List.drop_eq_nil_of_le (by omega)] at h2
      exact h2 rfl w hw
theorem l1_17 (hp : ProgAt w0 A p.length p) (hfew : Few p) (hlen : ∀ f ∈ p, f.code.length ≤ 1000) : ∀ (k i : Nat) (w : World), p.length < i + k ∧ 1 ≤ k → i ≤ p.length → Below w0.heap.size w0 w → (∀ f ∈ p.take i, ∀ x ∈ f.code, x.op = 15 ∨ x.op = 16 → 0 ≤ x.a) →
    (∀ a b, shapesM p.length (p.drop i) i = some (a, b) → v = (6, (a : Int), (b : Int))) → (shapesM p.length (p.drop i) i = none → (∀ a b, flowsM p p 0 = some (a, b) → v = (9, (a : Int), (b : Int))) ∧ (flowsM p p 0 = none → v = (0, 0, 0))) →
    V17.l1 w0.heap.size (IsV w0 (tripV v)) k i q1 A p.length cP w
  | 0, i, w, hk, _, _, _, _, _ => by omega
  | k + 1, i, w, hk, hi, hw, hj, h1, h2 => by
    dsimp -zeta only [V17.l1]
    by_cases h : i < p.length
    · rw [if_pos (by simpa using h)]
      obtain ⟨f, a, C, c, hf, ha, c0, c1, c2, c3, hc⟩ := prog_at hp h
      rw [drop_at hf] at h1 h2
      unfold shapesM at h1 h2
      refine ⟨f.code.length + 1, l2_17 hp h hf (f.code.length + 1) 0 w ⟨by omega, by omega⟩ (by omega) hw ?_ ?_⟩
      · intro b hb
        rw [List.drop_zero] at hb
        simp only [hb] at h1
        exact h1 i b rfl
      · intro hb w' hw'
        rw [List.drop_zero] at hb
        simp only [hb] at h1 h2
        rw [wrap_succ h hp.small]
        refine l1_17 hp hfew hlen k (i + 1) w' ⟨by omega, by omega⟩ (by omega) hw' ?_ h1 h2
        intro f' hf' x hx ho
        rw [List.take_add_one, hf] at hf'
        rcases List.mem_append.1 hf' with hf' | hf'
        · exact hj f' hf' x hx ho
        · simp at hf'
          subst hf'
          exact shaped_jump (firstNot_all hb x hx) ho
    · rw [if_neg (by simpa using h)]
      rw [List.drop_eq_nil_of_le (by omega)] at h2
      rw [List.take_of_length_le (by omega)] at hj
      exact ⟨p.length + 1, l3_17 hp hfew hlen hj (p.length + 1) 0 w ⟨by omega, by omega⟩ (by omega) hw (h2 rfl).1 (h2 rfl).2⟩
theorem l0_17 (hp : ProgAt w0 A p.length p) : ∀ (k i : Nat) (w : World), p.length < i + k ∧ 1 ≤ k → i ≤ p.length → Below w0.heap.size w0 w →
    (∀ a, firstNot sizedF (p.drop i) i = some a → v = (1, (a : Int), 0)) → (firstNot sizedF (p.drop i) i = none → ∀ w', Below w0.heap.size w0 w' → ∃ k_1, V17.l1 w0.heap.size (IsV w0 (tripV v)) k_1 0 q1 A p.length cP w') →
    V17.l0 w0.heap.size (IsV w0 (tripV v)) k i q1 A p.length cP w
  | 0, i, w, hk, _, _, _, _ => by omega
  | k + 1, i, w, hk, hi, hw, h1, h2 => by
    dsimp -zeta only [V17.l0]
    by_cases h : i < p.length
    · rw [if_pos (by simpa using h)]
      obtain ⟨f, a, C, c, hf, ha, c0, c1, c2, c3, hc⟩ := prog_at (hp.keep hw) h
      rw [drop_at hf] at h1 h2
      unfold firstNot at h1 h2
      refine ⟨a, ha, by omega, by omega, f.params, by simpa using c0, f.locals, by simpa using c1, f.refs, by simpa using c2, C, f.code.length, c, by simpa using c3, ?_⟩
      refine call_gives hw (fun w1 _ _ => gives27 _ _ _ _ _ _ _) fun w1 _ hw1 => ⟨_, rfl, ?_⟩
      by_cases hs : sizedF f = true
      · simp only [if_pos hs] at h1 h2
        have hs' : sizedM f.params f.locals f.refs f.code.length = true := hs
        rw [if_neg (by rw [hs']; simp), wrap_succ h hp.small]
        exact l0_17 hp k (i + 1) w1 ⟨by omega, by omega⟩ (by omega) hw1 h1 h2
      · simp only [if_neg hs] at h1
        have hs' : ¬ sizedM f.params f.locals f.refs f.code.length = true := hs
        rw [if_pos (by rw [Bool.eq_false_iff.2 hs']; simp)]
        exact ret_is hw1 (by rw [h1 i rfl]; rfl)
    · rw [if_neg (by simpa using h)]
      rw [List.drop_eq_nil_of_le (by omega)] at h2
      exact h2 rfl w hw
end
theorem gives17 {w : World} {A : Option Addr} {p : List Fnc} {c : Nat} (hp : ProgAt w A p.length p) : Gives Tryz.prog 17 [.agg ⟨[.slice A p.length c]⟩] w (tripV (checkM p)) := by
  refine gives_of (V17.sound ?_)
  intro q1 _
  by_cases h1 : p.length < 1
  · rw [if_neg (by simp; omega)]
    exact ret_is (Below.refl _ _) (by unfold checkM; rw [if_pos (.inl h1)]; rfl)
  · rw [if_pos (by simp; omega)]
    by_cases h8 : 8 < p.length
    · rw [if_pos (by simp; omega)]
      exact ret_is (Below.refl _ _) (by unfold checkM; rw [if_pos (.inr h8)]; rfl)
    · rw [if_neg (by simp; omega)]
      have hc : checkM p = match firstNot sizedF p 0 with
          | some i => (1, (i : Int), 0)
          | none => match shapesM p.length p 0 with
            | some (i, j) => (6, (i : Int), (j : Int))
            | none => match flowsM p p 0 with
              | some (i, j) => (9, (i : Int), (j : Int))
              | none => (0, 0, 0) := by unfold checkM; rw [if_neg (fun h => h.elim h1 h8)]; rfl
      refine ⟨p.length + 1, l0_17 hp (p.length + 1) 0 w ⟨by omega, by omega⟩ (by omega) (Below.refl _ _) ?_ ?_⟩
      · intro a ha
        rw [List.drop_zero] at ha
        rw [hc, ha]
      · intro hs w' hw'
        rw [List.drop_zero] at hs
        rw [hs] at hc
        refine ⟨p.length + 1, l1_17 hp (sized_few hs) (fun f hf => sized_len hs hf) (p.length + 1) 0 w' ⟨by omega, by omega⟩ (by omega) hw' (fun f hf => by simp at hf) ?_ ?_⟩
        · intro a b hab
          rw [List.drop_zero] at hab
          rw [hc, hab]
        · intro hn
          rw [List.drop_zero] at hn
          rw [hn] at hc
          refine ⟨fun a b hab => by rw [hc, hab], fun hf => by rw [hc, hf]⟩
end Go.Proofs.YtidcpndlloppdaaGreatDoor

/-
  Layer 21, plain: what is parked, what an act needs, the document's example.
  Conditions: the program is right.
-/
set_option linter.unusedVariables false
set_option linter.unusedSimpArgs false
set_option maxRecDepth 20000
namespace Go.Proofs.YtidcpndlloppdaaGreatDoor
end Go.Proofs.YtidcpndlloppdaaGreatDoor

/-
  Layer 21, plain: the programs of AbsmRecovers and AbsmDefers, run.
  Conditions: none.
-/
set_option linter.unusedVariables false
set_option linter.unusedSimpArgs false
set_option maxRecDepth 20000
namespace Go.Proofs.YtidcpndlloppdaaGreatDoor
end Go.Proofs.YtidcpndlloppdaaGreatDoor

/-
  Layer 21, plain: the machine on the programs of AbsmDefers.
  Conditions: none.
-/
set_option linter.unusedVariables false
set_option maxRecDepth 20000
namespace Go.Proofs.YtidcpndlloppdaaGreatDoor
end Go.Proofs.YtidcpndlloppdaaGreatDoor

/-
 What the engine makes of the loaded functions 10, 23: conditions under which a call returns as told, and proofs of that.
 Conditions: none. Printed by a program of this project.
-/
set_option linter.unusedVariables false
set_option maxRecDepth 100000
namespace Go.Proofs.YtidcpndlloppdaaGreatDoor
def V10.vc (B : Nat) (R : Value → World → Prop) (a : Option Addr) (c d : Nat) (f : Option Addr) (g i : Nat) (w : World) : Prop :=
 if ((c : Int) == (g : Int)) = true
 then (CallK Tryz.prog 23 [.slice a c d, .slice f g i] B w [] fun v j => 
 ∃ l : Bool, v = .bool l ∧
 Ret B j (R (.bool l)))
 else (Ret B w (R (.bool false)))
noncomputable def V10.cfg (B : Nat) : Cfg := ⟨Tryz.prog, ⟨15, B⟩, [], hasN [23], hasN [], look []⟩
noncomputable def V10.code : Code := (Tryz.f10.body).getD .skip
noncomputable def V10.cuts (B : Nat) (R : Value → World → Prop) : Nat → Cut := nthC []
noncomputable def V10.h : H := .s (.z) (.s (.z) (.z))
theorem V10.vc_eq (B : Nat) (R : Value → World → Prop) (a : Option Addr) (c d : Nat) (f : Option Addr) (g i : Nat) (w : World) : wpf (V10.cfg B) (V10.cuts B R) V10.code V10.h [] (postOf Tryz.prog B (Tryz.f10.results.toList) R) (argE 0 [.slice a c d, .slice f g i]) [] w = V10.vc B R a c d f g i w := by kernel_rfl
theorem V10.obl (B : Nat) (R : Value → World → Prop) : oblP (V10.cfg B) (V10.cuts B R) V10.code V10.h [] (postOf Tryz.prog B (Tryz.f10.results.toList) R) := by
 have e : oblP (V10.cfg B) (V10.cuts B R) V10.code V10.h [] (postOf Tryz.prog B (Tryz.f10.results.toList) R) = (True ∧ (True ∧ True)) := by kernel_rfl
 exact e.mpr (⟨trivial, ⟨trivial, trivial⟩⟩)
theorem V10.cfgOk (B : Nat) : CfgOk (V10.cfg B) := cfgOk_of (by kernel_rfl) (by kernel_rfl) extNil
theorem V10.sound {a : Option Addr} {d f : Nat} {g : Option Addr} {i j : Nat} {w : World} {R : Value → World → Prop} (h : V10.vc w.heap.size R a d f g i j w) : Calls Tryz.prog 10 ⟨[.slice a d f, .slice g i j]⟩ w fun e w' => ∃ v, e = .returned v ∧ R v w' :=
 calls_wpfP (c := V10.cfg w.heap.size) (fn := Tryz.f10) (x := V10.code) (V10.cuts w.heap.size R) V10.h (V10.cfgOk _) mixed Tryz.func10 (by kernel_rfl) (by kernel_rfl) (by kernel_rfl) rfl (V10.obl _ _) ((V10.vc_eq _ _ a d f g i j _).symm ▸ h)
def V23.l0 (B : Nat) (R : Value → World → Prop) : Nat → Option Addr → Nat → Nat → Option Addr → Nat → Nat → Int → World → Prop
 | 0 => fun _ _ _ _ _ _ _ _ => False
 | k + 1 => fun a c d f g i j w =>
 if (decide (j < (c : Int))) = true
 then (∃ l : Addr, a = some l ∧ (0 : Int) ≤ j ∧ j < (c : Int) ∧
 ∃ m : Int, w.cell? ((l.add (j.toNat * 2)).add 0) = some (.int .i64 m) ∧
 ∃ n : Int, w.cell? ((l.add (j.toNat * 2)).add 1) = some (.int .u64 n) ∧
 ∃ o : Addr, f = some o ∧ (0 : Int) ≤ j ∧ j < (g : Int) ∧
 ∃ p : Int, w.cell? ((o.add (j.toNat * 2)).add 0) = some (.int .i64 p) ∧
 ∃ q : Int, w.cell? ((o.add (j.toNat * 2)).add 1) = some (.int .u64 q) ∧
 if (!((m == p) && (n == q))) = true
 then (Ret B w (R (.bool false)))
 else ((V23.l0 B R k) a c d f g i (IntKind.wrap .i64 (j + 1)) w))
 else (Ret B w (R (.bool true)))
def V23.vc (B : Nat) (R : Value → World → Prop) (a : Option Addr) (c d : Nat) (f : Option Addr) (g i : Nat) (w : World) : Prop :=
 if (decide ((c : Int) > (g : Int))) = true
 then (Ret B w (R (.bool false)))
 else (∃ j, V23.l0 B R j a c d f g i 0 w)
noncomputable def V23.cfg (B : Nat) : Cfg := ⟨Tryz.prog, ⟨26, B⟩, [], hasN [], hasN [41], look []⟩
noncomputable def V23.code : Code := (Tryz.f23.body).getD .skip
noncomputable def V23.cuts (B : Nat) (R : Value → World → Prop) : Nat → Cut := nthC [⟨[(0, .one (.slice)), (1, .one (.slice)), (5, .one (.int .i64))], [], fun fs vs bs w => V23.l0 B R (nthN fs 0) (slA (nthV vs 0)) (slL (nthV vs 0)) (slC (nthV vs 0)) (slA (nthV vs 1)) (slL (nthV vs 1)) (slC (nthV vs 1)) (iV (nthV vs 2)) w⟩]
noncomputable def V23.h : H := .s (.z) (.s (.s (.z) (.c (.s (.z) (.z)) (.z))) (.s (.s (.z) (.b (.l 0 (.s (.s (.z) (.c (.z) (.z))) (.s (.b (.s (.r [[0, 1, 2, 3, 4, 5, 6, 7, 8]]) (.c (.s (.z) (.z)) (.z)))) (.z)))))) (.s (.z) (.z))))
theorem V23.vc_eq (B : Nat) (R : Value → World → Prop) (a : Option Addr) (c d : Nat) (f : Option Addr) (g i : Nat) (w : World) : wpf (V23.cfg B) (V23.cuts B R) V23.code V23.h [] (postOf Tryz.prog B (Tryz.f23.results.toList) R) (argE 0 [.slice a c d, .slice f g i]) [] w = V23.vc B R a c d f g i w := by kernel_rfl
theorem V23.obl (B : Nat) (R : Value → World → Prop) : oblP (V23.cfg B) (V23.cuts B R) V23.code V23.h [] (postOf Tryz.prog B (Tryz.f23.results.toList) R) := by
 have e : oblP (V23.cfg B) (V23.cuts B R) V23.code V23.h [] (postOf Tryz.prog B (Tryz.f23.results.toList) R) = (True ∧ ((True ∧ ((True ∧ True) ∧ True)) ∧ ((True ∧ ((∀ (a : Option Addr) (c d : Nat) (f : Option Addr) (g i : Nat) (j : Int) (w : World), ¬ V23.l0 B R 0 a c d f g i j w) ∧ (∀ l, ∀ (a : Option Addr) (c d : Nat) (f : Option Addr) (g i : Nat) (j : Int) (w : World), V23.l0 B R (l + 1) a c d f g i j w → V23.l0 B R (l + 1) a c d f g i j w) ∧ ∀ l : Nat, ((True ∧ (True ∧ True)) ∧ (((true = true) ∧ ((True ∧ True) ∧ True)) ∧ True)))) ∧ (True ∧ True)))) := by kernel_rfl
 exact e.mpr (⟨trivial, ⟨⟨trivial, ⟨⟨trivial, trivial⟩, trivial⟩⟩, ⟨⟨trivial, ⟨fun a c d f g i j w h => h, fun _ a c d f g i j w h => h, fun l => ⟨⟨trivial, ⟨trivial, trivial⟩⟩, ⟨⟨rfl, ⟨⟨trivial, trivial⟩, trivial⟩⟩, trivial⟩⟩⟩⟩, ⟨trivial, trivial⟩⟩⟩⟩)
theorem V23.cfgOk (B : Nat) : CfgOk (V23.cfg B) := cfgOk_of (by kernel_rfl) (by kernel_rfl) extNil
theorem V23.sound {a : Option Addr} {d f : Nat} {g : Option Addr} {i j : Nat} {w : World} {R : Value → World → Prop} (h : V23.vc w.heap.size R a d f g i j w) : Calls Tryz.prog 23 ⟨[.slice a d f, .slice g i j]⟩ w fun e w' => ∃ v, e = .returned v ∧ R v w' :=
 calls_wpfP (c := V23.cfg w.heap.size) (fn := Tryz.f23) (x := V23.code) (V23.cuts w.heap.size R) V23.h (V23.cfgOk _) mixed Tryz.func23 (by kernel_rfl) (by kernel_rfl) (by kernel_rfl) rfl (V23.obl _ _) ((V23.vc_eq _ _ a d f g i j _).symm ▸ h)
end Go.Proofs.YtidcpndlloppdaaGreatDoor

/-
  Layer 21: New, Trace; marks held against others; the document's example.
  Conditions: the program is right.
-/
set_option linter.unusedVariables false
set_option linter.unusedSimpArgs false
set_option maxRecDepth 20000
namespace Go.Proofs.YtidcpndlloppdaaGreatDoor
open Go.RowKit
abbrev N0 : Value := .slice none 0 0
theorem newM_at {w : World} {B g c n0 : Nat} {C : Option Addr} {p : List Fnc} {f : Int} (hg : w.heap[g]? = some (.cells ⟨headC (.slice C p.length c) N0 N0 (newM f)⟩ 106 (0, 0))) (hb : B ≤ g) (ha : Aside (fun w => ProgAt w C p.length p) (fun k => k < n0 ∨ k = g) w) : MachAt w B g C c p (newM f) N0 N0 [] :=
  ⟨hb, hg, ⟨World.ownsRow_nil _ _ _ _, World.ownsRow_nil _ _ _ _, trivial, trivial⟩, (ha.mono fun k hk => by
    rcases hk with hk | hk | hk | ⟨s, hs, _⟩
    · exact .inr hk
    · cases hk
    · cases hk
    · cases hs).poff⟩
def NewMQ (p : List Fnc) (f : Int) (w : World) : Value → World → Prop := fun v w' => ∃ g C c, v = .pointer (some ⟨g, 0, none⟩) ∧ w.heap.size ≤ g ∧ w'.heap[g]? = some (.cells ⟨headC (.slice C p.length c) N0 N0 (newM f)⟩ 106 (0, 0)) ∧
  Aside (fun w => ProgAt w C p.length p) (fun k => k < w.heap.size ∨ k = g) w'
theorem yields35 {w : World} {P : Option Addr} {cap : Nat} {p : List Fnc} (hp : ProgAt w P p.length p) (hr : Rt p) {f : Int} {fn : Fnc} (hf : fnAt p f = some fn) (h0 : fn.params = 0) : Yields Tryz.prog 35 [.agg ⟨[.slice P p.length cap]⟩, .int .i64 f] w (NewMQ p f w) := by
  refine yields_of (V35.sound ?_)
  intro q1 _
  obtain ⟨hfm, hf0, hpf, hfl⟩ := fnAt_mem hf
  refine call_gives (Below.refl _ _) (fun w1 _ hb => gives60 (hp.keep hb)) fun w1 e1 hw1 => ⟨_, _, _, rfl, ?_⟩
  rw [if_pos (by rw [hr.check]; rfl), if_pos (by simp; omega), if_pos (by simp; omega)]
  obtain ⟨f', a, C, c, hf', ha, c0, c1, c2, c3, hc⟩ := prog_at (hp.keep hw1) (i := f.toNat) (by omega)
  rw [hpf] at hf'; cases hf'
  refine ⟨a, ha, by omega, by omega, fn.params, c0, ?_⟩
  rw [if_neg (by simp [h0])]
  refine call_clone hw1.size (hp.keep hw1) hr.sized ⟨hr.few.1, by have := hr.few.2; omega⟩ fun C' c' w2 e2 hc2 => ⟨_, _, _, rfl, ?_⟩
  have hs1 := hw1.size
  have hs2 := e2.size
  refine expo_alloc (Nat.le_trans hs1 hs2) fun w3 w4 hs3 e4 hlt ho => ?_
  refine ret_q (e4.after (e2.after hw1)) fun w5 e5 => ⟨_, C', c', rfl, by omega, e5.row _ _ _ _ ho, newW w1.heap.size w2, hc2, fun q v hq => ?_⟩
  obtain ⟨k1, k2⟩ := newW_cell.1 hq
  have := cell_lt k1
  exact ⟨(e4.trans e5).cell k1, fun hs => by rcases hs with h | h <;> omega⟩
theorem call_newM {w0 w : World} {bs : List Nat} {P : Option Addr} {cap : Nat} {p : List Fnc} {f : Int} {fn : Fnc} {K : Value → World → Prop} (hB : w0.heap.size ≤ w.heap.size) (hp : ProgAt w P p.length p) (hr : Rt p) (hf : fnAt p f = some fn) (h0 : fn.params = 0)
    (hk : ∀ g C c w', w.heap.size ≤ g → MachAt w' w0.heap.size g C c p (newM f) N0 N0 [] → Aside (fun w => ProgAt w C p.length p) (fun k => k < w.heap.size ∨ k = g) w' → Ext w0.heap.size w w' → K (.pointer (some ⟨g, 0, none⟩)) w') :
    CallK Tryz.prog 35 [.agg ⟨[.slice P p.length cap]⟩, .int .i64 f] w0.heap.size w bs K := by
  refine call_yieldsX (Q := NewMQ p f) hB (fun w1 e1 => yields35 (RowAt.keep FncE.kept hp (ext_keeps e1)) hr hf h0) fun w1 v w2 w' hs hQ hnew he => ?_
  obtain ⟨g, C, c, rfl, hg, hcell, w3, h3, h4⟩ := hQ
  have hA : Aside (fun w => ProgAt w C p.length p) (fun k => k < w.heap.size ∨ k = g) w' := ⟨w3, h3, fun q v hq => by
    obtain ⟨k1, k2⟩ := h4 q v hq
    have hq' : w1.heap.size ≤ q.block := Nat.le_of_not_lt fun h => k2 (.inl h)
    exact ⟨(cell_same (hnew _ hq')).trans k1, fun hs' => by
      rcases hs' with h | h
      · omega
      · exact k2 (.inr h)⟩⟩
  exact hk g C c w' (by omega) (newM_at (by rw [hnew g hg]; exact hcell) (by omega) hA) hA he
theorem yields65 {w : World} {A : Option Addr} {l c : Nat} {xs : List Mk} (hx : Marks w A l xs) (hl : l ≤ 100000) : Yields Tryz.prog 65 [.slice A l c] w (fun v w' => OwnMs w' w.heap.size v xs) := by
  refine yields_of (V65.sound ?_)
  unfold V65.vc
  cases A with
  | none =>
    rw [if_pos (show (Option.isNone (none : Option Addr)) = true from rfl)]
    have hn : xs = [] := by
      cases xs with
      | nil => rfl
      | cons x r => obtain ⟨q, hq, _⟩ := hx.get 0 x rfl; cases hq
    subst hn
    exact ret_q (Below.refl _ _) fun w1 _ => OwnMs.nil _ _
  | some a =>
    rw [if_neg (by simp)]
    intro w2 e2 _
    obtain ⟨e3, ho3⟩ := alloc1 (.cells ⟨[]⟩ 41) e2 (Nat.le_refl _)
    have hs2 := e2.size
    have hl3 := lt_of_some ho3
    generalize w2.alloc (.cells ⟨[]⟩ 41) = w3 at *
    obtain rfl := hx.len
    refine append_marks (xs := []) (ys := xs) (b0 := w2.heap.size) (owns_empty ho3 (Nat.le_refl _)) (RowAt.keep MarkE.kept hx (ext_keeps e3)) (by simp; omega) e3.size (Nat.le_of_lt hl3) fun v w4 he ho' hn => ?_
    rw [List.nil_append] at ho'
    obtain ⟨A', c', hv⟩ := owns_slice0 ho'
    subst hv
    refine ⟨A', _, c', rfl, ?_⟩
    exact ret_q (he.after (fun j hj => by cases hj; exact hs2) (e3.after (Below.refl _ _))) fun w5 e5 => owns_down (e5.owns ho') hs2
section
variable {w : World} {B g : Nat} {C : Option Addr} {c : Nat} {p : List Fnc} {m : Mach} {F T : Value} {ss : List Sl}
theorem marks_of {w : World} {B : Nat} {A : Option Addr} {n cap : Nat} {xs : List Mk} (h : OwnMs w B (.slice A n cap) xs) (hl : xs.length ≤ 100000) : n = xs.length ∧ Marks (newW B w) A n xs ∧ n ≤ cap := by
  obtain ⟨A', c', hv, hm⟩ := h.marks (by omega)
  cases hv
  exact ⟨rfl, hm, (owns_cut h (Nat.le_refl _)).2⟩
theorem marks_own {w : World} {B : Nat} {A : Option Addr} {n cap : Nat} {xs : List Mk} (h : OwnMs w B (.slice A n cap) xs) (hl : xs.length ≤ 100000) : Marks w A n xs := RowAt.keep MarkE.kept (marks_of h hl).2.1 fun q v hq => (newW_cell.1 hq).1
theorem yields39 (h : MachAt w B g C c p m F T ss) (hl : m.trace.length ≤ 100000) : Yields Tryz.prog 39 [.pointer (some ⟨g, 0, none⟩)] w (fun v w' => OwnMs w' w.heap.size v m.trace) := by
  refine yields_of (V39.sound ?_)
  unfold V39.vc
  obtain ⟨A, cap, hT⟩ := owns_slice0 h.pcs.trace
  subst hT
  have hm := marks_own h.pcs.trace hl
  simp only [own_add]
  refine ⟨A, _, cap, h.cell (i := 7) rfl, ?_⟩
  refine call_yieldsX (Q := fun w1 v w2 => OwnMs w2 w1.heap.size v m.trace) (Nat.le_refl _) (fun w1 e1 => yields65 (RowAt.keep MarkE.kept hm (ext_keeps e1)) hl) fun w1 v w2 w' hs hQ hnew he => ?_
  obtain ⟨A', c', hv⟩ := owns_slice0 hQ
  subst hv
  refine ⟨A', _, c', rfl, ret_q (he.after (Below.refl _ _)) fun w3 e3 => ?_⟩
  exact e3.owns (owns_down (owns_other hQ fun j hj => hnew j (hQ.lt j hj).1) hs)
end
section
variable {w0 : World} {A A' : Option Addr} {l c l' c' : Nat} {xs ys : List Mk} (hx : Marks w0 A l xs) (hy : Marks w0 A' l' ys)
include hx hy
theorem l0_23 (hle : l ≤ l') (w : World) (hw : Below w0.heap.size w0 w) :
    ∀ (k i : Nat), l < i + k → i ≤ l → (∀ j, j < i → xs[j]? = ys[j]?) → V23.l0 w0.heap.size (IsV w0 (.bool (eqMs xs (ys.take l)))) k A l c A' l' c' (i : Int) w
  | 0, i, hk, hi, _ => by omega
  | k + 1, i, hk, hi, hall => by
    dsimp -zeta only [V23.l0]
    by_cases h : i < l
    · rw [if_pos (by simpa using h)]
      obtain ⟨m, p, hm, hp, c0, c1⟩ := Marks.cells (RowAt.keep MarkE.kept hx (below_keeps hw)) h
      obtain ⟨n, q, hn, hq, d0, d1⟩ := Marks.cells (RowAt.keep MarkE.kept hy (below_keeps hw)) (show i < l' by omega)
      refine ⟨p, hp, by omega, by omega, _, c0, _, c1, q, hq, by omega, by omega, _, d0, _, d1, ?_⟩
      by_cases hnm : m = n
      · subst hnm
        rw [if_neg (by simp), wrap_succ h hx.small]
        refine l0_23 hle w hw k (i + 1) (by omega) (by omega) fun j hj => ?_
        rcases Nat.lt_succ_iff_lt_or_eq.1 hj with h1 | h1
        · exact hall j h1
        · subst h1; rw [hm, hn]
      · have hb : ((m.k == n.k) && ((m.w : Int) == (n.w : Int))) = false := by
          cases hq : ((m.k == n.k) && ((m.w : Int) == (n.w : Int))) with
          | false => rfl
          | true =>
            simp at hq
            obtain ⟨q1, q2⟩ := hq
            exact absurd (by cases m; cases n; simp only [Mk.mk.injEq] at *; exact ⟨q1, by omega⟩) hnm
        rw [hb, if_pos (by decide)]
        refine ret_is hw ?_
        have : xs ≠ ys.take l := fun e => by
          rw [e, List.getElem?_take, if_pos h, hn] at hm; cases hm; exact hnm rfl
        cases he : eqMs xs (ys.take l) with
        | false => rfl
        | true => exact absurd ((eqMs_iff _ _).1 he) this
    · rw [if_neg (by simpa using h)]
      refine ret_is hw ?_
      have : xs = ys.take l := by
        apply List.ext_getElem?
        intro j
        rw [List.getElem?_take]
        by_cases hj : j < i
        · rw [if_pos (by omega)]; exact hall j hj
        · rw [if_neg (by omega), List.getElem?_eq_none (by have := hx.len; omega)]
      rw [(eqMs_iff _ _).2 this]
theorem gives23 : Gives Tryz.prog 23 [.slice A l c, .slice A' l' c'] w0 (.bool (begM xs ys)) := by
  refine gives_of (V23.sound ?_)
  unfold V23.vc begM
  rw [hx.len, hy.len]
  by_cases h : l ≤ l'
  · rw [if_neg (by simp; omega), decide_eq_true h, Bool.true_and]
    exact ⟨l + 1, l0_23 hx hy h w0 (Below.refl _ _) (l + 1) 0 (by omega) (by omega) fun j hj => by omega⟩
  · rw [if_pos (by simp; omega), decide_eq_false h]
    exact ret_is (Below.refl _ _) rfl
theorem gives10 : Gives Tryz.prog 10 [.slice A l c, .slice A' l' c'] w0 (.bool (eqMs xs ys)) := by
  refine gives_of (V10.sound ?_)
  unfold V10.vc
  by_cases h : l = l'
  · subst h
    rw [if_pos (by simp)]
    refine call_gives (Below.refl _ _) (fun w1 e1 _ => gives23 (RowAt.keep MarkE.kept hx (ext_keeps e1)) (RowAt.keep MarkE.kept hy (ext_keeps e1))) fun w1 _ h1 => ⟨_, rfl, ret_is h1 ?_⟩
    unfold begM
    rw [hx.len, hy.len, decide_eq_true (Nat.le_refl _), Bool.true_and, ← hy.len, List.take_length]
  · rw [if_neg (by simp; omega)]
    refine ret_is (Below.refl _ _) ?_
    cases he : eqMs xs ys with
    | false => rfl
    | true => exact absurd (by rw [← hx.len, ← hy.len, (eqMs_iff _ _).1 he]) h
end
end Go.Proofs.YtidcpndlloppdaaGreatDoor

/-
  Layer 21: played; AbsmTrace's function returns true.
  Conditions: the arguments' memory says what their values are.
-/
set_option linter.unusedVariables false
set_option linter.unusedSimpArgs false
set_option maxRecDepth 20000
namespace Go.Proofs.YtidcpndlloppdaaGreatDoor
open Go.RowKit
structure Own (w : World) (n0 : Nat) (B g : Nat) (C : Option Addr) (c : Nat) (p : List Fnc) (m : Mach) (F T : Value) (ss : List Sl) : Prop where
  mach : MachAt w B g C c p m F T ss
  foot : ∀ k, Foot g F T ss k → n0 ≤ k
  prog : Aside (fun w => ProgAt w C p.length p) (fun k => k < n0 ∨ Foot g F T ss k) w
section
variable {w w' : World} {n0 B g : Nat} {C : Option Addr} {c : Nat} {p : List Fnc} {m m' : Mach} {F T : Value} {ss : List Sl}
theorem call_newO {w0 w : World} {bs : List Nat} {P : Option Addr} {cap : Nat} {p : List Fnc} {f : Int} {fn : Fnc} {K : Value → World → Prop} (hB : w0.heap.size ≤ w.heap.size) (hp : ProgAt w P p.length p) (hr : Rt p) (hf : fnAt p f = some fn) (h0 : fn.params = 0)
    (hk : ∀ g C c w', Own w' w.heap.size w0.heap.size g C c p (newM f) N0 N0 [] → Ext w0.heap.size w w' → K (.pointer (some ⟨g, 0, none⟩)) w') :
    CallK Tryz.prog 35 [.agg ⟨[.slice P p.length cap]⟩, .int .i64 f] w0.heap.size w bs K :=
  call_newM hB hp hr hf h0 fun g C c w' hg h ha he => hk g C c w' ⟨h, fun k hk => (by
    rcases hk with hk | hk | hk | ⟨s, hs, _⟩
    · omega
    · cases hk
    · cases hk
    · cases hs), ha.mono fun k hk => (by
    rcases hk with hk | hk | hk | hk | ⟨s, hs, _⟩
    · exact .inl hk
    · exact .inr hk
    · cases hk
    · cases hk
    · cases hs)⟩ he
end
section
variable {p : List Fnc} {fn : Fnc} (hr : Rt p) (hf : fnAt p 0 = some fn) (h0 : fn.params = 0)
include hr hf h0
end
end Go.Proofs.YtidcpndlloppdaaGreatDoor
