import Derived.Test.YtidcpndlloppdaaGreatDoorZM29
import Derived.Test.YtidcpndlloppdaaGreatDoorZFF
/-
  Layer 2: the lesser and the greater one, ranks, comparisons: what calls return.
  Conditions: none.
-/
set_option linter.unusedVariables false
set_option linter.unusedSimpArgs false
namespace Go.Proofs.YtidcpndlloppdaaGreatDoor
open Go.RowKit Ieee
def mnF (a b : Nat) : Nat := if nanw a = true ∨ nanw b = true then NO else if rk b < rk a then b else a
def mxF (a b : Nat) : Nat := if nanw a = true ∨ nanw b = true then NO else if rk a < rk b then b else a
theorem cn_id {a : Nat} (h : ¬ nanw a = true) : cn a = a := by unfold cn; rw [if_neg h]
section
variable {w : World}
theorem gives142 (a b : Nat) : Gives Tryz.prog 142 [.float .f64 a, .float .f64 b] w (.float .f64 (pickN true .lt a b)) := by
  refine gives_of (V142.sound ?_)
  unfold V142.vc
  exact run_lone (Nat.le_refl _) (lone_min _ _) fun v w' he hv => ⟨_, hv, ret_is he.below rfl⟩
theorem gives143 (a b : Nat) : Gives Tryz.prog 143 [.float .f64 a, .float .f64 b] w (.float .f64 (pickN false .gt a b)) := by
  refine gives_of (V143.sound ?_)
  unfold V143.vc
  exact run_lone (Nat.le_refl _) (lone_max _ _) fun v w' he hv => ⟨_, hv, ret_is he.below rfl⟩
theorem ext_vc {g : Nat} {f : Nat → Nat → Nat} {F : Nat → Nat → Nat} (hg : ∀ (a b : Nat) (w : World), Gives Tryz.prog g [.float .f64 a, .float .f64 b] w (.float .f64 (f a b))) {a b : Nat}
    (hF : (nanw a = true ∨ nanw b = true → F a b = NO) ∧ (¬ nanw a = true → ¬ nanw b = true → cn (f a b) = F a b)) :
    CallK Tryz.prog 51 [.int .u64 (a : Int)] w.heap.size w [] fun v w_1 => ∃ x10 : Nat, v = .float .f64 x10 ∧ CallK Tryz.prog 51 [.int .u64 (b : Int)] w.heap.size w_1 [] fun v_1 w_2 => ∃ x12 : Nat, v_1 = .float .f64 x12 ∧
      CallK Tryz.prog 52 [.float .f64 x10] w.heap.size w_2 [] fun v_2 w_3 => ∃ b14 : Bool, v_2 = .bool b14 ∧
      if b14 = false
      then (CallK Tryz.prog 52 [.float .f64 x12] w.heap.size w_3 [] fun v_3 w_4 => ∃ b17 : Bool, v_3 = .bool b17 ∧
        if b17 = true
        then (Ret w.heap.size w_4 (IsV w (.int .u64 (F a b : Nat)) (.int .u64 9221120237041090560)))
        else (CallK Tryz.prog g [.float .f64 x10, .float .f64 x12] w.heap.size w_4 [] fun v_4 w_5 => ∃ x22 : Nat, v_4 = .float .f64 x22 ∧
          CallK Tryz.prog 34 [.float .f64 x22] w.heap.size w_5 [] fun v_5 w_6 => ∃ x23 : Int, v_5 = .int .u64 x23 ∧ Ret w.heap.size w_6 (IsV w (.int .u64 (F a b : Nat)) (.int .u64 x23))))
      else (Ret w.heap.size w_3 (IsV w (.int .u64 (F a b : Nat)) (.int .u64 9221120237041090560))) := by
  refine call_gives (Below.refl _ _) (fun _ _ _ => gives51 a) fun w1 _ h1 => ⟨_, rfl, ?_⟩
  refine call_gives h1 (fun _ _ _ => gives51 b) fun w2 _ h2 => ⟨_, rfl, ?_⟩
  refine call_gives h2 (fun _ _ _ => gives52 a) fun w3 _ h3 => ⟨_, rfl, ?_⟩
  split
  · rename_i na
    refine call_gives h3 (fun _ _ _ => gives52 b) fun w4 _ h4 => ⟨_, rfl, ?_⟩
    split
    · rename_i nb
      exact ret_is h4 (by rw [hF.1 (.inr nb)]; rfl)
    · rename_i nb
      refine call_gives h4 (fun _ _ _ => hg a b _) fun w5 _ h5 => ⟨_, rfl, ?_⟩
      refine call_gives h5 (fun _ _ _ => gives34 _) fun w6 _ h6 => ⟨_, rfl, ret_is h6 ?_⟩
      rw [hF.2 (by rw [na]; decide) nb]
  · rename_i na
    exact ret_is h3 (by rw [hF.1 (.inl (by simpa using na))]; rfl)
theorem gives128 {a b : Nat} (ha : a < 2 * SW) (hb : b < 2 * SW) : Gives Tryz.prog 128 [.int .u64 (a : Int), .int .u64 (b : Int)] w (.int .u64 (mnF a b : Nat)) := by
  refine gives_of (V128.sound ?_)
  unfold V128.vc
  refine call_gives (v := .int .u64 (mnF a b : Nat)) (Below.refl _ _) (fun w1 _ _ => gives_of (V141a.sound (ext_vc (g := 142) (f := pickN true .lt) (F := mnF) (fun a b _ => gives142 a b) ⟨fun h => by unfold mnF; rw [if_pos h], fun na nb => ?_⟩))) fun w1 _ h1 => ⟨_, rfl, ret_is h1 rfl⟩
  rw [min_law ha hb (by simpa using na) (by simpa using nb)]
  have e : mnF a b = if rk b < rk a then b else a := by unfold mnF; rw [if_neg (fun h => by rcases h with h | h; exact na h; exact nb h)]
  rw [e]
  split
  · exact cn_id nb
  · exact cn_id na
theorem gives129 {a b : Nat} (ha : a < 2 * SW) (hb : b < 2 * SW) : Gives Tryz.prog 129 [.int .u64 (a : Int), .int .u64 (b : Int)] w (.int .u64 (mxF a b : Nat)) := by
  refine gives_of (V129.sound ?_)
  unfold V129.vc
  refine call_gives (v := .int .u64 (mxF a b : Nat)) (Below.refl _ _) (fun w1 _ _ => gives_of (V141b.sound (ext_vc (g := 143) (f := pickN false .gt) (F := mxF) (fun a b _ => gives143 a b) ⟨fun h => by unfold mxF; rw [if_pos h], fun na nb => ?_⟩))) fun w1 _ h1 => ⟨_, rfl, ret_is h1 rfl⟩
  rw [max_law ha hb (by simpa using na) (by simpa using nb)]
  have e : mxF a b = if rk a < rk b then b else a := by unfold mxF; rw [if_neg (fun h => by rcases h with h | h; exact na h; exact nb h)]
  rw [e]
  split
  · exact cn_id nb
  · exact cn_id na
theorem rk_int {a : Nat} (h : a < 2 * SW) : (ngw a = true → ((2 * SW - 1 - a : Nat) : Int) = (rk a : Nat)) ∧ (ngw a = false → ((SW + a : Nat) : Int) = (rk a : Nat)) := by
  have := (rk_bits h).1
  constructor
  · intro hn; rw [hn] at this; simp only [if_true] at this; rw [this]
  · intro hn; rw [hn] at this; simp only [Bool.false_eq_true, if_false] at this; rw [this]
theorem b_shr (a : Nat) (h : a < 2 * SW) : (Int.fdiv (a : Int) (2 ^ min 63 64) == 1) = ngw a := by
  have e : Int.fdiv (a : Int) (2 ^ min 63 64) = ((a / SW : Nat) : Int) := by
    have : ((2 : Int) ^ min 63 64) = ((SW : Nat) : Int) := by decide
    rw [this, Int.fdiv_eq_ediv_of_nonneg _ (by omega)]; rfl
  rw [e]
  have h2 : a / SW < 2 := (Nat.div_lt_iff_lt_mul (by decide)).2 h
  unfold ngw
  rcases (fun q (h : q < 2) => (by omega : q = 0 ∨ q = 1) : ∀ q : Nat, q < 2 → q = 0 ∨ q = 1) _ h2 with e | e <;> rw [e] <;> rfl
theorem gives135 {a : Nat} (h : a < 2 * SW) : Gives Tryz.prog 135 [.int .u64 (a : Int)] w (.int .u64 (rk a : Nat)) := by
  refine gives_of (V135.sound ?_)
  unfold V135.vc
  refine ⟨by decide, ?_⟩
  rw [b_shr a h, b_not h]
  cases hn : ngw a
  · rw [if_neg (by decide), b_or h hn]
    exact ret_is (Below.refl _ _) (by rw [(rk_int h).2 hn])
  · rw [if_pos rfl]
    exact ret_is (Below.refl _ _) (by rw [(rk_int h).1 hn])
theorem gives108 {a b : Nat} (ha : a < 2 * SW) (hb : b < 2 * SW) : Gives Tryz.prog 108 [.int .u64 (a : Int), .int .u64 (b : Int)] w (.int .u64 (mnF a b : Nat)) := by
  refine gives_of (V108.sound ?_)
  unfold V108.vc
  refine call_gives (Below.refl _ _) (fun _ _ _ => gives101 ha) fun w1 _ h1 => ⟨_, rfl, ?_⟩
  split
  · rename_i na
    refine call_gives h1 (fun _ _ _ => gives101 hb) fun w2 _ h2 => ⟨_, rfl, ?_⟩
    split
    · rename_i nb
      exact ret_is h2 (by unfold mnF; rw [if_pos (.inr nb)]; rfl)
    · rename_i nb
      refine call_gives h2 (fun _ _ _ => gives135 hb) fun w3 _ h3 => ⟨_, rfl, ?_⟩
      refine call_gives h3 (fun _ _ _ => gives135 ha) fun w4 _ h4 => ⟨_, rfl, ?_⟩
      have e : mnF a b = if rk b < rk a then b else a := by unfold mnF; rw [if_neg (fun h => by rcases h with h | h; rw [na] at h; cases h; exact nb h)]
      rw [e]
      by_cases hr : rk b < rk a
      · rw [if_pos (by simpa using hr), if_pos hr]; exact ret_is h4 rfl
      · rw [if_neg (by simpa using hr), if_neg hr]; exact ret_is h4 rfl
  · rename_i na
    exact ret_is h1 (by unfold mnF; rw [if_pos (.inl (by simpa using na))]; rfl)
theorem gives109 {a b : Nat} (ha : a < 2 * SW) (hb : b < 2 * SW) : Gives Tryz.prog 109 [.int .u64 (a : Int), .int .u64 (b : Int)] w (.int .u64 (mxF a b : Nat)) := by
  refine gives_of (V109.sound ?_)
  unfold V109.vc
  refine call_gives (Below.refl _ _) (fun _ _ _ => gives101 ha) fun w1 _ h1 => ⟨_, rfl, ?_⟩
  split
  · rename_i na
    refine call_gives h1 (fun _ _ _ => gives101 hb) fun w2 _ h2 => ⟨_, rfl, ?_⟩
    split
    · rename_i nb
      exact ret_is h2 (by unfold mxF; rw [if_pos (.inr nb)]; rfl)
    · rename_i nb
      refine call_gives h2 (fun _ _ _ => gives135 hb) fun w3 _ h3 => ⟨_, rfl, ?_⟩
      refine call_gives h3 (fun _ _ _ => gives135 ha) fun w4 _ h4 => ⟨_, rfl, ?_⟩
      have e : mxF a b = if rk a < rk b then b else a := by unfold mxF; rw [if_neg (fun h => by rcases h with h | h; rw [na] at h; cases h; exact nb h)]
      rw [e]
      by_cases hr : rk a < rk b
      · rw [if_pos (by simpa using hr), if_pos hr]; exact ret_is h4 rfl
      · rw [if_neg (by simpa using hr), if_neg hr]; exact ret_is h4 rfl
  · rename_i na
    exact ret_is h1 (by unfold mxF; rw [if_pos (.inl (by simpa using na))]; rfl)
def ltF (a b : Nat) : Bool := double.order a b == some .lt
def eqF (a b : Nat) : Bool := double.order a b == some .eq
theorem cmp_vc {f : Nat} (hf : ∀ (a : Nat) (w : World), Gives Tryz.prog f [.int .u64 (a : Int)] w (.float .f64 a)) (a b : Nat) (F : Nat → Nat → Bool) :
    CallK Tryz.prog f [.int .u64 (a : Int)] w.heap.size w [] fun v w_1 => ∃ x6 : Nat, v = .float .f64 x6 ∧ CallK Tryz.prog f [.int .u64 (b : Int)] w.heap.size w_1 [] fun v_1 w_2 => ∃ x8 : Nat, v_1 = .float .f64 x8 ∧
      Ret w.heap.size w_2 (IsV w (.bool (F a b)) (.bool (F x6 x8))) := by
  refine call_gives (Below.refl _ _) (fun _ _ _ => hf a _) fun w1 _ h1 => ⟨_, rfl, ?_⟩
  refine call_gives h1 (fun _ _ _ => hf b _) fun w2 _ h2 => ⟨_, rfl, ret_is h2 rfl⟩
theorem gives131 (a b : Nat) : Gives Tryz.prog 131 [.int .u64 (a : Int), .int .u64 (b : Int)] w (.bool (ltF a b)) := gives_of (V131.sound (cmp_vc (fun a _ => gives51 a) a b ltF))
theorem gives132 (a b : Nat) : Gives Tryz.prog 132 [.int .u64 (a : Int), .int .u64 (b : Int)] w (.bool (eqF a b)) := gives_of (V132.sound (cmp_vc (fun a _ => gives51 a) a b eqF))
theorem gives110 (a b : Nat) : Gives Tryz.prog 110 [.int .u64 (a : Int), .int .u64 (b : Int)] w (.bool (ltF a b)) := gives_of (V110.sound (cmp_vc (fun a _ => gives103 a) a b ltF))
theorem gives111 (a b : Nat) : Gives Tryz.prog 111 [.int .u64 (a : Int), .int .u64 (b : Int)] w (.bool (eqF a b)) := gives_of (V111.sound (cmp_vc (fun a _ => gives103 a) a b eqF))
def trF (a : Nat) : Bool := decide (rg a ≠ 0)
theorem eq_zero (a : Nat) : (double.order a 0 == some Ordering.eq) = decide (rg a = 0) := by
  rw [eq_order]
  have h0 : nanw 0 = false := by decide
  have h1 : sr 0 = 0 := by decide
  rw [h0, h1]
  by_cases h : nanw a = true
  · rw [h]
    have : ¬ rg a = 0 := by unfold nanw IR at h; simp at h; omega
    simp [this]
  · have h : nanw a = false := by simpa using h
    rw [h]
    simp only [Bool.not_false, Bool.true_and]
    refine decide_eq_decide.2 ?_
    unfold sr sgn
    split <;> omega
theorem gives96 (a : Nat) : Gives Tryz.prog 96 [.int .u64 (a : Int)] w (.bool (trF a)) := by
  refine gives_of (V96.sound ?_)
  unfold V96.vc
  refine call_gives (Below.refl _ _) (fun _ _ _ => gives51 a) fun w1 _ h1 => ⟨_, rfl, ret_is h1 (congrArg Value.bool ?_)⟩
  show (!(double.order a 0 == some Ordering.eq)) = _
  rw [eq_zero]; unfold trF
  by_cases h : rg a = 0 <;> simp [h]
theorem gives71 {a : Nat} (h : a < 2 * SW) : Gives Tryz.prog 71 [.int .u64 (a : Int)] w (.bool (trF a)) := by
  refine gives_of (V71.sound ?_)
  unfold V71.vc
  refine ⟨by decide, ret_is (Below.refl _ _) (congrArg Value.bool ?_)⟩
  have e : ∀ m : Int, IntKind.wrap .u64 m = m % 18446744073709551616 := fun m => by simp [IntKind.wrap, IntKind.bits, IntKind.signed]
  rw [e]
  have h1 : ((2 : Int) ^ min 1 64) = 2 := by decide
  rw [h1]
  unfold trF rg
  unfold SW at *
  by_cases hz : a % 9223372036854775808 = 0
  · have : (a : Int) * 2 % 18446744073709551616 = 0 := by omega
    rw [this]; simp [hz]
  · have : ¬ (a : Int) * 2 % 18446744073709551616 = 0 := by omega
    simp [hz, this]
theorem gives70 {a : Nat} (h : a < 2 * SW) : Gives Tryz.prog 70 [.int .u64 (a : Int)] w (.int .u64 (flF a : Nat)) := by
  refine gives_of (V70.sound ?_)
  unfold V70.vc
  refine call_gives (Below.refl _ _) (fun _ _ _ => gives101 h) fun w0 _ h0 => ⟨_, rfl, ?_⟩
  split
  · rename_i na
    exact ret_is h0 (by unfold flF; rw [if_pos na]; rfl)
  · refine call_gives h0 (fun _ _ _ => gives103 a) fun w1 _ h1 => ⟨_, rfl, ?_⟩
    refine call_yieldsX h1.size (fun _ _ => yields102 h) fun w2 v wx w3 _ ⟨r, hv, hr⟩ _ he => ⟨r, hv, ?_⟩
    refine call_gives (he.after h1) (fun _ _ _ => gives100 r) fun w4 _ h4 => ⟨_, rfl, ret_is h4 ?_⟩
    rw [hr]
end
end Go.Proofs.YtidcpndlloppdaaGreatDoor

/-
 What the engine makes of the loaded functions 32, 58, 139, 140, 146: conditions under which a call returns as told, and proofs of that.
 Conditions: none. Printed by a program of this project.
-/
set_option linter.unusedVariables false
set_option maxRecDepth 100000
namespace Go.Proofs.YtidcpndlloppdaaGreatDoor
def V32.l2 (B : Nat) (R : Value → World → Prop) : Nat → ByteArray → World → Prop
 | 0 => fun _ _ => False
 | k + 1 => fun a w =>
 if (decide (((a.size : Nat) : Int) < 16)) = true
 then (({ data := #[48] } : ByteArray).size + a.size ≤ 9223372036854775807 ∧ (V32.l2 B R k) (({ data := #[48] } : ByteArray) ++ a) w)
 else (({ data := #[48, 120] } : ByteArray).size + a.size ≤ 9223372036854775807 ∧
 Ret B w (R (.string (({ data := #[48, 120] } : ByteArray) ++ a))))
def V32.b1 (B : Nat) (R : Value → World → Prop) (a : Int) (w : World) : Prop :=
 CallK Tryz.prog 58 [.int .u64 a, .int .i64 16] B w [] fun v c => 
 ∃ d : ByteArray, v = .string d ∧
 ∃ f, V32.l2 B R f d c
def V32.b0 (B : Nat) (R : Value → World → Prop) (a : Int) (c : Nat) (d : Bool) (w : World) : Prop :=
 if d = true
 then (Ret B w (R (.string ({ data := #[45, 48] } : ByteArray))))
 else (CallK Tryz.prog 55 [.float .f64 c] B w [] fun v f => 
 ∃ g : Nat, v = .float .f64 g ∧
 if (FloatKind.f64.format.order c g == some .eq) = true
 then (CallK Tryz.prog 56 [.float .f64 c] B f [] fun i j => 
 ∃ l : Nat, i = .float .f64 l ∧
 if (FloatKind.f64.format.order l 4845873199050653696 == some .lt) = true
 then (RunK Tryz.prog (Go.convert 82 3 (.float .f64 c)) B j [] fun m n => 
 ∃ o : Int, m = .int .i64 o ∧
 CallK Tryz.prog 57 [.int .i64 o] B n [] fun p q => 
 ∃ r : ByteArray, p = .string r ∧
 Ret B q (R (.string r)))
 else (V32.b1 B R a j))
 else (V32.b1 B R a f))
def V32.vc (B : Nat) (R : Value → World → Prop) (a : Int) (w : World) : Prop :=
 CallK Tryz.prog 51 [.int .u64 a] B w [] fun v c => 
 ∃ d : Nat, v = .float .f64 d ∧
 CallK Tryz.prog 52 [.float .f64 d] B c [] fun f g => 
 ∃ i : Bool, f = .bool i ∧
 if i = true
 then (Ret B g (R (.string ({ data := #[110, 97, 110] } : ByteArray))))
 else (CallK Tryz.prog 53 [.float .f64 d, .int .i64 1] B g [] fun j l => 
 ∃ m : Bool, j = .bool m ∧
 if m = true
 then (Ret B l (R (.string ({ data := #[105, 110, 102] } : ByteArray))))
 else (CallK Tryz.prog 53 [.float .f64 d, .int .i64 (-1)] B l [] fun n o => 
 ∃ p : Bool, n = .bool p ∧
 if p = true
 then (Ret B o (R (.string ({ data := #[45, 105, 110, 102] } : ByteArray))))
 else (if (FloatKind.f64.format.order d 0 == some .eq) = true
 then (CallK Tryz.prog 54 [.float .f64 d] B o [] fun q r => 
 ∃ s : Bool, q = .bool s ∧
 V32.b0 B R a d s r)
 else (V32.b0 B R a d false o))))
noncomputable def V32.cfg (B : Nat) : Cfg := ⟨Tryz.prog, ⟨45, B⟩, [], hasN [51, 52, 53, 54, 55, 56, 57, 58], hasN [], look []⟩
noncomputable def V32.code : Code := (Tryz.f32.body).getD .skip
noncomputable def V32.cuts (B : Nat) (R : Value → World → Prop) : Nat → Cut := nthC [⟨[(0, .one (.int .u64)), (3, .one (.float .f64)), (16, .one (.bool))], [], fun fs vs bs w => V32.b0 B R (iV (nthV vs 0)) (fV (nthV vs 1)) (bV (nthV vs 2)) w⟩,
 ⟨[(0, .one (.int .u64))], [], fun fs vs bs w => V32.b1 B R (iV (nthV vs 0)) w⟩,
 ⟨[(4, .one (.str))], [], fun fs vs bs w => V32.l2 B R (nthN fs 0) (sV (nthV vs 0)) w⟩]
noncomputable def V32.h : H := .s (.z) (.s (.z) (.cut 1 (.b (.s (.z) (.c (.s (.z) (.z)) (.s (.z) (.c (.s (.z) (.z)) (.s (.z) (.c (.s (.z) (.z)) (.cut 0 (.z) (.c (.s (.z) (.z)) (.s (.z) (.c (.s (.z) (.z)) (.z)))))))))))) (.s (.z) (.s (.b (.l 2 (.s (.s (.z) (.c (.z) (.z))) (.b (.z))))) (.s (.z) (.z))))))
theorem V32.vc_eq (B : Nat) (R : Value → World → Prop) (a : Int) (w : World) : wpf (V32.cfg B) (V32.cuts B R) V32.code V32.h [] (postOf Tryz.prog B (Tryz.f32.results.toList) R) (argE 0 [.int .u64 a]) [] w = V32.vc B R a w := by kernel_rfl
theorem V32.obl (B : Nat) (R : Value → World → Prop) : oblP (V32.cfg B) (V32.cuts B R) V32.code V32.h [] (postOf Tryz.prog B (Tryz.f32.results.toList) R) := by
 have e : oblP (V32.cfg B) (V32.cuts B R) V32.code V32.h [] (postOf Tryz.prog B (Tryz.f32.results.toList) R) = (True ∧ (True ∧ ((True ∧ ((True ∧ True) ∧ (True ∧ ((True ∧ True) ∧ (True ∧ ((True ∧ True) ∧ (True ∧ (∀ (a : Int) (c : Nat) (d : Bool) (w : World), V32.b0 B R a c d w → V32.b0 B R a c d w) ∧ ((True ∧ True) ∧ (True ∧ ((True ∧ True) ∧ True)))))))))) ∧ (∀ (a : Int) (w : World), V32.b1 B R a w → V32.b1 B R a w) ∧ (True ∧ (((∀ (f : ByteArray) (w : World), ¬ V32.l2 B R 0 f w) ∧ (∀ g, ∀ (f : ByteArray) (w : World), V32.l2 B R (g + 1) f w → V32.l2 B R (g + 1) f w) ∧ ∀ g : Nat, ((True ∧ (True ∧ True)) ∧ True)) ∧ (True ∧ True)))))) := by kernel_rfl
 exact e.mpr (⟨trivial, ⟨trivial, ⟨⟨trivial, ⟨⟨trivial, trivial⟩, ⟨trivial, ⟨⟨trivial, trivial⟩, ⟨trivial, ⟨⟨trivial, trivial⟩, ⟨trivial, fun a c d w h => h, ⟨⟨trivial, trivial⟩, ⟨trivial, ⟨⟨trivial, trivial⟩, trivial⟩⟩⟩⟩⟩⟩⟩⟩⟩⟩, fun a w h => h, ⟨trivial, ⟨⟨fun f w h => h, fun _ f w h => h, fun g => ⟨⟨trivial, ⟨trivial, trivial⟩⟩, trivial⟩⟩, ⟨trivial, trivial⟩⟩⟩⟩⟩⟩)
theorem V32.cfgOk (B : Nat) : CfgOk (V32.cfg B) := cfgOk_of (by kernel_rfl) (by kernel_rfl) extNil
theorem V32.sound {a : Int} {w : World} {R : Value → World → Prop} (h : V32.vc w.heap.size R a w) : Calls Tryz.prog 32 ⟨[.int .u64 a]⟩ w fun e w' => ∃ v, e = .returned v ∧ R v w' :=
 calls_wpfP (c := V32.cfg w.heap.size) (fn := Tryz.f32) (x := V32.code) (V32.cuts w.heap.size R) V32.h (V32.cfgOk _) mixed Tryz.func32 (by kernel_rfl) (by kernel_rfl) (by kernel_rfl) rfl (V32.obl _ _) ((V32.vc_eq _ _ a _).symm ▸ h)
def V58.vc (B : Nat) (R : Value → World → Prop) (a c : Int) (w : World) : Prop :=
 CallK Tryz.prog 81 [.int .u64 a, .int .i64 c] B w [] fun v d => 
 ∃ f : ByteArray, v = .string f ∧
 Ret B d (R (.string f))
noncomputable def V58.cfg (B : Nat) : Cfg := ⟨Tryz.prog, ⟨8, B⟩, [], hasN [81], hasN [], look []⟩
noncomputable def V58.code : Code := (Tryz.f58.body).getD .skip
noncomputable def V58.cuts (B : Nat) (R : Value → World → Prop) : Nat → Cut := nthC []
noncomputable def V58.h : H := .s (.z) (.s (.z) (.z))
theorem V58.vc_eq (B : Nat) (R : Value → World → Prop) (a c : Int) (w : World) : wpf (V58.cfg B) (V58.cuts B R) V58.code V58.h [] (postOf Tryz.prog B (Tryz.f58.results.toList) R) (argE 0 [.int .u64 a, .int .i64 c]) [] w = V58.vc B R a c w := by kernel_rfl
theorem V58.obl (B : Nat) (R : Value → World → Prop) : oblP (V58.cfg B) (V58.cuts B R) V58.code V58.h [] (postOf Tryz.prog B (Tryz.f58.results.toList) R) := by
 have e : oblP (V58.cfg B) (V58.cuts B R) V58.code V58.h [] (postOf Tryz.prog B (Tryz.f58.results.toList) R) = (True ∧ (True ∧ True)) := by kernel_rfl
 exact e.mpr (⟨trivial, ⟨trivial, trivial⟩⟩)
theorem V58.cfgOk (B : Nat) : CfgOk (V58.cfg B) := cfgOk_of (by kernel_rfl) (by kernel_rfl) extNil
theorem V58.sound {a d : Int} {w : World} {R : Value → World → Prop} (h : V58.vc w.heap.size R a d w) : Calls Tryz.prog 58 ⟨[.int .u64 a, .int .i64 d]⟩ w fun e w' => ∃ v, e = .returned v ∧ R v w' :=
 calls_wpfP (c := V58.cfg w.heap.size) (fn := Tryz.f58) (x := V58.code) (V58.cuts w.heap.size R) V58.h (V58.cfgOk _) mixed Tryz.func58 (by kernel_rfl) (by kernel_rfl) (by kernel_rfl) rfl (V58.obl _ _) ((V58.vc_eq _ _ a d _).symm ▸ h)
def V139.vc (B : Nat) (R : Value → World → Prop) (a : Int) (w : World) : Prop :=
 Ret B w (R (.bool (IntKind.wrap .i64 (((BitVec.ofInt 64 a &&& BitVec.ofInt 64 (IntKind.wrap .i64 (a - 1))).toNat : Nat) : Int) == 0)))
noncomputable def V139.cfg (B : Nat) : Cfg := ⟨Tryz.prog, ⟨8, B⟩, [], hasN [], hasN [], look []⟩
noncomputable def V139.code : Code := (Tryz.f139.body).getD .skip
noncomputable def V139.cuts (B : Nat) (R : Value → World → Prop) : Nat → Cut := nthC []
noncomputable def V139.h : H := .s (.z) (.s (.z) (.z))
theorem V139.vc_eq (B : Nat) (R : Value → World → Prop) (a : Int) (w : World) : wpf (V139.cfg B) (V139.cuts B R) V139.code V139.h [] (postOf Tryz.prog B (Tryz.f139.results.toList) R) (argE 0 [.int .i64 a]) [] w = V139.vc B R a w := by kernel_rfl
theorem V139.obl (B : Nat) (R : Value → World → Prop) : oblP (V139.cfg B) (V139.cuts B R) V139.code V139.h [] (postOf Tryz.prog B (Tryz.f139.results.toList) R) := by
 have e : oblP (V139.cfg B) (V139.cuts B R) V139.code V139.h [] (postOf Tryz.prog B (Tryz.f139.results.toList) R) = (True ∧ (True ∧ True)) := by kernel_rfl
 exact e.mpr (⟨trivial, ⟨trivial, trivial⟩⟩)
theorem V139.cfgOk (B : Nat) : CfgOk (V139.cfg B) := cfgOk_of (by kernel_rfl) (by kernel_rfl) extNil
theorem V139.sound {a : Int} {w : World} {R : Value → World → Prop} (h : V139.vc w.heap.size R a w) : Calls Tryz.prog 139 ⟨[.int .i64 a]⟩ w fun e w' => ∃ v, e = .returned v ∧ R v w' :=
 calls_wpfP (c := V139.cfg w.heap.size) (fn := Tryz.f139) (x := V139.code) (V139.cuts w.heap.size R) V139.h (V139.cfgOk _) mixed Tryz.func139 (by kernel_rfl) (by kernel_rfl) (by kernel_rfl) rfl (V139.obl _ _) ((V139.vc_eq _ _ a _).symm ▸ h)
def V140.vc (B : Nat) (R : Value → World → Prop) (a : Int) (w : World) : Prop :=
 CallK Tryz.prog 146 [.int .u64 a] B w [] fun v c => 
 ∃ d : Int, v = .int .i64 d ∧
 Ret B c (R (.int .i64 d))
noncomputable def V140.cfg (B : Nat) : Cfg := ⟨Tryz.prog, ⟨8, B⟩, [], hasN [146], hasN [], look []⟩
noncomputable def V140.code : Code := (Tryz.f140.body).getD .skip
noncomputable def V140.cuts (B : Nat) (R : Value → World → Prop) : Nat → Cut := nthC []
noncomputable def V140.h : H := .s (.z) (.s (.c (.s (.z) (.z)) (.z)) (.s (.z) (.z)))
theorem V140.vc_eq (B : Nat) (R : Value → World → Prop) (a : Int) (w : World) : wpf (V140.cfg B) (V140.cuts B R) V140.code V140.h [] (postOf Tryz.prog B (Tryz.f140.results.toList) R) (argE 0 [.int .u64 a]) [] w = V140.vc B R a w := by kernel_rfl
theorem V140.obl (B : Nat) (R : Value → World → Prop) : oblP (V140.cfg B) (V140.cuts B R) V140.code V140.h [] (postOf Tryz.prog B (Tryz.f140.results.toList) R) := by
 have e : oblP (V140.cfg B) (V140.cuts B R) V140.code V140.h [] (postOf Tryz.prog B (Tryz.f140.results.toList) R) = (True ∧ (((True ∧ True) ∧ True) ∧ (True ∧ True))) := by kernel_rfl
 exact e.mpr (⟨trivial, ⟨⟨⟨trivial, trivial⟩, trivial⟩, ⟨trivial, trivial⟩⟩⟩)
theorem V140.cfgOk (B : Nat) : CfgOk (V140.cfg B) := cfgOk_of (by kernel_rfl) (by kernel_rfl) extNil
theorem V140.sound {a : Int} {w : World} {R : Value → World → Prop} (h : V140.vc w.heap.size R a w) : Calls Tryz.prog 140 ⟨[.int .u64 a]⟩ w fun e w' => ∃ v, e = .returned v ∧ R v w' :=
 calls_wpfP (c := V140.cfg w.heap.size) (fn := Tryz.f140) (x := V140.code) (V140.cuts w.heap.size R) V140.h (V140.cfgOk _) mixed Tryz.func140 (by kernel_rfl) (by kernel_rfl) (by kernel_rfl) rfl (V140.obl _ _) ((V140.vc_eq _ _ a _).symm ▸ h)
def V146.vc (B : Nat) (R : Value → World → Prop) (a : Int) (w : World) : Prop :=
 if (a == 0) = true
 then (Ret B w (R (.int .i64 64)))
 else ((0 : Int) ≤ 58 ∧ (0 : Int) ≤ Int.fdiv (IntKind.wrap .u64 (IntKind.wrap .u64 (((BitVec.ofInt 64 a &&& BitVec.ofInt 64 (IntKind.wrap .u64 (0 - a))).toNat : Nat) : Int) * 285870213051353865)) (2 ^ min 58 64) ∧ Int.fdiv (IntKind.wrap .u64 (IntKind.wrap .u64 (((BitVec.ofInt 64 a &&& BitVec.ofInt 64 (IntKind.wrap .u64 (0 - a))).toNat : Nat) : Int) * 285870213051353865)) (2 ^ min 58 64) < 64 ∧
 ∃ c : Int, w.cell? ((⟨3, 0, none⟩ : Addr).add ((Int.fdiv (IntKind.wrap .u64 (IntKind.wrap .u64 (((BitVec.ofInt 64 a &&& BitVec.ofInt 64 (IntKind.wrap .u64 (0 - a))).toNat : Nat) : Int) * 285870213051353865)) (2 ^ min 58 64)).toNat)) = some (.int .u8 c) ∧
 Ret B w (R (.int .i64 (IntKind.wrap .i64 c))))
noncomputable def V146.cfg (B : Nat) : Cfg := ⟨Tryz.prog, ⟨14, B⟩, [], hasN [], hasN [], look []⟩
noncomputable def V146.code : Code := (Tryz.f146.body).getD .skip
noncomputable def V146.cuts (B : Nat) (R : Value → World → Prop) : Nat → Cut := nthC []
noncomputable def V146.h : H := .s (.z) (.s (.s (.z) (.c (.s (.z) (.z)) (.z))) (.s (.z) (.z)))
theorem V146.vc_eq (B : Nat) (R : Value → World → Prop) (a : Int) (w : World) : wpf (V146.cfg B) (V146.cuts B R) V146.code V146.h [] (postOf Tryz.prog B (Tryz.f146.results.toList) R) (argE 0 [.int .u64 a]) [] w = V146.vc B R a w := by kernel_rfl
theorem V146.obl (B : Nat) (R : Value → World → Prop) : oblP (V146.cfg B) (V146.cuts B R) V146.code V146.h [] (postOf Tryz.prog B (Tryz.f146.results.toList) R) := by
 have e : oblP (V146.cfg B) (V146.cuts B R) V146.code V146.h [] (postOf Tryz.prog B (Tryz.f146.results.toList) R) = (True ∧ ((True ∧ ((True ∧ True) ∧ True)) ∧ (True ∧ True))) := by kernel_rfl
 exact e.mpr (⟨trivial, ⟨⟨trivial, ⟨⟨trivial, trivial⟩, trivial⟩⟩, ⟨trivial, trivial⟩⟩⟩)
theorem V146.cfgOk (B : Nat) : CfgOk (V146.cfg B) := cfgOk_of (by kernel_rfl) (by kernel_rfl) extNil
theorem V146.sound {a : Int} {w : World} {R : Value → World → Prop} (h : V146.vc w.heap.size R a w) : Calls Tryz.prog 146 ⟨[.int .u64 a]⟩ w fun e w' => ∃ v, e = .returned v ∧ R v w' :=
 calls_wpfP (c := V146.cfg w.heap.size) (fn := Tryz.f146) (x := V146.code) (V146.cuts w.heap.size R) V146.h (V146.cfgOk _) mixed Tryz.func146 (by kernel_rfl) (by kernel_rfl) (by kernel_rfl) rfl (V146.obl _ _) ((V146.vc_eq _ _ a _).symm ▸ h)
end Go.Proofs.YtidcpndlloppdaaGreatDoor
