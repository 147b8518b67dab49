/-
  Layer 17: checks and depths, the program's and the reference's, return what one plain rule tells.
  Conditions: the arguments' memory says what their values are.
-/
import Derived.Test.YtofblkmibghmbaaDoorZPC17f
set_option linter.unusedVariables false
set_option linter.unusedSimpArgs false
namespace Go.Proofs.YtofblkmibghmbaaDoor.P17
open Go.RowKit
def FlowQ (p : List Fnc) (code : List Ins) (w1 : World) : Value → World → Prop := fun v w2 => match depthsM p code with
  | .inl i => v = failR i
  | .inr d => ∃ g, w1.heap.size ≤ g ∧ v = .tuple ⟨[dsl g code.length, .int .i64 (-1)]⟩ ∧ OwnI w2 g .i64 3 d
section
variable {w0 : World} {Q : Value → World → Prop} {g cC np cP q2 q3 : Nat} {C A0 : Option Addr} {p : List Fnc} {xs : List Ins} {f3 f3_1 f3_2 : Int}
theorem l1_120 (hp : ProgAt w0 A0 np p) (hfew : Few p) (hx : CodeAt w0 C xs.length xs) (hjmp : ∀ x ∈ xs, x.op = 15 ∨ x.op = 16 → 0 ≤ x.a) (hg : w0.heap.size ≤ g) :
    ∀ (k : Nat) (w : World) (d : List Int), negs d < k → Below w0.heap.size w0 w → OwnI w g .i64 3 d → DOk xs.length d →
      (∀ a, fixM p xs k d = .inl a → ∀ w', Below w0.heap.size w0 w' → Ret w0.heap.size w' (IsQ w0 Q (failR a))) →
      (∀ d' w', fixM p xs k d = .inr d' → Below w0.heap.size w0 w' → OwnI w' g .i64 3 d' → Ret w0.heap.size w' (IsQ w0 Q (.tuple ⟨[dsl g xs.length, .int .i64 (-1)]⟩))) →
      V127.l1 w0.heap.size (IsQ w0 Q) (k + 1) (some ⟨g, 0, none⟩) xs.length xs.length true q3 f3 f3_1 f3_2 C xs.length cC q2 A0 np cP w
  | 0, w, d, hk, _, _, _, _, _ => by omega
  | k + 1, w, d, hk, hw, ho, hd, hfail, hdone => by
    dsimp -zeta only [V127.l1]
    rw [if_pos rfl]
    refine ⟨xs.length + 1, ?_⟩
    unfold fixM at hfail hdone
    refine l2_120 hp hfew hx hjmp hg (xs.length + 1) 0 w d false (by omega) (by omega) hw ho hd ?_ ?_
    · intro a ha
      rw [List.drop_zero] at ha
      exact hfail a (by rw [ha])
    · intro d' f' w' hs hw' ho'
      rw [List.drop_zero] at hs
      have hok := scanM_ok hfew hd hjmp hs
      cases f' with
      | true =>
        simp only [hs] at hfail hdone
        have hlt : negs d' < negs d := by
          rcases hok.2.2.1 rfl with h | h
          · cases h
          · exact h
        exact l1_120 hp hfew hx hjmp hg k w' d' (by omega) hw' ho' hok.1 hfail hdone
      | false =>
        show if false = true then _ else _
        rw [if_neg (by simp)]
        exact hdone d' w' (by rw [hs]) hw' ho'
theorem l0_120 (hp : ProgAt w0 A0 np p) (hfew : Few p) (hx : CodeAt w0 C xs.length xs) (hjmp : ∀ x ∈ xs, x.op = 15 ∨ x.op = 16 → 0 ≤ x.a) (hg : w0.heap.size ≤ g) :
    ∀ (k i : Nat) (w : World), xs.length < i + k ∧ 1 ≤ k → 1 ≤ i → Below w0.heap.size w0 w → OwnI w g .i64 3 (initM xs.length i) →
      V127.l0 w0.heap.size (IsQ w0 (FlowQ p xs w0)) k (some ⟨g, 0, none⟩) xs.length xs.length i q3 f3 f3_1 f3_2 C xs.length cC q2 A0 np cP w
  | 0, i, w, hk, h1, hw, ho => by omega
  | k + 1, i, w, hk, h1, hw, ho => by
    dsimp -zeta only [V127.l0]
    by_cases h : i < xs.length
    · rw [if_pos (by simpa using h)]
      have hget := getD_get (d := initM xs.length i) (i := i) (by rw [initM_len]; exact h)
      refine ⟨_, rfl, by omega, by omega, ⟨_, by rw [own_add, bx_add, Nat.add_zero, ← own_add]; exact ho.cell hget⟩, ho.frozen _, ?_⟩
      have hs := ho.set i (-1)
      rw [initM_set h1 h] at hs
      rw [wrap_succ h hx.small]
      exact l0_120 hp hfew hx hjmp hg k (i + 1) _ ⟨by omega, by omega⟩ (by omega) (below_set hw hg _) hs
    · rw [if_neg (by simpa using h)]
      rw [initM_end (by omega)] at ho
      refine ⟨xs.length + 2, l1_120 hp hfew hx hjmp hg (xs.length + 1) w _ ?_ hw ho (start_ok _) ?_ ?_⟩
      · have := negs_le (start xs.length); rw [(start_ok xs.length).1] at this; omega
      · intro a ha w' hw'
        refine ret_q hw' fun w1 _ => ?_
        unfold FlowQ depthsM
        rw [ha]
      · intro d' w' hd hw' ho'
        refine ret_q hw' fun w1 h1 => ?_
        unfold FlowQ depthsM
        rw [hd]
        exact ⟨g, hg, rfl, ho'.ext h1⟩
theorem yields120 {w : World} {c c' : Nat} (hp : ProgAt w A0 np p) (hfew : Few p) (hx : CodeAt w C xs.length xs) (hjmp : ∀ x ∈ xs, x.op = 15 ∨ x.op = 16 → 0 ≤ x.a) (hlen : xs.length ≤ 1000) (a b r : Int) :
    Yields Tryd.prog 127 [.agg ⟨[.slice A0 np c]⟩, .agg ⟨[.int .i64 a, .int .i64 b, .int .i64 r, .slice C xs.length c']⟩] w (FlowQ p xs w) := by
  refine yields_of (V127.sound ?_)
  intro q2 _ q3 _
  refine make_own (t := 53) (e := 3) (i := Tryd.t3) (z := .int .i64 0) (size := 1) (by kernel_rfl) (by kernel_rfl) (by kernel_rfl) (by kernel_rfl) ?_ (len_ok hlen) (Nat.le_refl _) fun g w' hg he ho => ?_
  · have : Tryd.t3.bytes = 8 := by kernel_rfl
    rw [this]; omega
  · refine ⟨_, _, _, rfl, xs.length + 1, ?_⟩
    rw [made_zero] at ho
    exact l0_120 hp hfew hx hjmp hg (xs.length + 1) 1 w' ⟨by omega, by omega⟩ (Nat.le_refl _) he.below ho
end
end Go.Proofs.YtofblkmibghmbaaDoor.P17
