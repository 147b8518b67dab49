import Derived.Test.YtidcpndlloppdaaZC17d
/-
  The function of layer 17 that reckons depths: the whole of it.
  Conditions: the arguments' memory says what their values are; jumps do not go below nought; few numbers are handed.
-/
set_option linter.unusedVariables false
set_option linter.unusedSimpArgs false
namespace Go.Proofs.Ytidcpndlloppdaa
open Go.RowKit
def DepthsQ (p : List Fnc) (code : List Ins) (w1 : World) : Value → World → Prop := fun v w2 => match depthsM p code with
  | .inl i => v = failV i
  | .inr d => ∃ g, w1.heap.size ≤ g ∧ v = .tuple ⟨[dsl g code.length, .int .i64 0, .bool true]⟩ ∧ OwnI w2 g .i64 3 d
section
variable {w0 : World} {Q : Value → World → Prop} {g cC np cP q2 : Nat} {C A0 : Option Addr} {p : List Fnc} {xs : List Ins}
theorem l1_49 (hp : ProgAt w0 A0 np p) (hfew : Few p) (hx : CodeAt w0 C xs.length xs) (hjmp : ∀ x ∈ xs, x.op = 15 ∨ x.op = 16 → 0 ≤ x.a) (hg : w0.heap.size ≤ g) :
    ∀ (k : Nat) (w : World) (d : List Int), negs d < k → Below w0.heap.size w0 w → OwnI w g .i64 3 d → DOk xs.length d →
      (∀ a, fixM p xs k d = .inl a → ∀ w', Below w0.heap.size w0 w' → Ret w0.heap.size w' (IsQ w0 Q (failV a))) →
      (∀ d' w', fixM p xs k d = .inr d' → Below w0.heap.size w0 w' → OwnI w' g .i64 3 d' → Ret w0.heap.size w' (IsQ w0 Q (.tuple ⟨[dsl g xs.length, .int .i64 0, .bool true]⟩))) →
      V49.l1 w0.heap.size (IsQ w0 Q) k C xs.length cC (some ⟨g, 0, none⟩) xs.length xs.length q2 A0 np cP w
  | 0, w, d, hk, _, _, _, _, _ => by omega
  | k + 1, w, d, hk, hw, ho, hd, hfail, hdone => by
    dsimp -zeta only [V49.l1]
    refine ⟨xs.length + 1, ?_⟩
    unfold fixM at hfail hdone
    refine l2_49 hp hfew hx hjmp hg (xs.length + 1) 0 w d false (by omega) (by omega) hw ho hd ?_ ?_ ?_
    · intro a ha
      rw [List.drop_zero] at ha
      exact hfail a (by rw [ha])
    · intro d' w' hs hw' ho'
      rw [List.drop_zero] at hs
      simp only [hs] at hfail hdone
      have hok := scanM_ok hfew hd hjmp hs
      have hlt : negs d' < negs d := by rcases hok.2.2.1 rfl with h | h; · cases h
                                        · exact h
      exact l1_49 hp hfew hx hjmp hg k w' d' (by omega) hw' ho' hok.1 hfail hdone
    · intro d' w' hs hw' ho'
      rw [List.drop_zero] at hs
      exact hdone d' w' (by rw [hs]) hw' ho'
theorem l0_49 (hp : ProgAt w0 A0 np p) (hfew : Few p) (hx : CodeAt w0 C xs.length xs) (hjmp : ∀ x ∈ xs, x.op = 15 ∨ x.op = 16 → 0 ≤ x.a) (hg : w0.heap.size ≤ g) :
    ∀ (k i : Nat) (w : World), xs.length < i + k ∧ 1 ≤ k → 1 ≤ i → Below w0.heap.size w0 w → OwnI w g .i64 3 (initM xs.length i) →
      V49.l0 w0.heap.size (IsQ w0 (DepthsQ p xs w0)) k C xs.length cC (some ⟨g, 0, none⟩) xs.length xs.length i q2 A0 np cP w
  | 0, i, w, hk, h1, hw, ho => by
    exfalso
    omega
  | k + 1, i, w, hk, h1, hw, ho => by
    dsimp -zeta only [V49.l0]
    by_cases h : i < xs.length
    · rw [if_pos (by simpa using h)]
      have hget := getD_get (d := initM xs.length i) (i := i) (by rw [initM_len]; exact h)
      refine ⟨_, rfl, by omega, by omega, ⟨_, by rw [own_add, bx_add, Nat.add_zero, ← own_add]; exact ho.cell hget⟩, ho.frozen _, ?_⟩
      have hs := ho.set i (-1)
      rw [initM_set h1 h] at hs
      rw [wrap_succ h hx.small]
      exact l0_49 hp hfew hx hjmp hg k (i + 1) _ ⟨by omega, by omega⟩ (by omega) (below_set hw hg _) hs
    · rw [if_neg (by simpa using h)]
      rw [initM_end (by omega)] at ho
      refine ⟨xs.length + 1, l1_49 hp hfew hx hjmp hg (xs.length + 1) w _ ?_ hw ho (start_ok _) ?_ ?_⟩
      · have := negs_le (start xs.length); rw [(start_ok xs.length).1] at this; omega
      · intro a ha w' hw'
        refine ret_q hw' fun w1 _ => ?_
        unfold DepthsQ depthsM
        rw [ha]
      · intro d' w' hd hw' ho'
        refine ret_q hw' fun w1 h1 => ?_
        unfold DepthsQ depthsM
        rw [hd]
        exact ⟨g, hg, rfl, ho'.ext h1⟩
theorem yields49 {w : World} {c c' : Nat} (hp : ProgAt w A0 np p) (hfew : Few p) (hx : CodeAt w C xs.length xs) (hjmp : ∀ x ∈ xs, x.op = 15 ∨ x.op = 16 → 0 ≤ x.a) (hlen : xs.length ≤ 1000) :
    Yields Try.prog 49 [.agg ⟨[.slice A0 np c]⟩, .slice C xs.length c'] w (DepthsQ p xs w) := by
  refine yields_of (V49.sound ?_)
  intro q2 _
  refine make_own (t := 67) (e := 3) (i := Try.t3) (z := .int .i64 0) (size := 1) (by kernel_rfl) (by kernel_rfl) (by kernel_rfl) (by kernel_rfl) ?_ (len_ok hlen) (Nat.le_refl _) fun g w' hg he ho => ?_
  · have : Try.t3.bytes = 8 := by kernel_rfl
    rw [this]; omega
  · refine ⟨_, _, _, rfl, xs.length + 1, ?_⟩
    rw [made_zero] at ho
    exact l0_49 hp hfew hx hjmp hg (xs.length + 1) 1 w' ⟨by omega, by omega⟩ (Nat.le_refl _) he.below ho
end
end Go.Proofs.Ytidcpndlloppdaa

/-
  The reference's function that reckons depths returns what the plain rule tells.
  Conditions: the arguments' memory says what their values are; jumps do not go below nought; few numbers are handed.
-/
set_option linter.unusedVariables false
set_option linter.unusedSimpArgs false
namespace Go.Proofs.Ytidcpndlloppdaa
open Go.RowKit
section
variable {w0 : World} {Q : Value → World → Prop} {g n dC np cP q2 q3 : Nat} {A0 : Option Addr} {f3 f3_1 f3_2 : Int} {C : Option Addr} {cC : Nat}
abbrev T1 : Type := Option Addr → Nat → Nat → Bool → Nat → Int → Int → Int → Option Addr → Nat → Nat → Nat → Option Addr → Nat → Nat → World → Prop
abbrev T2 : Type := Option Addr → Nat → Nat → Bool → Int → Nat → Int → Int → Int → Option Addr → Nat → Nat → Nat → Option Addr → Nat → Nat → World → Prop
end
end Go.Proofs.Ytidcpndlloppdaa

/-
  Layer 17: checks and depths, the program's and the reference's, return what one plain rule tells.
  Conditions: the arguments' memory says what their values are.
-/
set_option linter.unusedVariables false
set_option linter.unusedSimpArgs false
namespace Go.Proofs.Ytidcpndlloppdaa
open Go.RowKit
section
variable {w0 : World} {Q : Value → World → Prop} {g cC np cP q2 q3 : Nat} {C A0 : Option Addr} {p : List Fnc} {xs : List Ins} {f3 f3_1 f3_2 : Int}
end
end Go.Proofs.Ytidcpndlloppdaa
