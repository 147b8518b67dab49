import Derived.Test.YtidcpndlloppdaaZC17d
import Derived.Test.YtidcpndlloppdaaZWH
/-
  The function of layer 17 that reckons depths: the whole of it.
  Conditions: the arguments' memory says what their values are; jumps do not go below nought; few numbers are handed.
-/
set_option linter.unusedVariables false
set_option linter.unusedSimpArgs false
namespace Go.Proofs.Ytidcpndlloppdaa
open Go.RowKit
def DepthsQ (p : List Fnc) (code : List Ins) (w1 : World) : Value → World → Prop := fun v w2 => match depthsM p code with
  | .inl i => v = failV i
  | .inr d => ∃ g, w1.heap.size ≤ g ∧ v = .tuple ⟨[dsl g code.length, .int .i64 0, .bool true]⟩ ∧ OwnI w2 g .i64 3 d
section
variable {w0 : World} {Q : Value → World → Prop} {g cC np cP q2 : Nat} {C A0 : Option Addr} {p : List Fnc} {xs : List Ins}
theorem l1_49 (hp : ProgAt w0 A0 np p) (hfew : Few p) (hx : CodeAt w0 C xs.length xs) (hjmp : ∀ x ∈ xs, x.op = 15 ∨ x.op = 16 → 0 ≤ x.a) (hg : w0.heap.size ≤ g) :
    ∀ (k : Nat) (w : World) (d : List Int), negs d < k → Below w0.heap.size w0 w → OwnI w g .i64 3 d → DOk xs.length d →
      (∀ a, fixM p xs k d = .inl a → ∀ w', Below w0.heap.size w0 w' → Ret w0.heap.size w' (IsQ w0 Q (failV a))) →
      (∀ d' w', fixM p xs k d = .inr d' → Below w0.heap.size w0 w' → OwnI w' g .i64 3 d' → Ret w0.heap.size w' (IsQ w0 Q (.tuple ⟨[dsl g xs.length, .int .i64 0, .bool true]⟩))) →
      V49.l1 w0.heap.size (IsQ w0 Q) k C xs.length cC (some ⟨g, 0, none⟩) xs.length xs.length q2 A0 np cP w
  | 0, w, d, hk, _, _, _, _, _ => by omega
  | k + 1, w, d, hk, hw, ho, hd, hfail, hdone => by
    dsimp -zeta only [V49.l1]
    refine ⟨xs.length + 1, ?_⟩
    unfold fixM at hfail hdone
    refine l2_49 hp hfew hx hjmp hg (xs.length + 1) 0 w d false (by omega) (by omega) hw ho hd ?_ ?_ ?_
    · intro a ha
      rw [List.drop_zero] at ha
      exact hfail a (by rw [ha])
    · intro d' w' hs hw' ho'
      rw [List.drop_zero] at hs
      simp only [hs] at hfail hdone
      have hok := scanM_ok hfew hd hjmp hs
      have hlt : negs d' < negs d := by rcases hok.2.2.1 rfl with h | h; · cases h
                                        · exact h
      exact l1_49 hp hfew hx hjmp hg k w' d' (by omega) hw' ho' hok.1 hfail hdone
    · intro d' w' hs hw' ho'
      rw [List.drop_zero] at hs
      exact hdone d' w' (by rw [hs]) hw' ho'
theorem l0_49 (hp : ProgAt w0 A0 np p) (hfew : Few p) (hx : CodeAt w0 C xs.length xs) (hjmp : ∀ x ∈ xs, x.op = 15 ∨ x.op = 16 → 0 ≤ x.a) (hg : w0.heap.size ≤ g) :
    ∀ (k i : Nat) (w : World), xs.length < i + k ∧ 1 ≤ k → 1 ≤ i → Below w0.heap.size w0 w → OwnI w g .i64 3 (initM xs.length i) →
      V49.l0 w0.heap.size (IsQ w0 (DepthsQ p xs w0)) k C xs.length cC (some ⟨g, 0, none⟩) xs.length xs.length i q2 A0 np cP w
  | 0, i, w, hk, h1, hw, ho => by
    exfalso
    omega
  | k + 1, i, w, hk, h1, hw, ho => by
    dsimp -zeta only [V49.l0]
    by_cases h : i < xs.length
    · rw [if_pos (by simpa using h)]
      have hget := getD_get (d := initM xs.length i) (i := i) (by rw [initM_len]; exact h)
      refine ⟨_, rfl, by omega, by omega, ⟨_, by rw [own_add, bx_add, Nat.add_zero, ← own_add]; exact ho.cell hget⟩, ho.frozen _, ?_⟩
      have hs := ho.set i (-1)
      rw [initM_set h1 h] at hs
      rw [wrap_succ h hx.small]
      exact l0_49 hp hfew hx hjmp hg k (i + 1) _ ⟨by omega, by omega⟩ (by omega) (below_set hw hg _) hs
    · rw [if_neg (by simpa using h)]
      rw [initM_end (by omega)] at ho
      refine ⟨xs.length + 1, l1_49 hp hfew hx hjmp hg (xs.length + 1) w _ ?_ hw ho (start_ok _) ?_ ?_⟩
      · have := negs_le (start xs.length); rw [(start_ok xs.length).1] at this; omega
      · intro a ha w' hw'
        refine ret_q hw' fun w1 _ => ?_
        unfold DepthsQ depthsM
        rw [ha]
      · intro d' w' hd hw' ho'
        refine ret_q hw' fun w1 h1 => ?_
        unfold DepthsQ depthsM
        rw [hd]
        exact ⟨g, hg, rfl, ho'.ext h1⟩
theorem yields49 {w : World} {c c' : Nat} (hp : ProgAt w A0 np p) (hfew : Few p) (hx : CodeAt w C xs.length xs) (hjmp : ∀ x ∈ xs, x.op = 15 ∨ x.op = 16 → 0 ≤ x.a) (hlen : xs.length ≤ 1000) :
    Yields Try.prog 49 [.agg ⟨[.slice A0 np c]⟩, .slice C xs.length c'] w (DepthsQ p xs w) := by
  refine yields_of (V49.sound ?_)
  intro q2 _
  refine make_own (t := 67) (e := 3) (i := Try.t3) (z := .int .i64 0) (size := 1) (by kernel_rfl) (by kernel_rfl) (by kernel_rfl) (by kernel_rfl) ?_ (len_ok hlen) (Nat.le_refl _) fun g w' hg he ho => ?_
  · have : Try.t3.bytes = 8 := by kernel_rfl
    rw [this]; omega
  · refine ⟨_, _, _, rfl, xs.length + 1, ?_⟩
    rw [made_zero] at ho
    exact l0_49 hp hfew hx hjmp hg (xs.length + 1) 1 w' ⟨by omega, by omega⟩ (Nat.le_refl _) he.below ho
end
end Go.Proofs.Ytidcpndlloppdaa

/-
  The reference's function that reckons depths returns what the plain rule tells.
  Conditions: the arguments' memory says what their values are; jumps do not go below nought; few numbers are handed.
-/
set_option linter.unusedVariables false
set_option linter.unusedSimpArgs false
namespace Go.Proofs.Ytidcpndlloppdaa
open Go.RowKit
section
variable {w0 : World} {Q : Value → World → Prop} {g n dC np cP q2 q3 : Nat} {A0 : Option Addr} {f3 f3_1 f3_2 : Int} {C : Option Addr} {cC : Nat}
abbrev T1 : Type := Option Addr → Nat → Nat → Bool → Nat → Int → Int → Int → Option Addr → Nat → Nat → Nat → Option Addr → Nat → Nat → World → Prop
abbrev T2 : Type := Option Addr → Nat → Nat → Bool → Int → Nat → Int → Int → Int → Option Addr → Nat → Nat → Nat → Option Addr → Nat → Nat → World → Prop
end
end Go.Proofs.Ytidcpndlloppdaa

/-
  Layer 17: checks and depths, the program's and the reference's, return what one plain rule tells.
  Conditions: the arguments' memory says what their values are.
-/
set_option linter.unusedVariables false
set_option linter.unusedSimpArgs false
namespace Go.Proofs.Ytidcpndlloppdaa
open Go.RowKit
section
variable {w0 : World} {Q : Value → World → Prop} {g cC np cP q2 q3 : Nat} {C A0 : Option Addr} {p : List Fnc} {xs : List Ins} {f3 f3_1 f3_2 : Int}
end
end Go.Proofs.Ytidcpndlloppdaa

/-
  Layer 17: Check and Depths, the program's and the reference's, return what one plain rule tells.
  Conditions: the arguments' memory says what their values are.
-/
set_option linter.unusedVariables false
set_option linter.unusedSimpArgs false
namespace Go.Proofs.Ytidcpndlloppdaa
open Go.RowKit
section
variable {w0 : World} {v : Int × Int × Int} {cP q1 : Nat} {A : Option Addr} {p : List Fnc}
theorem l3_45 (hp : ProgAt w0 A p.length p) (hfew : Few p) (hlen : ∀ f ∈ p, f.code.length ≤ 1000) (hjmp : ∀ f ∈ p, ∀ x ∈ f.code, x.op = 15 ∨ x.op = 16 → 0 ≤ x.a) : ∀ (k i : Nat) (w : World), p.length < i + k ∧ 1 ≤ k → i ≤ p.length → Below w0.heap.size w0 w →
    (∀ a b, flowsM p (p.drop i) i = some (a, b) → v = (9, (a : Int), (b : Int))) → (flowsM p (p.drop i) i = none → v = (0, 0, 0)) → V45.l3 w0.heap.size (IsV w0 (tripV v)) k A p.length cP p.length i q1 A p.length cP w
  | 0, i, w, hk, _, _, _, _ => by omega
  | k + 1, i, w, hk, hi, hw, h1, h2 => by
    dsimp -zeta only [V45.l3]
    by_cases h : i < p.length
    · rw [if_pos (by simpa using h)]
      obtain ⟨f, a, C, c, hf, ha, c0, c1, c2, c3, hc⟩ := prog_at (hp.keep hw) h
      rw [drop_at hf] at h1 h2
      unfold flowsM at h1 h2
      have hm := List.mem_of_getElem? hf
      refine ⟨a, ha, by omega, by omega, f.params, by simpa using c0, f.locals, by simpa using c1, f.refs, by simpa using c2, C, f.code.length, c, by simpa using c3, fun q12 _ => ?_⟩
      refine call_yields (Q := DepthsQ p f.code) hw (fun w1 e1 hb => yields49 (hp.keep hb) hfew (RowAt.keep InsE.kept hc (ext_keeps e1)) (hjmp f hm) (hlen f hm)) fun w4 u w5 w6 hs _ hQ _ hnew he6 hw6 => ?_
      unfold DepthsQ at hQ
      cases hd : depthsM p f.code with
      | inl j =>
        simp only [hd] at hQ h1
        subst hQ
        refine ⟨none, 0, 0, j, false, rfl, ?_⟩
        rw [if_pos (by simp)]
        exact ret_is hw6 (by rw [h1 i j rfl]; rfl)
      | inr d =>
        simp only [hd] at hQ h1 h2
        obtain ⟨g, _, rfl, _⟩ := hQ
        refine ⟨_, _, _, 0, true, rfl, ?_⟩
        rw [if_neg (by simp), wrap_succ h hp.small]
        exact l3_45 hp hfew hlen hjmp k (i + 1) w6 ⟨by omega, by omega⟩ (by omega) hw6 h1 h2
    · rw [if_neg (by simpa using h)]
      rw [List.drop_eq_nil_of_le (by omega)] at h2
      exact ret_is hw (by rw [h2 rfl]; rfl)
theorem l2_45 {L1 : Option Addr → Nat → Nat → Int → Int → Nat → Option Addr → Nat → Nat → World → Prop} (hp : ProgAt w0 A p.length p) {i : Nat} {f : Fnc} {C : Option Addr} {c q8 : Nat} (hc : CodeAt w0 C f.code.length f.code) : ∀ (k j : Nat) (w : World), f.code.length < j + k ∧ 1 ≤ k → j ≤ f.code.length → Below w0.heap.size w0 w →
    (∀ b, firstNot (shapedI p.length f) (f.code.drop j) j = some b → v = (6, (i : Int), (b : Int))) →
    (firstNot (shapedI p.length f) (f.code.drop j) j = none → ∀ w', Below w0.heap.size w0 w' → L1 A p.length cP p.length (IntKind.wrap .i64 ((i : Int) + 1)) q1 A p.length cP w') →
    V45.l2 w0.heap.size (IsV w0 (tripV v)) L1 k i A p.length cP p.length i C f.code.length c f.code.length j q8 f.params f.locals f.refs C f.code.length c q1 A p.length cP w
  | 0, j, w, hk, _, _, _, _ => by omega
  | k + 1, j, w, hk, hj, hw, h1, h2 => by
    dsimp -zeta only [V45.l2]
    by_cases h : j < f.code.length
    · rw [if_pos (by simpa using h)]
      obtain ⟨x, a, hx, ha, he⟩ := (hc.keep hw).at h
      rw [drop_at hx] at h1 h2
      unfold firstNot at h1 h2
      refine ⟨a, ha, by omega, by omega, x.op, by simpa using he.1, x.a, by simpa using he.2.1, x.b, by simpa using he.2.2, fun q10 _ => ?_⟩
      refine call_gives hw (fun w1 _ hb => gives73 (hp.keep hb) _ _ _ _ _ _ _ _ _) fun w1 _ hw1 => ⟨_, rfl, ?_⟩
      by_cases hs : shapedI p.length f x = true
      · simp only [if_pos hs] at h1 h2
        have hs' : shapedM p.length f.locals f.refs f.code.length x.op x.a x.b = true := hs
        rw [if_neg (by rw [hs']; simp), wrap_succ h hc.small]
        exact l2_45 hp hc k (j + 1) w1 ⟨by omega, by omega⟩ (by omega) hw1 h1 h2
      · simp only [if_neg hs] at h1
        have hs' : ¬ shapedM p.length f.locals f.refs f.code.length x.op x.a x.b = true := hs
        rw [if_pos (by rw [Bool.eq_false_iff.2 hs']; simp)]
        exact ret_is hw1 (by rw [h1 j rfl]; rfl)
    · rw [if_neg (by simpa using h)]
      rw [List.drop_eq_nil_of_le (by omega)] at h2
      exact h2 rfl w hw
theorem l1_45 (hp : ProgAt w0 A p.length p) (hfew : Few p) (hlen : ∀ f ∈ p, f.code.length ≤ 1000) : ∀ (k i : Nat) (w : World), p.length < i + k ∧ 1 ≤ k → i ≤ p.length → Below w0.heap.size w0 w → (∀ f ∈ p.take i, ∀ x ∈ f.code, x.op = 15 ∨ x.op = 16 → 0 ≤ x.a) →
    (∀ a b, shapesM p.length (p.drop i) i = some (a, b) → v = (6, (a : Int), (b : Int))) → (shapesM p.length (p.drop i) i = none → (∀ a b, flowsM p p 0 = some (a, b) → v = (9, (a : Int), (b : Int))) ∧ (flowsM p p 0 = none → v = (0, 0, 0))) →
    V45.l1 w0.heap.size (IsV w0 (tripV v)) k A p.length cP p.length i q1 A p.length cP w
  | 0, i, w, hk, _, _, _, _, _ => by omega
  | k + 1, i, w, hk, hi, hw, hj, h1, h2 => by
    dsimp -zeta only [V45.l1]
    by_cases h : i < p.length
    · rw [if_pos (by simpa using h)]
      obtain ⟨f, a, C, c, hf, ha, c0, c1, c2, c3, hc⟩ := prog_at hp h
      have lk : ∀ {q : Addr} {u : Value}, w0.cell? q = some u → w.cell? q = some u := fun hq => below_keeps hw _ _ hq
      rw [drop_at hf] at h1 h2
      unfold shapesM at h1 h2
      refine ⟨a, ha, by omega, by omega, f.params, by simpa using lk c0, f.locals, by simpa using lk c1, f.refs, by simpa using lk c2, C, f.code.length, c, by simpa using lk c3, fun q8 _ => ⟨f.code.length + 1, ?_⟩⟩
      refine l2_45 hp hc (f.code.length + 1) 0 w ⟨by omega, by omega⟩ (by omega) hw ?_ ?_
      · intro b hb
        rw [List.drop_zero] at hb
        simp only [hb] at h1
        exact h1 i b rfl
      · intro hb w' hw'
        rw [List.drop_zero] at hb
        simp only [hb] at h1 h2
        rw [wrap_succ h hp.small]
        refine l1_45 hp hfew hlen k (i + 1) w' ⟨by omega, by omega⟩ (by omega) hw' ?_ h1 h2
        intro f' hf' x hx ho
        rw [List.take_add_one, hf] at hf'
        rcases List.mem_append.1 hf' with hf' | hf'
        · exact hj f' hf' x hx ho
        · simp at hf'
          subst hf'
          exact shaped_jump (firstNot_all hb x hx) ho
    · rw [if_neg (by simpa using h)]
      rw [List.drop_eq_nil_of_le (by omega)] at h2
      rw [List.take_of_length_le (by omega)] at hj
      exact ⟨p.length + 1, l3_45 hp hfew hlen hj (p.length + 1) 0 w ⟨by omega, by omega⟩ (by omega) hw (h2 rfl).1 (h2 rfl).2⟩
theorem l0_45 (hp : ProgAt w0 A p.length p) : ∀ (k i : Nat) (w : World), p.length < i + k ∧ 1 ≤ k → i ≤ p.length → Below w0.heap.size w0 w →
    (∀ a, firstNot sizedF (p.drop i) i = some a → v = (1, (a : Int), 0)) → (firstNot sizedF (p.drop i) i = none → ∀ w', Below w0.heap.size w0 w' → ∃ k_1, V45.l1 w0.heap.size (IsV w0 (tripV v)) k_1 A p.length cP p.length 0 q1 A p.length cP w') →
    V45.l0 w0.heap.size (IsV w0 (tripV v)) k A p.length cP p.length i q1 A p.length cP w
  | 0, i, w, hk, _, _, _, _ => by omega
  | k + 1, i, w, hk, hi, hw, h1, h2 => by
    dsimp -zeta only [V45.l0]
    by_cases h : i < p.length
    · rw [if_pos (by simpa using h)]
      obtain ⟨f, a, C, c, hf, ha, c0, c1, c2, c3, hc⟩ := prog_at (hp.keep hw) h
      rw [drop_at hf] at h1 h2
      unfold firstNot at h1 h2
      refine ⟨a, ha, by omega, by omega, f.params, by simpa using c0, f.locals, by simpa using c1, f.refs, by simpa using c2, C, f.code.length, c, by simpa using c3, fun q6 _ => ?_⟩
      refine call_gives hw (fun w1 _ _ => gives72 _ _ _ _ _ _ _) fun w1 _ hw1 => ⟨_, rfl, ?_⟩
      by_cases hs : sizedF f = true
      · simp only [if_pos hs] at h1 h2
        have hs' : sizedM f.params f.locals f.refs f.code.length = true := hs
        rw [if_neg (by rw [hs']; simp), wrap_succ h hp.small]
        exact l0_45 hp k (i + 1) w1 ⟨by omega, by omega⟩ (by omega) hw1 h1 h2
      · simp only [if_neg hs] at h1
        have hs' : ¬ sizedM f.params f.locals f.refs f.code.length = true := hs
        rw [if_pos (by rw [Bool.eq_false_iff.2 hs']; simp)]
        exact ret_is hw1 (by rw [h1 i rfl]; rfl)
    · rw [if_neg (by simpa using h)]
      rw [List.drop_eq_nil_of_le (by omega)] at h2
      exact h2 rfl w hw
end
theorem gives45 {w : World} {A : Option Addr} {p : List Fnc} {c : Nat} (hp : ProgAt w A p.length p) : Gives Try.prog 45 [.agg ⟨[.slice A p.length c]⟩] w (tripV (checkM p)) := by
  refine gives_of (V45.sound ?_)
  intro q1 _
  by_cases h1 : p.length < 1
  · rw [if_neg (by simp; omega)]
    exact ret_is (Below.refl _ _) (by unfold checkM; rw [if_pos (.inl h1)]; rfl)
  · rw [if_pos (by simp; omega)]
    by_cases h8 : 8 < p.length
    · rw [if_pos (by simp; omega)]
      exact ret_is (Below.refl _ _) (by unfold checkM; rw [if_pos (.inr h8)]; rfl)
    · rw [if_neg (by simp; omega)]
      have hc : checkM p = match firstNot sizedF p 0 with
          | some i => (1, (i : Int), 0)
          | none => match shapesM p.length p 0 with
            | some (i, j) => (6, (i : Int), (j : Int))
            | none => match flowsM p p 0 with
              | some (i, j) => (9, (i : Int), (j : Int))
              | none => (0, 0, 0) := by unfold checkM; rw [if_neg (fun h => h.elim h1 h8)]; rfl
      refine ⟨p.length + 1, l0_45 hp (p.length + 1) 0 w ⟨by omega, by omega⟩ (by omega) (Below.refl _ _) ?_ ?_⟩
      · intro a ha
        rw [List.drop_zero] at ha
        rw [hc, ha]
      · intro hs w' hw'
        rw [List.drop_zero] at hs
        rw [hs] at hc
        refine ⟨p.length + 1, l1_45 hp (sized_few hs) (fun f hf => sized_len hs hf) (p.length + 1) 0 w' ⟨by omega, by omega⟩ (by omega) hw' (fun f hf => by simp at hf) ?_ ?_⟩
        · intro a b hab
          rw [List.drop_zero] at hab
          rw [hc, hab]
        · intro hn
          rw [List.drop_zero] at hn
          rw [hn] at hc
          refine ⟨fun a b hab => by rw [hc, hab], fun hf => by rw [hc, hf]⟩
end Go.Proofs.Ytidcpndlloppdaa

/-
  Layer 17: the reference's Check, and both Depths, return what one plain rule tells; the document's examples hold.
  Conditions: the arguments' memory says what their values are.
-/
set_option linter.unusedVariables false
set_option linter.unusedSimpArgs false
namespace Go.Proofs.Ytidcpndlloppdaa
open Go.RowKit
section
variable {w0 : World} {v : Int × Int × Int} {cP q1 : Nat} {A : Option Addr} {p : List Fnc}
end
end Go.Proofs.Ytidcpndlloppdaa

/-
  Layer 21, plain: what is parked, what an act needs, the document's example.
  Conditions: the program is right.
-/
set_option linter.unusedVariables false
set_option linter.unusedSimpArgs false
set_option maxRecDepth 20000
namespace Go.Proofs.Ytidcpndlloppdaa
def outsP (a b : Int) : List Fnc := [⟨0, 0, 0, [⟨1, a, 0⟩, ⟨22, 0, 0⟩, ⟨1, b, 0⟩, ⟨18, 0, 0⟩]⟩]
def goN (p : List Fnc) (m : Mach) : Nat → Mach
  | 0 => m
  | n + 1 => (stepM p (goN p m n)).1
theorem go_ok {p : List Fnc} (hr : Rt p) {m : Mach} (h : MOk p m) {k : Nat} (hl : Lim m k) : ∀ n, k + n < 1000000000 → MOk p (goN p m n) ∧ Lim (goN p m n) (k + n)
  | 0, _ => ⟨h, hl⟩
  | n + 1, hn => by
    obtain ⟨a, b⟩ := go_ok hr h hl n (by omega)
    exact step_ok (n := k + n) hr a b (by omega)
theorem outs_check : checkM (outsP 1 2) = (0, 0, 0) := by kernel_rfl
theorem outs_codes : ∀ i : Fin 6, (stepM (outsP 1 2) (goN (outsP 1 2) (newM 0) i.val)).2 = 0 := by decide
theorem outs_end : (goN (outsP 1 2) (newM 0) 6).ended = true ∧ (goN (outsP 1 2) (newM 0) 6).trace = [⟨1, nw 1⟩, ⟨3, nw 2⟩] := ⟨by kernel_rfl, by kernel_rfl⟩
theorem outs_over : (stepM (outsP 1 2) (goN (outsP 1 2) (newM 0) 6)).2 = 7 := by kernel_rfl
theorem outs_first : fnAt (outsP 1 2) 0 = some ⟨0, 0, 0, [⟨1, 1, 0⟩, ⟨22, 0, 0⟩, ⟨1, 2, 0⟩, ⟨18, 0, 0⟩]⟩ := rfl
end Go.Proofs.Ytidcpndlloppdaa

/-
  Layer 21, plain: the programs of AbsmRecovers and AbsmDefers, run.
  Conditions: none.
-/
set_option linter.unusedVariables false
set_option linter.unusedSimpArgs false
set_option maxRecDepth 20000
namespace Go.Proofs.Ytidcpndlloppdaa
def hF : Fnc := ⟨0, 0, 0, [⟨21, 0, 0⟩, ⟨27, 0, 0⟩, ⟨18, 0, 0⟩]⟩
end Go.Proofs.Ytidcpndlloppdaa

/-
  Layer 21, plain: the machine on the programs of AbsmDefers.
  Conditions: none.
-/
set_option linter.unusedVariables false
set_option maxRecDepth 20000
namespace Go.Proofs.Ytidcpndlloppdaa
end Go.Proofs.Ytidcpndlloppdaa
