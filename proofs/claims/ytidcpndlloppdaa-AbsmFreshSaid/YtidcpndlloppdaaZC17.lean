import Derived.Test.YtidcpndlloppdaaZEngD
import Derived.Test.YtidcpndlloppdaaZVA
/-
  The functions of layer 17 that tell what instructions pop and push, and how many words a frame has: what their calls return.
  Conditions: the arguments' memory says what their values are.
-/
set_option linter.unusedVariables false
set_option linter.unusedSimpArgs false
namespace Go.Proofs.Ytidcpndlloppdaa
open Go.RowKit
structure Ins where
  op : Int
  a : Int
  b : Int
structure Fnc where
  params : Int
  locals : Int
  refs : Int
  code : List Ins
def InsE (w : World) (p : Addr) (x : Ins) : Prop := w.cell? (p.add 0) = some (.int .i64 x.op) ∧ w.cell? (p.add 1) = some (.int .i64 x.a) ∧ w.cell? (p.add 2) = some (.int .i64 x.b)
def FncE (w : World) (p : Addr) (f : Fnc) : Prop := w.cell? (p.add 0) = some (.int .i64 f.params) ∧ w.cell? (p.add 1) = some (.int .i64 f.locals) ∧ w.cell? (p.add 2) = some (.int .i64 f.refs) ∧
  ∃ A l c, w.cell? (p.add 3) = some (.slice A l c) ∧ RowAt InsE 3 w A l f.code
theorem InsE.kept : Kept1 InsE := fun _ _ _ _ hw h => ⟨hw _ _ h.1, hw _ _ h.2.1, hw _ _ h.2.2⟩
theorem FncE.kept : Kept1 FncE := fun _ _ _ _ hw h => by
  obtain ⟨h1, h2, h3, A, l, c, h4, h5⟩ := h
  exact ⟨hw _ _ h1, hw _ _ h2, hw _ _ h3, A, l, c, hw _ _ h4, h5.keep InsE.kept hw⟩
abbrev CodeAt (w : World) (A : Option Addr) (l : Nat) (xs : List Ins) : Prop := RowAt InsE 3 w A l xs
abbrev ProgAt (w : World) (A : Option Addr) (l : Nat) (xs : List Fnc) : Prop := RowAt FncE 4 w A l xs
theorem ProgAt.keep {w w' : World} {A : Option Addr} {l : Nat} {xs : List Fnc} (h : ProgAt w A l xs) (hb : Below w.heap.size w w') : ProgAt w' A l xs := RowAt.keep FncE.kept h (below_keeps hb)
theorem CodeAt.keep {w w' : World} {A : Option Addr} {l : Nat} {xs : List Ins} (h : CodeAt w A l xs) (hb : Below w.heap.size w w') : CodeAt w' A l xs := RowAt.keep InsE.kept h (below_keeps hb)
def rowT (op : Int) : Int × Int × Int × Bool :=
  if op = 1 then (1, 0, 1, true) else if op = 2 then (2, 0, 1, true) else if op = 3 then (3, 0, 1, true) else if op = 4 then (3, 1, 0, true)
  else if op = 5 ∨ op = 6 ∨ op = 7 ∨ op = 8 ∨ op = 11 ∨ op = 12 ∨ op = 13 ∨ op = 14 then (0, 2, 1, true)
  else if op = 9 ∨ op = 10 then (0, 1, 1, true)
  else if op = 15 then (4, 0, 0, true) else if op = 16 then (4, 1, 0, true) else if op = 17 then (5, -1, 1, true)
  else if op = 18 ∨ op = 20 ∨ op = 22 ∨ op = 27 then (0, 1, 0, true)
  else if op = 19 then (5, -1, 0, true) else if op = 21 then (0, 0, 2, true) else if op = 23 ∨ op = 25 then (6, 0, 0, true)
  else if op = 24 then (7, 0, 0, true) else if op = 26 then (0, 0, 0, true) else (0, 0, 0, false)
def rowV (op : Int) : Value := .tuple ⟨[.int .i64 (rowT op).1, .int .i64 (rowT op).2.1, .int .i64 (rowT op).2.2.1, .bool (rowT op).2.2.2]⟩
theorem op_cases (op : Int) : op = 1 ∨ op = 2 ∨ op = 3 ∨ op = 4 ∨ op = 5 ∨ op = 6 ∨ op = 7 ∨ op = 8 ∨ op = 9 ∨ op = 10 ∨ op = 11 ∨ op = 12 ∨ op = 13 ∨ op = 14 ∨ op = 15 ∨ op = 16 ∨ op = 17 ∨ op = 18 ∨ op = 19 ∨ op = 20 ∨ op = 21 ∨ op = 22 ∨ op = 23 ∨ op = 24 ∨ op = 25 ∨ op = 26 ∨ op = 27 ∨
    (op ≠ 1 ∧ op ≠ 2 ∧ op ≠ 3 ∧ op ≠ 4 ∧ op ≠ 5 ∧ op ≠ 6 ∧ op ≠ 7 ∧ op ≠ 8 ∧ op ≠ 9 ∧ op ≠ 10 ∧ op ≠ 11 ∧ op ≠ 12 ∧ op ≠ 13 ∧ op ≠ 14 ∧ op ≠ 15 ∧ op ≠ 16 ∧ op ≠ 17 ∧ op ≠ 18 ∧ op ≠ 19 ∧ op ≠ 20 ∧ op ≠ 21 ∧ op ≠ 22 ∧ op ≠ 23 ∧ op ≠ 24 ∧ op ≠ 25 ∧ op ≠ 26 ∧ op ≠ 27) := by omega
theorem gives78 (op : Int) (w : World) : Gives Try.prog 78 [.int .i64 op] w (rowV op) := by
  refine gives_of (V78.sound ?_)
  rcases op_cases op with h | h | h | h | h | h | h | h | h | h | h | h | h | h | h | h | h | h | h | h | h | h | h | h | h | h | h | ⟨h1, h2, h3, h4, h5, h6, h7, h8, h9, h10, h11, h12, h13, h14, h15, h16, h17, h18, h19, h20, h21, h22, h23, h24, h25, h26, h27⟩
  all_goals first
    | subst h
      simp only [V78.vc, V78.b0, V78.b1, V78.b2, V78.b3, Int.reduceBEq, Bool.false_eq_true, if_false, if_true]
      exact ret_is (Below.refl _ _) rfl
    | simp only [V78.vc, V78.b0, V78.b1, V78.b2, V78.b3, beq_iff_eq, *, if_false, if_true]
      exact ret_is (Below.refl _ _) (by simp [rowV, rowT, *])
def pushesI (op : Int) : Int := (rowT op).2.2.1
theorem gives76 (op a b : Int) (w : World) : Gives Try.prog 76 [.agg ⟨[.int .i64 op, .int .i64 a, .int .i64 b]⟩] w (.int .i64 (pushesI op)) := by
  refine gives_of (V76.sound ?_)
  intro q _
  rcases op_cases op with h | h | h | h | h | h | h | h | h | h | h | h | h | h | h | h | h | h | h | h | h | h | h | h | h | h | h | ⟨h1, h2, h3, h4, h5, h6, h7, h8, h9, h10, h11, h12, h13, h14, h15, h16, h17, h18, h19, h20, h21, h22, h23, h24, h25, h26, h27⟩
  all_goals first
    | subst h
      simp only [Int.reduceBEq, Bool.false_eq_true, if_false, if_true]
      exact ret_is (Below.refl _ _) rfl
    | simp only [beq_iff_eq, *, if_false, if_true]
      exact ret_is (Below.refl _ _) (by simp [pushesI, rowT, *])
def paramsM (p : List Fnc) (f : Int) : Int :=
  if f < 0 then 0 else match p[f.toNat]? with
    | some x => if 0 > x.params then 0 else x.params
    | none => 0
def popsM (p : List Fnc) (op a : Int) : Int := if (rowT op).2.1 < 0 then paramsM p a else (rowT op).2.1
theorem paramsM_out {p : List Fnc} {f : Int} (h : f < 0 ∨ (p.length : Int) ≤ f) : paramsM p f = 0 := by
  unfold paramsM
  rcases h with h | h
  · rw [if_pos h]
  · by_cases h0 : f < 0
    · rw [if_pos h0]
    · rw [if_neg h0, List.getElem?_eq_none (by omega)]
theorem paramsM_in {p : List Fnc} {f : Int} {x : Fnc} (h0 : ¬ f < 0) (hx : p[f.toNat]? = some x) : paramsM p f = if 0 > x.params then 0 else x.params := by
  unfold paramsM
  rw [if_neg h0, hx]
theorem gives84 {w : World} {A : Option Addr} {l c : Nat} {p : List Fnc} (hp : ProgAt w A l p) (f : Int) : Gives Try.prog 84 [.agg ⟨[.slice A l c]⟩, .int .i64 f] w (.int .i64 (paramsM p f)) := by
  refine gives_of (V84.sound ?_)
  intro q _
  by_cases h0 : f < 0
  · rw [if_neg (by simpa using h0)]
    exact ret_is (Below.refl _ _) (by rw [paramsM_out (.inl h0)])
  · rw [if_pos (by simpa using h0)]
    by_cases h1 : f ≥ (l : Int)
    · rw [if_pos (by simpa using h1)]
      exact ret_is (Below.refl _ _) (by rw [paramsM_out (.inr (by rw [hp.len]; omega))])
    · rw [if_neg (by simpa using h1)]
      obtain ⟨x, a, hx, ha, he⟩ := hp.at (i := f.toNat) (by omega)
      exact ⟨a, ha, by omega, by omega, x.params, he.1, ret_is (Below.refl _ _) (by rw [paramsM_in h0 hx])⟩
theorem gives63 {w : World} {A : Option Addr} {l c : Nat} {p : List Fnc} (hp : ProgAt w A l p) (op a b : Int) : Gives Try.prog 63 [.agg ⟨[.slice A l c]⟩, .agg ⟨[.int .i64 op, .int .i64 a, .int .i64 b]⟩] w (.int .i64 (popsM p op a)) := by
  refine gives_of (V63.sound ?_)
  intro q2 _ q3 _
  rcases op_cases op with h | h | h | h | h | h | h | h | h | h | h | h | h | h | h | h | h | h | h | h | h | h | h | h | h | h | h | ⟨h1, h2, h3, h4, h5, h6, h7, h8, h9, h10, h11, h12, h13, h14, h15, h16, h17, h18, h19, h20, h21, h22, h23, h24, h25, h26, h27⟩
  all_goals first
    | subst h
      simp only [V63.b0, V63.b1, Int.reduceBEq, Bool.false_eq_true, if_false, if_true]
      first
        | exact ret_is (Below.refl _ _) rfl
        | exact call_gives (Below.refl _ _) (fun w1 _ hb => gives84 (hp.keep hb) a) fun w1 _ hb => ⟨_, rfl, ret_is hb rfl⟩
    | simp only [V63.b0, V63.b1, beq_iff_eq, *, if_false, if_true, Bool.false_eq_true]
      exact ret_is (Below.refl _ _) (by simp [popsM, rowT, *])
def hasDefer : List Ins → Bool
  | [] => false
  | x :: r => x.op == 19 || hasDefer r
end Go.Proofs.Ytidcpndlloppdaa
