/-
  The functions of layer 17 that tell what instructions pop and push, and how many words a frame has: what their calls return.
  Conditions: the arguments' memory says what their values are.
-/
import Derived.Test.YtlccbaemcfjdoaaZEngD
import Derived.Test.YtlccbaemcfjdoaaZVA
set_option linter.unusedVariables false
set_option linter.unusedSimpArgs false
namespace Go.Proofs.Ytlccbaemcfjdoaa
open Go.RowKit
structure Ins where
  op : Int
  a : Int
  b : Int
structure Fnc where
  params : Int
  locals : Int
  refs : Int
  code : List Ins
def InsE (w : World) (p : Addr) (x : Ins) : Prop := w.cell? (p.add 0) = some (.int .i64 x.op) ∧ w.cell? (p.add 1) = some (.int .i64 x.a) ∧ w.cell? (p.add 2) = some (.int .i64 x.b)
def FncE (w : World) (p : Addr) (f : Fnc) : Prop := w.cell? (p.add 0) = some (.int .i64 f.params) ∧ w.cell? (p.add 1) = some (.int .i64 f.locals) ∧ w.cell? (p.add 2) = some (.int .i64 f.refs) ∧
  ∃ A l c, w.cell? (p.add 3) = some (.slice A l c) ∧ RowAt InsE 3 w A l f.code
theorem InsE.kept : Kept1 InsE := fun _ _ _ _ hw h => ⟨hw _ _ h.1, hw _ _ h.2.1, hw _ _ h.2.2⟩
theorem FncE.kept : Kept1 FncE := fun _ _ _ _ hw h => by
  obtain ⟨h1, h2, h3, A, l, c, h4, h5⟩ := h
  exact ⟨hw _ _ h1, hw _ _ h2, hw _ _ h3, A, l, c, hw _ _ h4, h5.keep InsE.kept hw⟩
abbrev CodeAt (w : World) (A : Option Addr) (l : Nat) (xs : List Ins) : Prop := RowAt InsE 3 w A l xs
abbrev ProgAt (w : World) (A : Option Addr) (l : Nat) (xs : List Fnc) : Prop := RowAt FncE 4 w A l xs
theorem ProgAt.keep {w w' : World} {A : Option Addr} {l : Nat} {xs : List Fnc} (h : ProgAt w A l xs) (hb : Below w.heap.size w w') : ProgAt w' A l xs := RowAt.keep FncE.kept h (below_keeps hb)
theorem CodeAt.keep {w w' : World} {A : Option Addr} {l : Nat} {xs : List Ins} (h : CodeAt w A l xs) (hb : Below w.heap.size w w') : CodeAt w' A l xs := RowAt.keep InsE.kept h (below_keeps hb)
def hasDefer : List Ins → Bool
  | [] => false
  | x :: r => x.op == 19 || hasDefer r
def clampL (n : Int) : Int := if 8 < (if 0 > n then 0 else n) then 8 else (if 0 > n then 0 else n)
def sizeM (locals : Int) (code : List Ins) : Int := 15 + clampL locals + (if hasDefer code then 16 else 0)
theorem clampL_bd (n : Int) : 0 ≤ clampL n ∧ clampL n ≤ 8 := by unfold clampL; split <;> split <;> omega
theorem hasDefer_drop {xs : List Ins} {i : Nat} {x : Ins} (h : xs[i]? = some x) : hasDefer (xs.drop i) = (x.op == 19 || hasDefer (xs.drop (i + 1))) := by
  obtain ⟨hlt, rfl⟩ := List.getElem?_eq_some_iff.1 h
  rw [List.drop_eq_getElem_cons hlt]
  rfl
theorem size_wraps (n : Int) : IntKind.wrap .i64 (IntKind.wrap .i64 (7 + clampL n) + 8) = 15 + clampL n ∧ IntKind.wrap .i64 (15 + clampL n + 16) = 31 + clampL n := by
  have := clampL_bd n
  rw [wrap_id (n := 7 + clampL n) (by omega) (by omega), wrap_id (n := 7 + clampL n + 8) (by omega) (by omega), wrap_id (n := 15 + clampL n + 16) (by omega) (by omega)]
  omega
theorem l32 {w0 : World} {A : Option Addr} {l c : Nat} {xs : List Ins} (hx : CodeAt w0 A l xs) {n : Int} {w : World} (hw : Below w0.heap.size w0 w) {v : Int} :
    ∀ (k i : Nat), l < i + k → i ≤ l → (15 + clampL n + if hasDefer (xs.drop i) then 16 else 0) = v → V32.l0 w0.heap.size (IsV w0 (.int .i64 v)) k (15 + clampL n) A l c l i w
  | 0, i, hk, hi, _ => by omega
  | k + 1, i, hk, hi, hv => by
    dsimp -zeta only [V32.l0]
    by_cases h : i < l
    · rw [if_pos (by simpa using h)]
      obtain ⟨x, p, hn, hp, he⟩ := (hx.keep hw).at h
      refine ⟨p, hp, by omega, by omega, x.op, he.1, x.a, he.2.1, x.b, he.2.2, fun _ _ => ?_⟩
      rw [hasDefer_drop hn] at hv
      by_cases hd : x.op = 19
      · rw [if_pos (by simpa using hd), (size_wraps n).2]
        exact ret_is hw (by simp [hd] at hv; rw [← hv]; congr 1; omega)
      · rw [if_neg (by simpa using hd), wrap_succ h hx.small]
        exact l32 hx hw k (i + 1) (by omega) (by omega) (by rw [← hv]; simp [hd])
    · rw [if_neg (by simpa using h)]
      refine ret_is hw ?_
      rw [List.drop_eq_nil_of_le (by have := hx.len; omega)] at hv
      rw [← hv]; simp [hasDefer]
theorem gives32 {w : World} {A : Option Addr} {l c : Nat} {xs : List Ins} (hx : CodeAt w A l xs) (f0 f1 f2 : Int) : Gives Try.prog 32 [.agg ⟨[.int .i64 f0, .int .i64 f1, .int .i64 f2, .slice A l c]⟩] w (.int .i64 (sizeM f1 xs)) := by
  refine gives_of (V32.sound ?_)
  intro q _
  refine ⟨l + 1, ?_⟩
  show V32.l0 _ _ _ (IntKind.wrap .i64 (IntKind.wrap .i64 (7 + clampL f1) + 8)) _ _ _ _ _ _
  rw [(size_wraps f1).1]
  exact l32 hx (Below.refl _ _) (l + 1) 0 (by omega) (by omega) rfl
end Go.Proofs.Ytlccbaemcfjdoaa
