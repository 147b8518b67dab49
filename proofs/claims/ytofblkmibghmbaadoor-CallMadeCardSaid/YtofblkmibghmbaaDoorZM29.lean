import Derived.Test.YtofblkmibghmbaaDoorZEngD
import Derived.Test.YtofblkmibghmbaaDoorZP29
import Derived.Test.YtofblkmibghmbaaDoorZC2
/-
  Layer 29: marks in memory.
  Conditions: none.
-/
set_option linter.unusedVariables false
set_option linter.unusedSimpArgs false
namespace Go.Proofs.YtofblkmibghmbaaDoor
open Go.RowKit
def MarkE : World → Addr → Mk → Prop := fun w a m => w.cell? (a.add 0) = some (.int .i64 m.k) ∧ w.cell? (a.add 1) = some (.int .u64 (m.w : Int))
theorem MarkE.kept : Kept1 MarkE := fun _ _ _ _ hw h => ⟨hw _ _ h.1, hw _ _ h.2⟩
abbrev Marks (w : World) (A : Option Addr) (l : Nat) (xs : List Mk) : Prop := RowAt MarkE 2 w A l xs
theorem Marks.cells {w : World} {A : Option Addr} {l : Nat} {xs : List Mk} (h : Marks w A l xs) {i : Nat} (hi : i < l) : ∃ m p, xs[i]? = some m ∧ A = some p ∧ w.cell? ((p.add (i * 2)).add 0) = some (.int .i64 m.k) ∧ w.cell? ((p.add (i * 2)).add 1) = some (.int .u64 (m.w : Int)) := by
  obtain ⟨x, p, hx, hp, h1, h2⟩ := RowAt.at h hi
  exact ⟨x, p, hx, hp, h1, h2⟩
def mcs : List Mk → List Value
  | [] => []
  | m :: l => .int .i64 m.k :: .int .u64 (m.w : Int) :: mcs l
theorem mcs_get : ∀ {l : List Mk} {i : Nat} {m : Mk}, l[i]? = some m → (mcs l)[i * 2]? = some (.int .i64 m.k) ∧ (mcs l)[i * 2 + 1]? = some (.int .u64 (m.w : Int))
  | [], i, m, h => by simp at h
  | y :: l, 0, m, h => by simp at h; subst h; exact ⟨rfl, rfl⟩
  | y :: l, i + 1, m, h => by
    obtain ⟨h1, h2⟩ := mcs_get (l := l) (i := i) (by simpa using h)
    rw [show (i + 1) * 2 = i * 2 + 2 by omega, show i * 2 + 2 + 1 = i * 2 + 1 + 2 by omega]
    exact ⟨h1, h2⟩
abbrev OwnMs (w : World) (B : Nat) (v : Value) (xs : List Mk) : Prop := w.ownsRow B 73 2 v xs.length (mcs xs)
theorem OwnMs.marks {w : World} {B : Nat} {v : Value} {xs : List Mk} (h : OwnMs w B v xs) (hl : xs.length ≤ 1000000) : ∃ A c, v = .slice A xs.length c ∧ Marks (newW B w) A xs.length xs := by
  rcases h.2 with ⟨rfl, h0⟩ | ⟨g, cap, cur, rfl, hb, _⟩
  · have : xs = [] := List.eq_nil_of_length_eq_zero h0
    subst this
    exact ⟨none, 0, rfl, rfl, Nat.zero_le _, fun i x h => by simp at h⟩
  · refine ⟨_, cap, rfl, rfl, by simp only [maxLen]; omega, fun i d hd => ⟨_, rfl, ?_⟩⟩
    obtain ⟨k1, k2⟩ := mcs_get hd
    have c1 := owns_cell h k1
    have c2 := owns_cell h k2
    constructor
    · simp only [own_add, bx_add, Nat.zero_add, Nat.add_zero]
      exact newW_cell.2 ⟨c1, hb⟩
    · simp only [own_add, bx_add, Nat.zero_add]
      exact newW_cell.2 ⟨c2, hb⟩
theorem OwnMs.nil (w : World) (B : Nat) : OwnMs w B (.slice none 0 0) [] := World.ownsRow_nil _ _ _ _
theorem OwnMs.ext {B B' : Nat} {w w' : World} {v : Value} {xs : List Mk} (h : OwnMs w B v xs) (he : Ext B' w w') : OwnMs w' B v xs := he.owns h
end Go.Proofs.YtofblkmibghmbaaDoor
