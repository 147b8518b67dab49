/-
  Layer 29: marks in memory.
  Conditions: none.
-/
import Derived.Test.YtofblkmibghmbaaDoorZEngD
import Derived.Test.YtofblkmibghmbaaDoorZP29
import Derived.Test.YtofblkmibghmbaaDoorZC2
set_option linter.unusedVariables false
set_option linter.unusedSimpArgs false
namespace Go.Proofs.YtofblkmibghmbaaDoor
open Go.RowKit
def MarkE : World → Addr → Mk → Prop := fun w a m => w.cell? (a.add 0) = some (.int .i64 m.k) ∧ w.cell? (a.add 1) = some (.int .u64 (m.w : Int))
theorem MarkE.kept : Kept1 MarkE := fun _ _ _ _ hw h => ⟨hw _ _ h.1, hw _ _ h.2⟩
abbrev Marks (w : World) (A : Option Addr) (l : Nat) (xs : List Mk) : Prop := RowAt MarkE 2 w A l xs
theorem marks_nil (w : World) : Marks w none 0 [] := ⟨rfl, Nat.zero_le _, fun i x h => by simp at h⟩
theorem Marks.cells {w : World} {A : Option Addr} {l : Nat} {xs : List Mk} (h : Marks w A l xs) {i : Nat} (hi : i < l) : ∃ m p, xs[i]? = some m ∧ A = some p ∧ w.cell? ((p.add (i * 2)).add 0) = some (.int .i64 m.k) ∧ w.cell? ((p.add (i * 2)).add 1) = some (.int .u64 (m.w : Int)) := by
  obtain ⟨x, p, hx, hp, h1, h2⟩ := RowAt.at h hi
  exact ⟨x, p, hx, hp, h1, h2⟩
theorem Marks.take {w : World} {A : Option Addr} {l : Nat} {xs : List Mk} (h : Marks w A l xs) {k : Nat} (hk : k ≤ l) : Marks w A k (xs.take k) :=
  ⟨by rw [List.length_take, h.len]; omega, Nat.le_trans hk h.small, fun i x hx => by
    rw [List.getElem?_take] at hx
    split at hx
    · exact h.get i x hx
    · cases hx⟩
def mcs : List Mk → List Value
  | [] => []
  | m :: l => .int .i64 m.k :: .int .u64 (m.w : Int) :: mcs l
theorem mcs_app : ∀ a b : List Mk, mcs (a ++ b) = mcs a ++ mcs b
  | [], b => rfl
  | m :: a, b => by simp [mcs, mcs_app a b]
theorem mcs_len : ∀ l : List Mk, (mcs l).length = l.length * 2
  | [] => rfl
  | m :: l => by simp only [mcs, List.length_cons, mcs_len l]; omega
theorem mcs_get : ∀ {l : List Mk} {i : Nat} {m : Mk}, l[i]? = some m → (mcs l)[i * 2]? = some (.int .i64 m.k) ∧ (mcs l)[i * 2 + 1]? = some (.int .u64 (m.w : Int))
  | [], i, m, h => by simp at h
  | y :: l, 0, m, h => by simp at h; subst h; exact ⟨rfl, rfl⟩
  | y :: l, i + 1, m, h => by
    obtain ⟨h1, h2⟩ := mcs_get (l := l) (i := i) (by simpa using h)
    rw [show (i + 1) * 2 = i * 2 + 2 by omega, show i * 2 + 2 + 1 = i * 2 + 1 + 2 by omega]
    exact ⟨h1, h2⟩
theorem mcs_inv : ∀ {l : List Mk} {j : Nat} {u : Value}, (mcs l)[j]? = some u → ∃ i m, l[i]? = some m ∧ (j = i * 2 ∧ u = .int .i64 m.k ∨ j = i * 2 + 1 ∧ u = .int .u64 (m.w : Int))
  | [], j, u, h => by simp [mcs] at h
  | y :: l, 0, u, h => by simp [mcs] at h; exact ⟨0, y, rfl, .inl ⟨rfl, h.symm⟩⟩
  | y :: l, 1, u, h => by simp [mcs] at h; exact ⟨0, y, rfl, .inr ⟨rfl, h.symm⟩⟩
  | y :: l, j + 2, u, h => by
    obtain ⟨i, m, h1, h2⟩ := mcs_inv (l := l) (j := j) (u := u) (by simpa [mcs] using h)
    refine ⟨i + 1, m, by simpa using h1, ?_⟩
    rcases h2 with ⟨h, k⟩ | ⟨h, k⟩
    · exact .inl ⟨by omega, k⟩
    · exact .inr ⟨by omega, k⟩
theorem mcs_one {l : List Mk} : ∀ u ∈ mcs l, u.oneCell' = true := fun u hu => by
  obtain ⟨j, hj⟩ := List.getElem?_of_mem hu
  obtain ⟨i, m, _, ⟨_, rfl⟩ | ⟨_, rfl⟩⟩ := mcs_inv hj <;> rfl
theorem Marks.src {w : World} {a : Addr} {l : Nat} {xs : List Mk} (h : Marks w (some a) l xs) : ∀ j u, (mcs xs)[j]? = some u → w.cell? (a.add j) = some u := fun j u hj => by
  obtain ⟨i, m, hm, hu⟩ := mcs_inv hj
  obtain ⟨p, hp, h1, h2⟩ := h.get i m hm
  cases hp
  rw [adr_add] at h1 h2
  rcases hu with ⟨rfl, rfl⟩ | ⟨rfl, rfl⟩
  · simpa using h1
  · exact h2
abbrev OwnMs (w : World) (B : Nat) (v : Value) (xs : List Mk) : Prop := w.ownsRow B 73 2 v xs.length (mcs xs)
theorem OwnMs.marks {w : World} {B : Nat} {v : Value} {xs : List Mk} (h : OwnMs w B v xs) (hl : xs.length ≤ 1000000) : ∃ A c, v = .slice A xs.length c ∧ Marks (newW B w) A xs.length xs := by
  rcases h.2 with ⟨rfl, h0⟩ | ⟨g, cap, cur, rfl, hb, _⟩
  · have : xs = [] := List.eq_nil_of_length_eq_zero h0
    subst this
    exact ⟨none, 0, rfl, rfl, Nat.zero_le _, fun i x h => by simp at h⟩
  · refine ⟨_, cap, rfl, rfl, by simp only [maxLen]; omega, fun i d hd => ⟨_, rfl, ?_⟩⟩
    obtain ⟨k1, k2⟩ := mcs_get hd
    have c1 := owns_cell h k1
    have c2 := owns_cell h k2
    constructor
    · simp only [own_add, bx_add, Nat.zero_add, Nat.add_zero]
      exact newW_cell.2 ⟨c1, hb⟩
    · simp only [own_add, bx_add, Nat.zero_add]
      exact newW_cell.2 ⟨c2, hb⟩
theorem OwnMs.nil (w : World) (B : Nat) : OwnMs w B (.slice none 0 0) [] := World.ownsRow_nil _ _ _ _
theorem OwnMs.ext {B B' : Nat} {w w' : World} {v : Value} {xs : List Mk} (h : OwnMs w B v xs) (he : Ext B' w w') : OwnMs w' B v xs := he.owns h
theorem append_marks {B b0 : Nat} {w : World} {bs : List Nat} {K : Value → World → Prop} {v : Value} {xs ys : List Mk} (ho : OwnMs w b0 v xs) {a : Addr} {c : Nat} (hy : Marks w (some a) ys.length ys) (hn : xs.length + ys.length ≤ 1000000) (hB : B ≤ w.heap.size) (hb0 : b0 ≤ w.heap.size)
    (hk : ∀ v' w', ExtS B (fun k => v.ownBlock = some k) w w' → OwnMs w' b0 v' (xs ++ ys) → (∀ g, v'.ownBlock = some g → v.ownBlock = some g ∨ w.heap.size ≤ g) → K v' w') :
    RunK Tryd.prog (Builtin.append_ #[70, 70] 70 ⟨[v, .slice (some a) ys.length c]⟩) B w bs K := by
  have hb : Tryd.t73.bytes = 16 := by kernel_rfl
  refine append_own (t := 70) (e := 73) (i := Tryd.t73) (z := .agg ⟨[.int .i64 0, .int .u64 0]⟩) (size := 2) (bytes := 16) (by kernel_rfl) (by kernel_rfl) (by kernel_rfl) (by kernel_rfl) hb rfl (by omega) ho (news := mcs ys) (mcs_len ys) hy.src mcs_one (by simp only [maxLen]; omega) (by omega) hB hb0 fun v' w' he ho' hn => ?_
  rw [← mcs_app] at ho'
  exact hk v' w' he (by unfold OwnMs; rw [List.length_append]; exact ho') hn
def mkOf (a b : Int) : Mk := ⟨a % 8 - a / 128, nw (b - 100)⟩
def marksF (ns : List Int) : Nat → Nat → List Mk
  | 0, _ => []
  | k + 1, i => if i + 1 < ns.length ∧ i < 60 then mkOf (ns.getD i 0) (ns.getD (i + 1) 0) :: marksF ns k (i + 2) else []
def marksM (ns : List Int) : List Mk := marksF ns 31 0
theorem marksF_ok {ns : List Int} (h : ∀ n ∈ ns, 0 ≤ n ∧ n < 256) : ∀ (k i : Nat), (marksF ns k i).length ≤ k ∧ ∀ m ∈ marksF ns k i, -1 ≤ m.k ∧ m.k ≤ 7 ∧ ∃ n : Int, m.w = nw n
  | 0, i => ⟨Nat.le_refl _, fun m hm => by cases hm⟩
  | k + 1, i => by
    unfold marksF
    split
    · obtain ⟨h1, h2⟩ := marksF_ok h k (i + 2)
      refine ⟨by simp; omega, fun m hm => ?_⟩
      rcases List.mem_cons.1 hm with rfl | hm
      · have hb : 0 ≤ ns.getD i 0 ∧ ns.getD i 0 < 256 := by
          rw [List.getD_eq_getElem?_getD]
          cases hg : ns[i]? with
          | none => simp
          | some x => simpa using h x (List.mem_of_getElem? hg)
        refine ⟨?_, ?_, _, rfl⟩
        · show -1 ≤ ns.getD i 0 % 8 - ns.getD i 0 / 128; omega
        · show ns.getD i 0 % 8 - ns.getD i 0 / 128 ≤ 7; omega
      · exact h2 m hm
    · exact ⟨Nat.zero_le _, fun m hm => by cases hm⟩
end Go.Proofs.YtofblkmibghmbaaDoor
