/-
  Layer 17, as plain rules: which places follow, depths, checks; rows of memory that tell programs.
  Conditions: none.
-/
import Derived.Test.YtlccbaemcfjdoaaZEngD
import Derived.Test.YtlccbaemcfjdoaaZC17
set_option linter.unusedVariables false
set_option linter.unusedSimpArgs false
namespace Go.Proofs.Ytlccbaemcfjdoaa
open Go.RowKit
def sizedM (p l r : Int) (n : Nat) : Bool := decide (0 ≤ p ∧ p ≤ 3 ∧ p ≤ l ∧ l ≤ 8 ∧ 0 ≤ r ∧ r ≤ l - p ∧ 1 ≤ n ∧ n ≤ 64)
theorem sized_wrap {p l : Int} (h : 0 ≤ p ∧ p ≤ 3 ∧ p ≤ l ∧ l ≤ 8) : IntKind.wrap .i64 (l - p) = l - p := wrap_id (by omega) (by omega)
theorem gives89 (p l r : Int) (A : Option Addr) (n c : Nat) (w : World) : Gives Try.prog 89 [.agg ⟨[.int .i64 p, .int .i64 l, .int .i64 r, .slice A n c]⟩] w (.bool (sizedM p l r n)) := by
  refine gives_of (V89.sound ?_)
  intro q _
  have hw : 0 ≤ p ∧ p ≤ 3 ∧ p ≤ l ∧ l ≤ 8 → IntKind.wrap .i64 (l - p) = l - p := sized_wrap
  unfold V89.b0 V89.b1
  generalize IntKind.wrap .i64 (l - p) = X at hw
  simp only [decide_eq_true_eq, decide_eq_false_iff_not, if_true]
  repeat' split
  all_goals refine ret_is (Below.refl _ _) (congrArg Value.bool ?_)
  all_goals unfold sizedM
  all_goals first
    | exact (decide_eq_false (by omega)).symm
    | exact decide_eq_decide.2 (by omega)
def withinM (a n : Int) : Bool := decide (0 ≤ a ∧ a < n)
def kindM (np : Nat) (locals refs : Int) (n : Nat) (k a b : Int) : Bool :=
  if k = 1 then decide (-2147483648 ≤ a ∧ a ≤ 2147483648) else if k = 2 then withinM a 6 else if k = 3 then withinM a (IntKind.wrap .i64 (locals - refs)) else if k = 4 then withinM a n
  else if k = 5 then withinM a np else if k = 6 then withinM a refs else if k = 7 then withinM a refs && withinM b refs else a == 0
def shapedM (np : Nat) (locals refs : Int) (n : Nat) (op a b : Int) : Bool :=
  (rowT op).2.2.2 && ((rowT op).1 == 7 || b == 0) && kindM np locals refs n (rowT op).1 a b
def nextM (at_ : Nat) (op a : Int) : List Int := if op = 18 ∨ op = 20 then [] else if op = 15 then [a] else if op = 16 then [a, (at_ : Int) + 1] else [(at_ : Int) + 1]
theorem len_ok {n : Nat} (h : n ≤ 1000) : n ≤ maxLen := by simp only [maxLen]; omega
def initM (n i : Nat) : List Int := (List.range n).map fun j => if j ≠ 0 ∧ j < i then -1 else 0
def start (n : Nat) : List Int := initM n n
theorem rowT_bd (op : Int) : -1 ≤ (rowT op).2.1 ∧ (rowT op).2.1 ≤ 2 ∧ 0 ≤ pushesI op ∧ pushesI op ≤ 2 := by
  unfold pushesI
  rcases op_cases op with h | h | h | h | h | h | h | h | h | h | h | h | h | h | h | h | h | h | h | h | h | h | h | h | h | h | h | hd
  all_goals first
    | (subst h; decide)
    | (obtain ⟨h1, h2, h3, h4, h5, h6, h7, h8, h9, h10, h11, h12, h13, h14, h15, h16, h17, h18, h19, h20, h21, h22, h23, h24, h25, h26, h27⟩ := hd; simp [rowT, *])
def Few (p : List Fnc) : Prop := ∀ f ∈ p, f.params ≤ 3
theorem popsM_bd {p : List Fnc} (hp : Few p) (op a : Int) : 0 ≤ popsM p op a ∧ popsM p op a ≤ 3 := by
  have := rowT_bd op
  unfold popsM
  split
  · unfold paramsM
    split
    · omega
    · split
      · rename_i x hx
        have := hp x (List.mem_of_getElem? hx)
        split <;> omega
      · omega
  · omega
theorem getD_get {d : List Int} {i : Nat} (h : i < d.length) : d[i]? = some (d.getD i 0) := by
  simp [List.getD, h]
theorem owns_nums {w : World} {B : Nat} {e : TypeId} {k : IntKind} {v : Value} {n : Nat} {xs : List Int} (h : w.ownsRow B e 1 v n (xs.map (.int k))) (hn : n ≤ maxLen) :
    ∃ A c, v = .slice A n c ∧ Nums k w A n xs ∧ ∀ p, A = some p → v.ownBlock = some p.block := by
  have hl : xs.length = n := by have := h.1; simpa using this
  rcases h.2 with ⟨rfl, rfl⟩ | ⟨g, cap, cur, rfl, hb, hg, _⟩
  · exact ⟨none, 0, rfl, ⟨hl, hn, fun i x hi => by rw [List.eq_nil_of_length_eq_zero hl] at hi; simp at hi⟩, fun p hp => by cases hp⟩
  · refine ⟨_, cap, rfl, ⟨hl, hn, fun i x hi => ⟨_, rfl, ?_⟩⟩, fun p hp => by cases hp; rfl⟩
    rw [Nat.mul_one]
    exact h.cells rfl i _ (by rw [List.getElem?_map, hi]; rfl)
def sizedF (f : Fnc) : Bool := sizedM f.params f.locals f.refs f.code.length
theorem prog_at {w : World} {A : Option Addr} {p : List Fnc} (hp : ProgAt w A p.length p) {i : Nat} (h : i < p.length) :
    ∃ f q C c, p[i]? = some f ∧ A = some q ∧ w.cell? ((q.add (i * 4)).add 0) = some (.int .i64 f.params) ∧ w.cell? ((q.add (i * 4)).add 1) = some (.int .i64 f.locals) ∧ w.cell? ((q.add (i * 4)).add 2) = some (.int .i64 f.refs) ∧
      w.cell? ((q.add (i * 4)).add 3) = some (.slice C f.code.length c) ∧ CodeAt w C f.code.length f.code := by
  obtain ⟨f, q, hf, hq, h0, h1, h2, C, l, c, h3, hc⟩ := hp.at h
  obtain rfl := hc.len
  exact ⟨f, q, C, c, hf, hq, h0, h1, h2, h3, hc⟩
theorem drop_at {α : Type} {l : List α} {i : Nat} {x : α} (h : l[i]? = some x) : l.drop i = x :: l.drop (i + 1) := by
  obtain ⟨hlt, rfl⟩ := List.getElem?_eq_some_iff.1 h
  exact List.drop_eq_getElem_cons hlt
def insV (x : Ins) : List Value := [.int .i64 x.op, .int .i64 x.a, .int .i64 x.b]
theorem flat_get : ∀ {xs : List Ins} {i : Nat} {x : Ins}, xs[i]? = some x → (xs.flatMap insV)[i * 3]? = some (.int .i64 x.op) ∧ (xs.flatMap insV)[i * 3 + 1]? = some (.int .i64 x.a) ∧ (xs.flatMap insV)[i * 3 + 2]? = some (.int .i64 x.b)
  | [], i, x, h => by simp at h
  | y :: r, 0, x, h => by simp at h; subst h; simp [insV]
  | y :: r, i + 1, x, h => by
    have := flat_get (xs := r) (i := i) (x := x) (by simpa using h)
    rw [List.flatMap_cons]
    have hl : (insV y).length = 3 := rfl
    refine ⟨?_, ?_, ?_⟩
    · rw [List.getElem?_append_right (by omega), hl, show (i + 1) * 3 - 3 = i * 3 by omega]; exact this.1
    · rw [List.getElem?_append_right (by omega), hl, show (i + 1) * 3 + 1 - 3 = i * 3 + 1 by omega]; exact this.2.1
    · rw [List.getElem?_append_right (by omega), hl, show (i + 1) * 3 + 2 - 3 = i * 3 + 2 by omega]; exact this.2.2
theorem code_lit {w : World} {g : Nat} {t : TypeId} {xs : List Ins} (h : w.heap[g]? = some (.cells ⟨xs.flatMap insV⟩ t (0, 0))) (hl : xs.length ≤ 1000) : CodeAt w (some ⟨g, 0, none⟩) xs.length xs :=
  ⟨rfl, len_ok hl, fun i x hx => ⟨_, rfl, by
    obtain ⟨h0, h1, h2⟩ := flat_get hx
    unfold InsE
    rw [own_add, bx_add, bx_add, bx_add]
    refine ⟨?_, ?_, ?_⟩
    · simpa [World.cell?, h] using h0
    · simpa [World.cell?, h] using h1
    · simpa [World.cell?, h] using h2⟩⟩
theorem prog_lit {w : World} {g : Nat} {t : TypeId} {C : Option Addr} {f : Fnc} {c : Nat} (h : w.heap[g]? = some (.cells ⟨[.int .i64 f.params, .int .i64 f.locals, .int .i64 f.refs, .slice C f.code.length c]⟩ t (0, 0))) (hc : CodeAt w C f.code.length f.code) : ProgAt w (some ⟨g, 0, none⟩) 1 [f] :=
  ⟨rfl, len_ok (by omega), fun i x hx => by
    have h0 : i = 0 := by
      have := (List.getElem?_eq_some_iff.1 hx).1
      simp at this; omega
    subst h0
    simp at hx
    subst hx
    refine ⟨_, rfl, ?_⟩
    unfold FncE
    rw [own_add, bx_add, bx_add, bx_add, bx_add]
    refine ⟨?_, ?_, ?_, C, _, c, ?_, hc⟩
    all_goals simp [World.cell?, h]⟩
theorem alloc0 {B : Nat} {w w1 : World} (o : Obj) (h1 : Ext B w w1) (hB : B ≤ w.heap.size) : Ext B w (w1.alloc o) ∧ (w1.alloc o).heap[w1.heap.size]? = some o :=
  ⟨h1.alloc hB o, alloc_new w1 o⟩
end Go.Proofs.Ytlccbaemcfjdoaa
