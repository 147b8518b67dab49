/-
  Layer 29: the laws' functions TraceFronts, TraceLines, TraceTexts return true.
  Conditions: the tables of the host's library read as the program's text lays them; the arguments' memory says what their values are.
-/
import Derived.Test.YtofblkmibghmbaaDoorZC29
set_option linter.unusedVariables false
set_option linter.unusedSimpArgs false
set_option maxRecDepth 100000
namespace Go.Proofs.YtofblkmibghmbaaDoor
open Go.RowKit
theorem own_cap {w : World} {B n c : Nat} {A : Option Addr} {e : TypeId} {sz : Nat} {xs : List Value} (h : w.ownsRow B e sz (.slice A n c) n xs) : n ≤ c ∧ (A = none → c = 0) := by
  rcases h.2 with ⟨hv, h0⟩ | ⟨g, cap, cur, hv, hb, hg, hnc, _⟩
  · cases hv; exact ⟨by omega, fun _ => rfl⟩
  · cases hv; exact ⟨hnc, fun h => by cases h⟩
theorem append_ms {w0 w : World} {bs : List Nat} {v : Value} {xs ys : List Mk} {A : Option Addr} {l c : Nat} {K : Value → World → Prop} {b0 : Nat} (hB : w0.heap.size ≤ w.heap.size) (hb0 : b0 ≤ w.heap.size) (ho : OwnMs w b0 v xs)
    (hy : Marks w A l ys) (hA : A = none → c = 0) (hn : xs.length + l ≤ 1000000) (hk : ∀ v' w', ExtS w0.heap.size (fun k => v.ownBlock = some k) w w' → OwnMs w' b0 v' (xs ++ ys) → K v' w') :
    RunK Tryd.prog (Builtin.append_ #[70, 70] 70 ⟨[v, .slice A l c]⟩) w0.heap.size w bs K := by
  obtain rfl := hy.len
  cases A with
  | none =>
    have hn : ys = [] := by
      cases ys with
      | nil => rfl
      | cons x r => obtain ⟨p, hp, _⟩ := hy.get 0 x rfl; cases hp
    subst hn
    obtain rfl := hA rfl
    intro w1 he hxx
    have hr := run_append_owned_none (P := Tryd.prog) (w := w1) b0 70 70 73 Tryd.t73 2 (by kernel_rfl) (by kernel_rfl) v xs.length _ (he.owns ho)
    refine ⟨_, w1, hr, ⟨Nat.le_refl _, fun _ _ => rfl⟩, hide_any fun w' hm => ?_⟩
    have h1 := masked he hxx (Nat.le_trans hB he.size) (Below.refl _ _) hm
    refine hk _ w' h1.toS ?_
    rw [List.append_nil]
    exact h1.owns ho
  | some a => exact append_marks ho hy hn hB hb0 fun v' w' he ho' _ => hk v' w' he ho'
theorem marks_block {w : World} {g : Nat} {ms : List Mk} (h : w.heap[g]? = some (.cells ⟨mcs ms⟩ 73 (0, 0))) (hl : ms.length ≤ 1000000) : Marks w (some ⟨g, 0, none⟩) ms.length ms := by
  refine ⟨rfl, by simp only [maxLen]; omega, fun i m hm => ⟨_, rfl, ?_⟩⟩
  obtain ⟨k1, k2⟩ := mcs_get hm
  exact ⟨by simp only [own_add, bx_add, Nat.zero_add, Nat.add_zero]; exact at_cell h k1, by simp only [own_add, bx_add, Nat.zero_add]; exact at_cell h k2⟩
def MarksQ (xs : List Mk) (w1 : World) : Value → World → Prop := fun u w2 => ∃ A c, u = .slice A xs.length c ∧ Marks (newW w1.heap.size w2) A xs.length xs ∧ xs.length ≤ c ∧ (A = none → c = 0)
theorem kind_eq {a : Int} (h : 0 ≤ a ∧ a < 256) : IntKind.wrap .i64 (Int.tmod (IntKind.wrap .i64 a) 8 - IntKind.wrap .i64 (Int.tdiv (IntKind.wrap .i64 a) 128)) = a % 8 - a / 128 := by
  rw [wrap_id (n := a) (by omega) (by omega), Int.tmod_eq_emod_of_nonneg h.1, Int.tdiv_eq_ediv_of_nonneg h.1, wrap_id (n := a / 128) (by omega) (by omega), wrap_id (by omega) (by omega)]
theorem l0_68 {w0 : World} {A : Option Addr} {l c : Nat} {ns : List Int} (hn : BytesAt w0 A l c ns) :
    ∀ (k i : Nat) (w : World) (acc : List Mk) (L : Option Addr) (lc : Nat), 62 ≤ i + 2 * k → i ≤ 61 → acc.length + k ≤ 100 → Below w0.heap.size w0 w → OwnMs w w0.heap.size (.slice L acc.length lc) acc →
    V68.l0 w0.heap.size (IsQ w0 (MarksQ (acc ++ marksF ns k i) w0)) k A l c L acc.length lc (i : Int) w
  | 0, i, w, acc, L, lc, hk, hi, _, _, _ => by omega
  | k + 1, i, w, acc, L, lc, hk, hi, hal, hw, ho => by
    dsimp -zeta only [V68.l0]
    have hnow := BytesAt.keep hn (below_keeps hw)
    have hll := hn.nums.len
    have hw1 : IntKind.wrap .i64 ((i : Int) + 1) = ((i + 1 : Nat) : Int) := by rw [wrap_id (by omega) (by omega)]; rfl
    have stop : marksF ns (k + 1) i = [] → Ret w0.heap.size w (IsQ w0 (MarksQ (acc ++ marksF ns (k + 1) i) w0) (.slice L acc.length lc)) := fun he => by
      rw [he, List.append_nil]
      refine ret_q hw fun w1 e1 => ?_
      have ho1 := OwnMs.ext ho e1
      obtain ⟨A', c', hv, hm⟩ := OwnMs.marks ho1 (by omega)
      cases hv
      exact ⟨_, _, rfl, hm, own_cap ho1⟩
    rw [hw1]
    by_cases h1 : i + 1 < l
    · rw [if_pos (by simp; omega)]
      by_cases h2 : i < 60
      · rw [if_pos (by simp; omega)]
        obtain ⟨x, p, hx, hp, c0⟩ := hnow.nums.at (i := i) (by omega)
        obtain ⟨y, q, hy, hq, c1⟩ := hnow.nums.at (i := i + 1) (by omega)
        have bx := hn.byte x (List.mem_of_getElem? hx)
        have by' := hn.byte y (List.mem_of_getElem? hy)
        have hm : marksF ns (k + 1) i = mkOf x y :: marksF ns k (i + 2) := by
          rw [marksF, if_pos ⟨by omega, h2⟩]
          congr 1
          simp [List.getD, hx, hy]
        refine ⟨p, hp, by omega, by omega, x, by simpa using c0, by decide, p, hp, by omega, by omega, x, by simpa using c0, by decide, q, hq, by omega, by omega, y, by simpa using c1, ?_⟩
        rw [wrap_id (n := y) (by omega) (by omega), wrap_id (n := y - 100) (by omega) (by omega)]
        refine call_gives hw (fun _ _ _ => gives32 (y - 100)) fun w1 e1 hw1' => ⟨_, rfl, e1.cell (by simpa using c0), e1.cell (by simpa using c0), ?_⟩
        rw [kind_eq bx]
        intro w2 e2 _
        obtain ⟨e3, ho3⟩ := alloc1 (.cells ⟨mcs [mkOf x y]⟩ 73) e2 hw1'.size
        try dsimp only
        have hd : (Obj.cells ⟨[.int .i64 (x % 8 - x / 128), .int .u64 (nw (y - 100) : Nat)]⟩ 73 : Obj) = .cells ⟨mcs [mkOf x y]⟩ 73 := rfl
        rw [hd]
        generalize w2.alloc (.cells ⟨mcs [mkOf x y]⟩ 73) = w3 at *
        have hb : Marks w3 (some ⟨w2.heap.size, 0, none⟩) 1 [mkOf x y] := marks_block (ms := [mkOf x y]) ho3 (by simp)
        have hw3 := e3.after hw1'
        refine append_ms hw3.size hw3.size (OwnMs.ext (OwnMs.ext ho e1) e3) hb (fun h => by cases h) (by omega) fun v' w4 he ho' => ?_
        have hw4 := he.after (fun j hj => (ho.lt j hj).1) hw3
        obtain ⟨A', c', hv⟩ := owns_slice0 ho'
        subst hv
        refine ⟨A', _, c', rfl, ?_⟩
        have hw2 : IntKind.wrap .i64 ((i : Int) + 2) = ((i + 2 : Nat) : Int) := by rw [wrap_id (by omega) (by omega)]; rfl
        rw [hw2]
        have hal2 : (acc ++ [mkOf x y]).length + k ≤ 100 := by simp; omega
        have := l0_68 hn k (i + 2) w4 (acc ++ [mkOf x y]) A' c' (by omega) (by omega) hal2 hw4 ho'
        rw [hm]
        rw [List.append_assoc] at this
        exact this
      · rw [if_neg (by simp; omega)]
        exact stop (by rw [marksF, if_neg (by omega)])
    · rw [if_neg (by simp; omega)]
      exact stop (by rw [marksF, if_neg (by omega)])
theorem yields68 {w : World} {A : Option Addr} {l c : Nat} {ns : List Int} (hn : BytesAt w A l c ns) : Yields Tryd.prog 68 [.slice A l c] w (MarksQ (marksM ns) w) := by
  refine yields_of (V68.sound ?_)
  exact ⟨31, l0_68 hn 31 0 w [] none 0 (by omega) (by omega) (by simp) (Below.refl _ _) (World.ownsRow_nil _ _ _ _)⟩
theorem call_marks {w0 w : World} {bs : List Nat} {A : Option Addr} {l c : Nat} {ns : List Int} {K : Value → World → Prop} (hw : Below w0.heap.size w0 w) (hn : BytesAt w A l c ns)
    (hk : ∀ A' c' w', Ext w0.heap.size w w' → Marks w' A' (marksM ns).length (marksM ns) → (marksM ns).length ≤ c' → (A' = none → c' = 0) → K (.slice A' (marksM ns).length c') w') : CallK Tryd.prog 68 [.slice A l c] w0.heap.size w bs K := by
  refine call_yieldsX (Q := MarksQ (marksM ns)) hw.size (fun w1 e1 => yields68 (BytesAt.keep hn (ext_keeps e1))) fun w1 u w2 w' hsz hQ hnew he => ?_
  obtain ⟨A', c', rfl, hm, hc, hA⟩ := hQ
  refine hk A' c' w' he (RowAt.keep MarkE.kept hm fun q v hq => ?_) hc hA
  obtain ⟨h1, h2⟩ := newW_cell.1 hq
  exact (cell_same (hnew _ h2)).trans h1
theorem marksM_ok {ns : List Int} (h : ∀ n ∈ ns, 0 ≤ n ∧ n < 256) : OkMs (marksM ns) ∧ (marksM ns).length ≤ 31 ∧ ∀ m ∈ marksM ns, m.k ≠ 9 := by
  obtain ⟨h1, h2⟩ := marksF_ok h 31 0
  refine ⟨fun m hm => ?_, h1, fun m hm e => ?_⟩
  · obtain ⟨_, _, n, hn⟩ := h2 m hm
    rw [hn]
    exact cn_lt (by
      have h : FloatKind.nearest .f64 n < 2 ^ Ieee.double.width := Ieee.double.write_lt (.number (n < 0) n.natAbs 0)
      have e : 2 ^ Ieee.double.width = 2 * SW := by decide
      rw [e] at h; exact h)
  · have := h2 m hm; omega
theorem awake29 : traceM [⟨1, nw 1⟩, ⟨5, 0⟩] = [111, 117, 116, 32, 49, 10, 111, 111, 109, 10] ∧ nw 1 < 2 * SW := by
  refine ⟨?_, by decide⟩
  have h : textF (nw 1) = [49] := by kernel_rfl
  have e : traceM [⟨1, nw 1⟩, ⟨5, 0⟩] = ([111, 117, 116] ++ (32 :: textF (nw 1)) ++ [10]) ++ (([111, 111, 109] ++ [] ++ [10]) ++ []) := rfl
  rw [e, h]; rfl
theorem gives70 {w : World} (ht : Tabs w) : Gives Tryd.prog 70 [] w (.bool true) := by
  refine gives_of (V70.sound ?_)
  unfold V70.vc
  obtain ⟨t1, l1⟩ := awake29
  refine call_gives (Below.refl _ _) (fun _ _ _ => gives32 1) fun w1 e1 h1 => ⟨_, rfl, ?_⟩
  intro w2 e2 _
  obtain ⟨e3, ho3⟩ := alloc1 (.cells ⟨[.int .i64 1, .int .u64 (nw 1 : Nat), .int .i64 5, .int .u64 0]⟩ 73) e2 h1.size
  try dsimp only
  generalize w2.alloc (.cells ⟨[.int .i64 1, .int .u64 (nw 1 : Nat), .int .i64 5, .int .u64 0]⟩ 73) = w3 at *
  have h3 := e3.after h1
  have hm3 : Marks w3 (some ⟨w2.heap.size, 0, none⟩) 2 [⟨1, nw 1⟩, ⟨5, 0⟩] := marks_block (ms := [⟨1, nw 1⟩, ⟨5, 0⟩]) ho3 (by simp)
  have hok : OkMs [⟨1, nw 1⟩, ⟨5, 0⟩] := fun m hm => by
    rcases List.mem_cons.1 hm with rfl | hm
    · exact l1
    · rw [List.mem_singleton] at hm; subst hm; decide
  refine call_gives h3 (fun w4 e4 h4 => gives71 (ht.on h4) (RowAt.keep MarkE.kept hm3 (ext_keeps e4)) hok (by omega)) fun w4 e4 h4 => ⟨_, rfl, ?_⟩
  rw [if_pos (str_eq (x := { data := #[111, 117, 116, 32, 49, 10, 111, 111, 109, 10] }) t1 rfl)]
  intro w5 e5 _
  obtain ⟨e6, ho6⟩ := alloc1 (.cells ⟨[.int .i64 5, .int .u64 0]⟩ 73) e5 h4.size
  try dsimp only
  generalize w5.alloc (.cells ⟨[.int .i64 5, .int .u64 0]⟩ 73) = w6 at *
  have hm6 : Marks w6 (some ⟨w5.heap.size, 0, none⟩) 1 [⟨5, 0⟩] := marks_block (ms := [⟨5, 0⟩]) ho6 (by simp)
  refine call_gives (e6.after h4) (fun w7 e7 _ => gives69 (marks_nil w7) (RowAt.keep MarkE.kept hm6 (ext_keeps e7)) (Nat.le_refl _)) fun w7 _ h7 => ⟨_, rfl, ret_is h7 ?_⟩
  rw [beg_nil]
theorem gives18 {w : World} (ht : Tabs w) {A A' : Option Addr} {l c l' c' : Nat} {xs : List Mk} {ns : List Int} (hx : Marks w A l xs) (hok : OkMs xs) (hn : BytesAt w A' l' c' ns) : Gives Tryd.prog 18 [.slice A l c, .slice A' l' c'] w (.bool true) := by
  refine gives_of (V18.sound ?_)
  unfold V18.vc
  by_cases hl : l > 200
  · rw [if_pos (by simp; omega)]
    exact call_gives (Below.refl _ _) (fun _ _ h => gives70 (ht.on h)) fun w1 _ h1 => ⟨_, rfl, ret_is h1 rfl⟩
  rw [if_neg (by simp; omega)]
  obtain ⟨hm, hml, _⟩ := marksM_ok hn.byte
  refine call_gives (Below.refl _ _) (fun w1 e1 h => gives71 (ht.on h) (RowAt.keep MarkE.kept hx (ext_keeps e1)) hok (by omega)) fun w1 e1 h1 => ⟨_, rfl, ?_⟩
  refine call_gives h1 (fun w2 e2 h => gives72 (RowAt.keep MarkE.kept hx (below_keeps h)) hok (by omega)) fun w2 e2 h2 => ⟨_, rfl, ?_⟩
  rw [if_pos (str_eq rfl rfl)]
  refine call_marks h2 (BytesAt.keep hn (below_keeps h2)) fun A1 c1 w3 e3 hm3 _ _ => ⟨_, _, _, rfl, ?_⟩
  have h3 := e3.after h2
  refine call_gives h3 (fun w4 e4 h => gives71 (ht.on h) (RowAt.keep MarkE.kept hm3 (ext_keeps e4)) hm (by omega)) fun w4 e4 h4 => ⟨_, rfl, ?_⟩
  refine call_marks h4 (BytesAt.keep hn (below_keeps h4)) fun A2 c2 w5 e5 hm5 _ _ => ⟨_, _, _, rfl, ?_⟩
  have h5 := e5.after h4
  refine call_gives h5 (fun w6 e6 h => gives72 (RowAt.keep MarkE.kept hm5 (ext_keeps e6)) hm (by omega)) fun w6 e6 h6 => ⟨_, rfl, ?_⟩
  rw [if_pos (str_eq rfl rfl)]
  exact call_gives h6 (fun _ _ h => gives70 (ht.on h)) fun w7 _ h7 => ⟨_, rfl, ret_is h7 rfl⟩
end Go.Proofs.YtofblkmibghmbaaDoor
