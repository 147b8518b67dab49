/-
  Layer 29: the laws' functions TraceFronts, TraceLines, TraceTexts return true.
  Conditions: the tables of the host's library read as the program's text lays them; the arguments' memory says what their values are.
-/
import Derived.Test.YtofblkmibghmbaaDoorZC29
set_option linter.unusedVariables false
set_option linter.unusedSimpArgs false
set_option maxRecDepth 100000
namespace Go.Proofs.YtofblkmibghmbaaDoor
open Go.RowKit
theorem own_cap {w : World} {B n c : Nat} {A : Option Addr} {e : TypeId} {sz : Nat} {xs : List Value} (h : w.ownsRow B e sz (.slice A n c) n xs) : n ≤ c ∧ (A = none → c = 0) := by
  rcases h.2 with ⟨hv, h0⟩ | ⟨g, cap, cur, hv, hb, hg, hnc, _⟩
  · cases hv; exact ⟨by omega, fun _ => rfl⟩
  · cases hv; exact ⟨hnc, fun h => by cases h⟩
theorem append_ms {w0 w : World} {bs : List Nat} {v : Value} {xs ys : List Mk} {A : Option Addr} {l c : Nat} {K : Value → World → Prop} {b0 : Nat} (hB : w0.heap.size ≤ w.heap.size) (hb0 : b0 ≤ w.heap.size) (ho : OwnMs w b0 v xs)
    (hy : Marks w A l ys) (hA : A = none → c = 0) (hn : xs.length + l ≤ 1000000) (hk : ∀ v' w', ExtS w0.heap.size (fun k => v.ownBlock = some k) w w' → OwnMs w' b0 v' (xs ++ ys) → K v' w') :
    RunK Tryd.prog (Builtin.append_ #[70, 70] 70 ⟨[v, .slice A l c]⟩) w0.heap.size w bs K := by
  obtain rfl := hy.len
  cases A with
  | none =>
    have hn : ys = [] := by
      cases ys with
      | nil => rfl
      | cons x r => obtain ⟨p, hp, _⟩ := hy.get 0 x rfl; cases hp
    subst hn
    obtain rfl := hA rfl
    intro w1 he hxx
    have hr := run_append_owned_none (P := Tryd.prog) (w := w1) b0 70 70 73 Tryd.t73 2 (by kernel_rfl) (by kernel_rfl) v xs.length _ (he.owns ho)
    refine ⟨_, w1, hr, ⟨Nat.le_refl _, fun _ _ => rfl⟩, hide_any fun w' hm => ?_⟩
    have h1 := masked he hxx (Nat.le_trans hB he.size) (Below.refl _ _) hm
    refine hk _ w' h1.toS ?_
    rw [List.append_nil]
    exact h1.owns ho
  | some a => exact append_marks ho hy hn hB hb0 fun v' w' he ho' _ => hk v' w' he ho'
theorem marks_block {w : World} {g : Nat} {ms : List Mk} (h : w.heap[g]? = some (.cells ⟨mcs ms⟩ 73 (0, 0))) (hl : ms.length ≤ 1000000) : Marks w (some ⟨g, 0, none⟩) ms.length ms := by
  refine ⟨rfl, by simp only [maxLen]; omega, fun i m hm => ⟨_, rfl, ?_⟩⟩
  obtain ⟨k1, k2⟩ := mcs_get hm
  exact ⟨by simp only [own_add, bx_add, Nat.zero_add, Nat.add_zero]; exact at_cell h k1, by simp only [own_add, bx_add, Nat.zero_add]; exact at_cell h k2⟩
theorem exts_old {B : Nat} {ws w w' : World} {v : Value} (h : ExtS B (fun k => v.ownBlock = some k) w w') (hv : ∀ k, v.ownBlock = some k → ws.heap.size ≤ k) (hk : ∀ q u, ws.cell? q = some u → w.cell? q = some u) : ∀ q u, ws.cell? q = some u → w'.cell? q = some u := fun q u hq =>
  h.cell (hk q u hq) fun e => by have := hv _ e; have := cell_lt hq; omega
theorem ext_old {B : Nat} {ws w w' : World} (h : Ext B w w') (hk : ∀ q u, ws.cell? q = some u → w.cell? q = some u) : ∀ q u, ws.cell? q = some u → w'.cell? q = some u := fun q u hq => h.cell (hk q u hq)
def MarksQ (xs : List Mk) (w1 : World) : Value → World → Prop := fun u w2 => ∃ A c, u = .slice A xs.length c ∧ Marks (newW w1.heap.size w2) A xs.length xs ∧ xs.length ≤ c ∧ (A = none → c = 0)
theorem kind_eq {a : Int} (h : 0 ≤ a ∧ a < 256) : IntKind.wrap .i64 (Int.tmod (IntKind.wrap .i64 a) 8 - IntKind.wrap .i64 (Int.tdiv (IntKind.wrap .i64 a) 128)) = a % 8 - a / 128 := by
  rw [wrap_id (n := a) (by omega) (by omega), Int.tmod_eq_emod_of_nonneg h.1, Int.tdiv_eq_ediv_of_nonneg h.1, wrap_id (n := a / 128) (by omega) (by omega), wrap_id (by omega) (by omega)]
theorem l0_68 {w0 : World} {A : Option Addr} {l c : Nat} {ns : List Int} (hn : BytesAt w0 A l c ns) :
    ∀ (k i : Nat) (w : World) (acc : List Mk) (L : Option Addr) (lc : Nat), 62 ≤ i + 2 * k → i ≤ 61 → acc.length + k ≤ 100 → Below w0.heap.size w0 w → OwnMs w w0.heap.size (.slice L acc.length lc) acc →
    V68.l0 w0.heap.size (IsQ w0 (MarksQ (acc ++ marksF ns k i) w0)) k A l c L acc.length lc (i : Int) w
  | 0, i, w, acc, L, lc, hk, hi, _, _, _ => by omega
  | k + 1, i, w, acc, L, lc, hk, hi, hal, hw, ho => by
    dsimp -zeta only [V68.l0]
    have hnow := BytesAt.keep hn (below_keeps hw)
    have hll := hn.nums.len
    have hw1 : IntKind.wrap .i64 ((i : Int) + 1) = ((i + 1 : Nat) : Int) := by rw [wrap_id (by omega) (by omega)]; rfl
    have stop : marksF ns (k + 1) i = [] → Ret w0.heap.size w (IsQ w0 (MarksQ (acc ++ marksF ns (k + 1) i) w0) (.slice L acc.length lc)) := fun he => by
      rw [he, List.append_nil]
      refine ret_q hw fun w1 e1 => ?_
      have ho1 := OwnMs.ext ho e1
      obtain ⟨A', c', hv, hm⟩ := OwnMs.marks ho1 (by omega)
      cases hv
      exact ⟨_, _, rfl, hm, own_cap ho1⟩
    rw [hw1]
    by_cases h1 : i + 1 < l
    · rw [if_pos (by simp; omega)]
      by_cases h2 : i < 60
      · rw [if_pos (by simp; omega)]
        obtain ⟨x, p, hx, hp, c0⟩ := hnow.nums.at (i := i) (by omega)
        obtain ⟨y, q, hy, hq, c1⟩ := hnow.nums.at (i := i + 1) (by omega)
        have bx := hn.byte x (List.mem_of_getElem? hx)
        have by' := hn.byte y (List.mem_of_getElem? hy)
        have hm : marksF ns (k + 1) i = mkOf x y :: marksF ns k (i + 2) := by
          rw [marksF, if_pos ⟨by omega, h2⟩]
          congr 1
          simp [List.getD, hx, hy]
        refine ⟨p, hp, by omega, by omega, x, by simpa using c0, by decide, p, hp, by omega, by omega, x, by simpa using c0, by decide, q, hq, by omega, by omega, y, by simpa using c1, ?_⟩
        rw [wrap_id (n := y) (by omega) (by omega), wrap_id (n := y - 100) (by omega) (by omega)]
        refine call_gives hw (fun _ _ _ => gives32 (y - 100)) fun w1 e1 hw1' => ⟨_, rfl, e1.cell (by simpa using c0), e1.cell (by simpa using c0), ?_⟩
        rw [kind_eq bx]
        intro w2 e2 _
        obtain ⟨e3, ho3⟩ := alloc1 (.cells ⟨mcs [mkOf x y]⟩ 73) e2 hw1'.size
        try dsimp only
        have hd : (Obj.cells ⟨[.int .i64 (x % 8 - x / 128), .int .u64 (nw (y - 100) : Nat)]⟩ 73 : Obj) = .cells ⟨mcs [mkOf x y]⟩ 73 := rfl
        rw [hd]
        generalize w2.alloc (.cells ⟨mcs [mkOf x y]⟩ 73) = w3 at *
        have hb : Marks w3 (some ⟨w2.heap.size, 0, none⟩) 1 [mkOf x y] := marks_block (ms := [mkOf x y]) ho3 (by simp)
        have hw3 := e3.after hw1'
        refine append_ms hw3.size hw3.size (OwnMs.ext (OwnMs.ext ho e1) e3) hb (fun h => by cases h) (by omega) fun v' w4 he ho' => ?_
        have hw4 := he.after (fun j hj => (ho.lt j hj).1) hw3
        obtain ⟨A', c', hv⟩ := owns_slice0 ho'
        subst hv
        refine ⟨A', _, c', rfl, ?_⟩
        have hw2 : IntKind.wrap .i64 ((i : Int) + 2) = ((i + 2 : Nat) : Int) := by rw [wrap_id (by omega) (by omega)]; rfl
        rw [hw2]
        have hal2 : (acc ++ [mkOf x y]).length + k ≤ 100 := by simp; omega
        have := l0_68 hn k (i + 2) w4 (acc ++ [mkOf x y]) A' c' (by omega) (by omega) hal2 hw4 ho'
        rw [hm]
        rw [List.append_assoc] at this
        exact this
      · rw [if_neg (by simp; omega)]
        exact stop (by rw [marksF, if_neg (by omega)])
    · rw [if_neg (by simp; omega)]
      exact stop (by rw [marksF, if_neg (by omega)])
theorem yields68 {w : World} {A : Option Addr} {l c : Nat} {ns : List Int} (hn : BytesAt w A l c ns) : Yields Tryd.prog 68 [.slice A l c] w (MarksQ (marksM ns) w) := by
  refine yields_of (V68.sound ?_)
  exact ⟨31, l0_68 hn 31 0 w [] none 0 (by omega) (by omega) (by simp) (Below.refl _ _) (World.ownsRow_nil _ _ _ _)⟩
theorem call_marks {w0 w : World} {bs : List Nat} {A : Option Addr} {l c : Nat} {ns : List Int} {K : Value → World → Prop} (hw : Below w0.heap.size w0 w) (hn : BytesAt w A l c ns)
    (hk : ∀ A' c' w', Ext w0.heap.size w w' → Marks w' A' (marksM ns).length (marksM ns) → (marksM ns).length ≤ c' → (A' = none → c' = 0) → K (.slice A' (marksM ns).length c') w') : CallK Tryd.prog 68 [.slice A l c] w0.heap.size w bs K := by
  refine call_yieldsX (Q := MarksQ (marksM ns)) hw.size (fun w1 e1 => yields68 (BytesAt.keep hn (ext_keeps e1))) fun w1 u w2 w' hsz hQ hnew he => ?_
  obtain ⟨A', c', rfl, hm, hc, hA⟩ := hQ
  refine hk A' c' w' he (RowAt.keep MarkE.kept hm fun q v hq => ?_) hc hA
  obtain ⟨h1, h2⟩ := newW_cell.1 hq
  exact (cell_same (hnew _ h2)).trans h1
theorem marksM_ok {ns : List Int} (h : ∀ n ∈ ns, 0 ≤ n ∧ n < 256) : OkMs (marksM ns) ∧ (marksM ns).length ≤ 31 ∧ ∀ m ∈ marksM ns, m.k ≠ 9 := by
  obtain ⟨h1, h2⟩ := marksF_ok h 31 0
  refine ⟨fun m hm => ?_, h1, fun m hm e => ?_⟩
  · obtain ⟨_, _, n, hn⟩ := h2 m hm
    rw [hn]
    exact cn_lt (by
      have h : FloatKind.nearest .f64 n < 2 ^ Ieee.double.width := Ieee.double.write_lt (.number (n < 0) n.natAbs 0)
      have e : 2 ^ Ieee.double.width = 2 * SW := by decide
      rw [e] at h; exact h)
  · have := h2 m hm; omega
theorem awake29 : traceM [⟨1, nw 1⟩, ⟨5, 0⟩] = [111, 117, 116, 32, 49, 10, 111, 111, 109, 10] ∧ nw 1 < 2 * SW := by
  refine ⟨?_, by decide⟩
  have h : textF (nw 1) = [49] := by kernel_rfl
  have e : traceM [⟨1, nw 1⟩, ⟨5, 0⟩] = ([111, 117, 116] ++ (32 :: textF (nw 1)) ++ [10]) ++ (([111, 111, 109] ++ [] ++ [10]) ++ []) := rfl
  rw [e, h]; rfl
theorem gives70 {w : World} (ht : Tabs w) : Gives Tryd.prog 70 [] w (.bool true) := by
  refine gives_of (V70.sound ?_)
  unfold V70.vc
  obtain ⟨t1, l1⟩ := awake29
  refine call_gives (Below.refl _ _) (fun _ _ _ => gives32 1) fun w1 e1 h1 => ⟨_, rfl, ?_⟩
  intro w2 e2 _
  obtain ⟨e3, ho3⟩ := alloc1 (.cells ⟨[.int .i64 1, .int .u64 (nw 1 : Nat), .int .i64 5, .int .u64 0]⟩ 73) e2 h1.size
  try dsimp only
  generalize w2.alloc (.cells ⟨[.int .i64 1, .int .u64 (nw 1 : Nat), .int .i64 5, .int .u64 0]⟩ 73) = w3 at *
  have h3 := e3.after h1
  have hm3 : Marks w3 (some ⟨w2.heap.size, 0, none⟩) 2 [⟨1, nw 1⟩, ⟨5, 0⟩] := marks_block (ms := [⟨1, nw 1⟩, ⟨5, 0⟩]) ho3 (by simp)
  have hok : OkMs [⟨1, nw 1⟩, ⟨5, 0⟩] := fun m hm => by
    rcases List.mem_cons.1 hm with rfl | hm
    · exact l1
    · rw [List.mem_singleton] at hm; subst hm; decide
  refine call_gives h3 (fun w4 e4 h4 => gives71 (ht.on h4) (RowAt.keep MarkE.kept hm3 (ext_keeps e4)) hok (by omega)) fun w4 e4 h4 => ⟨_, rfl, ?_⟩
  rw [if_pos (str_eq (x := { data := #[111, 117, 116, 32, 49, 10, 111, 111, 109, 10] }) t1 rfl)]
  intro w5 e5 _
  obtain ⟨e6, ho6⟩ := alloc1 (.cells ⟨[.int .i64 5, .int .u64 0]⟩ 73) e5 h4.size
  try dsimp only
  generalize w5.alloc (.cells ⟨[.int .i64 5, .int .u64 0]⟩ 73) = w6 at *
  have hm6 : Marks w6 (some ⟨w5.heap.size, 0, none⟩) 1 [⟨5, 0⟩] := marks_block (ms := [⟨5, 0⟩]) ho6 (by simp)
  refine call_gives (e6.after h4) (fun w7 e7 _ => gives69 (marks_nil w7) (RowAt.keep MarkE.kept hm6 (ext_keeps e7)) (Nat.le_refl _)) fun w7 _ h7 => ⟨_, rfl, ret_is h7 ?_⟩
  rw [beg_nil]
theorem call_joined {w0 w : World} {A A' : Option Addr} {l c l' c' : Nat} {a b : List Mk} {F : Value → World → Prop} (hw : Below w0.heap.size w0 w) (ha : Marks w A l a) (hb : Marks w A' l' b) (hA : A = none → c = 0) (hA' : A' = none → c' = 0) (hl : a.length + b.length ≤ 1000)
    (hk : ∀ C cc w6, Below w0.heap.size w0 w6 → (∀ q u, w.cell? q = some u → w6.cell? q = some u) → Marks w6 C (a ++ b).length (a ++ b) → (a ++ b).length ≤ cc → (C = none → cc = 0) → F (.slice C (a ++ b).length cc) w6) :
    Expo w0.heap.size w [] fun w_3 => 
    let w_4 := w_3.alloc (.cells ⟨[]⟩ 73);
    RunK Tryd.prog (Builtin.append_ #[70, 70] 70 ⟨[.slice (some ⟨w_3.heap.size, 0, none⟩) 0 0, .slice A l c]⟩) w0.heap.size w_4 [] fun v_2 w_5 => 
    ∃ (A20 : Option Addr) (A20l A20c : Nat), v_2 = .slice A20 A20l A20c ∧
    RunK Tryd.prog (Builtin.append_ #[70, 70] 70 ⟨[.slice A20 A20l A20c, .slice A' l' c']⟩) w0.heap.size w_5 [] F := by
  have hla := ha.len
  have hlb := hb.len
  intro w3 e3 _
  have hs := e3.size
  obtain ⟨e4, ho4⟩ := alloc1 (.cells ⟨[]⟩ 73) e3 hw.size
  have hlt := lt_of_some ho4
  try dsimp only
  generalize w3.alloc (.cells ⟨[]⟩ 73) = w4 at *
  have hk4 := ext_old e4 (ws := w) fun _ _ h => h
  have hown : OwnMs w4 w3.heap.size (.slice (some ⟨w3.heap.size, 0, none⟩) 0 0) [] := owns_empty ho4 (Nat.le_refl _)
  have h4 := e4.after hw
  refine append_ms h4.size (Nat.le_of_lt hlt) hown (RowAt.keep MarkE.kept ha hk4) hA (by simp; omega) fun v5 w5 e5 ho5 => ?_
  have hlo : ∀ {w : World} {v : Value} {xs : List Mk}, OwnMs w w3.heap.size v xs → ∀ k, v.ownBlock = some k → w3.heap.size ≤ k := fun h k hk => (h.lt k hk).1
  have hk5 := exts_old e5 (ws := w) (fun k hk => Nat.le_trans hs (hlo hown k hk)) hk4
  have h5 := e5.after (fun k hk => Nat.le_trans hw.size (Nat.le_trans hs (hlo hown k hk))) h4
  obtain ⟨A5, c5, rfl⟩ := owns_slice0 ho5
  refine ⟨A5, _, c5, rfl, ?_⟩
  refine append_ms h5.size (Nat.le_trans (Nat.le_of_lt hlt) e5.size) ho5 (RowAt.keep MarkE.kept hb hk5) hA' (by simp; omega) fun v6 w6 e6 ho6 => ?_
  have hk6 := exts_old e6 (ws := w) (fun k hk => Nat.le_trans hs (hlo ho5 k hk)) hk5
  have h6 := e6.after (fun k hk => Nat.le_trans hw.size (Nat.le_trans hs (hlo ho5 k hk))) h5
  rw [List.nil_append] at ho6
  obtain ⟨A6, c6, hv6, hm6⟩ := OwnMs.marks ho6 (by simp; omega)
  subst hv6
  obtain ⟨hc6, hA6⟩ := own_cap ho6
  exact hk A6 c6 w6 h6 hk6 (RowAt.keep MarkE.kept hm6 newW_in) hc6 hA6
theorem bstr_get (l : List UInt8) (i : Nat) : (bstr l)[i]? = l[i]? := by
  by_cases h : i < l.length
  · have h2 : i < (bstr l).size := by rw [bstr_size]; exact h
    exact (getElem?_pos (bstr l) i h2).trans (getElem?_pos l i h).symm
  · have h2 : ¬ i < (bstr l).size := by rw [bstr_size]; exact h
    exact (getElem?_neg (bstr l) i h2).trans (getElem?_neg l i h).symm
theorem count_take {l : List UInt8} {i : Nat} {x : UInt8} (h : l[i]? = some x) : (l.take (i + 1)).count 10 = (l.take i).count 10 + if x = 10 then 1 else 0 := by
  rw [List.take_add_one, h, List.count_append]
  show _ + [x].count 10 = _
  by_cases hx : x = 10
  · rw [if_pos hx, hx]; rfl
  · rw [if_neg hx, List.count_singleton, if_neg (by simpa using hx)]
theorem gives17 {w : World} (ht : Tabs w) {A A' : Option Addr} {l c l' c' : Nat} {ns ms : List Int} {kind : Int} {u : Nat} (ha : BytesAt w A l c ns) (hb : BytesAt w A' l' c' ms) (hu : u < 2 * SW) (hkd : -9223372036854775808 ≤ kind ∧ kind ≤ 9223372036854775807) :
    Gives Tryd.prog 17 [.slice A l c, .slice A' l' c', .int .i64 kind, .int .u64 (u : Int)] w (.bool true) := by
  refine gives_of (V17.sound ?_)
  unfold V17.vc
  obtain ⟨oa, la, _⟩ := marksM_ok ha.byte
  obtain ⟨ob, lb, _⟩ := marksM_ok hb.byte
  refine call_marks (Below.refl _ _) ha fun A1 c1 w1 e1 hm1 hc1 hA1 => ⟨_, _, _, rfl, ?_⟩
  have h1 := e1.after (Below.refl _ _)
  refine call_marks h1 (BytesAt.keep hb (below_keeps h1)) fun A2 c2 w2 e2 hm2 hc2 hA2 => ⟨_, _, _, rfl, ?_⟩
  have h2 := e2.after h1
  have hm1' := RowAt.keep MarkE.kept hm1 (ext_keeps e2)
  generalize marksM ns = a at *
  generalize marksM ms = b at *
  refine call_joined h2 hm1' hm2 hA1 hA2 (by omega) fun C cc w6 h6 k6 hm6 hcc hC => ?_
  have hlen : (a ++ b).length = a.length + b.length := by simp
  have oab : OkMs (a ++ b) := fun m hm => (List.mem_append.1 hm).elim (oa m) (ob m)
  refine ⟨C, _, cc, rfl, ?_⟩
  have kp : ∀ {w' w'' : World} {xs : List Mk} {A : Option Addr} {l : Nat}, Marks w' A l xs → Ext w.heap.size w' w'' → Marks w'' A l xs := fun h e => RowAt.keep MarkE.kept h (ext_keeps e)
  have ha6 : Marks w6 A1 a.length a := RowAt.keep MarkE.kept hm1' k6
  have hb6 : Marks w6 A2 b.length b := RowAt.keep MarkE.kept hm2 k6
  refine call_gives h6 (fun w7 e7 h => gives71 (ht.on h) (kp hm6 e7) oab (by omega)) fun w7 e7 h7 => ⟨_, rfl, ?_⟩
  have ha7 := kp ha6 e7
  have hb7 := kp hb6 e7
  have htl := traceM_len oab
  have htla := traceM_len oa
  have htlb := traceM_len ob
  have hul := text_len hu
  have two : ∀ (x one : ByteArray) (w8 : World), Below w.heap.size w w8 → Marks w8 A1 a.length a → Marks w8 A2 b.length b → (x.toList == one.toList) = true → V17.b2 w.heap.size (IsV w (.bool true)) (u : Int) A1 a.length c1 A2 b.length c2 (bstr (traceM (a ++ b))) (((a ++ b).length : Nat) : Int) x one w8 := by
    intro x one w8 h8 ha8 hb8 hx
    unfold V17.b2
    rw [if_pos (by rw [wrap_id (by omega) (by omega), hlen]; simp)]
    refine call_gives h8 (fun w9 e9 h => gives71 (ht.on h) (kp ha8 e9) oa (by omega)) fun w9 e9 h9 => ⟨_, rfl, ?_⟩
    refine call_gives h9 (fun w10 e10 h => gives71 (ht.on h) (kp (kp hb8 e9) e10) ob (by omega)) fun w10 e10 h10 => ⟨_, rfl, ?_, ?_⟩
    · rw [bstr_size, bstr_size]; omega
    rw [ba_app, ← traceM_app, if_pos (str_eq rfl rfl), if_pos hx]
    intro w11 e11 _
    obtain ⟨e12, ho12⟩ := alloc1 (.cells ⟨mcs [⟨2, u⟩]⟩ 73) e11 h10.size
    try dsimp only
    have hd : (Obj.cells ⟨[.int .i64 2, .int .u64 (u : Int)]⟩ 73 : Obj) = .cells ⟨mcs [⟨2, u⟩]⟩ 73 := rfl
    rw [hd]
    generalize w11.alloc (.cells ⟨mcs [⟨2, u⟩]⟩ 73) = w12 at *
    have h12 := e12.after h10
    have hone : Marks w12 (some ⟨w11.heap.size, 0, none⟩) 1 [⟨2, u⟩] := marks_block (ms := [⟨2, u⟩]) ho12 (by simp)
    refine call_gives h12 (fun w13 e13 h => gives71 (ht.on h) (kp hone e13) (fun m hm => by rw [List.mem_singleton] at hm; subst hm; exact hu) (by omega)) fun w13 e13 h13 => ⟨_, rfl, ?_⟩
    refine call_gives h13 (fun w14 e14 h => gives19 (ht.on h) hu) fun w14 e14 h14 => ⟨_, rfl, ?_, ?_, ?_⟩
    · rw [bstr_size]; show 4 + _ ≤ _; omega
    · rw [show ({ data := #[103, 111, 116, 32] } : ByteArray) = bstr [103, 111, 116, 32] from rfl, ba_app, bstr_size]; simp; show _ + 1 ≤ _; omega
    rw [show ({ data := #[103, 111, 116, 32] } : ByteArray) = bstr [103, 111, 116, 32] from rfl, show ({ data := #[10] } : ByteArray) = bstr [10] from rfl, ba_app, ba_app]
    rw [if_pos (str_eq (by simp [traceM, lineM, tailM, wordM, moreM]) rfl)]
    refine call_gives h14 (fun w15 e15 h => gives71 (ht.on h) (marks_nil w15) (fun m hm => by cases hm) (by omega)) fun w15 e15 h15 => ⟨_, rfl, ?_⟩
    rw [if_pos (str_eq (l := traceM []) (m := []) (x := { data := #[] }) rfl rfl)]
    exact call_gives h15 (fun _ _ h => gives70 (ht.on h)) fun w16 _ h16 => ⟨_, rfl, ret_is h16 rfl⟩
  have one : ∀ (kd : Int) (w8 : World), ¬ (1 ≤ kd ∧ kd ≤ 4) → Below w.heap.size w w8 → Marks w8 A1 a.length a → Marks w8 A2 b.length b → V17.b1 w.heap.size (IsV w (.bool true)) kd (u : Int) A1 a.length c1 A2 b.length c2 (bstr (traceM (a ++ b))) (((a ++ b).length : Nat) : Int) w8 := by
    intro kd w8 hno h8 ha8 hb8
    unfold V17.b1
    intro w9 e9 _
    obtain ⟨e10, ho10⟩ := alloc1 (.cells ⟨mcs [⟨kd, u⟩]⟩ 73) e9 h8.size
    try dsimp only
    have hd : (Obj.cells ⟨[.int .i64 kd, .int .u64 (u : Int)]⟩ 73 : Obj) = .cells ⟨mcs [⟨kd, u⟩]⟩ 73 := rfl
    rw [hd]
    generalize w9.alloc (.cells ⟨mcs [⟨kd, u⟩]⟩ 73) = w10 at *
    have h10 := e10.after h8
    have hone : Marks w10 (some ⟨w9.heap.size, 0, none⟩) 1 [⟨kd, u⟩] := marks_block (ms := [⟨kd, u⟩]) ho10 (by simp)
    refine call_gives h10 (fun w11 e11 h => gives71 (ht.on h) (kp hone e11) (fun m hm => by rw [List.mem_singleton] at hm; subst hm; exact hu) (by omega)) fun w11 e11 h11 => ⟨_, rfl, ?_⟩
    have ha11 := kp (kp ha8 e10) e11
    have hb11 := kp (kp hb8 e10) e11
    have ht1 : traceM [⟨kd, u⟩] = wordM kd ++ [10] := by
      have : moreM kd = false := decide_eq_false hno
      simp [traceM, lineM, tailM, this]
    rw [ht1, word_rest hno]
    by_cases h5 : kd = 5
    · rw [if_pos (by simpa using h5), if_pos h5]
      exact two _ _ w11 h11 ha11 hb11 (str_eq rfl rfl)
    rw [if_neg (by simpa using h5), if_neg h5]
    by_cases h6 : kd = 6
    · rw [if_pos (by simpa using h6), if_pos h6]
      exact two _ _ w11 h11 ha11 hb11 (str_eq rfl rfl)
    rw [if_neg (by simpa using h6), if_neg h6]
    exact two _ _ w11 h11 ha11 hb11 (str_eq rfl rfl)
  have loop : ∀ (k i : Nat), (traceM (a ++ b)).length < i + k → i ≤ (traceM (a ++ b)).length → V17.l0 w.heap.size (IsV w (.bool true)) k kind (u : Int) A1 a.length c1 A2 b.length c2 (bstr (traceM (a ++ b))) ((((traceM (a ++ b)).take i).count 10 : Nat) : Int) (i : Int) w7 := by
    intro k
    induction k with
    | zero => intros; omega
    | succ k ih =>
      intro i hk hi
      dsimp -zeta only [V17.l0]
      rw [bstr_size]
      by_cases hlt : i < (traceM (a ++ b)).length
      · rw [if_pos (by simpa using hlt)]
        have hx : (traceM (a ++ b))[i]? = some ((traceM (a ++ b))[i]'hlt) := List.getElem?_eq_getElem _
        refine ⟨_, by omega, by rw [Int.toNat_natCast, bstr_get]; exact hx, ?_⟩
        generalize (traceM (a ++ b))[i]'hlt = x at hx
        have hc := count_take hx
        have hbd : ((traceM (a ++ b)).take i).count 10 ≤ i := Nat.le_trans List.count_le_length (by rw [List.length_take]; omega)
        have hwi : IntKind.wrap .i64 ((i : Int) + 1) = ((i + 1 : Nat) : Int) := by rw [wrap_id (by omega) (by omega)]; rfl
        have := ih (i + 1) (by omega) (by omega)
        rw [hc] at this
        rw [hwi]
        by_cases hx10 : x = 10
        · rw [if_pos (by rw [hx10]; rfl)]
          rw [if_pos hx10] at this
          have hwn : IntKind.wrap .i64 ((((traceM (a ++ b)).take i).count 10 : Nat) + 1 : Int) = ((((traceM (a ++ b)).take i).count 10 + 1 : Nat) : Int) := by rw [wrap_id (by omega) (by omega)]; rfl
          rw [hwn]
          exact this
        · rw [if_neg (fun h => hx10 (by
            have h := eq_of_beq h
            exact UInt8.toNat.inj (by have e : (10 : UInt8).toNat = 10 := rfl
                                      rw [e]; omega)))]
          rw [if_neg hx10, Nat.add_zero] at this
          exact this
      · rw [if_neg (by simpa using hlt)]
        have hall : (traceM (a ++ b)).take i = traceM (a ++ b) := List.take_of_length_le (by omega)
        rw [hall, traceM_count]
        by_cases k1 : 1 ≤ kind
        · rw [if_pos (by simpa using k1)]
          by_cases k4 : kind ≤ 4
          · rw [if_pos (by simpa using k4), wrap_id (by omega) (by omega)]
            exact one _ w7 (by omega) h7 ha7 hb7
          · rw [if_neg (by simpa using k4)]
            exact one _ w7 (by omega) h7 ha7 hb7
        · rw [if_neg (by simpa using k1)]
          exact one _ w7 (by omega) h7 ha7 hb7
  have := loop ((traceM (a ++ b)).length + 1) 0 (by omega) (by omega)
  exact ⟨_, this⟩
end Go.Proofs.YtofblkmibghmbaaDoor
