import Derived.Test.YtidcpndlloppdaaGreatDoorZP29
import Derived.Test.YtidcpndlloppdaaGreatDoorZM29
import Derived.Test.YtidcpndlloppdaaGreatDoorZN2
/-
  Layer 29: texts of traces, traces by numbers, what begins with what: what the functions return.
  Conditions: the tables of the host's library read as the program's text lays them; the arguments' memory says what their values are.
-/
set_option linter.unusedVariables false
set_option linter.unusedSimpArgs false
set_option maxRecDepth 100000
namespace Go.Proofs.YtidcpndlloppdaaGreatDoor
open Go.RowKit
theorem gives30 {w : World} (k : Int) : Gives Tryz.prog 30 [.int .i64 k] w (.tuple ⟨[.string (bstr (wordM k)), .bool (moreM k)]⟩) := by
  refine gives_of (V30.sound ?_)
  unfold V30.vc
  by_cases h1 : k = 1
  · subst h1; exact ret_is (Below.refl _ _) rfl
  rw [if_neg (by simpa using h1)]
  by_cases h2 : k = 2
  · subst h2; exact ret_is (Below.refl _ _) rfl
  rw [if_neg (by simpa using h2)]
  by_cases h3 : k = 3
  · subst h3; exact ret_is (Below.refl _ _) rfl
  rw [if_neg (by simpa using h3)]
  by_cases h4 : k = 4
  · subst h4; exact ret_is (Below.refl _ _) rfl
  rw [if_neg (by simpa using h4)]
  have hm : moreM k = false := decide_eq_false (by omega)
  by_cases h5 : k = 5
  · subst h5; exact ret_is (Below.refl _ _) rfl
  rw [if_neg (by simpa using h5)]
  by_cases h6 : k = 6
  · subst h6; exact ret_is (Below.refl _ _) rfl
  rw [if_neg (by simpa using h6)]
  refine ret_is (Below.refl _ _) ?_
  rw [hm, wordM, if_neg h1, if_neg h2, if_neg h3, if_neg h4, if_neg h5, if_neg h6]; rfl
theorem take_snocF {xs : List Mk} {i : Nat} {m : Mk} (h : xs[i]? = some m) : xs.take (i + 1) = xs.take i ++ [m] := by
  rw [List.take_add_one, h]; rfl
theorem l0_18 {w0 : World} (ht : Tabs w0) {A : Option Addr} {l c b : Nat} {xs : List Mk} (hx : Marks w0 A l xs) (hok : OkMs xs) (hl : l ≤ 1000000) :
    ∀ (k i : Nat) (w : World) (v : Value), l < i + k → i ≤ l → Below w0.heap.size w0 w → BldAt w w0.heap.size b v (traceM (xs.take i)) →
    V18.l0 w0.heap.size (IsV w0 (.string (bstr (traceM xs)))) k ⟨b, 0, none⟩ A l c (l : Int) (i : Int) w
  | 0, i, w, v, hk, hi, _, _ => by omega
  | k + 1, i, w, v, hk, hi, hw, hb => by
    dsimp -zeta only [V18.l0]
    by_cases hlt : i < l
    · rw [if_pos (by simpa using hlt)]
      obtain ⟨m, p, hm, hp, c0, c1⟩ := Marks.cells (RowAt.keep MarkE.kept hx (below_keeps hw)) hlt
      have hmw := hok m (List.mem_of_getElem? hm)
      have hlen : (traceM (xs.take i)).length ≤ 31 * l := by
        have := traceM_len (l := xs.take i) fun x hx => hok x (List.mem_of_mem_take hx)
        have h2 : (xs.take i).length ≤ l := by rw [List.length_take]; omega
        omega
      have hwl := (wordM_facts m.k).1
      have htl := text_len hmw
      refine ⟨p, hp, by omega, by omega, m.k, c0, (m.w : Int), c1, fun q5 hq5 => ?_⟩
      refine call_gives hw (fun _ _ _ => gives30 m.k) fun w1 e1 h1 => ⟨_, _, rfl, ?_⟩
      refine call_write rfl h1.size (hb.ext e1) (by omega) fun v2 w2 e2 hb2 => ⟨_, _, rfl, part_nil ?_⟩
      have h2 := e2.after (fun k hk => (hb.ext e1).own_ge hk) h1
      have fin : ∀ (w3 : World) (v3 : Value), Below w0.heap.size w0 w3 → BldAt w3 w0.heap.size b v3 (traceM (xs.take i) ++ wordM m.k ++ tailM m) →
          CallK Tryz.prog 31 [.pointer (some ⟨b, 0, none⟩), .string ({ data := #[10] } : ByteArray)] w0.heap.size w3 [q5] fun v_4 w_5 => ∃ (x28 : Int) (v28 : Value), v_4 = .tuple ⟨[.int .i64 x28, v28]⟩ ∧ partV v28 fun _ => (V18.l0 w0.heap.size (IsV w0 (.string (bstr (traceM xs)))) k) ⟨b, 0, none⟩ A l c (l : Int) (IntKind.wrap .i64 ((i : Int) + 1)) w_5 := by
        intro w3 v3 h3 hb3
        have htail : (tailM m).length ≤ 25 := by unfold tailM; split <;> simp <;> omega
        refine call_write (s := [10]) rfl h3.size hb3 (by simp; omega) fun v4 w4 e4 hb4 => ⟨_, _, rfl, part_nil ?_⟩
        rw [wrap_succ hlt hx.small]
        refine l0_18 ht hx hok hl k (i + 1) w4 v4 (by omega) (by omega) (e4.after (fun k hk => hb3.own_ge hk) h3) ?_
        rw [take_snocF hm, traceM_snoc]
        unfold lineM
        rw [← List.append_assoc, ← List.append_assoc]
        exact hb4
      by_cases hmore : moreM m.k = true
      · rw [if_pos hmore]
        have htm : tailM m = 32 :: textF m.w := by unfold tailM; rw [if_pos hmore]
        refine call_gives h2 (fun _ _ h => gives32 (ht.on h) hmw) fun w3 e3 h3 => ⟨_, rfl, ?_, ?_⟩
        · rw [bstr_size]; show 1 + _ ≤ _; omega
        have ex : (({ data := #[32] } : ByteArray) ++ bstr (textF m.w)) = bstr (32 :: textF m.w) := ba_app [32] (textF m.w)
        refine call_write ex h3.size (hb2.ext e3) (by simp; omega) fun v4 w4 e4 hb4 => ⟨_, _, rfl, part_nil ?_⟩
        exact fin w4 v4 (e4.after (fun k hk => (hb2.ext e3).own_ge hk) h3) (by rw [htm]; exact hb4)
      · rw [if_neg hmore]
        have htm : tailM m = [] := by unfold tailM; rw [if_neg hmore]
        exact fin w2 v2 h2 (by rw [htm, List.append_nil]; exact hb2)
    · rw [if_neg (by simpa using hlt)]
      intro w1 e1 _
      have hb1 := hb.ext e1
      have hall : xs.take i = xs := List.take_of_length_le (by rw [hx.len]; omega)
      rw [hall] at hb1
      obtain ⟨p, hp, hh⟩ := hb1.head
      have hB : Lib.BuilderAt 72 5 w0.heap.size b p (byts (traceM xs)) w1 := ⟨hb1.base, v, hh, by have := hb1.row; rw [show (byts (traceM xs)).length = (traceM xs).length by simp [byts]]; exact this, hb1.ne⟩
      have hI : Lib.IsBuilder 72 5 w0.heap.size b (Lib.byteCells (traceM xs)) w1 := by
        rcases hp with rfl | rfl
        · exact .inl hB
        · exact .inr hB
      have h1 := e1.after hw
      refine Calls.mono (Tryz.Builder_String_any w0.heap.size b (traceM xs) w1 hI h1.size) fun e w2 ⟨he, hbw⟩ => ⟨_, he, ⟨hbw.size, fun x hx => by cases hx⟩, ⟨_, rfl, ?_⟩⟩
      exact ret_is (h1.trans hbw) rfl
theorem gives18 {w : World} (ht : Tabs w) {A : Option Addr} {l c : Nat} {xs : List Mk} (hx : Marks w A l xs) (hok : OkMs xs) (hl : l ≤ 1000000) : Gives Tryz.prog 18 [.slice A l c] w (.string (bstr (traceM xs))) := by
  refine gives_of (V18.sound ?_)
  unfold V18.vc
  intro w1 e1 _
  obtain ⟨e2, ho2⟩ := alloc1 (.cells ⟨[.pointer none, .slice none 0 0]⟩ 72) e1 (Nat.le_refl _)
  have h2 := e2.after (Below.refl _ _)
  refine ⟨l + 1, l0_18 ht hx hok hl (l + 1) 0 _ (.slice none 0 0) (by omega) (by omega) h2 ⟨e1.size, ⟨_, .inl rfl, ho2⟩, World.ownsRow_nil _ _ _ _⟩⟩
theorem l0_24 {w0 : World} {A A' : Option Addr} {l c c' : Nat} {xs ys : List Mk} (hx : Marks w0 A l xs) (hy : Marks w0 A' l ys) (w : World) (hw : Below w0.heap.size w0 w) :
    ∀ (k i : Nat), l < i + k → i ≤ l → (∀ j, j < i → xs[j]? = ys[j]?) → V24.l0 w0.heap.size (IsV w0 (.bool (eqMs xs ys))) k A l c A' l c' (l : Int) (i : Int) w
  | 0, i, hk, hi, _ => by omega
  | k + 1, i, hk, hi, hall => by
    dsimp -zeta only [V24.l0]
    by_cases h : i < l
    · rw [if_pos (by simpa using h)]
      obtain ⟨m, p, hm, hp, c0, c1⟩ := Marks.cells (RowAt.keep MarkE.kept hx (below_keeps hw)) h
      obtain ⟨n, q, hn, hq, d0, d1⟩ := Marks.cells (RowAt.keep MarkE.kept hy (below_keeps hw)) h
      refine ⟨p, hp, by omega, by omega, _, c0, _, c1, q, hq, by omega, by omega, _, d0, _, d1, ?_⟩
      by_cases hnm : m = n
      · subst hnm
        rw [if_neg (by simp), wrap_succ h hx.small]
        refine l0_24 hx hy w hw k (i + 1) (by omega) (by omega) fun j hj => ?_
        rcases Nat.lt_succ_iff_lt_or_eq.1 hj with h1 | h1
        · exact hall j h1
        · subst h1; rw [hm, hn]
      · have hb : ((m.k == n.k) && ((m.w : Int) == (n.w : Int))) = false := by
          cases hq : ((m.k == n.k) && ((m.w : Int) == (n.w : Int))) with
          | false => rfl
          | true =>
            simp at hq
            obtain ⟨q1, q2⟩ := hq
            exact absurd (by cases m; cases n; simp only [Mk.mk.injEq] at *; exact ⟨q1, by omega⟩) hnm
        rw [hb, if_pos (by decide)]
        refine ret_is hw ?_
        have : xs ≠ ys := fun e => by subst e; rw [hm] at hn; cases hn; exact hnm rfl
        cases he : eqMs xs ys with
        | false => rfl
        | true => exact absurd ((eqMs_iff _ _).1 he) this
    · rw [if_neg (by simpa using h)]
      refine ret_is hw ?_
      have : xs = ys := by
        apply List.ext_getElem?
        intro j
        by_cases hj : j < i
        · exact hall j hj
        · rw [List.getElem?_eq_none (by have := hx.len; omega), List.getElem?_eq_none (by have := hy.len; omega)]
      rw [(eqMs_iff _ _).2 this]
theorem gives24 {w : World} {A A' : Option Addr} {l c l' c' : Nat} {xs ys : List Mk} (hx : Marks w A l xs) (hy : Marks w A' l' ys) : Gives Tryz.prog 24 [.slice A l c, .slice A' l' c'] w (.bool (eqMs xs ys)) := by
  refine gives_of (V24.sound ?_)
  unfold V24.vc
  by_cases h : l = l'
  · subst h
    rw [if_neg (by simp)]
    exact ⟨l + 1, l0_24 hx hy w (Below.refl _ _) (l + 1) 0 (by omega) (by omega) (fun j hj => by omega)⟩
  · rw [if_pos (by simp; omega)]
    refine ret_is (Below.refl _ _) ?_
    have : xs ≠ ys := fun e => h (by rw [← hx.len, ← hy.len, e])
    cases he : eqMs xs ys with
    | false => rfl
    | true => exact absurd ((eqMs_iff _ _).1 he) this
theorem sub_same (b : Option Addr) (c : Nat) : (if c = 0 then b else Option.map (fun a => a.add (0 * 2)) b) = b := by
  split
  · rfl
  · cases b with
    | none => rfl
    | some a => simp [Addr.add]
theorem gives15 {w : World} {A A' : Option Addr} {l c l' c' : Nat} {xs ys : List Mk} (hx : Marks w A l xs) (hy : Marks w A' l' ys) (hc : l' ≤ c') : Gives Tryz.prog 15 [.slice A l c, .slice A' l' c'] w (.bool (begM xs ys)) := by
  refine gives_of (V15.sound ?_)
  unfold V15.vc begM
  rw [hx.len, hy.len]
  by_cases h : l ≤ l'
  · rw [if_pos (by simpa using h), decide_eq_true h]
    refine ⟨by omega, by omega, ?_⟩
    rw [sub_same, Int.toNat_natCast, Nat.sub_zero]
    refine call_gives (Below.refl _ _) (fun w1 e1 _ => gives24 (RowAt.keep MarkE.kept hx (ext_keeps e1)) (Marks.take (RowAt.keep MarkE.kept hy (ext_keeps e1)) h)) fun w1 _ h1 => ⟨_, rfl, ret_is h1 ?_⟩
    rw [Bool.true_and]
  · rw [if_neg (by simpa using h), decide_eq_false h]
    exact ret_is (Below.refl _ _) rfl
end Go.Proofs.YtidcpndlloppdaaGreatDoor

/-
  Layer 29: the laws' functions TraceFronts, TraceLines, TraceTexts return true.
  Conditions: the tables of the host's library read as the program's text lays them; the arguments' memory says what their values are.
-/
set_option linter.unusedVariables false
set_option linter.unusedSimpArgs false
set_option maxRecDepth 100000
namespace Go.Proofs.YtidcpndlloppdaaGreatDoor
open Go.RowKit
theorem own_cap {w : World} {B n c : Nat} {A : Option Addr} {e : TypeId} {sz : Nat} {xs : List Value} (h : w.ownsRow B e sz (.slice A n c) n xs) : n ≤ c ∧ (A = none → c = 0) := by
  rcases h.2 with ⟨hv, h0⟩ | ⟨g, cap, cur, hv, hb, hg, hnc, _⟩
  · cases hv; exact ⟨by omega, fun _ => rfl⟩
  · cases hv; exact ⟨hnc, fun h => by cases h⟩
theorem append_ms {w0 w : World} {bs : List Nat} {v : Value} {xs ys : List Mk} {A : Option Addr} {l c : Nat} {K : Value → World → Prop} {b0 : Nat} (hB : w0.heap.size ≤ w.heap.size) (hb0 : b0 ≤ w.heap.size) (ho : OwnMs w b0 v xs)
    (hy : Marks w A l ys) (hA : A = none → c = 0) (hn : xs.length + l ≤ 1000000) (hk : ∀ v' w', ExtS w0.heap.size (fun k => v.ownBlock = some k) w w' → OwnMs w' b0 v' (xs ++ ys) → K v' w') :
    RunK Tryz.prog (Builtin.append_ #[27, 27] 27 ⟨[v, .slice A l c]⟩) w0.heap.size w bs K := by
  obtain rfl := hy.len
  cases A with
  | none =>
    have hn : ys = [] := by
      cases ys with
      | nil => rfl
      | cons x r => obtain ⟨p, hp, _⟩ := hy.get 0 x rfl; cases hp
    subst hn
    obtain rfl := hA rfl
    intro w1 he hxx
    have hr := run_append_owned_none (P := Tryz.prog) (w := w1) b0 27 27 41 Tryz.t41 2 (by kernel_rfl) (by kernel_rfl) v xs.length _ (he.owns ho)
    refine ⟨_, w1, hr, ⟨Nat.le_refl _, fun _ _ => rfl⟩, hide_any fun w' hm => ?_⟩
    have h1 := masked he hxx (Nat.le_trans hB he.size) (Below.refl _ _) hm
    refine hk _ w' h1.toS ?_
    rw [List.append_nil]
    exact h1.owns ho
  | some a => exact append_marks ho hy hn hB hb0 fun v' w' he ho' _ => hk v' w' he ho'
theorem marks_block {w : World} {g : Nat} {ms : List Mk} (h : w.heap[g]? = some (.cells ⟨mcs ms⟩ 41 (0, 0))) (hl : ms.length ≤ 1000000) : Marks w (some ⟨g, 0, none⟩) ms.length ms := by
  refine ⟨rfl, by simp only [maxLen]; omega, fun i m hm => ⟨_, rfl, ?_⟩⟩
  obtain ⟨k1, k2⟩ := mcs_get hm
  exact ⟨by simp only [own_add, bx_add, Nat.zero_add, Nat.add_zero]; exact at_cell h k1, by simp only [own_add, bx_add, Nat.zero_add]; exact at_cell h k2⟩
def MarksQ (xs : List Mk) (w1 : World) : Value → World → Prop := fun u w2 => ∃ A c, u = .slice A xs.length c ∧ Marks (newW w1.heap.size w2) A xs.length xs ∧ xs.length ≤ c ∧ (A = none → c = 0)
theorem kind_eq {a : Int} (h : 0 ≤ a ∧ a < 256) : IntKind.wrap .i64 (Int.tmod (IntKind.wrap .i64 a) 8 - IntKind.wrap .i64 (Int.tdiv (IntKind.wrap .i64 a) 128)) = a % 8 - a / 128 := by
  rw [wrap_id (n := a) (by omega) (by omega), Int.tmod_eq_emod_of_nonneg h.1, Int.tdiv_eq_ediv_of_nonneg h.1, wrap_id (n := a / 128) (by omega) (by omega), wrap_id (by omega) (by omega)]
theorem l0_16 {w0 : World} {A : Option Addr} {l c : Nat} {ns : List Int} (hn : BytesAt w0 A l c ns) :
    ∀ (k i : Nat) (w : World) (acc : List Mk) (L : Option Addr) (lc : Nat), 62 ≤ i + 2 * k → i ≤ 61 → acc.length + k ≤ 100 → Below w0.heap.size w0 w → OwnMs w w0.heap.size (.slice L acc.length lc) acc →
    V16.l0 w0.heap.size (IsQ w0 (MarksQ (acc ++ marksF ns k i) w0)) k A l c L acc.length lc (i : Int) w
  | 0, i, w, acc, L, lc, hk, hi, _, _, _ => by omega
  | k + 1, i, w, acc, L, lc, hk, hi, hal, hw, ho => by
    dsimp -zeta only [V16.l0]
    have hnow := BytesAt.keep hn (below_keeps hw)
    have hll := hn.nums.len
    have hw1 : IntKind.wrap .i64 ((i : Int) + 1) = ((i + 1 : Nat) : Int) := by rw [wrap_id (by omega) (by omega)]; rfl
    have stop : marksF ns (k + 1) i = [] → Ret w0.heap.size w (IsQ w0 (MarksQ (acc ++ marksF ns (k + 1) i) w0) (.slice L acc.length lc)) := fun he => by
      rw [he, List.append_nil]
      refine ret_q hw fun w1 e1 => ?_
      have ho1 := OwnMs.ext ho e1
      obtain ⟨A', c', hv, hm⟩ := OwnMs.marks ho1 (by omega)
      cases hv
      exact ⟨_, _, rfl, hm, own_cap ho1⟩
    rw [hw1]
    by_cases h1 : i + 1 < l
    · rw [if_pos (by simp; omega)]
      by_cases h2 : i < 60
      · rw [if_pos (by simp; omega)]
        obtain ⟨x, p, hx, hp, c0⟩ := hnow.nums.at (i := i) (by omega)
        obtain ⟨y, q, hy, hq, c1⟩ := hnow.nums.at (i := i + 1) (by omega)
        have bx := hn.byte x (List.mem_of_getElem? hx)
        have by' := hn.byte y (List.mem_of_getElem? hy)
        have hm : marksF ns (k + 1) i = mkOf x y :: marksF ns k (i + 2) := by
          rw [marksF, if_pos ⟨by omega, h2⟩]
          congr 1
          simp [List.getD, hx, hy]
        refine ⟨p, hp, by omega, by omega, x, by simpa using c0, by decide, p, hp, by omega, by omega, x, by simpa using c0, by decide, q, hq, by omega, by omega, y, by simpa using c1, ?_⟩
        rw [wrap_id (n := y) (by omega) (by omega), wrap_id (n := y - 100) (by omega) (by omega)]
        refine call_gives hw (fun _ _ _ => gives19 (y - 100)) fun w1 e1 hw1' => ⟨_, rfl, e1.cell (by simpa using c0), e1.cell (by simpa using c0), ?_⟩
        rw [kind_eq bx]
        intro w2 e2 _
        obtain ⟨e3, ho3⟩ := alloc1 (.cells ⟨mcs [mkOf x y]⟩ 41) e2 hw1'.size
        try dsimp only
        have hd : (Obj.cells ⟨[.int .i64 (x % 8 - x / 128), .int .u64 (nw (y - 100) : Nat)]⟩ 41 : Obj) = .cells ⟨mcs [mkOf x y]⟩ 41 := rfl
        rw [hd]
        generalize w2.alloc (.cells ⟨mcs [mkOf x y]⟩ 41) = w3 at *
        have hb : Marks w3 (some ⟨w2.heap.size, 0, none⟩) 1 [mkOf x y] := marks_block (ms := [mkOf x y]) ho3 (by simp)
        have hw3 := e3.after hw1'
        refine append_ms hw3.size hw3.size (OwnMs.ext (OwnMs.ext ho e1) e3) hb (fun h => by cases h) (by omega) fun v' w4 he ho' => ?_
        have hw4 := he.after (fun j hj => (ho.lt j hj).1) hw3
        obtain ⟨A', c', hv⟩ := owns_slice0 ho'
        subst hv
        refine ⟨A', _, c', rfl, ?_⟩
        have hw2 : IntKind.wrap .i64 ((i : Int) + 2) = ((i + 2 : Nat) : Int) := by rw [wrap_id (by omega) (by omega)]; rfl
        rw [hw2]
        have hal2 : (acc ++ [mkOf x y]).length + k ≤ 100 := by simp; omega
        have := l0_16 hn k (i + 2) w4 (acc ++ [mkOf x y]) A' c' (by omega) (by omega) hal2 hw4 ho'
        rw [hm]
        rw [List.append_assoc] at this
        exact this
      · rw [if_neg (by simp; omega)]
        exact stop (by rw [marksF, if_neg (by omega)])
    · rw [if_neg (by simp; omega)]
      exact stop (by rw [marksF, if_neg (by omega)])
theorem yields16 {w : World} {A : Option Addr} {l c : Nat} {ns : List Int} (hn : BytesAt w A l c ns) : Yields Tryz.prog 16 [.slice A l c] w (MarksQ (marksM ns) w) := by
  refine yields_of (V16.sound ?_)
  exact ⟨31, l0_16 hn 31 0 w [] none 0 (by omega) (by omega) (by simp) (Below.refl _ _) (World.ownsRow_nil _ _ _ _)⟩
theorem call_marks {w0 w : World} {bs : List Nat} {A : Option Addr} {l c : Nat} {ns : List Int} {K : Value → World → Prop} (hw : Below w0.heap.size w0 w) (hn : BytesAt w A l c ns)
    (hk : ∀ A' c' w', Ext w0.heap.size w w' → Marks w' A' (marksM ns).length (marksM ns) → (marksM ns).length ≤ c' → (A' = none → c' = 0) → K (.slice A' (marksM ns).length c') w') : CallK Tryz.prog 16 [.slice A l c] w0.heap.size w bs K := by
  refine call_yieldsX (Q := MarksQ (marksM ns)) hw.size (fun w1 e1 => yields16 (BytesAt.keep hn (ext_keeps e1))) fun w1 u w2 w' hsz hQ hnew he => ?_
  obtain ⟨A', c', rfl, hm, hc, hA⟩ := hQ
  refine hk A' c' w' he (RowAt.keep MarkE.kept hm fun q v hq => ?_) hc hA
  obtain ⟨h1, h2⟩ := newW_cell.1 hq
  exact (cell_same (hnew _ h2)).trans h1
theorem awake29 : traceM [⟨1, nw 1⟩, ⟨5, 0⟩] = [111, 117, 116, 32, 49, 10, 111, 111, 109, 10] ∧ nw 1 < 2 * SW := by
  refine ⟨?_, by decide⟩
  have h : textF (nw 1) = [49] := by kernel_rfl
  have e : traceM [⟨1, nw 1⟩, ⟨5, 0⟩] = ([111, 117, 116] ++ (32 :: textF (nw 1)) ++ [10]) ++ (([111, 111, 109] ++ [] ++ [10]) ++ []) := rfl
  rw [e, h]; rfl
theorem gives7 {w : World} (ht : Tabs w) : Gives Tryz.prog 7 [] w (.bool true) := by
  refine gives_of (V7.sound ?_)
  unfold V7.vc
  obtain ⟨t1, l1⟩ := awake29
  refine call_gives (Below.refl _ _) (fun _ _ _ => gives19 1) fun w1 e1 h1 => ⟨_, rfl, ?_⟩
  intro w2 e2 _
  obtain ⟨e3, ho3⟩ := alloc1 (.cells ⟨[.int .i64 1, .int .u64 (nw 1 : Nat), .int .i64 5, .int .u64 0]⟩ 41) e2 h1.size
  try dsimp only
  generalize w2.alloc (.cells ⟨[.int .i64 1, .int .u64 (nw 1 : Nat), .int .i64 5, .int .u64 0]⟩ 41) = w3 at *
  have h3 := e3.after h1
  have hm3 : Marks w3 (some ⟨w2.heap.size, 0, none⟩) 2 [⟨1, nw 1⟩, ⟨5, 0⟩] := marks_block (ms := [⟨1, nw 1⟩, ⟨5, 0⟩]) ho3 (by simp)
  have hok : OkMs [⟨1, nw 1⟩, ⟨5, 0⟩] := fun m hm => by
    rcases List.mem_cons.1 hm with rfl | hm
    · exact l1
    · rw [List.mem_singleton] at hm; subst hm; decide
  refine call_gives h3 (fun w4 e4 h4 => gives18 (ht.on h4) (RowAt.keep MarkE.kept hm3 (ext_keeps e4)) hok (by omega)) fun w4 e4 h4 => ⟨_, rfl, ?_⟩
  rw [if_pos (str_eq (x := { data := #[111, 117, 116, 32, 49, 10, 111, 111, 109, 10] }) t1 rfl)]
  intro w5 e5 _
  obtain ⟨e6, ho6⟩ := alloc1 (.cells ⟨[.int .i64 5, .int .u64 0]⟩ 41) e5 h4.size
  try dsimp only
  generalize w5.alloc (.cells ⟨[.int .i64 5, .int .u64 0]⟩ 41) = w6 at *
  have hm6 : Marks w6 (some ⟨w5.heap.size, 0, none⟩) 1 [⟨5, 0⟩] := marks_block (ms := [⟨5, 0⟩]) ho6 (by simp)
  refine call_gives (e6.after h4) (fun w7 e7 _ => gives15 (marks_nil w7) (RowAt.keep MarkE.kept hm6 (ext_keeps e7)) (Nat.le_refl _)) fun w7 _ h7 => ⟨_, rfl, ret_is h7 ?_⟩
  rw [beg_nil]
end Go.Proofs.YtidcpndlloppdaaGreatDoor
