/-
  Layer 29: texts of traces, traces by numbers, what begins with what: what the functions return.
  Conditions: the tables of the host's library read as the program's text lays them; the arguments' memory says what their values are.
-/
import Derived.Test.YtofblkmibghmbaaDoorZK29
import Derived.Test.YtofblkmibghmbaaDoorZM29
import Derived.Test.YtofblkmibghmbaaDoorZT2c
import Derived.Test.YtofblkmibghmbaaDoorZT2d
import Derived.Test.YtofblkmibghmbaaDoorZN2
set_option linter.unusedVariables false
set_option linter.unusedSimpArgs false
set_option maxRecDepth 100000
namespace Go.Proofs.YtofblkmibghmbaaDoor
open Go.RowKit
theorem gives103 {w : World} (k : Int) : Gives Tryd.prog 103 [.int .i64 k] w (.tuple ⟨[.string (bstr (wordM k)), .bool (moreM k)]⟩) := by
  refine gives_of (V103.sound ?_)
  unfold V103.vc
  by_cases h1 : k = 1
  · subst h1; exact ret_is (Below.refl _ _) rfl
  rw [if_neg (by simpa using h1)]
  by_cases h2 : k = 2
  · subst h2; exact ret_is (Below.refl _ _) rfl
  rw [if_neg (by simpa using h2)]
  by_cases h3 : k = 3
  · subst h3; exact ret_is (Below.refl _ _) rfl
  rw [if_neg (by simpa using h3)]
  by_cases h4 : k = 4
  · subst h4; exact ret_is (Below.refl _ _) rfl
  rw [if_neg (by simpa using h4)]
  have hm : moreM k = false := decide_eq_false (by omega)
  by_cases h5 : k = 5
  · subst h5; exact ret_is (Below.refl _ _) rfl
  rw [if_neg (by simpa using h5)]
  by_cases h6 : k = 6
  · subst h6; exact ret_is (Below.refl _ _) rfl
  rw [if_neg (by simpa using h6)]
  refine ret_is (Below.refl _ _) ?_
  rw [hm, wordM, if_neg h1, if_neg h2, if_neg h3, if_neg h4, if_neg h5, if_neg h6]; rfl
theorem take_snoc {xs : List Mk} {i : Nat} {m : Mk} (h : xs[i]? = some m) : xs.take (i + 1) = xs.take i ++ [m] := by
  rw [List.take_add_one, h]; rfl
theorem l0_71 {w0 : World} (ht : Tabs w0) {A : Option Addr} {l c b : Nat} {xs : List Mk} (hx : Marks w0 A l xs) (hok : OkMs xs) (hl : l ≤ 1000000) :
    ∀ (k i : Nat) (w : World) (v : Value), l < i + k → i ≤ l → Below w0.heap.size w0 w → BldAt w w0.heap.size b v (traceM (xs.take i)) →
    V71.l0 w0.heap.size (IsV w0 (.string (bstr (traceM xs)))) k ⟨b, 0, none⟩ A l c (l : Int) (i : Int) w
  | 0, i, w, v, hk, hi, _, _ => by omega
  | k + 1, i, w, v, hk, hi, hw, hb => by
    dsimp -zeta only [V71.l0]
    by_cases hlt : i < l
    · rw [if_pos (by simpa using hlt)]
      obtain ⟨m, p, hm, hp, c0, c1⟩ := Marks.cells (RowAt.keep MarkE.kept hx (below_keeps hw)) hlt
      have hmw := hok m (List.mem_of_getElem? hm)
      have hlen : (traceM (xs.take i)).length ≤ 31 * l := by
        have := traceM_len (l := xs.take i) fun x hx => hok x (List.mem_of_mem_take hx)
        have h2 : (xs.take i).length ≤ l := by rw [List.length_take]; omega
        omega
      have hwl := (wordM_facts m.k).1
      have htl := text_len hmw
      refine ⟨p, hp, by omega, by omega, m.k, c0, (m.w : Int), c1, fun q5 hq5 => ?_⟩
      refine call_gives hw (fun _ _ _ => gives103 m.k) fun w1 e1 h1 => ⟨_, _, rfl, ?_⟩
      refine call_write rfl h1.size (hb.ext e1) (by omega) fun v2 w2 e2 hb2 => ⟨_, _, rfl, part_nil ?_⟩
      have h2 := e2.after (fun k hk => (hb.ext e1).own_ge hk) h1
      have fin : ∀ (w3 : World) (v3 : Value), Below w0.heap.size w0 w3 → BldAt w3 w0.heap.size b v3 (traceM (xs.take i) ++ wordM m.k ++ tailM m) →
          CallK Tryd.prog 104 [.pointer (some ⟨b, 0, none⟩), .string ({ data := #[10] } : ByteArray)] w0.heap.size w3 [q5] fun v_4 w_5 => ∃ (x28 : Int) (v28 : Value), v_4 = .tuple ⟨[.int .i64 x28, v28]⟩ ∧ partV v28 fun _ => (V71.l0 w0.heap.size (IsV w0 (.string (bstr (traceM xs)))) k) ⟨b, 0, none⟩ A l c (l : Int) (IntKind.wrap .i64 ((i : Int) + 1)) w_5 := by
        intro w3 v3 h3 hb3
        have htail : (tailM m).length ≤ 25 := by unfold tailM; split <;> simp <;> omega
        refine call_write (s := [10]) rfl h3.size hb3 (by simp; omega) fun v4 w4 e4 hb4 => ⟨_, _, rfl, part_nil ?_⟩
        rw [wrap_succ hlt hx.small]
        refine l0_71 ht hx hok hl k (i + 1) w4 v4 (by omega) (by omega) (e4.after (fun k hk => hb3.own_ge hk) h3) ?_
        rw [take_snoc hm, traceM_snoc]
        unfold lineM
        rw [← List.append_assoc, ← List.append_assoc]
        exact hb4
      by_cases hmore : moreM m.k = true
      · rw [if_pos hmore]
        have htm : tailM m = 32 :: textF m.w := by unfold tailM; rw [if_pos hmore]
        refine call_gives h2 (fun _ _ h => gives19 (ht.on h) hmw) fun w3 e3 h3 => ⟨_, rfl, ?_, ?_⟩
        · rw [bstr_size]; show 1 + _ ≤ _; omega
        have ex : (({ data := #[32] } : ByteArray) ++ bstr (textF m.w)) = bstr (32 :: textF m.w) := ba_app [32] (textF m.w)
        refine call_write ex h3.size (hb2.ext e3) (by simp; omega) fun v4 w4 e4 hb4 => ⟨_, _, rfl, part_nil ?_⟩
        exact fin w4 v4 (e4.after (fun k hk => (hb2.ext e3).own_ge hk) h3) (by rw [htm]; exact hb4)
      · rw [if_neg hmore]
        have htm : tailM m = [] := by unfold tailM; rw [if_neg hmore]
        exact fin w2 v2 h2 (by rw [htm, List.append_nil]; exact hb2)
    · rw [if_neg (by simpa using hlt)]
      intro w1 e1 _
      have hb1 := hb.ext e1
      have hall : xs.take i = xs := List.take_of_length_le (by rw [hx.len]; omega)
      rw [hall] at hb1
      obtain ⟨p, hp, hh⟩ := hb1.head
      have hB : Lib.BuilderAt 107 5 w0.heap.size b p (byts (traceM xs)) w1 := ⟨hb1.base, v, hh, by have := hb1.row; rw [show (byts (traceM xs)).length = (traceM xs).length by simp [byts]]; exact this, hb1.ne⟩
      have hI : Lib.IsBuilder 107 5 w0.heap.size b (Lib.byteCells (traceM xs)) w1 := by
        rcases hp with rfl | rfl
        · exact .inl hB
        · exact .inr hB
      have h1 := e1.after hw
      refine Calls.mono (Tryd.Builder_String_any w0.heap.size b (traceM xs) w1 hI h1.size) fun e w2 ⟨he, hbw⟩ => ⟨_, he, ⟨hbw.size, fun x hx => by cases hx⟩, ⟨_, rfl, ?_⟩⟩
      exact ret_is (h1.trans hbw) rfl
theorem gives71 {w : World} (ht : Tabs w) {A : Option Addr} {l c : Nat} {xs : List Mk} (hx : Marks w A l xs) (hok : OkMs xs) (hl : l ≤ 1000000) : Gives Tryd.prog 71 [.slice A l c] w (.string (bstr (traceM xs))) := by
  refine gives_of (V71.sound ?_)
  unfold V71.vc
  intro w1 e1 _
  obtain ⟨e2, ho2⟩ := alloc1 (.cells ⟨[.pointer none, .slice none 0 0]⟩ 107) e1 (Nat.le_refl _)
  have h2 := e2.after (Below.refl _ _)
  refine ⟨l + 1, l0_71 ht hx hok hl (l + 1) 0 _ (.slice none 0 0) (by omega) (by omega) h2 ⟨e1.size, ⟨_, .inl rfl, ho2⟩, World.ownsRow_nil _ _ _ _⟩⟩
theorem word_rest {k : Int} (h : ¬ (1 ≤ k ∧ k ≤ 4)) : wordM k ++ [10] = if k = 5 then [111, 111, 109, 10] else if k = 6 then [108, 105, 109, 105, 116, 10] else [63, 10] := by
  unfold wordM
  rw [if_neg (by omega), if_neg (by omega), if_neg (by omega), if_neg (by omega)]
  split
  · rfl
  split <;> rfl
theorem l0_102 {w0 : World} {A A' : Option Addr} {l c c' : Nat} {xs ys : List Mk} (hx : Marks w0 A l xs) (hy : Marks w0 A' l ys) (w : World) (hw : Below w0.heap.size w0 w) :
    ∀ (k i : Nat), l < i + k → i ≤ l → (∀ j, j < i → xs[j]? = ys[j]?) → V102.l0 w0.heap.size (IsV w0 (.bool (eqMs xs ys))) k A l c A' l c' (l : Int) (i : Int) w
  | 0, i, hk, hi, _ => by omega
  | k + 1, i, hk, hi, hall => by
    dsimp -zeta only [V102.l0]
    by_cases h : i < l
    · rw [if_pos (by simpa using h)]
      obtain ⟨m, p, hm, hp, c0, c1⟩ := Marks.cells (RowAt.keep MarkE.kept hx (below_keeps hw)) h
      obtain ⟨n, q, hn, hq, d0, d1⟩ := Marks.cells (RowAt.keep MarkE.kept hy (below_keeps hw)) h
      refine ⟨p, hp, by omega, by omega, _, c0, _, c1, q, hq, by omega, by omega, _, d0, _, d1, ?_⟩
      by_cases hnm : m = n
      · subst hnm
        rw [if_neg (by simp), wrap_succ h hx.small]
        refine l0_102 hx hy w hw k (i + 1) (by omega) (by omega) fun j hj => ?_
        rcases Nat.lt_succ_iff_lt_or_eq.1 hj with h1 | h1
        · exact hall j h1
        · subst h1; rw [hm, hn]
      · have hb : ((m.k == n.k) && ((m.w : Int) == (n.w : Int))) = false := by
          cases hq : ((m.k == n.k) && ((m.w : Int) == (n.w : Int))) with
          | false => rfl
          | true =>
            simp at hq
            obtain ⟨q1, q2⟩ := hq
            exact absurd (by cases m; cases n; simp only [Mk.mk.injEq] at *; exact ⟨q1, by omega⟩) hnm
        rw [hb, if_pos (by decide)]
        refine ret_is hw ?_
        have : xs ≠ ys := fun e => by subst e; rw [hm] at hn; cases hn; exact hnm rfl
        cases he : eqMs xs ys with
        | false => rfl
        | true => exact absurd ((eqMs_iff _ _).1 he) this
    · rw [if_neg (by simpa using h)]
      refine ret_is hw ?_
      have : xs = ys := by
        apply List.ext_getElem?
        intro j
        by_cases hj : j < i
        · exact hall j hj
        · rw [List.getElem?_eq_none (by have := hx.len; omega), List.getElem?_eq_none (by have := hy.len; omega)]
      rw [(eqMs_iff _ _).2 this]
theorem gives102 {w : World} {A A' : Option Addr} {l c l' c' : Nat} {xs ys : List Mk} (hx : Marks w A l xs) (hy : Marks w A' l' ys) : Gives Tryd.prog 102 [.slice A l c, .slice A' l' c'] w (.bool (eqMs xs ys)) := by
  refine gives_of (V102.sound ?_)
  unfold V102.vc
  by_cases h : l = l'
  · subst h
    rw [if_neg (by simp)]
    exact ⟨l + 1, l0_102 hx hy w (Below.refl _ _) (l + 1) 0 (by omega) (by omega) (fun j hj => by omega)⟩
  · rw [if_pos (by simp; omega)]
    refine ret_is (Below.refl _ _) ?_
    have : xs ≠ ys := fun e => h (by rw [← hx.len, ← hy.len, e])
    cases he : eqMs xs ys with
    | false => rfl
    | true => exact absurd ((eqMs_iff _ _).1 he) this
theorem sub_same (b : Option Addr) (c : Nat) : (if c = 0 then b else Option.map (fun a => a.add (0 * 2)) b) = b := by
  split
  · rfl
  · cases b with
    | none => rfl
    | some a => simp [Addr.add]
theorem gives69 {w : World} {A A' : Option Addr} {l c l' c' : Nat} {xs ys : List Mk} (hx : Marks w A l xs) (hy : Marks w A' l' ys) (hc : l' ≤ c') : Gives Tryd.prog 69 [.slice A l c, .slice A' l' c'] w (.bool (begM xs ys)) := by
  refine gives_of (V69.sound ?_)
  unfold V69.vc begM
  rw [hx.len, hy.len]
  by_cases h : l ≤ l'
  · rw [if_pos (by simpa using h), decide_eq_true h]
    refine ⟨by omega, by omega, ?_⟩
    rw [sub_same, Int.toNat_natCast, Nat.sub_zero]
    refine call_gives (Below.refl _ _) (fun w1 e1 _ => gives102 (RowAt.keep MarkE.kept hx (ext_keeps e1)) (Marks.take (RowAt.keep MarkE.kept hy (ext_keeps e1)) h)) fun w1 _ h1 => ⟨_, rfl, ret_is h1 ?_⟩
    rw [Bool.true_and]
  · rw [if_neg (by simpa using h), decide_eq_false h]
    exact ret_is (Below.refl _ _) rfl
end Go.Proofs.YtofblkmibghmbaaDoor
