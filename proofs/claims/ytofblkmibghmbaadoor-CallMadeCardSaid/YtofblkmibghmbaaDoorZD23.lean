import Derived.Test.YtofblkmibghmbaaDoorZC23
import Derived.Test.YtofblkmibghmbaaDoorZShG
/-
  Layer 23: what the host library returns to the reading of calls; pieces of texts; numbers read.
  Conditions: the variables of the host's library hold what the program's text lays into them.
-/
set_option linter.unusedVariables false
set_option linter.unusedSimpArgs false
set_option maxRecDepth 100000
namespace Go.Proofs.YtofblkmibghmbaaDoor
open Go.RowKit
def ErrIs (ev : Value) : Prop := ev = .nilIface ∨ ∃ te pe, ev = .iface te pe
structure Libs (w : World) : Prop where
  tabs : Tabs w
  max : ∃ m, w.cell? ⟨4, 0, none⟩ = some (.int .i64 m)
  syn : ∃ ev, w.cell? ⟨2, 0, none⟩ = some ev ∧ ErrIs ev
  rng : ∃ ev, w.cell? ⟨3, 0, none⟩ = some ev ∧ ErrIs ev
theorem Libs.on {w w' : World} (h : Libs w) (hb : Below w.heap.size w w') : Libs w' := by
  obtain ⟨m, hm⟩ := h.max
  obtain ⟨e, he, he'⟩ := h.syn
  obtain ⟨f, hf, hf'⟩ := h.rng
  exact ⟨h.tabs.on hb, ⟨m, below_keeps hb _ _ hm⟩, ⟨e, below_keeps hb _ _ he, he'⟩, ⟨f, below_keeps hb _ _ hf, hf'⟩⟩
theorem part_err {ev : Value} {K : Value → Prop} (h : ErrIs ev) (hk : K ev) : partV ev K := by
  rcases h with rfl | ⟨te, pe, rfl⟩ <;> exact hk
theorem force_err {ev : Value} {K : Value → Prop} (h : ErrIs ev) (hk : K ev) : force ev K := (force_iff ev K).2 hk
theorem bstr_data (s : ByteArray) : bstr s.data.toList = s := by cases s; rfl
def strV (ps : List (List UInt8)) : List Value := ps.map fun p => .string (bstr p)
def piecesS (s : List UInt8) : List (List UInt8) := (splitS s).1 :: (splitS s).2
theorem split_cells (s : List UInt8) : Lib.countB (bstr s) (bstr [32]) + 1 = (piecesS s).length ∧ (Lib.splitB (bstr [32]) 0 (Lib.countB (bstr s) (bstr [32])) (bstr s)).map Value.string = strV (piecesS s) := by
  have h1 := Lib.splitB_data (bstr [32]) 0 (Lib.countB (bstr s) (bstr [32])) (bstr s)
  have h2 : Lib.splitK (bstr [32]).data.toList 0 (Lib.countB (bstr s) (bstr [32])) (bstr s).data.toList = piecesS s := split_lib s
  rw [h2] at h1
  have h3 := Lib.splitB_all (bstr [32]) (by decide) 0 _ (bstr s) rfl
  refine ⟨by rw [← h3, ← h1, List.length_map], ?_⟩
  rw [← h1]
  unfold strV
  rw [List.map_map]
  exact List.map_congr_left fun b _ => by simp [bstr_data]
theorem call_split {w0 w : World} {bs : List Nat} {s : List UInt8} {K : Value → World → Prop} (hl : Libs w0) (hw : Below w0.heap.size w0 w) (hs : s.length ≤ 1000000) (hk : ∀ g w', Ext w0.heap.size w w' → w'.heap[g]? = some (.cells ⟨strV (piecesS s)⟩ 9 (0, 0)) → K (.slice (some ⟨g, 0, none⟩) (piecesS s).length (piecesS s).length) w') :
    CallK Tryd.prog 88 [.string (bstr s), .string ({ data := #[32] } : ByteArray)] w0.heap.size w bs K := by
  obtain ⟨c1, c2⟩ := split_cells s
  refine call_yieldsX (Q := fun w1 u w2 => ∃ g, w1.heap.size ≤ g ∧ u = .slice (some ⟨g, 0, none⟩) (piecesS s).length (piecesS s).length ∧ w2.heap[g]? = some (.cells ⟨strV (piecesS s)⟩ 9 (0, 0))) hw.size (fun w1 e1 => ?_) fun w1 u w2 w' hsz hQ hnew he => ?_
  · obtain ⟨m, hm⟩ := hl.max
    have hm1 := (e1.after hw)
    refine Calls.mono (Tryd.strings_Split (bstr s) (bstr [32]) m w1 (by rw [bstr_size]; omega) (below_keeps hm1 _ _ hm) (by decide)) fun e w2 ⟨he, hw2⟩ => ?_
    rw [c1] at he
    rw [c2] at hw2
    refine ⟨_, he, ⟨w1.heap.size, Nat.le_refl _, rfl, by rw [hw2]; exact alloc_new w1 _⟩, ?_⟩
    rw [hw2]
    exact (Below.refl _ _).alloc (Nat.le_refl _) _
  · obtain ⟨g, hg, rfl, ho⟩ := hQ
    exact hk g w' he (by rw [hnew g hg]; exact ho)
theorem gives90 {w : World} (x : List UInt8) : Gives Tryd.prog 90 [.string (bstr x), .string ({ data := #[35] } : ByteArray)] w (.bool (hashC x)) :=
  Calls.mono (Tryd.strings_HasPrefix (bstr x) (bstr [35]) w) fun e w' ⟨he, hw⟩ => ⟨he, by rw [hw]; exact Below.refl _ _⟩
theorem gives91 {w : World} (x : List UInt8) : Gives Tryd.prog 91 [.string (bstr x), .string ({ data := #[64, 35] } : ByteArray)] w (.string (bstr (Lib.trimLeftS x [64, 35]))) :=
  Calls.mono (Any.strings_TrimLeft_laid Tryd.lays161 (by kernel_rfl) (bstr x) (bstr [64, 35]) w (by decide) (fun j b hj => by
    have : b ∈ [64, 35] := List.mem_of_getElem? hj
    rcases List.mem_cons.1 this with rfl | h
    · decide
    · rw [List.mem_singleton] at h; subst h; decide)) fun e w' ⟨he, hw⟩ => ⟨he, hw⟩
def AtoiQ (x : List UInt8) : Value → World → Prop := fun u _ => ∃ ev, u = .tuple ⟨[.int .i64 (atoiV x), ev]⟩ ∧ ErrIs ev
theorem yields92 {w : World} (hl : Libs w) {x : List UInt8} (hx : x.length ≤ 1000000) : Yields Tryd.prog 92 [.string (bstr x)] w (AtoiQ x) := by
  have hs : (bstr x).size ≤ 1000000 := by rw [bstr_size]; exact hx
  cases h : Lib.atoiAll x with
  | ok v =>
    have hv : atoiV x = v := by unfold atoiV; rw [h]
    refine Calls.mono (Tryd.strconv_Atoi_ok (bstr x) (by omega) v h w) fun e w' ⟨he, hw⟩ => ⟨_, he, ⟨.nilIface, by rw [hv], .inl rfl⟩, ?_⟩
    rcases hw with rfl | ⟨t, rfl⟩
    · exact Below.refl _ _
    · exact Lib.bytesWorld_below _ _ _
  | «syntax» =>
    have hv : atoiV x = 0 := by unfold atoiV; rw [h]
    obtain ⟨ev, hc, hev⟩ := hl.syn
    refine Calls.mono (Tryd.strconv_Atoi_syntax (bstr x) (by omega) h ev w hc hev) fun e w' ⟨N, he, _, _, hw⟩ => ⟨_, he, ⟨_, by rw [hv], .inr ⟨_, _, rfl⟩⟩, hw⟩
  | range =>
    have hv : atoiV x = Lib.atoiSat x := by unfold atoiV; rw [h]
    obtain ⟨ev, hc, hev⟩ := hl.rng
    refine Calls.mono (Tryd.strconv_Atoi_range (bstr x) (by omega) h ev w hc hev) fun e w' ⟨N, he, _, _, hw⟩ => ⟨_, he, ⟨_, by rw [hv]; rfl, .inr ⟨_, _, rfl⟩⟩, hw⟩
def readV (r : Cl × Bool) : Value := .tuple ⟨[clV r.1, .bool r.2]⟩
def kindN : Nat → List UInt8 → Int
  | 0, _ => 0
  | i + 1, p => if wordC (i : Int) = p then (i : Int) else kindN i p
theorem kindN_all (p : List UInt8) : kindN 10 p = kindC p := by
  by_cases h1 : p = wordC 1
  · subst h1; decide
  by_cases h2 : p = wordC 2
  · subst h2; decide
  by_cases h3 : p = wordC 3
  · subst h3; decide
  by_cases h4 : p = wordC 4
  · subst h4; decide
  by_cases h5 : p = wordC 5
  · subst h5; decide
  by_cases h6 : p = wordC 6
  · subst h6; decide
  by_cases h7 : p = wordC 7
  · subst h7; decide
  by_cases h8 : p = wordC 8
  · subst h8; decide
  by_cases h9 : p = wordC 9
  · subst h9; decide
  have e : kindC p = 0 := by unfold kindC; rw [if_neg h1, if_neg h2, if_neg h3, if_neg h4, if_neg h5, if_neg h6, if_neg h7, if_neg h8, if_neg h9]
  rw [e]
  have n : ∀ {q : List UInt8}, p ≠ q → ¬ q = p := fun h e => h e.symm
  show (if wordC ((9 : Nat) : Int) = p then _ else if wordC ((8 : Nat) : Int) = p then _ else if wordC ((7 : Nat) : Int) = p then _ else if wordC ((6 : Nat) : Int) = p then _ else if wordC ((5 : Nat) : Int) = p then _ else if wordC ((4 : Nat) : Int) = p then _ else if wordC ((3 : Nat) : Int) = p then _ else if wordC ((2 : Nat) : Int) = p then _ else if wordC ((1 : Nat) : Int) = p then _ else if wordC ((0 : Nat) : Int) = p then _ else _) = _
  rw [if_neg (show ¬ wordC ((9 : Nat) : Int) = p from n h9), if_neg (show ¬ wordC ((8 : Nat) : Int) = p from n h8), if_neg (show ¬ wordC ((7 : Nat) : Int) = p from n h7), if_neg (show ¬ wordC ((6 : Nat) : Int) = p from n h6), if_neg (show ¬ wordC ((5 : Nat) : Int) = p from n h5), if_neg (show ¬ wordC ((4 : Nat) : Int) = p from n h4), if_neg (show ¬ wordC ((3 : Nat) : Int) = p from n h3), if_neg (show ¬ wordC ((2 : Nat) : Int) = p from n h2), if_neg (show ¬ wordC ((1 : Nat) : Int) = p from n h1)]
  split <;> rfl
theorem loopC_drop {k : Int} {rest : List (List UInt8)} {i : Nat} {x : List UInt8} (h : rest[i]? = some x) (a b : Int) : loopC k i a b (rest.drop i) = loopC k (i + 1) (if i = 0 then numP k x else a) (if i = 1 then numP k x else if k = 2 ∧ hashC x = true then 1 else b) (rest.drop (i + 1)) := by
  obtain ⟨hi, hx⟩ := List.getElem?_eq_some_iff.1 h
  rw [List.drop_eq_getElem_cons hi, hx, loopC]
theorem piece_len {s : List UInt8} : ∀ p ∈ piecesS s, p.length ≤ s.length := by
  unfold piecesS
  induction s with
  | nil => intro p hp; simp [splitS] at hp; subst hp; simp
  | cons c r ih =>
    intro p hp
    unfold splitS at hp
    split at hp
    · rcases List.mem_cons.1 hp with rfl | hp
      · simp
      · have := ih p hp; simp; omega
    · rcases List.mem_cons.1 hp with rfl | hp
      · have := ih _ List.mem_cons_self; simp; omega
      · have := ih p (List.mem_cons_of_mem _ hp); simp; omega
section
variable {w0 : World} (hl : Libs w0) {s : List UInt8}
include hl
theorem end55 {w : World} {bs : List Nat} {c : Cl} (hw : Below w0.heap.size w0 w) (hc : c = parseC s) :
    CallK Tryd.prog 57 [clV c] w0.heap.size w bs fun v w_1 => ∃ b66 : Bool, v = .bool b66 ∧
     if (!b66) = false
     then (CallK Tryd.prog 59 [clV c] w0.heap.size w_1 bs fun v_1 w_2 => 
      ∃ s70 : ByteArray, v_1 = .string s70 ∧
      if (!(s70.toList == (bstr s).toList)) = true
      then (Ret w0.heap.size w_2 (IsV w0 (readV (readC s)) (.tuple ⟨[.agg ⟨[.int .i64 0, .int .i64 0, .int .i64 0]⟩, .bool false]⟩)))
      else (Ret w0.heap.size w_2 (IsV w0 (readV (readC s)) (.tuple ⟨[clV c, .bool true]⟩))))
     else (Ret w0.heap.size w_1 (IsV w0 (readV (readC s)) (.tuple ⟨[.agg ⟨[.int .i64 0, .int .i64 0, .int .i64 0]⟩, .bool false]⟩))) := by
  have hr : readC s = if mayC c = true ∧ textC c = s then (c, true) else noC := by rw [hc]; rfl
  have ha : I64 c.a := by rw [hc]; exact (parseC_rng s).1
  refine call_gives hw (fun _ _ _ => gives57 c) fun w1 _ h1 => ⟨_, rfl, ?_⟩
  by_cases hm : mayC c = true
  · rw [hm, if_pos (by decide)]
    refine call_gives h1 (fun _ _ h => gives59 (hl.tabs.on h) ha) fun w2 _ h2 => ⟨_, rfl, ?_⟩
    rw [beqs rfl]
    by_cases ht : textC c = s
    · rw [decide_eq_true ht, if_neg (by decide)]
      exact ret_is h2 (by rw [hr, if_pos ⟨hm, ht⟩]; rfl)
    · rw [decide_eq_false ht, if_pos (by decide)]
      exact ret_is h2 (by rw [hr, if_neg (fun h => ht h.2)]; rfl)
  · have hm' : mayC c = false := by simpa using hm
    rw [hm', if_neg (by decide)]
    exact ret_is h1 (by rw [hr, if_neg (fun h => hm h.1)]; rfl)
variable (hs : s.length ≤ 1000000)
include hs
theorem l1_55 {A : Option Addr} {l cp : Nat} {rest : List (List UInt8)} (hrest : rest = (splitS s).2) (hlen : rest.length = l) (hl2 : l ≤ 1000000) {kd : Int} (hkd : kd = kindC (splitS s).1) {q4 q2 : Nat} :
    ∀ (k i : Nat) (a b : Int) (w : World), l < i + k → i ≤ l → Below w0.heap.size w0 w → (∀ j x, rest[j]? = some x → ∃ p, A = some p ∧ w.cell? (p.add j) = some (.string (bstr x))) → loopC kd i a b (rest.drop i) = loopC kd 0 0 0 rest →
    V55.l1 w0.heap.size (IsV w0 (readV (readC s))) k (bstr s) A l cp (l : Int) (i : Int) q4 kd a b q2 0 0 0 w
  | 0, i, a, b, w, hk, hi, _, _, _ => by omega
  | k + 1, i, a, b, w, hk, hi, hw, hcells, hlp => by
    dsimp -zeta only [V55.l1]
    by_cases hlt : i < l
    · rw [if_pos (by simpa using hlt)]
      have hx : rest[i]? = some (rest[i]'(by omega)) := List.getElem?_eq_getElem _
      generalize rest[i]'(by omega) = x at hx
      have hxl : x.length ≤ 1000000 := by
        have := piece_len (s := s) x (by rw [hrest] at hx; exact List.mem_cons_of_mem _ (List.mem_of_getElem? hx))
        omega
      obtain ⟨p, hp, hc⟩ := hcells i x hx
      refine ⟨p, hp, by omega, by omega, _, by simpa using hc, ?_⟩
      have hwi : IntKind.wrap .i64 ((i : Int) + 1) = ((i + 1 : Nat) : Int) := by rw [wrap_id (by omega) (by omega)]; rfl
      have hstep := loopC_drop (k := kd) hx a b
      rw [hlp] at hstep
      -- from the number on
      have num : ∀ (y : List UInt8) (b' : Int) (w1 : World), atoiV y = numP kd x → y.length ≤ 1000000 → b' = (if kd = 2 ∧ hashC x = true then 1 else b) → Below w0.heap.size w0 w1 → (∀ j x, rest[j]? = some x → ∃ p, A = some p ∧ w1.cell? (p.add j) = some (.string (bstr x))) →
          V55.b3 w0.heap.size (IsV w0 (readV (readC s))) (V55.l1 w0.heap.size (IsV w0 (readV (readC s))) k) (bstr s) (i : Int) (bstr y) A l cp (l : Int) (i : Int) q4 kd a b' q2 0 0 0 w1 := by
        intro y b' w1 hy hyl hb' hw1 hc1
        unfold V55.b3
        refine call_yieldsX (Q := fun _ => AtoiQ y) hw1.size (fun w2 e2 => yields92 (hl.on (e2.after hw1)) hyl) fun w2 u w3 w4 _ hQ _ e4 => ?_
        obtain ⟨ev, rfl, hev⟩ := hQ
        refine ⟨_, _, rfl, part_err hev (force_err hev ?_)⟩
        rw [hy, hwi]
        have hc4 : ∀ j x, rest[j]? = some x → ∃ p, A = some p ∧ w4.cell? (p.add j) = some (.string (bstr x)) := fun j x hj => by
          obtain ⟨p, hp, hc⟩ := hc1 j x hj
          exact ⟨p, hp, e4.cell hc⟩
        by_cases h0 : i = 0
        · rw [if_pos (by simpa using h0)]
          refine l1_55 hrest hlen hl2 hkd k (i + 1) _ b' w4 (by omega) (by omega) (e4.after hw1) hc4 ?_
          rw [if_pos h0, if_neg (by omega), ← hb'] at hstep
          exact hstep.symm
        rw [if_neg (by simpa using h0)]
        by_cases h1 : i = 1
        · rw [if_pos (by simp [h1])]
          refine l1_55 hrest hlen hl2 hkd k (i + 1) a _ w4 (by omega) (by omega) (e4.after hw1) hc4 ?_
          rw [if_neg h0, if_pos h1] at hstep
          exact hstep.symm
        · rw [if_neg (by simp; omega)]
          refine l1_55 hrest hlen hl2 hkd k (i + 1) a b' w4 (by omega) (by omega) (e4.after hw1) hc4 ?_
          rw [if_neg h0, if_neg h1, ← hb'] at hstep
          exact hstep.symm
      have trim : ∀ (b' : Int) (w1 : World), b' = (if kd = 2 ∧ hashC x = true then 1 else b) → Below w0.heap.size w0 w1 → (∀ j x, rest[j]? = some x → ∃ p, A = some p ∧ w1.cell? (p.add j) = some (.string (bstr x))) →
          V55.b2 w0.heap.size (IsV w0 (readV (readC s))) (V55.l1 w0.heap.size (IsV w0 (readV (readC s))) k) (bstr s) (i : Int) (bstr x) A l cp (l : Int) (i : Int) q4 kd a b' q2 0 0 0 w1 := by
        intro b' w1 hb' hw1 hc1
        unfold V55.b2
        by_cases h2 : kd = 2
        · rw [if_pos (by simpa using h2)]
          refine call_gives hw1 (fun _ _ _ => gives91 x) fun w2 e2 hw2 => ⟨_, rfl, ?_⟩
          refine num _ b' w2 (by unfold numP; rw [if_pos h2]) ?_ hb' hw2 fun j x hj => ?_
          · have : (Lib.trimLeftS x [64, 35]).length ≤ x.length := (List.dropWhile_sublist _).length_le
            omega
          · obtain ⟨p, hp, hc⟩ := hc1 j x hj
            exact ⟨p, hp, e2.cell hc⟩
        · rw [if_neg (by simpa using h2)]
          exact num x b' w1 (by unfold numP; rw [if_neg h2]) hxl hb' hw1 hc1
      by_cases h2 : kd = 2
      · rw [if_pos (by simpa using h2)]
        refine call_gives hw (fun _ _ _ => gives90 x) fun w1 e1 hw1 => ⟨_, rfl, ?_⟩
        have hc1 : ∀ j x, rest[j]? = some x → ∃ p, A = some p ∧ w1.cell? (p.add j) = some (.string (bstr x)) := fun j x hj => by
          obtain ⟨p, hp, hc⟩ := hcells j x hj
          exact ⟨p, hp, e1.cell hc⟩
        by_cases hh : hashC x = true
        · rw [if_pos hh]
          exact trim 1 w1 (by rw [if_pos ⟨h2, hh⟩]) hw1 hc1
        · rw [if_neg hh]
          exact trim b w1 (by rw [if_neg (fun h => hh h.2)]) hw1 hc1
      · rw [if_neg (by simpa using h2)]
        exact trim b w (by rw [if_neg (fun h => h2 h.1)]) hw hcells
    · rw [if_neg (by simpa using hlt)]
      have hd : rest.drop i = [] := List.drop_of_length_le (by omega)
      rw [hd, loopC] at hlp
      have e : (⟨kd, a, b⟩ : Cl) = parseC s := by
        unfold parseC
        rw [← hrest, ← hkd, ← hlp]
      exact end55 hl (c := ⟨kd, a, b⟩) hw e
theorem l0_55 {g1 g2 q4 q2 : Nat} :
    ∀ (k i : Nat) (w : World), 10 < i + k → i ≤ 10 → Below w0.heap.size w0 w → w.heap[g1]? = some (.cells ⟨strV (piecesS s)⟩ 9 (0, 0)) → w.heap[g2]? = some (.cells ⟨wordsC⟩ 9 (0, 0)) →
    V55.l0 w0.heap.size (IsV w0 (readV (readC s))) k (bstr s) (some ⟨g1, 0, none⟩) (piecesS s).length (piecesS s).length (some ⟨g2, 0, none⟩) 10 10 10 (i : Int) q4 (kindN i (splitS s).1) 0 0 q2 0 0 0 w
  | 0, i, w, hk, hi, _, _, _ => by omega
  | k + 1, i, w, hk, hi, hw, hg1, hg2 => by
    dsimp -zeta only [V55.l0]
    have hpl : (piecesS s).length = (splitS s).2.length + 1 := rfl
    by_cases hlt : i < 10
    · rw [if_pos (by simp; omega)]
      have c1 : w.cell? ((⟨g2, 0, none⟩ : Addr).add i) = some (.string (bstr (wordC i))) := by rw [own_add]; exact at_cell hg2 (wordsC_at hlt)
      have c2 : w.cell? ((⟨g1, 0, none⟩ : Addr).add 0) = some (.string (bstr (splitS s).1)) := by rw [own_add]; exact at_cell hg1 rfl
      refine ⟨_, rfl, by omega, by omega, _, by simpa using c1, _, rfl, by omega, by omega, _, c2, ?_⟩
      have hwi : IntKind.wrap .i64 ((i : Int) + 1) = ((i + 1 : Nat) : Int) := by rw [wrap_id (by omega) (by omega)]; rfl
      rw [beqs rfl, hwi]
      have ih := l0_55 (q4 := q4) (q2 := q2) k (i + 1) w (by omega) (by omega) hw hg1 hg2
      by_cases he : wordC (i : Int) = (splitS s).1
      · rw [if_pos (by simpa using he)]
        rw [kindN, if_pos he] at ih
        exact ih
      · rw [if_neg (by simpa using he)]
        rw [kindN, if_neg he] at ih
        exact ih
    · rw [if_neg (by simp; omega)]
      obtain rfl : i = 10 := by omega
      rw [kindN_all]
      refine ⟨by omega, by omega, (splitS s).2.length + 1, ?_⟩
      have hl1 : (piecesS s).length - 1 = (splitS s).2.length := by omega
      rw [hl1]
      have hsl : (splitS s).2.length ≤ s.length := by
        have : ∀ l : List UInt8, (splitS l).2.length ≤ l.length := by
          intro l
          induction l with
          | nil => simp [splitS]
          | cons c r ih => unfold splitS; split <;> simp <;> omega
        exact this s
      refine l1_55 hl hs rfl rfl (by omega) rfl ((splitS s).2.length + 1) 0 0 0 w (by omega) (by omega) hw (fun j x hj => ?_) rfl
      have hj' := (List.getElem?_eq_some_iff.1 hj).1
      refine ⟨⟨g1, 1, none⟩, ?_, ?_⟩
      · rw [if_neg (by omega)]
        rfl
      · rw [bx_add, Nat.add_comm 1 j]
        refine at_cell hg1 ?_
        show (strV (piecesS s))[j + 1]? = _
        unfold strV piecesS
        rw [List.map_cons, List.getElem?_cons_succ, List.getElem?_map, hj]; rfl
end
theorem gives55 {w : World} (hl : Libs w) {s : List UInt8} (hs : s.length ≤ 1000000) : Gives Tryd.prog 55 [.string (bstr s)] w (readV (readC s)) := by
  refine gives_of (V55.sound ?_)
  unfold V55.vc
  intro q2 _ q4 _
  refine call_split hl (Below.refl _ _) hs fun g1 w1 e1 hg1 => ⟨_, _, _, rfl, ?_⟩
  have h1 := e1.after (Below.refl _ _)
  refine call_words h1.size fun g2 w2 e2 _ hg2 => ⟨_, _, _, rfl, 11, ?_⟩
  exact l0_55 hl hs 11 0 w2 (by omega) (by omega) (e2.after h1) (e2.row _ _ _ _ hg1) hg2
end Go.Proofs.YtofblkmibghmbaaDoor
