/-
  Made: the program that it returns is one that is right, in memory of its own.
  Conditions: the numbers lie in memory as told.
-/
import Derived.Test.YtlccbaemcfjdoaaM17g
set_option linter.unusedVariables false
set_option linter.unusedSimpArgs false
namespace Go.Proofs.Ytlccbaemcfjdoaa
open Go.RowKit

theorem MakerAt.put_fns {B g : Nat} {w : World} {s : MSt} {A : Option Addr} {ln cn : Nat} {vF vD : Value} {cs : List Value} (h : MakerAt B w g s A ln cn vF vD cs) {w1 : World} {B' : Nat} (hB : B ≤ B') (he : ExtS B' (fun k => vF.ownBlock = some k) w w1) {v : Value} {x : Fnc} (hx : x.code = [])
    (hv : w1.ownsRow B 29 4 v (s.p.length + 1) (fncsV s.p cs ++ fncV x (.slice none 0 0))) (hnew : ∀ k, v.ownBlock = some k → vF.ownBlock = some k ∨ w.heap.size ≤ k) :
    MakerAt B (w1.setCell ⟨g, 1, none⟩ v) g { s with p := s.p ++ [x] } A ln cn v vD (cs ++ [.slice none 0 0]) where
  cells := by
    have hc := he.row g _ _ _ (fun e => h.neF g e rfl) h.cells
    rw [at_set hc 1 v]; rfl
  ns := nums_block1 h.ns fun q hq hl => by
    have hq1 := h.old q hq hl
    rw [at_other (by have := h.above; omega), he.low _ (by omega) (fun e => by have := (h.blocks (h.inF e)).1; omega)]
  byte := h.byte
  old := h.old
  cap := h.cap
  fns := by
    have : w1.ownsRow B 29 4 v (s.p ++ [x]).length (fncsV (s.p ++ [x]) (cs ++ [.slice none 0 0])) := by
      rw [fncs_snoc x _ h.len]; simpa using hv
    refine owns_other this fun k hk => at_other fun e => ?_
    subst e
    rcases hnew k hk with h1 | h1
    · exact h.neF k h1 rfl
    · have := lt_of_some h.cells; omega
  len := by simp [h.len]
  code := fun j y c hy hc => by
    by_cases hj : j < s.p.length
    · rw [List.getElem?_append_left hj] at hy
      rw [List.getElem?_append_left (by rw [h.len]; exact hj)] at hc
      exact owns_other (he.owns (h.code j y c hy hc) fun k hk e => h.neFC hc k hk e) fun k hk => at_other (h.neC hc k hk)
    · have hj' : j = s.p.length := by have := (List.getElem?_eq_some_iff.1 hy).1; simp at this; omega
      subst hj'
      have h1 : y = x := by simpa using hy.symm
      have h2 : c = .slice none 0 0 := by rw [← h.len] at hc; simpa using hc.symm
      subst h1; subst h2
      rw [hx]
      exact World.ownsRow_nil _ _ _ _
  dep := owns_other (he.owns h.dep fun k hk e => h.neFD k e hk) fun k hk => at_other (h.neD k hk)
  above := h.above
  apart := by
    have : ownO g v vD (cs ++ [.slice none 0 0]) = (ownO g vF vD cs).set 1 v.ownBlock ++ [none] := by
      simp [ownO, Value.ownBlock]
    rw [this]
    refine (h.apart.set fun k hk => ?_).none
    rcases hnew k hk with h1 | h1
    · left; simp [h1]
    · right; intro j hj
      have := h.lt (List.mem_of_getElem? hj); omega
theorem ownO_fns {g : Nat} {vF vD v : Value} {cs : List Value} {n : Nat} (hnew : ∀ k, v.ownBlock = some k → vF.ownBlock = some k ∨ n ≤ k) {k : Nat} (hk : some k ∈ ownO g v vD (cs ++ [.slice none 0 0])) : some k ∈ ownO g vF vD cs ∨ n ≤ k := by
  simp only [ownO, List.mem_cons, List.map_append, List.mem_append, List.map_cons, List.map_nil, Value.ownBlock] at hk ⊢
  rcases hk with h | h | h | h | h
  · exact .inl (.inl h)
  · rcases hnew k h.symm with h1 | h1
    · exact .inl (.inr (.inl h1.symm))
    · exact .inr h1
  · exact .inl (.inr (.inr (.inl h)))
  · exact .inl (.inr (.inr (.inr h)))
  · simp at h
/-- A program that was made, in memory of its own. -/
def MadeQ (w : World) : Value → World → Prop := fun v w' => ∃ p C c, v = .agg ⟨[.slice C p.length c]⟩ ∧ MadeOk p ∧ ProgAt (newW w.heap.size w') C p.length p ∧ p.length ≤ c ∧ ∀ q, C = some q → w.heap.size ≤ q.block
structure Begun (p : List Fnc) : Prop where
  heads : ∀ x ∈ p, HeadOk x ∧ x.code = []
  zero : ∀ x, p[0]? = some x → x.params = 0
theorem Begun.ph {p : List Fnc} (h : Begun p) (h1 : 1 ≤ p.length) (h5 : p.length ≤ 5) : Ph p 0 :=
  ⟨h1, h5, fun x hx => (h.heads x hx).1, h.zero, fun i x hi _ => by omega, fun i x _ hx => (h.heads x (List.mem_of_getElem? hx)).2⟩
theorem owns_prog {w : World} {B : Nat} {v : Value} {n : Nat} {xs : List Value} (h : w.ownsRow B 29 4 v n xs) : ∃ C c, v = .slice C n c ∧ n ≤ c ∧ ∀ q, C = some q → B ≤ q.block := by
  rcases h.2 with ⟨rfl, h0⟩ | ⟨g, cap, cur, rfl, hb, _, hc, _⟩
  · subst h0; exact ⟨none, 0, rfl, Nat.le_refl _, fun q hq => by cases hq⟩
  · exact ⟨_, cap, rfl, hc, fun q hq => by cases hq; exact hb⟩
abbrev Off : Nat → Prop := fun _ => False
theorem chg_below {w0 w : World} (h : Chg Off w0 w) : Below w0.heap.size w0 w := ⟨h.os, h.tape, h.output, h.size, fun k hk => h.block k hk (fun h => h)⟩
section
variable {w0 : World} {g : Nat} {q2 : Nat}
theorem l2_35 {n : Nat} (hn5 : n ≤ 5) (hn1 : 1 ≤ n) : ∀ (k i : Nat) (w : World) (s : MSt) (A : Option Addr) (ln cn : Nat) (vF vD : Value) (cs : List Value), n < i + k → i ≤ n → MK w0.heap.size g Off w0 w s A ln cn vF vD cs → Ph s.p i → s.p.length = n →
    V35.l2 w0.heap.size (IsQ w0 (MadeQ w0)) k ⟨g, 0, none⟩ n i q2 none 0 0 w := by
  intro k
  induction k with
  | zero => intros; omega
  | succ k ih =>
    intro i w s A ln cn vF vD cs hk hi h hph hp
    dsimp -zeta only [V35.l2]
    simp only [own_add, bx_add, Nat.add_zero, Nat.zero_add]
    by_cases hlt : i < n
    · rw [if_pos (by simpa using hlt)]
      refine ⟨⟨_, h.mem.c2⟩, h.mem.fz 2, ?_⟩
      have h1 : MK w0.heap.size g Off w0 (w.setCell ⟨g, 2, none⟩ (.int .i64 i)) { s with f := i } A ln cn vF vD cs :=
        ⟨h.mem.put_f i, h.chg.setCell _ (fun hk => absurd hk (by have := h.mem.above; simp only; omega)), h.blk, h.low⟩
      refine call_mk h1 (works86 hph (by show i < s.p.length; omega)) fun v s' w' A' ln' cn' vF' vD' cs' hR h' => ?_
      obtain ⟨rfl, hph', hl'⟩ := hR
      have hwi : IntKind.wrap .i64 ((i : Int) + 1) = ((i + 1 : Nat) : Int) := by rw [wrap_id (by omega) (by omega)]; rfl
      rw [hwi]
      exact ⟨rfl, ih (i + 1) w' s' A' ln' cn' vF' vD' cs' (by omega) (by omega) h' hph' (hl'.trans hp)⟩
    · rw [if_neg (by simpa using hlt)]
      have hin : i = n := by omega
      subst hin
      rw [← hp] at hph
      have hmade := hph.made
      obtain ⟨C, c, hv, hpr⟩ := h.mem.prog (by omega) (fun x hx => by have := (hmade.done x hx).2.1; omega)
      obtain ⟨C', c', hv', hcap, hbl⟩ := owns_prog h.mem.fns
      rw [hv] at hv'
      cases hv'
      refine ⟨C, s.p.length, c, by rw [← hv]; exact h.mem.c1, ret_q (chg_below h.chg) fun w1 he => ?_⟩
      exact ⟨s.p, C, c, rfl, hmade, RowAt.keep FncE.kept hpr (newW_keep (Nat.le_refl _) (ext_keeps he)), hcap, hbl⟩
theorem b1_35 {L : Addr → Int → Int → Nat → Option Addr → Nat → Nat → World → Prop} {n i : Nat} {q6 : Nat} {P : Int} (hP : 0 ≤ P ∧ P ≤ 3) {w : World} {s : MSt} {A : Option Addr} {ln cn : Nat} {vF vD : Value} {cs : List Value} (h : MK w0.heap.size g Off w0 w s A ln cn vF vD cs)
    (hb : Begun s.p) (hl : s.p.length ≤ 5) (hz : s.p.length = 0 → P = 0)
    (hL : ∀ w' s' A' ln' cn' vF' vD' cs', MK w0.heap.size g Off w0 w' s' A' ln' cn' vF' vD' cs' → Begun s'.p → s'.p.length = s.p.length + 1 → L ⟨g, 0, none⟩ n (IntKind.wrap .i64 ((i : Int) + 1)) q2 none 0 0 w') :
    V35.b1 w0.heap.size (IsQ w0 (MadeQ w0)) L ⟨g, 0, none⟩ n i q6 P 0 0 none 0 0 q2 none 0 0 w := by
  unfold V35.b1
  refine call_mk h works85 fun v s1 w1 A1 ln1 cn1 vF1 vD1 cs1 hR h1 => ?_
  obtain ⟨b, rfl, hb0, hb1, l2, rfl⟩ := hR
  simp only [own_add, bx_add, Nat.add_zero, Nat.zero_add]
  refine ⟨b, rfl, by omega, by omega, by omega, by omega, ?_⟩
  have t5 := tm hb0 (n := 5) (by omega)
  have d5 := td hb0 (n := 5) (by omega)
  have t4 := tm d5.1 (n := 4) (by omega)
  rw [wrap_id (n := Int.tdiv b 5) (by omega) (by omega), wrap_id (n := P + Int.tmod b 5) (by omega) (by omega)]
  have hmin : 0 ≤ (if Int.tmod (Int.tdiv b 5) 4 < Int.tmod b 5 then Int.tmod (Int.tdiv b 5) 4 else Int.tmod b 5) ∧ (if Int.tmod (Int.tdiv b 5) 4 < Int.tmod b 5 then Int.tmod (Int.tdiv b 5) 4 else Int.tmod b 5) ≤ Int.tmod b 5 := by
    split <;> omega
  generalize (if Int.tmod (Int.tdiv b 5) 4 < Int.tmod b 5 then Int.tmod (Int.tdiv b 5) 4 else Int.tmod b 5) = M at hmin ⊢
  obtain ⟨C, c, hv, hcap, _⟩ := owns_prog h1.mem.fns
  refine ⟨C, s.p.length, c, by rw [show Value.slice C s.p.length c = vF1 from hv.symm]; exact h1.mem.c1, ?_⟩
  refine expo_alloc h1.chg.size fun w2 w3 hs2 he2 _ ho2 => ?_
  have h3 := h1.ext he2
  refine ⟨by rw [show Value.slice C s.p.length c = vF1 from hv.symm]; exact h3.mem.c1, ?_⟩
  rw [show Value.slice C s.p.length c = vF1 from hv.symm]
  have hb29 : Try.t29.bytes = 48 := by kernel_rfl
  have hsz3 : w0.heap.size ≤ w3.heap.size := h3.chg.size
  refine append_own (t := 22) (e := 29) (i := Try.t29) (z := .agg ⟨[.int .i64 0, .int .i64 0, .int .i64 0, .slice none 0 0]⟩) (size := 4) (bytes := 48) (by kernel_rfl) (by kernel_rfl) (by kernel_rfl) (by kernel_rfl) hb29 rfl (by omega) h3.mem.fns
    (news := fncV ⟨P, P + Int.tmod b 5, M, []⟩ (.slice none 0 0)) rfl (fun j u hj => ?_) (fun u hu => ?_) (by simp only [maxLen]; omega) (by simp only; omega) hsz3 hsz3 fun v' w4 he4 ho4 hn4 => ?_
  · rw [own_add]
    exact at_cell (L := fncV ⟨P, P + Int.tmod b 5, M, []⟩ (.slice none 0 0)) ho2 hj
  · simp only [fncV, List.mem_cons, List.not_mem_nil, or_false] at hu
    rcases hu with rfl | rfl | rfl | rfl <;> rfl
  obtain ⟨C4, c4, hv4, _, _⟩ := owns_prog ho4
  subst hv4
  have hneF : ¬ vF1.ownBlock = some g := fun e => h3.mem.neF g e rfl
  refine ⟨C4, s.p.length + 1, c4, rfl, ⟨_, he4.cell h3.mem.c1 hneF⟩, at_frozen (he4.row g _ _ _ hneF h3.mem.cells) 1, ?_⟩
  have hm5 := h3.mem.put_fns (B' := w0.heap.size) (Nat.le_refl _) he4 (x := ⟨P, P + Int.tmod b 5, M, []⟩) rfl ho4 hn4
  have hc5 : Chg Off w0 (w4.setCell ⟨g, 1, none⟩ (.slice C4 (s.p.length + 1) c4)) :=
    (he4.chg h3.chg fun k hk e => by have := (h3.mem.blocks (h3.mem.inF e)).1; omega).setCell _ fun hk => absurd hk (by have := h3.mem.above; simp only; omega)
  have h5 : MK w0.heap.size g Off w0 _ _ _ _ _ _ _ _ := ⟨hm5, hc5, fun k hk => .inr ((hm5.blocks hk).1), Nat.le_refl _⟩
  refine hL _ _ _ _ _ _ _ _ h5 ⟨fun x hx => ?_, fun x hx => ?_⟩ (by simp)
  · rcases List.mem_append.1 hx with hx | hx
    · exact hb.heads x hx
    · simp at hx; subst hx
      refine ⟨?_, rfl⟩
      unfold HeadOk
      simp only
      omega
  · by_cases h0 : s.p.length = 0
    · have hnil : s.p = [] := List.eq_nil_of_length_eq_zero h0
      have hx' : (s.p ++ [(⟨P, P + Int.tmod b 5, M, []⟩ : Fnc)])[0]? = some x := hx
      rw [hnil] at hx'
      simp at hx'
      subst hx'
      exact hz h0
    · have hx' : (s.p ++ [(⟨P, P + Int.tmod b 5, M, []⟩ : Fnc)])[0]? = some x := hx
      rw [List.getElem?_append_left (by omega)] at hx'
      exact hb.zero x hx'
theorem l0_35 {n : Nat} (hn5 : n ≤ 5) (hn1 : 1 ≤ n) : ∀ (k i : Nat) (w : World) (s : MSt) (A : Option Addr) (ln cn : Nat) (vF vD : Value) (cs : List Value), n < i + k → i ≤ n → MK w0.heap.size g Off w0 w s A ln cn vF vD cs → Begun s.p → s.p.length = i →
    V35.l0 w0.heap.size (IsQ w0 (MadeQ w0)) k ⟨g, 0, none⟩ n i q2 none 0 0 w := by
  intro k
  induction k with
  | zero => intros; omega
  | succ k ih =>
    intro i w s A ln cn vF vD cs hk hi h hb hp
    dsimp -zeta only [V35.l0]
    have hwi : IntKind.wrap .i64 ((i : Int) + 1) = ((i + 1 : Nat) : Int) := by rw [wrap_id (by omega) (by omega)]; rfl
    have next : ∀ {w' s' A' ln' cn' vF' vD' cs'}, MK w0.heap.size g Off w0 w' s' A' ln' cn' vF' vD' cs' → Begun s'.p → s'.p.length = i + 1 → i < n → V35.l0 w0.heap.size (IsQ w0 (MadeQ w0)) k ⟨g, 0, none⟩ n (IntKind.wrap .i64 ((i : Int) + 1)) q2 none 0 0 w' := fun h' hb' hp' hin => by
      rw [hwi]
      exact ih (i + 1) _ _ _ _ _ _ _ _ (by omega) (by omega) h' hb' hp'
    by_cases hlt : i < n
    · rw [if_pos (by simpa using hlt)]
      intro q6 _
      by_cases h0 : 0 < i
      · rw [if_pos (by simpa using h0)]
        refine call_mk h works85 fun v s1 w1 A1 ln1 cn1 vF1 vD1 cs1 hR h1 => ?_
        obtain ⟨x, rfl, hx0, hx1, l2, rfl⟩ := hR
        have t4 := tm hx0 (n := 4) (by omega)
        refine ⟨x, rfl, by omega, b1_35 ⟨t4.1, by omega⟩ h1 hb (by show s.p.length ≤ 5; omega) (fun e => by have : s.p.length = 0 := e; omega) fun w' s' A' ln' cn' vF' vD' cs' h' hb' hp' => next h' hb' (by rw [hp']; show s.p.length + 1 = _; omega) hlt⟩
      · rw [if_neg (by simpa using h0)]
        exact b1_35 ⟨by omega, by omega⟩ h hb (by omega) (fun _ => rfl) fun w' s' A' ln' cn' vF' vD' cs' h' hb' hp' => next h' hb' (by rw [hp']; omega) hlt
    · rw [if_neg (by simpa using hlt)]
      have hin : i = n := by omega
      subst hin
      refine ⟨i + 1, ?_⟩
      have := l2_35 (w0 := w0) (g := g) (q2 := q2) hn5 hn1 (i + 1) 0 w s A ln cn vF vD cs (by omega) (by omega) h (hb.ph (by omega) (by omega)) hp
      exact this
end
theorem yields35 {w : World} {A : Option Addr} {l c : Nat} {ns : List Int} (hns : Nums .u8 w A l ns) (hbyte : ∀ n ∈ ns, 0 ≤ n ∧ n < 256) (hcap : l ≤ c) : Yields Try.prog 35 [.slice A l c] w (MadeQ w) := by
  refine yields_of (V35.sound ?_)
  unfold V35.vc
  intro q2 _
  refine expo_alloc (Nat.le_refl _) fun w1 w2 hs1 he1 hlt1 ho1 => ?_
  have hm : MakerAt w.heap.size w2 w1.heap.size ⟨ns, [], 0, [], 0⟩ A l c (.slice none 0 0) (.slice none 0 0) [] :=
    ⟨ho1, RowAt.keep (NumE.kept .u8) hns (ext_keeps he1), hbyte, fun q hq hl => (by
      obtain ⟨n, p, _, hp, hc⟩ := hns.at hl
      rw [hq] at hp; cases hp
      have := cell_lt hc
      rwa [add_block] at this), hcap, World.ownsRow_nil _ _ _ _, rfl, fun i x c hx => by simp at hx, World.ownsRow_nil _ _ _ _, hs1, fun i j k hi hj => by
      have one : ∀ (a : Nat), (ownO w1.heap.size (.slice none 0 0) (.slice none 0 0) [])[a]? = some (some k) → a = 0 := fun a ha => by
        match a with
        | 0 => rfl
        | 1 => simp [ownO, Value.ownBlock] at ha
        | 2 => simp [ownO, Value.ownBlock] at ha
        | a + 3 => simp [ownO] at ha
      rw [one i hi, one j hj]⟩
  have h : MK w.heap.size w1.heap.size Off w w2 ⟨ns, [], 0, [], 0⟩ A l c (.slice none 0 0) (.slice none 0 0) [] :=
    ⟨hm, ⟨he1.os, he1.tape, he1.output, he1.size, fun k hk _ => he1.low k hk⟩, fun k hk => .inr (hm.blocks hk).1, Nat.le_refl _⟩
  refine call_mk h works85 fun v s3 w3 A3 ln3 cn3 vF3 vD3 cs3 hR h3 => ?_
  obtain ⟨x, rfl, hx0, hx1, l2, rfl⟩ := hR
  have t5 := tm hx0 (n := 5) (by omega)
  have hxn : (((1 + Int.tmod x 5).toNat : Nat) : Int) = 1 + Int.tmod x 5 := Int.toNat_of_nonneg (by omega)
  refine ⟨x, rfl, by omega, (1 + Int.tmod x 5).toNat + 1, ?_⟩
  rw [wrap_id (n := 1 + Int.tmod x 5) (by omega) (by omega)]
  have := l0_35 (w0 := w) (g := w1.heap.size) (q2 := q2) (n := (1 + Int.tmod x 5).toNat) (by omega) (by omega) ((1 + Int.tmod x 5).toNat + 1) 0 w3 _ A3 ln3 cn3 vF3 vD3 cs3 (by omega) (by omega) h3 ⟨fun x hx => by simp at hx, fun x hx => by simp at hx⟩ rfl
  rw [hxn] at this
  exact this
/-- A call of Made. -/
theorem call_madeN {w0 w : World} {bs : List Nat} {A : Option Addr} {l c : Nat} {ns : List Int} {K : Value → World → Prop} (h0 : Below w0.heap.size w0 w) (hn : BytesAt w0 A l c ns)
    (hk : ∀ p C c' w', MadeOk p → ProgAt (newW w.heap.size w') C p.length p → p.length ≤ c' → Ext w0.heap.size w w' → Below w0.heap.size w0 w' → K (.agg ⟨[.slice C p.length c']⟩) w') :
    CallK Try.prog 35 [.slice A l c] w0.heap.size w bs K := by
  refine call_yields (Q := MadeQ) h0 (fun w1 _ hb => yields35 (RowAt.keep (NumE.kept .u8) hn.nums (below_keeps hb)) hn.byte hn.cap) fun w1 v w2 w' hs hb hQ _ hnew he hw => ?_
  obtain ⟨p, C, c', rfl, hmade, hp, hc, hq⟩ := hQ
  refine hk p C c' w' hmade (RowAt.keep FncE.kept hp fun q v hv => ?_) hc he hw
  obtain ⟨h1, h2⟩ := newW_cell.1 hv
  exact newW_cell.2 ⟨(cell_same (hnew _ h2)).trans h1, Nat.le_trans hs h2⟩
theorem call_made {w0 w : World} {A : Option Addr} {l c : Nat} {ns : List Int} {K : Value → World → Prop} (h0 : Below w0.heap.size w0 w) (hn : BytesAt w0 A l c ns)
    (hk : ∀ p C c' w', MadeOk p → ProgAt w' C p.length p → p.length ≤ c' → (∀ q, C = some q → w.heap.size ≤ q.block) → Ext w0.heap.size w w' → Below w0.heap.size w0 w' → K (.agg ⟨[.slice C p.length c']⟩) w') :
    CallK Try.prog 35 [.slice A l c] w0.heap.size w [] K :=
  call_madeN h0 hn fun p C c' w' hm hp hc he hw => hk p C c' w' hm (RowAt.keep FncE.kept hp newW_in) hc (fun q hq => by
    obtain ⟨_, a, _, _, _, ha, c0, _⟩ := prog_at hp hm.pos
    rw [hq] at ha; cases ha
    have := (newW_cell.1 c0).2
    rwa [add_block, add_block] at this) he hw
theorem MadeOk.sized {p : List Fnc} (h : MadeOk p) : ∀ f ∈ p, sizedF f = true := fun f hf => done_sized (h.done f hf) (h.heads f hf)
end Go.Proofs.Ytlccbaemcfjdoaa
