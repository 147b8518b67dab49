import Derived.Test.YtofblkmibghmbaaDoorZJ23
import Derived.Test.YtofblkmibghmbaaDoorZPM17
/-
  Layer 23: setups and calls made by numbers.
  Conditions: the arguments' memory says what their values are.
-/
set_option linter.unusedVariables false
set_option linter.unusedSimpArgs false
set_option maxRecDepth 100000
namespace Go.Proofs.YtofblkmibghmbaaDoor
open Go.RowKit
theorem owns_le {w : World} {B B' : Nat} {e : TypeId} {size : Nat} {v : Value} {n : Nat} {xs : List Value} (h : w.ownsRow B e size v n xs) (hB : B' ≤ B) : w.ownsRow B' e size v n xs := by
  refine ⟨h.1, ?_⟩
  rcases h.2 with hn | ⟨g, cap, cur, rfl, hb, rest⟩
  · exact .inl hn
  · exact .inr ⟨g, cap, cur, rfl, Nat.le_trans hB hb, rest⟩
theorem owns_row {w : World} {B : Nat} {e : TypeId} {size : Nat} {v : Value} {n : Nat} {xs : List Value} (h : w.ownsRow B e size v n xs) {k : Nat} (hk : v.ownBlock = some k) : ∃ c f, w.heap[k]? = some (.cells c e f) := by
  rcases h.2 with ⟨rfl, _⟩ | ⟨g, cap, cur, rfl, hb, hg, _⟩
  · cases hk
  · cases hk; exact ⟨_, _, hg⟩
theorem owns_apart {w : World} {B B' : Nat} {e e' : TypeId} {size size' : Nat} {v v' : Value} {n n' : Nat} {xs xs' : List Value} (h : w.ownsRow B e size v n xs) (h' : w.ownsRow B' e' size' v' n' xs') (he : e ≠ e') {k : Nat} (hk : v.ownBlock = some k) : v'.ownBlock ≠ some k := fun hk' => by
  obtain ⟨c, f, h1⟩ := owns_row h hk
  obtain ⟨c', f', h2⟩ := owns_row h' hk'
  rw [h1] at h2
  cases h2
  exact he rfl
theorem owns_exts {w w' : World} {B B' B2 : Nat} {e e' : TypeId} {size size' : Nat} {v v' : Value} {n n' : Nat} {xs xs' : List Value} (h : w.ownsRow B e size v n xs) (he : ExtS B2 (fun k => v'.ownBlock = some k) w w') (h' : w.ownsRow B' e' size' v' n' xs') (hne : e ≠ e') : w'.ownsRow B e size v n xs :=
  he.owns h fun k hk hk' => owns_apart h h' hne hk hk'
theorem OwnP_ext {w w' : World} {B B2 : Nat} {v : Value} {p : List P17.Fnc} {cs : List Value} (h : P17.OwnP w B v p cs) (he : Ext B2 w w') : P17.OwnP w' B v p cs := ⟨he.owns h.1, h.2.1, fun i x c hx hc => he.owns (h.2.2 i x c hx hc)⟩
theorem OwnP_exts {w w' : World} {B B' B2 : Nat} {v v' : Value} {p : List P17.Fnc} {cs : List Value} {e' : TypeId} {size' n' : Nat} {xs' : List Value} (h : P17.OwnP w B v p cs) (he : ExtS B2 (fun k => v'.ownBlock = some k) w w') (h' : w.ownsRow B' e' size' v' n' xs') (h1 : 65 ≠ e') (h2 : 101 ≠ e') : P17.OwnP w' B v p cs :=
  ⟨owns_exts h.1 he h' h1, h.2.1, fun i x c hx hc => owns_exts (h.2.2 i x c hx hc) he h' h2⟩
theorem OwnP_prog {w : World} {B : Nat} {C : Option Addr} {c : Nat} {p : List P17.Fnc} {cs : List Value} (h : P17.OwnP w B (.slice C p.length c) p cs) (hs : p.length ≤ 8) (hc : ∀ x ∈ p, x.code.length ≤ 1000) : P17.ProgAt w C p.length p := by
  rcases h.1.2 with ⟨hv, h0⟩ | ⟨gF, cap, cur, hv, hbF, _⟩
  · have : p = [] := List.eq_nil_of_length_eq_zero h0
    subst this
    exact ⟨rfl, Nat.zero_le _, fun i x hi => by simp at hi⟩
  · refine ⟨rfl, P17.len_ok (by omega), fun i x hx => ?_⟩
    have hi := (List.getElem?_eq_some_iff.1 hx).1
    have hcc : cs[i]? = some (cs[i]'(by rw [h.2.1]; exact hi)) := List.getElem?_eq_getElem _
    obtain ⟨h1, h2, h3, h4⟩ := P17.fncs_get hx hcc
    have hown := h.1
    cases hv
    refine ⟨_, rfl, ?_⟩
    have k := fun (j : Nat) (u : Value) (hj : (P17.fncsV p cs)[j]? = some u) => owns_cell hown hj
    obtain ⟨C, c', he, hcode⟩ := P17.owns_code (h.2.2 i x _ hx hcc) (hc x (List.mem_of_getElem? hx))
    rw [he] at h4
    unfold P17.FncE
    simp only [own_add, bx_add, Nat.add_zero, Nat.zero_add]
    exact ⟨k _ _ h1, k _ _ h2, k _ _ h3, C, _, c', k _ _ h4, RowAt.keep P17.InsE.kept hcode newW_in⟩
theorem call_mades {w0 w : World} {bs : List Nat} {A : Option Addr} {l c : Nat} {ns : List Int} {K : Value → World → Prop} (h0 : Below w0.heap.size w0 w) (hn : BytesAt w0 A l c ns)
    (hk : ∀ p C c' cs w', P17.MadeOk p → P17.OwnP w' w0.heap.size (.slice C p.length c') p cs → Ext w0.heap.size w w' → K (.agg ⟨[.slice C p.length c']⟩) w') :
    CallK Tryd.prog 98 [.slice A l c] w0.heap.size w bs K := by
  refine call_yieldsX (Q := P17.MadeQ) h0.size (fun w1 e1 => P17.yields35 (RowAt.keep (NumE.kept .u8) hn.nums (below_keeps (e1.after h0))) hn.byte hn.cap) fun w1 v w2 w' hs hQ hnew he => ?_
  obtain ⟨p, C, c', rfl, hmade, _, _, _, cs, ho⟩ := hQ
  have same : ∀ {e : TypeId} {size : Nat} {v : Value} {n : Nat} {xs : List Value}, w2.ownsRow w1.heap.size e size v n xs → w'.ownsRow w0.heap.size e size v n xs := fun h => owns_le (owns_other h fun g hg => hnew g (h.lt g hg).1) (Nat.le_trans h0.size hs)
  exact hk p C c' cs w' hmade ⟨same ho.1, ho.2.1, fun i x c hx hc => same (ho.2.2 i x c hx hc)⟩ he
theorem push_i {B b0 : Nat} {w : World} {bs : List Nat} {v : Value} {n : Nat} {xs : List Int} {x : Int} {K : Value → World → Prop} (hB : B ≤ w.heap.size) (hb0 : b0 ≤ w.heap.size) (ho : w.ownsRow b0 3 1 v n (xs.map (.int .i64))) (hn : n ≤ 1000000)
    (hk : ∀ v' w', ExtS B (fun k => v.ownBlock = some k) w w' → w'.ownsRow b0 3 1 v' (n + 1) ((xs ++ [x]).map (.int .i64)) → (∀ g, v'.ownBlock = some g → v.ownBlock = some g ∨ w.heap.size ≤ g) → K v' w') :
    Expo B w bs fun w1 => Hide bs (w1.alloc (.cells ⟨[.int .i64 x]⟩ 3)) fun w2 => RunK Tryd.prog (Builtin.append_ #[53, 53] 53 ⟨[v, .slice (some ⟨w1.heap.size, 0, none⟩) 1 1]⟩) B w2 bs K := by
  refine expo_alloc hB fun w1 w2 hs e2 _ ho2 => ?_
  have hb8 : Tryd.t3.bytes = 8 := by kernel_rfl
  have hx : Nums .i64 w2 (some ⟨w1.heap.size, 0, none⟩) 1 [x] := OwnI.nums (xs := [x]) (e := 3) ho2 (by simp only [List.length_cons, List.length_nil, maxLen]; omega)
  refine append_nums (t := 53) (e := 3) (i := Tryd.t3) (k := .i64) (bytes := 8) (b0 := b0) (by kernel_rfl) (by kernel_rfl) (by kernel_rfl) (by kernel_rfl) hb8 (Nat.le_refl _) (e2.owns ho) hx (by omega) (Nat.le_trans hB e2.size) (Nat.le_trans hb0 e2.size) fun v' w' he ho' hnw => hk v' w' (e2.toS.trans he) ho' fun g hg => (hnw g hg).imp id fun h => Nat.le_trans e2.size h
theorem ints_at {w : World} {B n c : Nat} {A : Option Addr} {xs : List Int} (h : w.ownsRow B 3 1 (.slice A n c) n (xs.map (.int .i64))) (hn : n ≤ 1000000) : Nums .i64 w A n xs := by
  have hl : xs.length = n := by have := h.1; simpa using this
  rcases h.2 with ⟨hv, h0⟩ | ⟨g, cap, cur, hv, hb, _⟩
  · cases hv
    have : xs = [] := List.eq_nil_of_length_eq_zero (by omega)
    subst this
    exact ⟨by omega, by simp only [maxLen]; omega, fun i x h => by simp at h⟩
  · cases hv
    refine ⟨hl, by simp only [maxLen]; omega, fun i x hx => ⟨_, rfl, ?_⟩⟩
    unfold NumE
    rw [Nat.mul_one, own_add]
    exact owns_cell h (by rw [List.getElem?_map, hx]; rfl)
structure SetupIs (w : World) (B : Nat) (pg wk : Int) (C : Option Addr) (c : Nat) (p : List P17.Fnc) (cs : List Value) (T : Option Addr) (tc : Nat) (ts : List Int) : Prop where
  pages : 1 ≤ pg ∧ pg ≤ 256
  workers : 1 ≤ wk ∧ wk ≤ 6
  made : P17.MadeOk p
  prog : P17.OwnP w B (.slice C p.length c) p cs
  few : ts.length ≤ 6
  good : ∀ f ∈ ts, taskBad p f = false
  tasks : w.ownsRow B 3 1 (.slice T ts.length tc) ts.length (ts.map (.int .i64))
def SetupQ (w1 : World) : Value → World → Prop := fun u w2 => ∃ pg wk C c p cs T tc ts, u = setupV pg wk C p.length c T ts.length tc ∧ SetupIs w2 w1.heap.size pg wk C c p cs T tc ts
theorem task_ok {p : List P17.Fnc} {i : Nat} {x : P17.Fnc} (h : p[i]? = some x) (h0 : x.params = 0) : taskBad p (i : Int) = false := by
  have hi := (List.getElem?_eq_some_iff.1 h).1
  unfold taskBad
  rw [decide_eq_false (by omega), Int.toNat_natCast, h]
  simp [h0]
section
variable {w0 : World} {pg wk tasks : Int} {C : Option Addr} {c : Nat} {p : List P17.Fnc} {cs : List Value} (hpg : 1 ≤ pg ∧ pg ≤ 256) (hwk : 1 ≤ wk ∧ wk ≤ 6) (hmade : P17.MadeOk p) (htk : 0 ≤ tasks ∧ tasks < 256)
include hpg hwk hmade htk
theorem l1_65 {O : Option Addr} {ol oc : Nat} {of : List Int} (h1 : 1 ≤ ol) (hol : ol ≤ 100) (hgood : ∀ f ∈ of, taskBad p f = false) {q10 q8 : Nat} :
    ∀ (k i : Nat) (w : World) (T : Option Addr) (tc : Nat) (ts : List Int), 6 < i + k → ts.length = i → (i : Int) ≤ tasks % 7 → Below w0.heap.size w0 w → P17.OwnP w w0.heap.size (.slice C p.length c) p cs → Nums .i64 w O ol of → (∀ q, O = some q → ∀ k, (Value.slice T ts.length tc).ownBlock = some k → q.block ≠ k) → (∀ q, O = some q → q.block < w.heap.size) →
    (∀ f ∈ ts, taskBad p f = false) → w.ownsRow w0.heap.size 3 1 (.slice T ts.length tc) ts.length (ts.map (.int .i64)) →
    V65.l1 w0.heap.size (IsQ w0 (SetupQ w0)) k tasks O ol oc (i : Int) q10 pg wk C p.length c T ts.length tc q8 0 0 none 0 0 none 0 0 w := by
  intro k
  induction k with
  | zero => intro i w T tc ts hk hi hle; omega
  | succ k ih =>
    intro i w T tc ts hk hi hle hw hP hN hap hold hts ho
    dsimp -zeta only [V65.l1]
    refine ⟨by decide, ?_⟩
    rw [wrap_id (n := tasks) (by omega) (by omega), Int.tmod_eq_emod_of_nonneg htk.1, Int.tdiv_eq_ediv_of_nonneg htk.1, wrap_id (n := tasks / 8) (by omega) (by omega), wrap_id (n := (i : Int) + tasks / 8) (by omega) (by omega), Int.tmod_eq_emod_of_nonneg (by omega)]
    by_cases hlt : (i : Int) < tasks % 7
    · rw [if_pos (by simpa using hlt)]
      have hm0 := Int.emod_nonneg ((i : Int) + tasks / 8) (show (ol : Int) ≠ 0 by omega)
      have hm1 := Int.emod_lt_of_pos ((i : Int) + tasks / 8) (show 0 < (ol : Int) by omega)
      generalize ((i : Int) + tasks / 8) % (ol : Int) = m at hm0 hm1
      obtain ⟨f, q, hf, hq, hc⟩ := hN.at (i := m.toNat) (by omega)
      refine ⟨by decide, by omega, q, hq, hm0, hm1, f, by simpa [NumE, Addr.add] using hc, ?_⟩
      refine push_i hw.size hw.size ho (by omega) fun v' w' he ho' hnw => ?_
      obtain ⟨T', tc', hv⟩ := owns_slice0 ho'
      subst hv
      refine ⟨T', _, tc', rfl, ?_⟩
      have hwi : IntKind.wrap .i64 ((i : Int) + 1) = ((i + 1 : Nat) : Int) := by rw [wrap_id (by omega) (by omega)]; rfl
      rw [hwi]
      have hl : (ts ++ [f]).length = ts.length + 1 := by simp
      have hNw : Nums .i64 w' O ol of := nums_block hN fun q hq => by
        obtain ⟨f0, q0, _, hq0, hc0⟩ := hN.at (i := 0) (by omega)
        rw [hq] at hq0; cases hq0
        obtain ⟨cc, t, fr, hb⟩ := cell_block hc0
        have hb' : w.heap[q.block]? = some (.cells cc t fr) := by simpa [Addr.add] using hb
        have hne : ¬ (Value.slice T ts.length tc).ownBlock = some q.block := fun e => hap q hq _ e rfl
        rw [he.row _ _ _ _ hne hb', hb']
      have := ih (i + 1) w' T' tc' (ts ++ [f]) (by omega) (by omega) (by omega) (he.after (fun k hk => (ho.lt k hk).1) hw) (OwnP_exts hP he ho (by decide) (by decide)) hNw (fun q hq k hk e => by
        subst e
        rw [hl] at hk
        rcases hnw _ hk with h | h
        · exact hap q hq _ h rfl
        · have := hold q hq; omega) (fun q hq => Nat.lt_of_lt_of_le (hold q hq) he.size) (fun g hg => by
        rcases List.mem_append.1 hg with hg | hg
        · exact hts g hg
        · rw [List.mem_singleton] at hg; subst hg; exact hgood g (List.mem_of_getElem? hf)) (by rw [hl]; exact ho')
      rw [hl] at this; exact this
    · rw [if_neg (by simpa using hlt)]
      refine ret_q hw fun w1 e1 => ⟨pg, wk, C, c, p, cs, T, tc, ts, rfl, hpg, hwk, hmade, OwnP_ext hP e1, by omega, hts, e1.owns ho⟩
theorem l0_65 {q10 q9 q8 : Nat} :
    ∀ (k i : Nat) (w : World) (O : Option Addr) (oc : Nat) (of : List Int), p.length < i + k → i ≤ p.length → of.length ≤ i → (1 ≤ i → 1 ≤ of.length) → Below w0.heap.size w0 w → P17.OwnP w w0.heap.size (.slice C p.length c) p cs →
    (∀ f ∈ of, taskBad p f = false) → w.ownsRow w0.heap.size 3 1 (.slice O of.length oc) of.length (of.map (.int .i64)) →
    V65.l0 w0.heap.size (IsQ w0 (SetupQ w0)) k tasks O of.length oc (i : Int) q10 pg wk C p.length c none 0 0 q9 C p.length c q8 0 0 none 0 0 none 0 0 w := by
  have h5 := hmade.few
  intro k
  induction k with
  | zero => intros; omega
  | succ k ih =>
    intro i w O oc of hk hi hol h1 hw hP hgood ho
    dsimp -zeta only [V65.l0]
    have hPA := OwnP_prog hP (by omega) (fun x hx => by have := (hmade.done x hx).2.1; omega)
    by_cases hlt : i < p.length
    · rw [if_pos (by simpa using hlt)]
      obtain ⟨x, a, C', cx, hx, ha, d0, _⟩ := P17.prog_at hPA hlt
      have hwi : IntKind.wrap .i64 ((i : Int) + 1) = ((i + 1 : Nat) : Int) := by rw [wrap_id (by omega) (by omega)]; rfl
      refine ⟨a, ha, by omega, by omega, x.params, by simpa using d0, ?_⟩
      by_cases h0 : x.params = 0
      · rw [if_pos (by simpa using h0)]
        refine push_i hw.size hw.size ho (by omega) fun v' w' he ho' _ => ?_
        obtain ⟨O', oc', hv⟩ := owns_slice0 ho'
        subst hv
        refine ⟨O', _, oc', rfl, ?_⟩
        rw [hwi]
        have hl : (of ++ [(i : Int)]).length = of.length + 1 := by simp
        have := ih (i + 1) w' O' oc' (of ++ [(i : Int)]) (by omega) (by omega) (by omega) (by omega) (he.after (fun k hk => (ho.lt k hk).1) hw) (OwnP_exts hP he ho (by decide) (by decide)) (fun f hf => by
          rcases List.mem_append.1 hf with hf | hf
          · exact hgood f hf
          · rw [List.mem_singleton] at hf; subst hf; exact task_ok hx h0) (by rw [hl]; exact ho')
        rw [hl] at this
        exact this
      · rw [if_neg (by simpa using h0), hwi]
        refine ih (i + 1) w O oc of (by omega) (by omega) (by omega) (fun _ => ?_) hw hP hgood ho
        rcases Nat.eq_zero_or_pos i with hz | hz
        · subst hz; exact absurd (hmade.zero x hx) h0
        · exact h1 hz
    · rw [if_neg (by simpa using hlt)]
      have hin : i = p.length := by omega
      have hpos := hmade.pos
      have hN := ints_at ho (by omega)
      refine ⟨7, l1_65 hpg hwk hmade htk (h1 (by omega)) (by omega) hgood 7 0 w none 0 [] (by omega) rfl (by have := Int.emod_nonneg tasks (show (7 : Int) ≠ 0 by decide); omega) hw hP hN (fun q hq k hk => by cases hk) (fun q hq => ?_) (fun f hf => by cases hf) (World.ownsRow_nil _ _ _ _)⟩
      obtain ⟨f0, q0, _, hq0, hc0⟩ := hN.at (i := 0) (h1 (by omega))
      rw [hq] at hq0; cases hq0
      have := cell_lt hc0
      rwa [add_block] at this
end
theorem call_setup {w0 w : World} {bs : List Nat} {A : Option Addr} {l c : Nat} {ns : List Int} {pages workers tasks : Int} {K : Value → World → Prop} (h0 : Below w0.heap.size w0 w) (hn : BytesAt w0 A l c ns) (hpg : 0 ≤ pages ∧ pages < 256) (hwk : 0 ≤ workers ∧ workers < 256) (htk : 0 ≤ tasks ∧ tasks < 256)
    (hk : ∀ pg wk C c p cs T tc ts w', SetupIs w' w0.heap.size pg wk C c p cs T tc ts → Ext w0.heap.size w w' → K (setupV pg wk C p.length c T ts.length tc) w') :
    CallK Tryd.prog 65 [.int .u8 pages, .int .u8 workers, .int .u8 tasks, .slice A l c] w0.heap.size w bs K := by
  refine call_yieldsX (Q := SetupQ) h0.size (fun w1 e1 => ?_) fun w1 v w2 w' hs hQ hnew he => ?_
  · refine yields_of (V65.sound ?_)
    unfold V65.vc
    intro q8 _
    refine call_mades (Below.refl _ _) (BytesAt.keep hn (below_keeps (e1.after h0))) fun p C c' cs w2 hmade hP e2 => ⟨C, _, c', rfl, fun q9 _ => ⟨by decide, by decide, fun q10 _ => ?_⟩⟩
    rw [wrap_id (n := pages) (by omega) (by omega), wrap_id (n := workers) (by omega) (by omega), Int.tmod_eq_emod_of_nonneg hpg.1, Int.tmod_eq_emod_of_nonneg hwk.1, wrap_id (n := 1 + pages % 256) (by omega) (by omega), wrap_id (n := 1 + workers % 6) (by omega) (by omega)]
    exact ⟨p.length + 1, l0_65 (pg := 1 + pages % 256) (wk := 1 + workers % 6) (by omega) (by omega) hmade htk (p.length + 1) 0 w2 none 0 [] (by omega) (by omega) (by simp) (by omega) (e2.after (Below.refl _ _)) hP (fun f hf => by cases hf) (World.ownsRow_nil _ _ _ _)⟩
  · obtain ⟨pg, wk, C, c', p, cs, T, tc, ts, rfl, hS⟩ := hQ
    have same : ∀ {e : TypeId} {size : Nat} {v : Value} {n : Nat} {xs : List Value}, w2.ownsRow w1.heap.size e size v n xs → w'.ownsRow w0.heap.size e size v n xs := fun h => owns_le (owns_other h fun g hg => hnew g (h.lt g hg).1) (Nat.le_trans h0.size hs)
    exact hk pg wk C c' p cs T tc ts w' ⟨hS.pages, hS.workers, hS.made, ⟨same hS.prog.1, hS.prog.2.1, fun i x c hx hc => same (hS.prog.2.2 i x c hx hc)⟩, hS.few, hS.good, same hS.tasks⟩ he
def clC (c : Cl) : List Value := [.int .i64 c.k, .int .i64 c.a, .int .i64 c.b]
def clsC : List Cl → List Value
  | [] => []
  | c :: l => clC c ++ clsC l
theorem clsC_app : ∀ a b : List Cl, clsC (a ++ b) = clsC a ++ clsC b
  | [], b => rfl
  | c :: a, b => by simp [clsC, clsC_app a b]
theorem clsC_get : ∀ {l : List Cl} {i : Nat} {c : Cl}, l[i]? = some c → (clsC l)[i * 3]? = some (.int .i64 c.k) ∧ (clsC l)[i * 3 + 1]? = some (.int .i64 c.a) ∧ (clsC l)[i * 3 + 2]? = some (.int .i64 c.b)
  | [], i, c, h => by simp at h
  | y :: l, 0, c, h => by simp at h; subst h; exact ⟨rfl, rfl, rfl⟩
  | y :: l, i + 1, c, h => by
    obtain ⟨h1, h2, h3⟩ := clsC_get (l := l) (i := i) (by simpa using h)
    have e : (clsC (y :: l)) = .int .i64 y.k :: .int .i64 y.a :: .int .i64 y.b :: clsC l := rfl
    rw [e, show (i + 1) * 3 = i * 3 + 3 by omega, show i * 3 + 3 + 1 = i * 3 + 1 + 3 by omega, show i * 3 + 3 + 2 = i * 3 + 2 + 3 by omega]
    exact ⟨h1, h2, h3⟩
theorem cls_at {w : World} {B n c : Nat} {A : Option Addr} {xs : List Cl} (h : w.ownsRow B 40 3 (.slice A n c) n (clsC xs)) (hl : xs.length = n) (hn : n ≤ 1000000) : Cls w A n xs := by
  rcases h.2 with ⟨hv, h0⟩ | ⟨g, cap, cur, hv, hb, _⟩
  · cases hv
    have : xs = [] := List.eq_nil_of_length_eq_zero (by omega)
    subst this
    exact ⟨hl, by simp only [maxLen]; omega, fun i x h => by simp at h⟩
  · cases hv
    refine ⟨hl, by simp only [maxLen]; omega, fun i x hx => ⟨_, rfl, ?_⟩⟩
    obtain ⟨k1, k2, k3⟩ := clsC_get hx
    unfold ClE
    simp only [own_add, bx_add, Nat.zero_add, Nat.add_zero]
    exact ⟨owns_cell h k1, owns_cell h k2, owns_cell h k3⟩
structure OwnR (w : World) (B g : Nat) (vs : List Value) (xss : List (List Cl)) : Prop where
  base : B ≤ g
  head : w.heap[g]? = some (.cells ⟨vs⟩ 66 (0, 0))
  len : vs.length = xss.length
  each : ∀ (i : Nat) (v : Value) (xs : List Cl), vs[i]? = some v → xss[i]? = some xs → w.ownsRow B 40 3 v xs.length (clsC xs)
  apart : ∀ (i j : Nat) (v u : Value) (k : Nat), i ≠ j → vs[i]? = some v → vs[j]? = some u → v.ownBlock = some k → u.ownBlock ≠ some k
theorem OwnR.ext {B' : Nat} {w w' : World} {B g : Nat} {vs : List Value} {xss : List (List Cl)} (h : OwnR w B g vs xss) (he : Ext B' w w') : OwnR w' B g vs xss := ⟨h.base, he.row _ _ _ _ h.head, h.len, fun i v xs hv hx => he.owns (h.each i v xs hv hx), h.apart⟩
theorem OwnR.at {w : World} {B g : Nat} {vs : List Value} {xss : List (List Cl)} (h : OwnR w B g vs xss) {i : Nat} (hi : i < xss.length) : ∃ A c xs, xss[i]? = some xs ∧ vs[i]? = some (.slice A xs.length c) ∧ w.cell? ⟨g, i, none⟩ = some (.slice A xs.length c) ∧ w.ownsRow B 40 3 (.slice A xs.length c) xs.length (clsC xs) := by
  have hx : xss[i]? = some (xss[i]'hi) := List.getElem?_eq_getElem _
  have hv : vs[i]? = some (vs[i]'(by rw [h.len]; exact hi)) := List.getElem?_eq_getElem _
  have ho := h.each i _ _ hv hx
  obtain ⟨A, c, hs⟩ := owns_slice0 ho
  rw [hs] at hv ho
  exact ⟨A, c, _, hx, hv, at_cell h.head hv, ho⟩
theorem OwnR.rows {w : World} {B g : Nat} {vs : List Value} {xss : List (List Cl)} (h : OwnR w B g vs xss) (hn : xss.length ≤ 1000000) (hs : ∀ xs ∈ xss, xs.length ≤ 1000000) : ClRows w (some ⟨g, 0, none⟩) xss.length xss := by
  refine ⟨rfl, by simp only [maxLen]; omega, fun i xs hx => ⟨_, rfl, ?_⟩⟩
  obtain ⟨A, c, xs', hx', _, hc, ho⟩ := h.at (List.getElem?_eq_some_iff.1 hx).1
  rw [hx] at hx'; cases hx'
  refine ⟨A, c, ?_, cls_at ho rfl (hs xs (List.mem_of_getElem? hx))⟩
  rw [Nat.mul_one, own_add, bx_add, Nat.add_zero]; exact hc
theorem OwnR.put {w w' : World} {B B2 g : Nat} {vs : List Value} {xss : List (List Cl)} (h : OwnR w B g vs xss) {i : Nat} {v v' : Value} {xs : List Cl} {c : Cl} (hv : vs[i]? = some v) (hx : xss[i]? = some xs) (he : ExtS B2 (fun k => v.ownBlock = some k) w w')
    (ho : w'.ownsRow B 40 3 v' (xs.length + 1) (clsC (xs ++ [c]))) (hn : ∀ k, v'.ownBlock = some k → v.ownBlock = some k ∨ w.heap.size ≤ k) :
    w'.heap[g]? = some (.cells ⟨vs⟩ 66 (0, 0)) ∧ OwnR (w'.setCell ⟨g, i, none⟩ v') B g (vs.set i v') (xss.set i (xs ++ [c])) := by
  have hov := h.each i v xs hv hx
  have hil := (List.getElem?_eq_some_iff.1 hx).1
  have hneg : ∀ {u : Value} {n : Nat} {ys : List Value} {w : World}, w.ownsRow B 40 3 u n ys → w.heap[g]? = some (.cells ⟨vs⟩ 66 (0, 0)) → u.ownBlock ≠ some g := fun ho hg hk => by
    obtain ⟨c, f, h1⟩ := owns_row ho hk
    rw [hg] at h1
    cases h1
  have hg' : w'.heap[g]? = some (.cells ⟨vs⟩ 66 (0, 0)) := he.row _ _ _ _ (hneg hov h.head) h.head
  refine ⟨hg', h.base, at_set hg' i v', by rw [List.length_set, List.length_set]; exact h.len, fun j u ys hu hy => ?_, fun j k u z b hjk hu hz hb => ?_⟩
  · by_cases hj : j = i
    · subst hj
      rw [List.getElem?_set_self (by rw [h.len]; exact hil)] at hu
      rw [List.getElem?_set_self hil] at hy
      cases hu; cases hy
      rw [List.length_append]
      exact owns_other ho fun b hb => at_other (fun e => hneg ho hg' (by rw [hb, e]))
    · rw [List.getElem?_set_ne (Ne.symm hj)] at hu hy
      have ho0 := h.each j u ys hu hy
      have ho1 := he.owns ho0 fun b hb hb' => h.apart j i u v b hj hu hv hb hb'
      exact owns_other ho1 fun b hb => at_other (fun e => hneg ho1 hg' (by rw [hb, e]))
  · have lt : ∀ {m : Nat} {y : Value}, m ≠ i → (vs.set i v')[m]? = some y → vs[m]? = some y := fun hm hy => by rwa [List.getElem?_set_ne (Ne.symm hm)] at hy
    have self : ∀ {y : Value}, (vs.set i v')[i]? = some y → y = v' := fun hy => by
      rw [List.getElem?_set_self (by rw [h.len]; exact hil)] at hy; cases hy; rfl
    have old : ∀ {m : Nat} {y : Value} {b : Nat}, m ≠ i → vs[m]? = some y → y.ownBlock = some b → v'.ownBlock ≠ some b := fun {m y b} hm hy hb hb' => by
      have hml : m < xss.length := by rw [← h.len]; exact (List.getElem?_eq_some_iff.1 hy).1
      have hom := h.each _ _ _ hy (List.getElem?_eq_getElem hml)
      rcases hn _ hb' with e | e
      · exact h.apart _ i _ v _ hm hy hv hb e
      · have := (hom.lt _ hb).2; omega
    by_cases hj : j = i
    · subst hj
      have hu' := self hu
      subst hu'
      intro hz'
      exact old (Ne.symm hjk) (lt (Ne.symm hjk) hz) hz' hb
    · have hu' := lt hj hu
      by_cases hk : k = i
      · subst hk
        have hz' := self hz
        subst hz'
        exact old hj hu' hb
      · exact h.apart j k u z b hjk hu' (lt hk hz) hb
theorem append_call {B b0 : Nat} {w : World} {bs : List Nat} {v : Value} {xs : List Cl} {c : Cl} {K : Value → World → Prop} {a : Addr} (hc : ∀ j u, (clC c)[j]? = some u → w.cell? (a.add j) = some u) (hB : B ≤ w.heap.size) (hb0 : b0 ≤ w.heap.size) (ho : w.ownsRow b0 40 3 v xs.length (clsC xs)) (hn : xs.length ≤ 1000000)
    (hk : ∀ v' w', ExtS B (fun k => v.ownBlock = some k) w w' → w'.ownsRow b0 40 3 v' (xs.length + 1) (clsC (xs ++ [c])) → (∀ g, v'.ownBlock = some g → v.ownBlock = some g ∨ w.heap.size ≤ g) → K v' w') :
    RunK Tryd.prog (Builtin.append_ #[66, 66] 66 ⟨[v, .slice (some a) 1 1]⟩) B w bs K := by
  have hb : Tryd.t40.bytes = 24 := by kernel_rfl
  refine append_own (t := 66) (e := 40) (i := Tryd.t40) (z := .agg ⟨[.int .i64 0, .int .i64 0, .int .i64 0]⟩) (size := 3) (bytes := 24) (by kernel_rfl) (by kernel_rfl) (by kernel_rfl) (by kernel_rfl) hb rfl (by omega) ho (news := clC c) rfl hc (fun u hu => ?_) (by simp only [maxLen]; omega) (by omega) hB hb0 fun v' w' he ho' hn => ?_
  · simp only [clC, List.mem_cons, List.not_mem_nil, or_false] at hu
    rcases hu with rfl | rfl | rfl <;> rfl
  · have e : clsC (xs ++ [c]) = clsC xs ++ clC c := by rw [clsC_app]; simp [clsC]
    rw [← e] at ho'
    exact hk v' w' he ho' hn
end Go.Proofs.YtofblkmibghmbaaDoor
