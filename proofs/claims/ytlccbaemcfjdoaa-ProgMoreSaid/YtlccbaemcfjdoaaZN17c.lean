/-
  Layer 17: the law's function ProgMore returns true.
  Conditions: the numbers lie in memory as told.
-/
import Derived.Test.YtlccbaemcfjdoaaZN17b
import Derived.Test.YtlccbaemcfjdoaaZRD17
set_option linter.unusedVariables false
set_option linter.unusedSimpArgs false
namespace Go.Proofs.Ytlccbaemcfjdoaa
open Go.RowKit
theorem flat_len : ∀ (l : List Ins), (l.flatMap insV).length = l.length * 3
  | [] => rfl
  | y :: l => by
    rw [List.flatMap_cons, List.length_append, flat_len l]
    simp only [insV, List.length_cons, List.length_nil]; omega
theorem code_block {w w' : World} {A : Option Addr} {l : Nat} {xs : List Ins} (h : CodeAt w A l xs) (hw : ∀ p, A = some p → 0 < l → w'.heap[p.block]? = w.heap[p.block]?) : CodeAt w' A l xs :=
  ⟨h.len, h.small, fun i x hx => by
    obtain ⟨p, hp, h1, h2, h3⟩ := h.get i x hx
    have hl := (List.getElem?_eq_some_iff.1 hx).1
    have hb := hw p hp (by rw [← h.len]; omega)
    have hbl : ∀ j, ((p.add (i * 3)).add j).block = p.block := fun j => by rw [add_block, add_block]
    exact ⟨p, hp, (cell_same (by rw [hbl]; exact hb)).trans h1, (cell_same (by rw [hbl]; exact hb)).trans h2, (cell_same (by rw [hbl]; exact hb)).trans h3⟩⟩
theorem code_own {w : World} {A : Option Addr} {l : Nat} {xs : List Ins} (h : CodeAt w A l xs) {p : Addr} (hp : A = some p) (hl : 0 < l) : p.block < w.heap.size := by
  obtain ⟨x, p', _, hp', h1, _⟩ := h.at hl
  rw [hp] at hp'; cases hp'
  have := cell_lt h1
  rwa [add_block, add_block] at this
def Codes (w : World) (g : Nat) (p : List Fnc) (cs : List Value) : Prop := ∀ (i : Nat) (x : Fnc) (c : Value), p[i]? = some x → cs[i]? = some c → ∃ A l cap, c = .slice A l cap ∧ CodeAt w A l x.code ∧ ∀ q, A = some q → 0 < l → q.block ≠ g
theorem Codes.ext {w w' : World} {g B : Nat} {p : List Fnc} {cs : List Value} (h : Codes w g p cs) (he : Ext B w w') : Codes w' g p cs := fun i x c hx hc => by
  obtain ⟨A, l, cap, h1, h2, h3⟩ := h i x c hx hc
  exact ⟨A, l, cap, h1, RowAt.keep InsE.kept h2 (ext_keeps he), h3⟩
theorem Codes.other {w w' : World} {g : Nat} {p : List Fnc} {cs : List Value} (h : Codes w g p cs) (he : ∀ k, k ≠ g → w'.heap[k]? = w.heap[k]?) : Codes w' g p cs := fun i x c hx hc => by
  obtain ⟨A, l, cap, h1, h2, h3⟩ := h i x c hx hc
  exact ⟨A, l, cap, h1, code_block h2 fun q hq hl => he _ (h3 q hq hl), h3⟩
theorem fncs_one : ∀ {p : List Fnc} {cs : List Value}, (∀ c ∈ cs, ∃ A l cap, c = .slice A l cap) → ∀ u ∈ fncsV p cs, u.oneCell' = true
  | [], cs, _, u, hu => by simp [fncsV] at hu
  | y :: p, [], _, u, hu => by simp [fncsV] at hu
  | y :: p, c :: cs, h, u, hu => by
    simp only [fncsV, fncV, List.mem_append, List.mem_cons, List.not_mem_nil, or_false] at hu
    rcases hu with (rfl | rfl | rfl | rfl) | hu
    · rfl
    · rfl
    · rfl
    · obtain ⟨A, l, cap, rfl⟩ := h _ List.mem_cons_self; rfl
    · exact fncs_one (fun c hc => h c (List.mem_cons_of_mem _ hc)) u hu
theorem prog_cells {w : World} {a : Addr} {p : List Fnc} (hp : ProgAt w (some a) p.length p) : ∃ cs : List Value, cs.length = p.length ∧ (∀ j u, (fncsV p cs)[j]? = some u → w.cell? (a.add j) = some u) ∧
    ∀ (i : Nat) (x : Fnc) (c : Value), p[i]? = some x → cs[i]? = some c → ∃ A cap, c = .slice A x.code.length cap ∧ CodeAt w A x.code.length x.code := by
  obtain ⟨cs, hl, hcs⟩ := choose_list (n := p.length) (R := fun i c => ∃ x, p[i]? = some x ∧ w.cell? ((a.add (i * 4)).add 0) = some (.int .i64 x.params) ∧ w.cell? ((a.add (i * 4)).add 1) = some (.int .i64 x.locals) ∧ w.cell? ((a.add (i * 4)).add 2) = some (.int .i64 x.refs) ∧ w.cell? ((a.add (i * 4)).add 3) = some c ∧ ∃ A cap, c = .slice A x.code.length cap ∧ CodeAt w A x.code.length x.code) fun i hi => by
    obtain ⟨x, q, C, c, hx, hq, h0, h1, h2, h3, h4⟩ := prog_at hp hi
    cases hq
    exact ⟨_, x, hx, h0, h1, h2, h3, C, c, rfl, h4⟩
  refine ⟨cs, hl, fun j u hj => ?_, fun i x c hx hc => ?_⟩
  · have hjl := (List.getElem?_eq_some_iff.1 hj).1
    rw [fncs_len hl] at hjl
    have hi : j / 4 < p.length := by omega
    have hc : cs[j / 4]? = some (cs[j / 4]'(by omega)) := List.getElem?_eq_getElem _
    obtain ⟨x, hx, h0, h1, h2, h3, _⟩ := hcs _ _ hc
    obtain ⟨k0, k1, k2, k3⟩ := fncs_get hx hc
    rw [adr_add] at h0 h1 h2 h3
    have hr : j = j / 4 * 4 + 0 ∨ j = j / 4 * 4 + 1 ∨ j = j / 4 * 4 + 2 ∨ j = j / 4 * 4 + 3 := by omega
    rcases hr with e | e | e | e
    · rw [e] at hj ⊢; rw [Nat.add_zero] at hj; rw [k0] at hj; cases hj; exact h0
    · rw [e] at hj ⊢; rw [k1] at hj; cases hj; exact h1
    · rw [e] at hj ⊢; rw [k2] at hj; cases hj; exact h2
    · rw [e] at hj ⊢; rw [k3] at hj; cases hj; exact h3
  · obtain ⟨x', hx', _, _, _, _, A, cap, hcc, hcode⟩ := hcs _ _ hc
    rw [hx] at hx'; cases hx'
    exact ⟨A, cap, hcc, hcode⟩
theorem owns_progAt {w : World} {B g : Nat} {v : Value} {p : List Fnc} {cs : List Value} (h : w.ownsRow B 29 4 v p.length (fncsV p cs)) (hl : cs.length = p.length) (hs : p.length ≤ 1000) (hc : Codes w g p cs) : ∃ C c, v = .slice C p.length c ∧ ProgAt w C p.length p := by
  rcases h.2 with ⟨hv, h0⟩ | ⟨gF, cap, cur, hv, _⟩
  · have : p = [] := List.eq_nil_of_length_eq_zero h0
    subst this
    exact ⟨none, 0, hv, rfl, Nat.zero_le _, fun i x hi => by simp at hi⟩
  · refine ⟨_, cap, hv, rfl, len_ok hs, fun i x hx => ⟨_, rfl, ?_⟩⟩
    have hcc : cs[i]? = some (cs[i]'(by rw [hl]; exact (List.getElem?_eq_some_iff.1 hx).1)) := List.getElem?_eq_getElem _
    obtain ⟨h1, h2, h3, h4⟩ := fncs_get hx hcc
    obtain ⟨A, l, c', e, hcode, _⟩ := hc i x _ hx hcc
    subst hv
    have k := fun (j : Nat) (u : Value) (hj : (fncsV p cs)[j]? = some u) => owns_cell h hj
    rw [e] at h4
    unfold FncE
    simp only [own_add, bx_add, Nat.add_zero, Nat.zero_add]
    exact ⟨k _ _ h1, k _ _ h2, k _ _ h3, A, l, c', k _ _ h4, hcode⟩
theorem fncs_put (x : Fnc) (v : Value) : ∀ {p : List Fnc} {cs : List Value} (k : Nat), cs.length = p.length → ((((fncsV p cs).set (k * 4) (.int .i64 x.params)).set (k * 4 + 1) (.int .i64 x.locals)).set (k * 4 + 2) (.int .i64 x.refs)).set (k * 4 + 3) v = fncsV (p.set k x) (cs.set k v)
  | [], [], k, h => by simp [fncsV]
  | [], d :: cs, k, h => by simp at h
  | y :: p, [], k, h => by simp at h
  | y :: p, d :: cs, 0, h => by simp [fncsV, fncV]
  | y :: p, d :: cs, k + 1, h => by
    have := fncs_put x v (p := p) (cs := cs) k (by simpa using h)
    rw [show (k + 1) * 4 + 3 = (k * 4 + 3) + 4 by omega, show (k + 1) * 4 + 2 = (k * 4 + 2) + 4 by omega, show (k + 1) * 4 + 1 = (k * 4 + 1) + 4 by omega, show (k + 1) * 4 = (k * 4) + 4 by omega]
    simp only [fncsV, fncV, List.set_cons_succ, List.cons_append, List.nil_append]
    rw [← this]
theorem depths_further {p : List Fnc} (h : MadeOk p) {k : Nat} (hk : k < p.length) : depthsOf (p ++ [furtherF]) k = depthsOf p k := by
  unfold depthsOf
  rw [h.further, h.check]
  simp only [Int.toNat_natCast]
  rw [List.getElem?_append_left hk]
  split
  · split
    · rw [depthsM_congr (popsM_further p)]
    · rfl
  · rfl
section
variable {w0 : World}
theorem b0_8 {p : List Fnc} (hmade : MadeOk p) {k : Nat} {x : Fnc} (hx : p[k]? = some x) {op : Int} (hop : ¬ (1 ≤ op ∧ op ≤ 27)) {D : Option Addr} {dc q10 q7 : Nat} {C : Option Addr} {c' : Nat} {gQ capQ : Nat} {cs : List Value} {w : World} (hw : Below w0.heap.size w0 w) (hp : ProgAt w C p.length p)
    (hq : w.ownsRow w0.heap.size 29 4 (.slice (some ⟨gQ, 0, none⟩) (p.length + 1) capQ) (p.length + 1) (fncsV (p ++ [furtherF]) cs)) (hl : cs.length = p.length + 1) (hcs : Codes w gQ (p ++ [furtherF]) cs) (hgQ : w0.heap.size ≤ gQ) :
    V8.b0 w0.heap.size (IsV w0 (.bool true)) op k D x.code.length dc q10 (some ⟨gQ, 0, none⟩) (p.length + 1) capQ q7 C p.length c' w := by
  have hkl := (List.getElem?_eq_some_iff.1 hx).1
  have hplen := hmade.few
  have hxl := (hmade.done x (List.mem_of_getElem? hx)).2.1
  unfold V8.b0
  obtain ⟨x', a, C', cc, hx', ha, c0, c1, c2, c3, hcode⟩ := prog_at hp hkl
  rw [hx] at hx'; cases hx'
  refine ⟨a, ha, by omega, by omega, x.params, c0, x.locals, c1, x.refs, c2, C', x.code.length, cc, c3, ?_⟩
  intro q14 _
  refine expo_alloc hw.size fun w1 w2 hs1 he1 _ ho1 => ?_
  have hcode2 : CodeAt w2 C' x.code.length x.code := RowAt.keep InsE.kept hcode (ext_keeps he1)
  have hx1 := (hmade.done x (List.mem_of_getElem? hx)).1
  obtain ⟨y0, ca, _, hca, _⟩ := hcode2.at (i := 0) (by omega)
  subst hca
  have hb26 : Try.t26.bytes = 24 := by kernel_rfl
  have hB1 : w0.heap.size ≤ w1.heap.size := Nat.le_trans hw.size hs1
  have hsz2 : w0.heap.size ≤ w2.heap.size := Nat.le_trans hw.size he1.size
  refine append_own (t := 27) (e := 26) (i := Try.t26) (z := .agg ⟨[.int .i64 0, .int .i64 0, .int .i64 0]⟩) (size := 3) (bytes := 24) (b0 := w0.heap.size) (by kernel_rfl) (by kernel_rfl) (by kernel_rfl) (by kernel_rfl) hb26 rfl (by omega) (owns_empty ho1 hB1) (news := x.code.flatMap insV)
    ?_ (fun j u hj => ?_) (fun u hu => ?_) (by simp only [maxLen]; omega) (by omega) hsz2 hsz2 fun v3 w3 he3 ho3 hn3 => ?_
  · exact flat_len _
  · have hjl := (List.getElem?_eq_some_iff.1 hj).1
    have hlen := flat_len x.code
    obtain ⟨y, r, hy, hr, e0, e1, e2⟩ := hcode2.at (i := j / 3) (by omega)
    cases hr
    obtain ⟨f0, f1, f2⟩ := flat_get hy
    rw [adr_add] at e0 e1 e2
    have hr : j = j / 3 * 3 + 0 ∨ j = j / 3 * 3 + 1 ∨ j = j / 3 * 3 + 2 := by omega
    rcases hr with e | e | e
    · rw [e] at hj ⊢; rw [Nat.add_zero] at hj; rw [f0] at hj; cases hj; exact e0
    · rw [e] at hj ⊢; rw [f1] at hj; cases hj; exact e1
    · rw [e] at hj ⊢; rw [f2] at hj; cases hj; exact e2
  · obtain ⟨y, _, hu⟩ := List.mem_flatMap.1 hu
    simp only [insV, List.mem_cons, List.not_mem_nil, or_false] at hu
    rcases hu with rfl | rfl | rfl <;> rfl
  rw [Nat.zero_add, List.nil_append] at ho3
  obtain ⟨A3, c3', rfl⟩ := owns_slice ho3
  refine ⟨A3, x.code.length, c3', rfl, ?_⟩
  -- gQ is none of these
  have hq2 := he1.owns hq
  have hgQ2 : gQ < w.heap.size := (hq.lt gQ rfl).2
  have hq3 := he3.owns hq2 fun k hk e => by
    have h1 : gQ = k := by simpa [Value.ownBlock] using hk
    have h2 : w1.heap.size = k := by simpa [Value.ownBlock] using e
    omega
  have hcs3 : Codes w3 gQ (p ++ [furtherF]) cs := fun i y c hy hc => by
    obtain ⟨A, l, cap, h1, h2, h3⟩ := (hcs.ext he1) i y c hy hc
    exact ⟨A, l, cap, h1, RowAt.keep InsE.kept h2 (exts_keeps he3 rfl ho1), h3⟩
  have hw2 := he1.after hw
  have hw3 : Below w0.heap.size w0 w3 := he3.after (fun k e => by cases e; exact hB1) hw2
  refine expo_alloc hw3.size fun w4 w5 hs4 he4 _ ho4 => ?_
  have hsz5 : w0.heap.size ≤ w5.heap.size := Nat.le_trans hw3.size he4.size
  refine append_own (t := 27) (e := 26) (i := Try.t26) (z := .agg ⟨[.int .i64 0, .int .i64 0, .int .i64 0]⟩) (size := 3) (bytes := 24) (b0 := w0.heap.size) (by kernel_rfl) (by kernel_rfl) (by kernel_rfl) (by kernel_rfl) hb26 rfl (by omega) (he4.owns ho3) (news := insV ⟨op, 0, 0⟩)
    rfl (fun j u hj => by rw [own_add]; exact at_cell (L := insV ⟨op, 0, 0⟩) ho4 hj) (fun u hu => ?_) (by simp only [maxLen]; omega) (by omega) hsz5 hsz5 fun v6 w6 he6 ho6 hn6 => ?_
  · simp only [insV, List.mem_cons, List.not_mem_nil, or_false] at hu
    rcases hu with rfl | rfl | rfl <;> rfl
  obtain ⟨A6, c6, rfl⟩ := owns_slice ho6
  refine ⟨A6, x.code.length + 1, c6, rfl, ?_⟩
  have hA3 : ∀ g, (Value.slice A3 x.code.length c3').ownBlock = some g → g = w1.heap.size ∨ w2.heap.size ≤ g := fun g hg => by
    rcases hn3 g hg with h | h
    · cases h; exact .inl rfl
    · exact .inr h
  have hneA3 : (Value.slice A3 x.code.length c3').ownBlock ≠ some gQ := fun e => by
    rcases hA3 gQ e with h | h
    · omega
    · have := he1.size; omega
  have hq6 := he6.owns (he4.owns hq3) fun k hk e => by cases hk; exact hneA3 e
  have hcs6 : Codes w6 gQ (p ++ [furtherF]) cs := fun i y c hy hc => by
    obtain ⟨A, l, cap, h1, h2, h3⟩ := hcs i y c hy hc
    have k2 := RowAt.keep InsE.kept h2 (ext_keeps he1)
    have k3 := RowAt.keep InsE.kept k2 (exts_keeps he3 rfl ho1)
    have k5 := RowAt.keep InsE.kept k3 (ext_keeps he4)
    refine ⟨A, l, cap, h1, code_block k5 fun q hq hl => ?_, h3⟩
    have hb := code_own h2 hq hl
    obtain ⟨_, _, _, hcb⟩ : ∃ c t f, w5.heap[q.block]? = some (Obj.cells c t f) := by
      obtain ⟨z, q', _, hq', z0, _⟩ := k5.at hl
      rw [hq] at hq'; cases hq'
      obtain ⟨c, t, f, hcb⟩ := cell_block z0
      rw [add_block, add_block] at hcb
      exact ⟨c, t, f, hcb⟩
    rw [hcb]
    exact he6.row _ _ _ _ (fun e => by
      rcases hA3 _ e with h | h
      · omega
      · have := he1.size; omega) hcb
  have ho6' : w6.ownsRow w0.heap.size 26 3 (.slice A6 (x.code.length + 1) c6) (x.code ++ [(⟨op, 0, 0⟩ : Ins)]).length ((x.code ++ [(⟨op, 0, 0⟩ : Ins)]).flatMap insV) := by simpa using ho6
  obtain ⟨A6', c6', hv6, hcode6⟩ := owns_code ho6' (by simp; omega)
  replace hcode6 := RowAt.keep InsE.kept hcode6 newW_in
  have e6 : A6' = A6 := by
    simp only [List.length_append, List.length_cons, List.length_nil] at hv6
    cases hv6; rfl
  subst e6
  have hneA6 : ∀ q, A6' = some q → q.block ≠ gQ := fun q hq e => by
    have hown : (Value.slice A6' (x.code.length + 1) c6).ownBlock = some gQ := by rw [hq]; simp only [Value.ownBlock]; rw [e]
    rcases hn6 gQ hown with h | h
    · exact hneA3 h
    · have := he4.size; have := he3.size; have := he1.size; omega
  -- the cells
  have hset0 := owns_set hq6 (k * 4) (.int .i64 x.params) (by omega)
  have hset1 := owns_set hset0 (k * 4 + 1) (.int .i64 x.locals) (by omega)
  have hset2 := owns_set hset1 (k * 4 + 2) (.int .i64 x.refs) (by omega)
  have hset3 := owns_set hset2 (k * 4 + 3) (.slice A6' (x.code.length + 1) c6) (by omega)
  have hcell : ∀ {w : World} {L : List Value} (j : Nat), w.ownsRow w0.heap.size 29 4 (.slice (some ⟨gQ, 0, none⟩) (p.length + 1) capQ) (p.length + 1) L → j < (p.length + 1) * 4 → ∃ u, w.cell? ⟨gQ, j, none⟩ = some u := fun j h hj => by
    have hlen := h.1
    exact ⟨_, owns_cell h (List.getElem?_eq_getElem (by omega))⟩
  refine ⟨_, rfl, by omega, by omega, ?_⟩
  simp only [Int.toNat_natCast, own_add, bx_add, Nat.add_zero, Nat.zero_add]
  refine ⟨hcell (k * 4) hq6 (by omega), owns_frozen hq6 _, hcell (k * 4 + 1) hset0 (by omega), owns_frozen hset0 _, hcell (k * 4 + 2) hset1 (by omega), owns_frozen hset1 _, hcell (k * 4 + 3) hset2 (by omega), owns_frozen hset2 _, ?_⟩
  rw [fncs_put { x with code := x.code ++ [⟨op, 0, 0⟩] } (.slice A6' (x.code.length + 1) c6) k (by simpa using hl)] at hset3
  have hoth : ∀ j, j ≠ gQ → ((((w6.setCell ⟨gQ, k * 4, none⟩ (.int .i64 x.params)).setCell ⟨gQ, k * 4 + 1, none⟩ (.int .i64 x.locals)).setCell ⟨gQ, k * 4 + 2, none⟩ (.int .i64 x.refs)).setCell ⟨gQ, k * 4 + 3, none⟩ (.slice A6' (x.code.length + 1) c6)).heap[j]? = w6.heap[j]? := fun j hj => by
    rw [at_other hj, at_other hj, at_other hj, at_other hj]
  have hw6 : Below w0.heap.size w0 w6 := he6.after (fun j e => by
    rcases hA3 j e with h | h
    · omega
    · omega) (he4.after hw3)
  have hw10 : Below w0.heap.size w0 ((((w6.setCell ⟨gQ, k * 4, none⟩ (.int .i64 x.params)).setCell ⟨gQ, k * 4 + 1, none⟩ (.int .i64 x.locals)).setCell ⟨gQ, k * 4 + 2, none⟩ (.int .i64 x.refs)).setCell ⟨gQ, k * 4 + 3, none⟩ (.slice A6' (x.code.length + 1) c6)) :=
    (((hw6.setCell hgQ _).setCell hgQ _).setCell hgQ _).setCell hgQ _
  generalize ((((w6.setCell ⟨gQ, k * 4, none⟩ (.int .i64 x.params)).setCell ⟨gQ, k * 4 + 1, none⟩ (.int .i64 x.locals)).setCell ⟨gQ, k * 4 + 2, none⟩ (.int .i64 x.refs)).setCell ⟨gQ, k * 4 + 3, none⟩ (.slice A6' (x.code.length + 1) c6)) = w10 at *
  have hcs10 : Codes w10 gQ ((p ++ [furtherF]).set k { x with code := x.code ++ [⟨op, 0, 0⟩] }) (cs.set k (.slice A6' (x.code.length + 1) c6)) := fun i y c hy hc => by
    rw [List.getElem?_set] at hy hc
    by_cases hki : k = i
    · subst hki
      rw [if_pos rfl, if_pos (by simp; omega)] at hy
      rw [if_pos rfl, if_pos (by omega)] at hc
      cases hy; cases hc
      refine ⟨A6', _, c6, rfl, ?_, fun q hq _ => hneA6 q hq⟩
      have := code_block (w' := w10) hcode6 fun q hq _ => hoth _ (hneA6 q hq)
      simpa using this
    · rw [if_neg hki] at hy hc
      exact (hcs6.other hoth) i y c hy hc
  have hset3' : w10.ownsRow w0.heap.size 29 4 (.slice (some ⟨gQ, 0, none⟩) (p.length + 1) capQ) ((p ++ [furtherF]).set k { x with code := x.code ++ [⟨op, 0, 0⟩] }).length (fncsV ((p ++ [furtherF]).set k { x with code := x.code ++ [⟨op, 0, 0⟩] }) (cs.set k (.slice A6' (x.code.length + 1) c6))) := by
    simpa using hset3
  obtain ⟨CQ, cQ, hvQ, hprQ⟩ := owns_progAt hset3' (by simp [hl]) (by simp; omega) hcs10
  have hlq : ((p ++ [furtherF]).set k { x with code := x.code ++ [⟨op, 0, 0⟩] }).length = p.length + 1 := by simp
  rw [hlq] at hvQ
  cases hvQ
  have hg37 := fun (w1 : World) (e1 : Ext w0.heap.size w10 w1) => gives37 (c := capQ) (RowAt.keep FncE.kept hprQ (ext_keeps e1))
  rw [hlq] at hg37
  refine call_gives hw10 (fun w1 e1 _ => hg37 w1 e1) fun w11 e11 hw11 => ⟨_, _, _, rfl, ?_⟩
  rw [hmade.wrong hx hop]
  rw [if_pos (by simp), if_pos (by simp), if_pos (by simp)]
  exact call_gives hw11 (fun w4 _ _ => gives34 w4) fun w8 _ hw8 => ⟨_, rfl, ret_is hw8 rfl⟩
end
end Go.Proofs.Ytlccbaemcfjdoaa
