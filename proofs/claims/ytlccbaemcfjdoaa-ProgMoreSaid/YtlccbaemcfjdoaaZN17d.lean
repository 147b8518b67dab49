/-
  Layer 17: the law's function ProgMore returns true: the whole.
  Conditions: the numbers lie in memory as told.
-/
import Derived.Test.YtlccbaemcfjdoaaZN17c
set_option linter.unusedVariables false
set_option linter.unusedSimpArgs false
namespace Go.Proofs.Ytlccbaemcfjdoaa
open Go.RowKit
theorem gives8 {w : World} {A : Option Addr} {l c : Nat} {ns : List Int} (hn : BytesAt w A l c ns) (op : Int) {f : Int} (hf : 0 ≤ f ∧ f < 256) : Gives Try.prog 8 [.slice A l c, .int .i64 op, .int .u8 f] w (.bool true) := by
  refine gives_of (V8.sound ?_)
  unfold V8.vc
  refine call_made (Below.refl _ _) hn fun p C c' w1 hmade hp hc hq he hw => ?_
  refine ⟨C, p.length, c', rfl, ?_⟩
  intro q7 _
  have hlen := hmade.pos
  have hfew := hmade.few
  rw [wrap_id (n := f) (by omega) (by omega)]
  have t := tm hf.1 (n := (p.length : Int)) (by omega)
  generalize Int.tmod f (p.length : Int) = ki at t ⊢
  obtain ⟨k, rfl⟩ : ∃ k : Nat, ki = k := ⟨ki.toNat, by omega⟩
  have hk : k < p.length := by omega
  obtain ⟨x, hx⟩ : ∃ x, p[k]? = some x := ⟨_, List.getElem?_eq_getElem hk⟩
  obtain ⟨d, hdo, hst, hdok, hz, hl1⟩ := made_depths hmade hx
  refine ⟨by omega, ?_⟩
  refine call_yields (Q := FreshNums (depthsOf p k)) hw (fun w2 e2 _ => yields38 (RowAt.keep FncE.kept hp (ext_keeps e2)) k) fun wa u wb w2 hs _ hQ _ hnew he2 hw2 => ?_
  obtain ⟨D, dl, dc, rfl, hd, hfr⟩ := hQ
  have hd2 := nums_block hd fun q hq => hnew _ (hfr q hq)
  rw [hdo] at hd2
  have hdl : dl = x.code.length := by rw [← hd2.len, hdok.1]
  subst hdl
  refine ⟨D, _, dc, rfl, ?_⟩
  have hp2 : ProgAt w2 C p.length p := RowAt.keep FncE.kept hp (ext_keeps he2)
  obtain ⟨a, rfl⟩ : ∃ a, C = some a := by
    obtain ⟨_, a, _, _, _, ha, _⟩ := prog_at hp hk
    exact ⟨a, ha⟩
  obtain ⟨cs, hcl, hcells, hcodes⟩ := prog_cells hp2
  have hone : ∀ c ∈ cs, ∃ A l cap, c = .slice A l cap := fun c hc => by
    obtain ⟨i, hi⟩ := List.mem_iff_getElem?.1 hc
    have hil := (List.getElem?_eq_some_iff.1 hi).1
    obtain ⟨A, cap, h, _⟩ := hcodes i _ c (List.getElem?_eq_getElem (by omega)) hi
    exact ⟨A, _, cap, h⟩
  refine expo_alloc hw2.size fun w3 w4 hs3 he4 _ ho4 => ?_
  have hb29 : Try.t29.bytes = 48 := by kernel_rfl
  have hB3 : w.heap.size ≤ w3.heap.size := Nat.le_trans hw2.size hs3
  have hsz4 : w.heap.size ≤ w4.heap.size := Nat.le_trans hw2.size he4.size
  refine append_own (t := 22) (e := 29) (i := Try.t29) (z := .agg ⟨[.int .i64 0, .int .i64 0, .int .i64 0, .slice none 0 0]⟩) (size := 4) (bytes := 48) (b0 := w.heap.size) (by kernel_rfl) (by kernel_rfl) (by kernel_rfl) (by kernel_rfl) hb29 rfl (by omega) (owns_empty ho4 hB3)
    (news := fncsV p cs) (fncs_len hcl) (fun j u hj => he4.cell (hcells j u hj)) (fncs_one hone) (by simp only [maxLen]; omega) (by omega) hsz4 hsz4 fun v5 w5 he5 ho5 hn5 => ?_
  rw [Nat.zero_add, List.nil_append] at ho5
  obtain ⟨A5, c5, rfl⟩ := owns_slice ho5
  refine ⟨A5, p.length, c5, rfl, ?_⟩
  have hown5 : ∀ g, (Value.slice A5 p.length c5).ownBlock = some g → g = w3.heap.size ∨ w4.heap.size ≤ g := fun g hg => by
    rcases hn5 g hg with h | h
    · cases h; exact .inl rfl
    · exact .inr h
  have hk5 := exts_keeps he5 rfl ho4
  have hw5 : Below w.heap.size w w5 := he5.after (fun j e => by cases e; exact hB3) (he4.after hw2)
  refine expo_alloc hw5.size fun w6 w7 hs6 he7 hlt7 ho7 => ?_
  have hw7 : Below w.heap.size w w7 := he7.after hw5
  refine expo_alloc hw7.size fun w8 w9 hs8 he9 _ ho9 => ?_
  have hw9 : Below w.heap.size w w9 := he9.after hw7
  have hcode7 : CodeAt w7 (some ⟨w6.heap.size, 0, none⟩) 2 furtherF.code := code_lit (xs := furtherF.code) (t := 26) ho7 (by simp [furtherF])
  refine append_own (t := 22) (e := 29) (i := Try.t29) (z := .agg ⟨[.int .i64 0, .int .i64 0, .int .i64 0, .slice none 0 0]⟩) (size := 4) (bytes := 48) (b0 := w.heap.size) (by kernel_rfl) (by kernel_rfl) (by kernel_rfl) (by kernel_rfl) hb29 rfl (by omega) (he9.owns (he7.owns ho5))
    (news := fncV furtherF (.slice (some ⟨w6.heap.size, 0, none⟩) 2 2)) rfl (fun j u hj => by rw [own_add]; exact at_cell (L := fncV furtherF (.slice (some ⟨w6.heap.size, 0, none⟩) 2 2)) ho9 hj) (fun u hu => ?_) (by simp only [maxLen]; omega) (by omega) hw9.size hw9.size fun v10 w10 he10 ho10 hn10 => ?_
  · simp only [fncV, List.mem_cons, List.not_mem_nil, or_false] at hu
    rcases hu with rfl | rfl | rfl | rfl <;> rfl
  obtain ⟨gQ, capQ, hv10, hown10, hbQ⟩ := owns_some ho10 (by omega)
  rw [← fncs_snoc furtherF _ hcl] at ho10
  subst hv10
  refine ⟨_, p.length + 1, capQ, rfl, ?_⟩
  intro q10 _
  have hlt5 : ∀ g, (Value.slice A5 p.length c5).ownBlock = some g → g < w5.heap.size := fun g hg => (ho5.lt g hg).2
  have hgQ : (gQ = w3.heap.size ∨ w4.heap.size ≤ gQ) ∧ (gQ < w5.heap.size ∨ w9.heap.size ≤ gQ) := by
    rcases hn10 gQ rfl with h | h
    · exact ⟨hown5 gQ h, .inl (hlt5 gQ h)⟩
    · exact ⟨.inr (by have := he9.size; have := he7.size; have := he5.size; omega), .inr h⟩
  have hw10 : Below w.heap.size w w10 := he10.after (fun j e => by
    rcases hown5 j e with h | h
    · omega
    · omega) hw9
  have hcs10 : Codes w10 gQ (p ++ [furtherF]) (cs ++ [.slice (some ⟨w6.heap.size, 0, none⟩) 2 2]) := fun i y cc hy hcc => by
    by_cases hi : i < p.length
    · rw [List.getElem?_append_left hi] at hy
      rw [List.getElem?_append_left (by omega)] at hcc
      obtain ⟨Ai, cap, rfl, hci⟩ := hcodes i y cc hy hcc
      refine ⟨Ai, _, cap, rfl, ?_, fun q hq hl => ?_⟩
      · have k4 := RowAt.keep InsE.kept hci (ext_keeps he4)
        have k5 := RowAt.keep InsE.kept k4 hk5
        have k7 := RowAt.keep InsE.kept k5 (ext_keeps he7)
        have k9 := RowAt.keep InsE.kept k7 (ext_keeps he9)
        refine code_block k9 fun q hq hl => ?_
        have hb := code_own hci hq hl
        obtain ⟨z, q', _, hq', z0, _⟩ := k9.at hl
        rw [hq] at hq'; cases hq'
        obtain ⟨cc, t, fz, hcb⟩ := cell_block z0
        rw [add_block, add_block] at hcb
        rw [hcb]
        exact he10.row _ _ _ _ (fun e => by
          rcases hown5 _ e with h | h
          · omega
          · have := he4.size; omega) hcb
      · have hb := code_own hci hq hl
        have := he4.size
        omega
    · have hi' : i = p.length := by have := (List.getElem?_eq_some_iff.1 hy).1; simp at this; omega
      subst hi'
      have h1 : y = furtherF := by simpa using hy.symm
      have h2 : cc = .slice (some ⟨w6.heap.size, 0, none⟩) 2 2 := by rw [← hcl] at hcc; simpa using hcc.symm
      subst h1; subst h2
      refine ⟨_, _, _, rfl, ?_, fun q hq hl => ?_⟩
      · have k9 := RowAt.keep InsE.kept hcode7 (ext_keeps he9)
        refine code_block k9 fun q hq hl => ?_
        cases hq
        have hrow := he9.row _ _ _ _ ho7
        show w10.heap[w6.heap.size]? = w9.heap[w6.heap.size]?
        rw [hrow]
        exact he10.row _ _ _ _ (fun e => by have := hlt5 _ e; omega) hrow
      · cases hq
        show w6.heap.size ≠ gQ
        have := he9.size
        omega
  have hlq : (p ++ [furtherF]).length = p.length + 1 := by simp
  have ho10' : w10.ownsRow w.heap.size 29 4 (.slice (some ⟨gQ, 0, none⟩) (p.length + 1) capQ) (p ++ [furtherF]).length (fncsV (p ++ [furtherF]) (cs ++ [.slice (some ⟨w6.heap.size, 0, none⟩) 2 2])) := by rw [hlq]; exact ho10
  obtain ⟨CQ, cQ, hvQ, hprQ⟩ := owns_progAt ho10' (by simp [hcl]) (by simp; omega) hcs10
  rw [hlq] at hvQ
  cases hvQ
  have hp10 : ProgAt w10 (some a) p.length p := by
    have k9 : ProgAt w9 (some a) p.length p := RowAt.keep FncE.kept (RowAt.keep FncE.kept (RowAt.keep FncE.kept (RowAt.keep FncE.kept hp2 (ext_keeps he4)) hk5) (ext_keeps he7)) (ext_keeps he9)
    refine ⟨k9.len, k9.small, fun i y hy => ⟨a, rfl, ?_⟩⟩
    have hil := (List.getElem?_eq_some_iff.1 hy).1
    obtain ⟨y', q, Ci, ci, hy', hq', c0, c1, c2, c3, hci⟩ := prog_at hp2 hil
    rw [hy] at hy'; cases hy'
    cases hq'
    have keep : ∀ r u, w2.cell? r = some u → w10.cell? r = some u := fun r u hr => by
      have hb := cell_lt hr
      refine he10.cell (he9.cell (he7.cell (hk5 _ _ (he4.cell hr)))) fun e => ?_
      rcases hown5 _ e with h | h
      · omega
      · have := he4.size; omega
    exact ⟨keep _ _ c0, keep _ _ c1, keep _ _ c2, Ci, _, ci, keep _ _ c3, RowAt.keep InsE.kept hci keep⟩
  have hd10 : Nums .i64 w10 D x.code.length d := RowAt.keep (NumE.kept _) hd2 fun r u hr => by
    have hb := cell_lt hr
    refine he10.cell (he9.cell (he7.cell (hk5 _ _ (he4.cell hr)))) fun e => ?_
    rcases hown5 _ e with h | h
    · omega
    · have := he4.size; omega
  have hg37 := fun (w1 : World) (e1 : Ext w.heap.size w10 w1) => gives37 (c := capQ) (RowAt.keep FncE.kept hprQ (ext_keeps e1))
  rw [hlq] at hg37
  refine call_gives hw10 (fun w1 e1 _ => hg37 w1 e1) fun w11 e11 hw11 => ⟨_, _, _, rfl, ?_⟩
  rw [hmade.further, if_pos (by simp)]
  have hg38 := fun (w1 : World) (e1 : Ext w.heap.size w11 w1) => yields38 (c := capQ) (RowAt.keep FncE.kept (RowAt.keep FncE.kept hprQ (ext_keeps e11)) (ext_keeps e1)) (k : Int)
  rw [hlq] at hg38
  refine call_yields (Q := FreshNums (depthsOf (p ++ [furtherF]) k)) hw11 (fun w1 e1 _ => hg38 w1 e1) fun wa u wb w12 hs _ hQ _ hnew he12 hw12 => ?_
  obtain ⟨D', dl', dc', rfl, hd', hfr'⟩ := hQ
  have hd12 := nums_block hd' fun q hq => hnew _ (hfr' q hq)
  rw [depths_further hmade hk, hdo] at hd12
  refine ⟨D', dl', dc', rfl, ?_⟩
  have hdD : Nums .i64 w12 D x.code.length d := RowAt.keep (NumE.kept _) (RowAt.keep (NumE.kept _) hd10 (ext_keeps e11)) (ext_keeps he12)
  refine call_gives hw12 (fun w1 e1 _ => gives40 (RowAt.keep (NumE.kept _) hd12 (ext_keeps e1)) (RowAt.keep (NumE.kept _) hdD (ext_keeps e1))) fun w13 e13 hw13 => ⟨_, rfl, ?_⟩
  rw [if_pos (by simp)]
  have hp13 : ProgAt w13 (some a) p.length p := RowAt.keep FncE.kept (RowAt.keep FncE.kept (RowAt.keep FncE.kept hp10 (ext_keeps e11)) (ext_keeps he12)) (ext_keeps e13)
  obtain ⟨x', a', C', cc, hx', ha', c0, c1, c2, c3, hcode⟩ := prog_at hp13 hk
  rw [hx] at hx'; cases hx'
  cases ha'
  refine ⟨a, rfl, by omega, by omega, C', x.code.length, cc, c3, ?_⟩
  rw [if_neg (by simp)]
  have hq13 := e13.owns (he12.owns (e11.owns ho10))
  have hcs13 := ((hcs10.ext e11).ext he12).ext e13
  have hb := fun (op' : Int) (h : ¬ (1 ≤ op' ∧ op' ≤ 27)) => b0_8 (w0 := w) (D := D) (dc := dc) (q10 := q10) (q7 := q7) (c' := c') hmade hx h hw13 hp13 hq13 (by simp [hcl]) hcs13 hbQ
  by_cases h1 : op ≥ 1
  · rw [if_pos (by simpa using h1)]
    by_cases h27 : op ≤ 27
    · rw [if_pos (by simpa using h27)]
      exact hb 28 (by omega)
    · rw [if_neg (by simpa using h27)]
      exact hb op (by omega)
  · rw [if_neg (by simpa using h1)]
    exact hb op (by omega)
end Go.Proofs.Ytlccbaemcfjdoaa
