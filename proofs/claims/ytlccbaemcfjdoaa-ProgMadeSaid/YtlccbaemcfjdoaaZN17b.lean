/-
  Layer 17: the law's function ProgMade returns true.
  Conditions: the numbers lie in memory as told.
-/
import Derived.Test.YtlccbaemcfjdoaaZN17
set_option linter.unusedVariables false
set_option linter.unusedSimpArgs false
namespace Go.Proofs.Ytlccbaemcfjdoaa
open Go.RowKit
theorem made_depths {p : List Fnc} (h : MadeOk p) {k : Nat} {x : Fnc} (hx : p[k]? = some x) : ∃ d, depthsOf p k = d ∧ (∀ j y, x.code[j]? = some y → Steady p x.code.length d j y) ∧ DOk x.code.length d ∧ d.getD 0 0 = 0 ∧ 1 ≤ x.code.length := by
  have hm := List.mem_of_getElem? hx
  obtain ⟨d, hd⟩ := h.depths hm
  have h0 : (checkM p).1 = 0 := by rw [h.check]
  obtain ⟨hfew, hlen, hjmp, hflow, hsized⟩ := check_ok h0
  obtain ⟨h1, h2, h3⟩ := depths_still hfew (hjmp x hm) hd
  have hl := (h.done x hm).1
  exact ⟨d, by unfold depthsOf; rw [if_pos ⟨h0, by omega⟩, Int.toNat_natCast, hx]; simp only [hd], h1, h2, h3 hl, hl⟩
section
variable {w0 : World} {p : List Fnc} {C : Option Addr} {c : Nat} {q3 : Nat}
theorem l1_6 (hmade : MadeOk p) {L0 : Int → Nat → Option Addr → Nat → Nat → World → Prop} {k : Nat} {x : Fnc} (hx : p[k]? = some x) {d : List Int} {D : Option Addr} {dc : Nat} (hst : ∀ j y, x.code[j]? = some y → Steady p x.code.length d j y) (hdok : DOk x.code.length d)
    (hL : ∀ w, Below w0.heap.size w0 w → ProgAt w C p.length p → L0 (IntKind.wrap .i64 ((k : Int) + 1)) q3 C p.length c w) : ∀ (m i : Nat) (w : World), x.code.length < i + m → i ≤ x.code.length → Below w0.heap.size w0 w → ProgAt w C p.length p → Nums .i64 w D x.code.length d →
    V6.l1 w0.heap.size (IsV w0 (.bool true)) L0 m k D x.code.length dc i q3 C p.length c w := by
  have hkl := (List.getElem?_eq_some_iff.1 hx).1
  intro m
  induction m with
  | zero => intros; omega
  | succ m ih =>
    intro i w hm hi hw hp hd
    dsimp -zeta only [V6.l1]
    by_cases hlt : i < x.code.length
    · rw [if_pos (by simpa using hlt)]
      obtain ⟨e, P, he, hP, hc⟩ := hd.at hlt
      have hbd := hdok.2 e (List.mem_of_getElem? he)
      have hget : d.getD i 0 = e := by simp [List.getD, he]
      obtain ⟨x', a, C', cc, hx', ha, c0, c1, c2, c3, hcode⟩ := prog_at hp hkl
      rw [hx] at hx'; cases hx'
      obtain ⟨y, r, hy, hr, y0, y1, y2⟩ := hcode.at hlt
      have hwi := wrap_succ hlt hd.small
      refine ⟨P, hP, by omega, by omega, e, hc, ?_⟩
      rw [if_pos (by simp; omega)]
      refine ⟨P, hP, by omega, by omega, e, hc, ?_⟩
      rw [if_pos (by simp; omega)]
      refine ⟨P, hP, by omega, by omega, e, hc, ?_⟩
      by_cases h0 : 0 ≤ e
      · rw [if_pos (by simpa using h0)]
        obtain ⟨s1, s2, _⟩ := hst i y hy (by rw [hget]; exact h0)
        rw [hget] at s1 s2
        have c3' : w.cell? ((a.add ((k : Int).toNat * 4)).add 3) = some (.slice C' x.code.length cc) := c3
        have y0' : w.cell? ((r.add ((i : Int).toNat * 3)).add 0) = some (.int .i64 y.op) := y0
        have y1' : w.cell? ((r.add ((i : Int).toNat * 3)).add 1) = some (.int .i64 y.a) := y1
        have y2' : w.cell? ((r.add ((i : Int).toNat * 3)).add 2) = some (.int .i64 y.b) := y2
        have hc' : w.cell? (P.add (i : Int).toNat) = some (.int .i64 e) := hc
        refine ⟨a, ha, by omega, by omega, C', x.code.length, cc, c3', r, hr, by omega, by omega, y.op, y0', y.a, y1', y.b, y2', P, hP, by omega, by omega, e, hc', ?_⟩
        refine call_gives hw (fun w1 e1 _ => gives28 (RowAt.keep FncE.kept hp (ext_keeps e1)) _ _ _) fun w1 e1 hw1 => ⟨_, rfl, e1.cell hc', ?_⟩
        rw [if_pos (by simp; omega)]
        refine ⟨P, hP, by omega, by omega, e, e1.cell hc', a, ha, by omega, by omega, C', x.code.length, cc, e1.cell c3', r, hr, by omega, by omega, y.op, e1.cell y0', y.a, e1.cell y1', y.b, e1.cell y2',
          a, ha, by omega, by omega, C', x.code.length, cc, e1.cell c3', r, hr, by omega, by omega, y.op, e1.cell y0', y.a, e1.cell y1', y.b, e1.cell y2', ?_⟩
        have hp1 : ProgAt w1 C p.length p := RowAt.keep FncE.kept hp (ext_keeps e1)
        refine call_gives hw1 (fun w2 e2 _ => gives28 (RowAt.keep FncE.kept hp1 (ext_keeps e2)) _ _ _) fun w2 e2 hw2 => ?_
        refine ⟨_, rfl, e2.cell (e1.cell y0'), e2.cell (e1.cell y1'), e2.cell (e1.cell y2'), e2.cell (e1.cell c3'), e2.cell (e1.cell hc'), ?_⟩
        have hp2 : ProgAt w2 C p.length p := RowAt.keep FncE.kept hp1 (ext_keeps e2)
        refine call_gives hw2 (fun w3 _ _ => gives30 y.op y.a y.b w3) fun w3 e3 hw3 => ⟨_, rfl, e3.cell (e2.cell (e1.cell hc')), ?_⟩
        have hpb := popsM_bd (p := p) (fun f hf => (hmade.heads f hf).2.1) y.op y.a
        have hqb := rowT_bd y.op
        rw [wrap_id (n := e - popsM p y.op y.a) (by omega) (by omega), wrap_id (n := e - popsM p y.op y.a + pushesI y.op) (by omega) (by omega), if_neg (by simp; omega), hwi]
        exact ih (i + 1) w3 (by omega) (by omega) hw3 (RowAt.keep FncE.kept hp2 (ext_keeps e3)) (RowAt.keep (NumE.kept _) (RowAt.keep (NumE.kept _) (RowAt.keep (NumE.kept _) hd (ext_keeps e1)) (ext_keeps e2)) (ext_keeps e3))
      · rw [if_neg (by simpa using h0), hwi]
        exact ih (i + 1) w (by omega) (by omega) hw hp hd
    · rw [if_neg (by simpa using hlt)]
      exact hL w hw hp
theorem l0_6 (hmade : MadeOk p) : ∀ (m i : Nat) (w : World), p.length < i + m → i ≤ p.length → Below w0.heap.size w0 w → ProgAt w C p.length p → V6.l0 w0.heap.size (IsV w0 (.bool true)) m i q3 C p.length c w := by
  intro m
  induction m with
  | zero => intros; omega
  | succ m ih =>
    intro i w hm hi hw hp
    dsimp -zeta only [V6.l0]
    by_cases hlt : i < p.length
    · rw [if_pos (by simpa using hlt)]
      refine call_yields (Q := FreshNums (depthsOf p i)) hw (fun w1 e1 hb => yields38 (RowAt.keep FncE.kept hp (ext_keeps e1)) i) fun w4 u w5 w6 hs _ hQ _ hnew he6 hw6 => ?_
      obtain ⟨D, l, dc, rfl, hn, hfr⟩ := hQ
      have hn6 := nums_block hn fun q hq => hnew _ (hfr q hq)
      have hp6 : ProgAt w6 C p.length p := RowAt.keep FncE.kept hp (ext_keeps he6)
      obtain ⟨x, a, C', cc, hx, ha, c0, c1, c2, c3, hcode⟩ := prog_at hp6 hlt
      obtain ⟨d, hdo, hst, hdok, hz, hl1⟩ := made_depths hmade hx
      rw [hdo] at hn6
      have hl : l = x.code.length := by rw [← hn6.len, hdok.1]
      subst hl
      obtain ⟨e, P, he, hP, hc⟩ := hn6.at (i := 0) hl1
      have he0 : e = 0 := by have : d.getD 0 0 = e := by simp [List.getD, he]
                             omega
      subst he0
      refine ⟨D, x.code.length, dc, rfl, a, ha, by omega, by omega, C', x.code.length, cc, c3, ?_⟩
      rw [if_pos (by simp)]
      refine ⟨P, hP, by omega, by omega, 0, hc, ?_⟩
      rw [if_neg (by simp)]
      refine ⟨x.code.length + 1, l1_6 hmade hx hst hdok (fun w' hw' hp' => ?_) (x.code.length + 1) 0 w6 (by omega) (by omega) hw6 hp6 hn6⟩
      rw [wrap_succ hlt hp.small]
      exact ih (i + 1) w' (by omega) (by omega) hw' hp'
    · rw [if_neg (by simpa using hlt)]
      refine call_yields (Q := FreshNums (depthsOf p (-1))) hw (fun w1 e1 hb => yields38 (RowAt.keep FncE.kept hp (ext_keeps e1)) (-1)) fun w4 u w5 w6 hs _ hQ _ hnew he6 hw6 => ?_
      obtain ⟨D, l, dc, rfl, hn, hfr⟩ := hQ
      rw [depthsOf_out (.inr (.inl (by omega)))] at hn
      have hl : l = 0 := hn.len.symm
      subst hl
      refine ⟨D, 0, dc, rfl, ?_⟩
      rw [if_pos (by simp)]
      have hp6 : ProgAt w6 C p.length p := RowAt.keep FncE.kept hp (ext_keeps he6)
      refine call_yields (Q := FreshNums (depthsOf p p.length)) hw6 (fun w1 e1 hb => yields38 (RowAt.keep FncE.kept hp6 (ext_keeps e1)) p.length) fun w4 u w5 w7 hs _ hQ _ hnew he7 hw7 => ?_
      obtain ⟨D', l, dc', rfl, hn, hfr⟩ := hQ
      rw [depthsOf_out (.inr (.inr (by omega)))] at hn
      have hl : l = 0 := hn.len.symm
      subst hl
      refine ⟨D', 0, dc', rfl, ?_⟩
      rw [if_pos (by simp)]
      exact call_gives hw7 (fun w4 _ _ => gives34 w4) fun w8 _ hw8 => ⟨_, rfl, ret_is hw8 rfl⟩
end
theorem gives6 {w : World} {A : Option Addr} {l c : Nat} {ns : List Int} (hn : BytesAt w A l c ns) : Gives Try.prog 6 [.slice A l c] w (.bool true) := by
  refine gives_of (V6.sound ?_)
  unfold V6.vc
  refine call_made (Below.refl _ _) hn fun p C c' w1 hmade hp hc hq he hw => ?_
  refine ⟨C, p.length, c', rfl, ?_⟩
  intro q3 _
  refine call_gives hw (fun w2 e2 _ => gives37 (RowAt.keep FncE.kept hp (ext_keeps e2))) fun w2 e2 hw2 => ⟨_, _, _, rfl, ?_⟩
  rw [hmade.check]
  rw [if_pos (by simp), if_pos (by simp), if_neg (by simp)]
  exact ⟨p.length + 1, l0_6 hmade (p.length + 1) 0 w2 (by omega) (by omega) hw2 (RowAt.keep FncE.kept hp (ext_keeps e2))⟩
end Go.Proofs.Ytlccbaemcfjdoaa
