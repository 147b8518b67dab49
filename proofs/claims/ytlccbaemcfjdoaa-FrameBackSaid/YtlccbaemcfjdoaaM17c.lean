/-
  The maker's function that adds an instruction, and the one that pushes arguments: what their calls leave.
  Conditions: the maker lies in memory as told; its program has few functions, its code is short.
-/
import Derived.Test.YtlccbaemcfjdoaaM17b
set_option linter.unusedVariables false
set_option linter.unusedSimpArgs false
namespace Go.Proofs.Ytlccbaemcfjdoaa
open Go.RowKit

/-- A slice of one's own of any row, told as a slice. -/
theorem owns_slice {w : World} {B : Nat} {e : TypeId} {size : Nat} {v : Value} {n : Nat} {xs : List Value} (h : w.ownsRow B e size v n xs) : ∃ A c, v = .slice A n c := by
  rcases h.2 with ⟨rfl, rfl⟩ | ⟨g, cap, cur, rfl, _⟩
  · exact ⟨none, 0, rfl⟩
  · exact ⟨_, cap, rfl⟩
theorem owns_code {w : World} {B : Nat} {v : Value} {xs : List Ins} (h : w.ownsRow B 26 3 v xs.length (xs.flatMap insV)) (hl : xs.length ≤ 1000) : ∃ A c, v = .slice A xs.length c ∧ CodeAt (newW B w) A xs.length xs := by
  rcases h.2 with ⟨rfl, h0⟩ | ⟨g, cap, cur, rfl, hb, hg, _⟩
  · have : xs = [] := List.eq_nil_of_length_eq_zero h0
    subst this
    exact ⟨none, 0, rfl, rfl, Nat.zero_le _, fun i x hi => by simp at hi⟩
  · refine ⟨_, cap, rfl, rfl, len_ok hl, fun i x hi => ⟨_, rfl, ?_⟩⟩
    obtain ⟨h1, h2, h3⟩ := flat_get hi
    have k1 := h.cells (g := g) rfl _ _ h1
    have k2 := h.cells (g := g) rfl _ _ h2
    have k3 := h.cells (g := g) rfl _ _ h3
    simp only [own_add] at k1 k2 k3
    unfold InsE
    simp only [own_add, bx_add, Nat.add_zero, Nat.zero_add]
    exact ⟨newW_cell.2 ⟨k1, hb⟩, newW_cell.2 ⟨k2, hb⟩, newW_cell.2 ⟨k3, hb⟩⟩
/-- The maker's program lies in memory. -/
theorem MakerAt.prog {B g : Nat} {w : World} {s : MSt} {A : Option Addr} {ln cn : Nat} {vF vD : Value} {cs : List Value} (h : MakerAt B w g s A ln cn vF vD cs) (hs : s.p.length ≤ 8) (hc : ∀ x ∈ s.p, x.code.length ≤ 1000) :
    ∃ C c, vF = .slice C s.p.length c ∧ ProgAt (newW B w) C s.p.length s.p := by
  rcases h.fns.2 with ⟨hv, h0⟩ | ⟨gF, cap, cur, hv, hbF, _⟩
  · have : s.p = [] := List.eq_nil_of_length_eq_zero h0
    rw [this]
    exact ⟨none, 0, hv, rfl, Nat.zero_le _, fun i x hi => by simp at hi⟩
  · refine ⟨_, cap, hv, rfl, len_ok (by omega), fun i x hx => ⟨_, rfl, ?_⟩⟩
    obtain ⟨x', c, hx', hcc⟩ := h.at (List.getElem?_eq_some_iff.1 hx).1
    rw [hx] at hx'; cases hx'
    obtain ⟨h1, h2, h3, h4⟩ := fncs_get hx hcc
    subst hv
    have k := fun (j : Nat) (u : Value) (hj : (fncsV s.p cs)[j]? = some u) => owns_cell h.fns hj
    obtain ⟨C, c', rfl, hcode⟩ := owns_code (h.code i x c hx hcc) (hc x (List.mem_of_getElem? hx))
    unfold FncE
    simp only [own_add, bx_add, Nat.add_zero, Nat.zero_add]
    exact ⟨newW_cell.2 ⟨k _ _ h1, hbF⟩, newW_cell.2 ⟨k _ _ h2, hbF⟩, newW_cell.2 ⟨k _ _ h3, hbF⟩, C, _, c', newW_cell.2 ⟨k _ _ h4, hbF⟩, hcode⟩
structure Small (s : MSt) : Prop where
  f : s.f < s.p.length
  few : s.p.length ≤ 8
  code : ∀ x ∈ s.p, x.code.length ≤ 500
  par : Few s.p
  dep : s.depth.length ≤ 500
  now : -100 ≤ s.now ∧ s.now ≤ 100
theorem works115 {B g : Nat} {s : MSt} (hs : Small s) (op a b : Int) : Works 115 [.pointer (some ⟨g, 0, none⟩), .int .i64 op, .int .i64 a, .int .i64 b] B g s fun v s' => v = .tuple ⟨[]⟩ ∧ s' = s.add op a b := by
  intro w A ln cn vF vD cs hm hB
  refine turns_of (V115.sound ?_)
  have h := MK.begin hm hB
  unfold V115.vc
  simp only [own_add, bx_add, Nat.add_zero, Nat.zero_add]
  intro q8 _
  obtain ⟨gF, cap, hv, hbF, hbB⟩ := owns_some hm.fns (by have := hs.f; omega)
  obtain ⟨x, c, hx, hc⟩ := hm.at hs.f
  have hxm := List.mem_of_getElem? hx
  obtain ⟨C, cc, hcv, _⟩ := owns_code (hm.code s.f x c hx hc) (by have := hs.code x hxm; omega)
  have h1 := hm.c1
  have hf := hs.f
  have hcellF : w.cell? ⟨gF, s.f * 4 + 3, none⟩ = some c := by
    have hfn := hm.fns
    rw [hv] at hfn
    exact owns_cell hfn (fncs_get hx hc).2.2.2
  refine ⟨_, _, cap, by rw [← hv]; exact h1, _, hm.c2, _, _, cap, by rw [← hv]; exact h1, _, hm.c2, _, rfl, by omega, by omega, C, x.code.length, cc, ?_, ?_⟩
  · rw [← hcv]; simpa only [bx_add, Int.toNat_natCast, Nat.zero_add] using hcellF
  refine expo_alloc (Nat.le_refl _) fun w1 w2 hs1 he1 _ ho1 => ?_
  have hm2 := hm.ext he1 hB
  have hcellF2 := he1.cell hcellF
  refine ⟨by rw [← hcv]; simpa only [bx_add, Int.toNat_natCast, Nat.zero_add] using hcellF2, hm2.c2, by rw [← hv]; exact hm2.c1, hm2.c2, by rw [← hv]; exact hm2.c1, ?_⟩
  have hb26 : Try.t26.bytes = 24 := by kernel_rfl
  have hxs := hs.code x hxm
  rw [← hcv]
  refine append_own (t := 27) (e := 26) (i := Try.t26) (z := .agg ⟨[.int .i64 0, .int .i64 0, .int .i64 0]⟩) (size := 3) (bytes := 24) (by kernel_rfl) (by kernel_rfl) (by kernel_rfl) (by kernel_rfl) hb26 rfl (by omega) (hm2.code s.f x c hx hc) (news := insV ⟨op, a, b⟩)
    rfl (fun j u hj => ?_) (fun u hu => ?_) (by simp only [maxLen]; omega) (by omega) he1.size (Nat.le_trans hB he1.size) fun v' w3 he3 ho3 hn3 => ?_
  · rw [own_add]
    exact at_cell (L := insV ⟨op, a, b⟩) ho1 hj
  · simp only [insV, List.mem_cons, List.not_mem_nil, or_false] at hu
    rcases hu with rfl | rfl | rfl <;> rfl
  obtain ⟨A3, c3, rfl⟩ := owns_slice ho3
  have hneg : ¬ c.ownBlock = some g := fun e => hm.neC hc g e rfl
  have hneF : ¬ c.ownBlock = some gF := fun e => hm.neFC hc gF e hbF
  have k1 : w3.cell? ⟨g, 1, none⟩ = some vF := he3.cell hm2.c1 hneg
  have k2 : w3.cell? ⟨g, 2, none⟩ = some (.int .i64 s.f) := he3.cell hm2.c2 hneg
  have kF : w3.cell? ⟨gF, s.f * 4 + 3, none⟩ = some c := he3.cell hcellF2 hneF
  refine ⟨A3, x.code.length + 1, c3, rfl, k2, by rw [← hv]; exact k1, _, rfl, by omega, by omega, ⟨c, by simpa only [bx_add, Int.toNat_natCast, Nat.zero_add, Nat.add_zero] using kF⟩, ?_, ?_⟩
  · have := he3.owns hm2.fns fun k hk e => hm.neFC hc k e hk
    rw [hv] at this
    simpa only [bx_add, Int.toNat_natCast, Nat.zero_add, Nat.add_zero] using owns_frozen this (s.f * 4 + 3)
  simp only [bx_add, Int.toNat_natCast, Nat.zero_add, Nat.add_zero]
  have hm4 := hm2.put_code (w1 := w3) hB hx hc he3 hv (ins := ⟨op, a, b⟩) ho3 hn3
  have hown4 : ∀ k, some k ∈ ownO g vF vD (cs.set s.f (.slice A3 (x.code.length + 1) c3)) → some k ∈ ownO g vF vD cs ∨ w2.heap.size ≤ k := fun k hk => ownO_code hc hn3 hk
  have hchg4 : Chg (fun k => some k ∈ ownO g vF vD cs) w (w3.setCell ⟨gF, s.f * 4 + 3, none⟩ (.slice A3 (x.code.length + 1) c3)) :=
    (he3.chg (ext_chg h.chg he1) fun k _ hk => hm.inC hc hk).setCell _ fun _ => hm.inF hbF
  have hsz4 : w2.heap.size ≤ (w3.setCell ⟨gF, s.f * 4 + 3, none⟩ (.slice A3 (x.code.length + 1) c3)).heap.size := by simpa using he3.size
  generalize (w3.setCell ⟨gF, s.f * 4 + 3, none⟩ (.slice A3 (x.code.length + 1) c3)) = w4 at *
  obtain ⟨AD, cD, hvD⟩ := owns_slice hm4.dep
  refine ⟨AD, s.depth.length, cD, by rw [← hvD]; exact hm4.c3, _, hm4.c4, ?_⟩
  have hB4 : B ≤ w4.heap.size := Nat.le_trans hB hchg4.size
  refine expo_alloc hchg4.size fun w5 w6 hs5 he5 _ ho5 => ?_
  have hm6 := hm4.ext he5 hB
  refine ⟨by rw [← hvD]; exact hm6.c3, ?_⟩
  have hb3 : Try.t3.bytes = 8 := by kernel_rfl
  have hdl := hs.dep
  rw [← hvD]
  refine append_own (t := 42) (e := 3) (i := Try.t3) (z := .int .i64 0) (size := 1) (bytes := 8) (by kernel_rfl) (by kernel_rfl) (by kernel_rfl) (by kernel_rfl) hb3 rfl (by omega) hm6.dep (news := [.int .i64 s.now])
    rfl (fun j u hj => ?_) (fun u hu => ?_) (by simp only [maxLen]; omega) (by simp only; omega) (Nat.le_trans hchg4.size he5.size) (Nat.le_trans hB4 he5.size) fun vD' w7 he7 ho7 hn7 => ?_
  · rw [own_add]
    exact at_cell (L := [.int .i64 s.now]) ho5 hj
  · simp at hu; subst hu; rfl
  obtain ⟨A7, c7, rfl⟩ := owns_slice ho7
  have hneg7 : ¬ vD.ownBlock = some g := fun e => hm.neD g e rfl
  refine ⟨A7, s.depth.length + 1, c7, rfl, ⟨_, he7.cell hm6.c3 hneg7⟩, at_frozen (he7.row g _ _ _ hneg7 hm6.cells) 3, ?_⟩
  have ho7' : w7.ownsRow B 3 1 (.slice A7 (s.depth.length + 1) c7) (s.depth ++ [s.now]).length ((s.depth ++ [s.now]).map (.int .i64)) := by
    simpa using ho7
  have hm8 := hm6.put_dep (w1 := w7) hB he7 ho7' hn7
  have hown8 : ∀ k, some k ∈ ownO g vF (.slice A7 (s.depth.length + 1) c7) (cs.set s.f (.slice A3 (x.code.length + 1) c3)) → some k ∈ ownO g vF vD cs ∨ w.heap.size ≤ k := fun k hk => by
    rcases ownO_dep hn7 hk with h1 | h1
    · rcases hown4 k h1 with h2 | h2
      · exact .inl h2
      · exact .inr (Nat.le_trans he1.size h2)
    · exact .inr (Nat.le_trans (Nat.le_trans hchg4.size he5.size) h1)
  have hchg8 : Chg (fun k => some k ∈ ownO g vF vD cs) w (w7.setCell ⟨g, 3, none⟩ (.slice A7 (s.depth.length + 1) c7)) :=
    (he7.chg (ext_chg hchg4 he5) fun k _ hk => hm.inD hk).setCell _ fun _ => by simp [ownO]
  have h8 : MK B g (fun k => some k ∈ ownO g vF vD cs) w _ _ _ _ _ vF _ _ := ⟨hm8, hchg8, hown8, hB⟩
  generalize (w7.setCell ⟨g, 3, none⟩ (.slice A7 (s.depth.length + 1) c7)) = w8 at *
  -- the calls
  have hp8 : ∀ x ∈ s.p.modify s.f (·.push ⟨op, a, b⟩), x.code.length ≤ 1000 := fun y hy => by
    obtain ⟨i, hi⟩ := List.mem_iff_getElem?.1 hy
    obtain ⟨z, hz, ⟨_, rfl⟩ | ⟨_, rfl⟩⟩ := push_get hi
    · have := hs.code z (List.mem_of_getElem? hz); simp [Fnc.push]; omega
    · have := hs.code y (List.mem_of_getElem? hz); omega
  obtain ⟨C8, c8, hv8, hpr8⟩ := hm8.prog (by simp only [List.length_modify]; exact hs.few) hp8
  refine ⟨_, hm8.c4, C8, _, c8, by rw [← hv8]; exact hm8.c1, ?_⟩
  have hpopeq : popsM (s.p.modify s.f (·.push ⟨op, a, b⟩)) = popsM s.p := popsM_push _ _ _
  have he8 : ∀ {w9 : World}, Ext w.heap.size w8 w9 → ProgAt w9 C8 (s.p.modify s.f (·.push ⟨op, a, b⟩)).length (s.p.modify s.f (·.push ⟨op, a, b⟩)) := fun he => RowAt.keep FncE.kept (RowAt.keep FncE.kept hpr8 newW_in) (ext_keeps he)
  refine call_turns (S := fun _ => False) (Q := fun w1 v w2 => v = .int .i64 (popsM s.p op a)) hchg8.size (fun k hk => hk.elim) (fun w9 he9 => ?_) ?_
  · refine Calls.mono (gives29 (he8 he9) op a b) fun e w' ⟨he, hb⟩ => ⟨_, he, ?_, ⟨hb.os, hb.tape, hb.output, hb.size, fun k hk _ => hb.block k hk⟩⟩
    rw [hpopeq]
  intro w9 v w10 w11 hs9 he9 hc9 hq9 _ hnew9 hrow9 hlow9 hos9 ht9 hou9 hsz9
  have he11 : Ext w.heap.size w8 w11 := ⟨hos9, ht9, hou9, Nat.le_trans hs9 hsz9, fun k c t f hk => hrow9 k c t f (fun h => h) hk, fun k hk => hlow9 k hk (fun h => h)⟩
  have h11 := h8.ext he11
  refine ⟨_, hq9, h11.mem.c4, ?_⟩
  refine call_turns (S := fun _ => False) (Q := fun w1 v w2 => v = .int .i64 (pushesI op)) h11.chg.size (fun k hk => hk.elim) (fun w12 he12 => ?_) ?_
  · exact Calls.mono (gives31 op a b w12) fun e w' ⟨he, hb⟩ => ⟨_, he, rfl, ⟨hb.os, hb.tape, hb.output, hb.size, fun k hk _ => hb.block k hk⟩⟩
  intro w12 v2 w13 w14 hs12 he12 hc12 hq12 _ hnew12 hrow12 hlow12 hos12 ht12 hou12 hsz12
  have he14 : Ext w.heap.size w11 w14 := ⟨hos12, ht12, hou12, Nat.le_trans hs12 hsz12, fun k c t f hk => hrow12 k c t f (fun h => h) hk, fun k hk => hlow12 k hk (fun h => h)⟩
  have h14 := h11.ext he14
  refine ⟨_, hq12, h14.mem.c4, ⟨_, h14.mem.c4⟩, h14.mem.fz 4, ?_⟩
  have hpb := popsM_bd hs.par op a
  have hqb := rowT_bd op
  have hnb := hs.now
  have hwr : IntKind.wrap .i64 (IntKind.wrap .i64 (s.now - popsM s.p op a) + pushesI op) = s.now - popsM s.p op a + pushesI op := by
    rw [wrap_id (n := s.now - popsM s.p op a) (by omega) (by omega)]
    exact wrap_id (by omega) (by omega)
  simp only [hwr]
  have h15 : MK B g (fun k => some k ∈ ownO g vF vD cs) w _ _ _ _ _ vF _ _ := ⟨h14.mem.put_now (s.now - popsM s.p op a + pushesI op), h14.chg.setCell _ (fun _ => by simp [ownO]), h14.blk, hB⟩
  exact ret_mk h15 ⟨rfl, rfl⟩
end Go.Proofs.Ytlccbaemcfjdoaa
