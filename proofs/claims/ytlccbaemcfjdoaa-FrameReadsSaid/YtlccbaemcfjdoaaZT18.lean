/-
  Layer 18: frames held against frames; the document's example.
  Conditions: the frames lie in memory as told.
-/
import Derived.Test.YtlccbaemcfjdoaaZD18
set_option linter.unusedVariables false
set_option linter.unusedSimpArgs false
namespace Go.Proofs.Ytlccbaemcfjdoaa
open Go.RowKit
theorem gives56 {w : World} {x : Frm} {s t : Sls} (hx : FrmAt w x s) (hy : FrmAt w x t) : Gives Try.prog 56 [frmV x s, frmV x t] w (.bool true) := by
  refine gives_of (V56.sound ?_)
  intro q2 _ q3 _
  rw [if_pos (by simp), if_pos (by simp), if_pos (by simp), if_pos (by simp), if_pos (by simp), if_neg (by simp)]
  have loop : ∀ (k i : Nat) (w' : World), x.dfs.length < i + k → i ≤ x.dfs.length → Below w.heap.size w w' →
      V56.l0 w.heap.size (IsV w (.bool true)) k i q3 x.f x.pc x.mode x.dfd x.value t.D x.dfs.length t.dc t.L x.locals.length t.lc t.O x.ops.length t.oc q2 x.f x.pc x.mode x.dfd x.value s.D x.dfs.length s.dc s.L x.locals.length s.lc s.O x.ops.length s.oc w' := by
    intro k
    induction k with
    | zero => intros; omega
    | succ k ih =>
      intro i w' hk hi hw'
      have hx' := hx.keep (below_keeps hw')
      have hy' := hy.keep (below_keeps hw')
      dsimp -zeta only [V56.l0]
      by_cases hlt : i < x.dfs.length
      · rw [if_pos (by simpa using hlt)]
        obtain ⟨d, a, hd, ha, d0, A, c, d1, hargs⟩ := hx'.dfs.at hlt
        obtain ⟨e, a', he, ha', e0, A', c', e1, hargs'⟩ := hy'.dfs.at hlt
        rw [hd] at he; cases he
        refine ⟨a, ha, by omega, by omega, d.f, d0, a', ha', by omega, by omega, d.f, e0, ?_⟩
        rw [if_pos (by simp)]
        refine ⟨a, ha, by omega, by omega, A, d.args.length, c, d1, a', ha', by omega, by omega, A', d.args.length, c', e1, ?_⟩
        refine call_gives hw' (fun w1 e1 _ => gives68 (RowAt.keep (NumE.kept _) hargs (ext_keeps e1)) (RowAt.keep (NumE.kept _) hargs' (ext_keeps e1))) fun w1 e1 hw1 => ⟨_, rfl, ?_⟩
        rw [if_neg (by simp)]
        have hwi := wrap_succ hlt hx.dfs.small
        rw [hwi]
        exact ih (i + 1) w1 (by omega) (by omega) hw1
      · rw [if_neg (by simpa using hlt)]
        refine call_gives hw' (fun w1 e1 _ => gives68 (RowAt.keep (NumE.kept _) hx'.locals (ext_keeps e1)) (RowAt.keep (NumE.kept _) hy'.locals (ext_keeps e1))) fun w1 e1 hw1 => ⟨_, rfl, ?_⟩
        rw [if_pos (by simp)]
        refine call_gives hw1 (fun w2 e2 _ => gives68 (RowAt.keep (NumE.kept _) (RowAt.keep (NumE.kept _) hx'.ops (ext_keeps e1)) (ext_keeps e2)) (RowAt.keep (NumE.kept _) (RowAt.keep (NumE.kept _) hy'.ops (ext_keeps e1)) (ext_keeps e2))) fun w2 e2 hw2 => ⟨_, rfl, ret_is hw2 (by simp)⟩
  exact ⟨x.dfs.length + 1, loop (x.dfs.length + 1) 0 w (by omega) (by omega) (Below.refl _ _)⟩
def oneF : Fnc := ⟨0, 1, 0, [⟨3, 0, 0⟩, ⟨18, 0, 0⟩]⟩
def OneQ (w1 : World) : Value → World → Prop := fun u w2 => ∃ C c, u = .agg ⟨[.slice C 1 c]⟩ ∧ ProgAt (newW w1.heap.size w2) C 1 [oneF]
theorem yields97 (w : World) : Yields Try.prog 97 [] w (OneQ w) := by
  refine yields_of (V97.sound ?_)
  intro q0 _
  refine expo_alloc (Nat.le_refl _) fun w1 w2 hs1 e2 hl2 ho2 => ?_
  refine expo_alloc e2.size fun w3 w4 hs3 e4 hl4 ho4 => ?_
  refine ret_q (e4.after e2.below) fun w5 e5 => ⟨_, _, rfl, ?_⟩
  have h1 : (newW w.heap.size w5).heap[w1.heap.size]? = some (.cells ⟨oneF.code.flatMap insV⟩ 26 (0, 0)) := by
    rw [newW_heap hs1]; exact e5.row _ _ _ _ (e4.row _ _ _ _ ho2)
  have h2 : (newW w.heap.size w5).heap[w3.heap.size]? = some (.cells ⟨[.int .i64 oneF.params, .int .i64 oneF.locals, .int .i64 oneF.refs, .slice (some ⟨w1.heap.size, 0, none⟩) oneF.code.length 2]⟩ 29 (0, 0)) := by
    rw [newW_heap (Nat.le_trans e2.size hs3)]; exact e5.row _ _ _ _ ho4
  exact prog_lit (f := oneF) h2 (code_lit h1 (by simp [oneF]))
theorem call_one {w0 w : World} {bs : List Nat} {K : Value → World → Prop} (hB : w0.heap.size ≤ w.heap.size) (hk : ∀ C c w', Ext w0.heap.size w w' → ProgAt (newW w.heap.size w') C 1 [oneF] → K (.agg ⟨[.slice C 1 c]⟩) w') : CallK Try.prog 97 [] w0.heap.size w bs K := by
  refine call_yieldsX (Q := OneQ) hB (fun w1 _ => yields97 w1) fun w1 u w2 w' hs hQ hnew he => ?_
  obtain ⟨C, c, rfl, hp⟩ := hQ
  refine hk C c w' he (RowAt.keep FncE.kept hp fun q v hq => ?_)
  obtain ⟨h1, h2⟩ := newW_cell.1 hq
  exact newW_cell.2 ⟨(cell_same (hnew _ h2)).trans h1, Nat.le_trans hs h2⟩
def oneX : Frm := ⟨0, 1, 0, false, 0, [], [9], [5]⟩
def oneMem : List Int := writeM [oneF] (List.replicate 64 0) 48 (-1) oneX
theorem one_sized : Sized [oneF] := fun f hf => by
  simp at hf; subst hf; rfl
theorem oneX_wd : FrmWd oneX := ⟨by decide, fun x hx => by simp [oneX] at hx; omega, fun x hx => by simp [oneX] at hx; omega, fun d hd => by simp [oneX] at hd⟩
theorem one_write : writeE [oneF] 64 48 (-1) oneX = 0 := by kernel_rfl
theorem one_read : readM [oneF] oneMem 48 = (oneX, -1, 0) := by kernel_rfl
theorem one_refuse : writeE [oneF] 64 49 (-1) oneX = 1 := by kernel_rfl
theorem oneMem_wd : Wd oneMem := by
  have hd : oneMem.all (fun x => decide (0 ≤ x ∧ x < 18446744073709551616)) = true := by kernel_rfl
  exact fun x hx => of_decide_eq_true (List.all_eq_true.1 hd x hx)
theorem oneMem_len : oneMem.length = 64 := by kernel_rfl
theorem call_read {w0 w : World} {bs : List Nat} {g b : Nat} {mem : List Int} {P : Option Addr} {p : List Fnc} {cap : Nat} {at_ : Int} {K : Value → World → Prop} (hB : w0.heap.size ≤ w.heap.size) (h : ArenaAt w g b mem) (hp : ProgAt w P p.length p) (hs : Sized p) (hpl : p.length ≤ 1000)
    (hk : ∀ s w', Ext w0.heap.size w w' → FrmAt (newW w.heap.size w') (readM p mem at_).1 s → K (.tuple ⟨[frmV (readM p mem at_).1 s, .int .i64 (readM p mem at_).2.1, .int .i64 (readM p mem at_).2.2]⟩) w') :
    CallK Try.prog 54 [.pointer (some ⟨g, 0, none⟩), .agg ⟨[.slice P p.length cap]⟩, .int .i64 at_] w0.heap.size w bs K := by
  refine call_yieldsX (Q := ReadQ (readM p mem at_)) hB (fun w1 e1 => yields54 (h.ext e1) (RowAt.keep FncE.kept hp (ext_keeps e1)) hs hpl at_) fun w1 u w2 w' hsz hQ hnew he => ?_
  obtain ⟨s, rfl, hf⟩ := hQ
  refine hk s w' he (hf.keep fun q v hq => ?_)
  obtain ⟨h1, h2⟩ := newW_cell.1 hq
  exact newW_cell.2 ⟨(cell_same (hnew _ h2)).trans h1, Nat.le_trans hsz h2⟩
theorem gives47 (w : World) : Gives Try.prog 47 [] w (.bool true) := by
  refine gives_of (V47.sound ?_)
  unfold V47.vc
  refine call_new (pages := 1) (by decide) (Below.refl _ _) fun g b w1 e1 hw1 ha hg hb => ⟨_, rfl, ?_⟩
  show V47.b0 _ _ ⟨g, 0, none⟩ w1
  obtain ⟨z, hz, hzl, hzw, hze, hzwd⟩ : ∃ z : List Int, List.replicate (1 * 64) 0 = z ∧ z.length = 64 ∧ writeM [oneF] z 48 (-1) oneX = oneMem ∧ writeE [oneF] z.length 48 (-1) oneX = 0 ∧ Wd z := ⟨_, rfl, by simp, rfl, one_write, zeros_wd 64⟩
  rw [hz] at ha
  clear hz
  obtain ⟨z1, hz1, h1l, h1r, h1e, h1w⟩ : ∃ z1 : List Int, oneMem = z1 ∧ z1.length = 64 ∧ readM [oneF] z1 48 = (oneX, -1, 0) ∧ writeE [oneF] z1.length 49 (-1) oneX = 1 ∧ Wd z1 := ⟨_, rfl, oneMem_len, one_read, by rw [oneMem_len]; exact one_refuse, oneMem_wd⟩
  rw [hz1] at hzw
  clear hz1
  unfold V47.b0
  have hbw : b < w1.heap.size := ha.words.lt
  intro w2 e2 _ w3
  obtain ⟨e3, o3⟩ : Ext w.heap.size w1 w3 ∧ w3.heap[w2.heap.size]? = some (.cells ⟨[.int .u64 9]⟩ 51) := alloc1 (.cells ⟨[.int .u64 9]⟩ 51) e2 hw1.size
  have hs2 := e2.size
  have hs23 : w2.heap.size ≤ w3.heap.size := Nat.le_of_lt (lt_of_some o3)
  clear_value w3
  intro w4 e4 _ w5
  have hw3 := e3.after hw1
  obtain ⟨e5, o5⟩ : Ext w.heap.size w3 w5 ∧ w5.heap[w4.heap.size]? = some (.cells ⟨[.int .u64 5]⟩ 51) := alloc1 (.cells ⟨[.int .u64 5]⟩ 51) e4 hw3.size
  have hs4 := e4.size
  clear_value w5
  intro q2 _
  have hw5 := e5.after hw3
  have ha5 := (ha.ext e3).ext e5
  have o35 := e5.row _ _ _ _ o3
  have hs35 := e3.size
  -- the frame
  have hX5 : FrmAt (off b w5) oneX ⟨none, 0, some ⟨w2.heap.size, 0, none⟩, 1, some ⟨w4.heap.size, 0, none⟩, 1⟩ := by
    have h1 : OwnI (off b w5) w2.heap.size .u64 51 [9] := by
      unfold OwnI off; rw [mask1_ne w5 (by omega)]; exact o35
    have h2 : OwnI (off b w5) w4.heap.size .u64 51 [5] := by
      unfold OwnI off; rw [mask1_ne w5 (by omega)]; exact o5
    exact ⟨⟨rfl, Nat.zero_le _, fun i x h => by simp [oneX] at h⟩, h1.nums (by simp [maxLen]), h2.nums (by simp [maxLen])⟩
  refine call_one hw5.size fun C1 c1 w6 e6 hp6 => ⟨_, _, _, rfl, ?_⟩
  have hw6 := e6.after hw5
  have hbn : b < w5.heap.size := ha5.words.lt
  have ha6 := ha5.ext e6
  have hX6 := hX5.keep (ext_off e6)
  have hP6 : ProgAt (off b w6) C1 1 [oneF] := RowAt.keep FncE.kept hp6 (newW_off hbn)
  refine call_puts hw6.size ha6.words (fun w7 e7 => puts52 (p := [oneF]) (x := oneX) (s := ⟨none, 0, some ⟨w2.heap.size, 0, none⟩, 1, some ⟨w4.heap.size, 0, none⟩, 1⟩) (ha6.ext e7) (RowAt.keep FncE.kept hP6 (ext_off e7)) one_sized (by simp) 48 (-1) (hX6.keep (ext_off e7)) oneX_wd) fun w7 e7 ho7 => ⟨_, rfl, ?_⟩
  have hw7 := e7.after (fun k h => by subst h; exact hb) hw6
  rw [hzw] at ho7
  have ha7 : ArenaAt w7 g b z1 := ha6.turned e7 ho7 (by rw [h1l, hzl]) h1w
  have hX7 := hX6.keep (extS_off e7)
  refine call_one hw7.size fun C2 c2 w8 e8 hp8 => ⟨_, _, _, rfl, ?_⟩
  have hw8 := e8.after hw7
  have ha8 := ha7.ext e8
  refine call_read (p := [oneF]) hw8.size ha8 (RowAt.keep FncE.kept hp8 newW_in) one_sized (by simp) fun s w9 e9 hf9 => ?_
  rw [h1r] at hf9 ⊢
  simp only at hf9
  have hw9 := e9.after hw8
  refine ⟨_, _, _, _, _, _, _, _, _, _, _, _, _, _, _, _, rfl, ?_⟩
  intro q4 _
  rw [hze, if_pos (by simp)]
  refine call_one hw9.size fun C3 c3 w10 e10 hp10 => ⟨_, _, _, rfl, ?_⟩
  have hw10 := e10.after hw9
  have ha10 := (ha8.ext e9).ext e10
  have hX10 := ((hX7.keep (ext_off e8)).keep (ext_off e9)).keep (ext_off e10)
  have hbn9 : b < w9.heap.size := (ha8.ext e9).words.lt
  have hP10 : ProgAt (off b w10) C3 1 [oneF] := RowAt.keep FncE.kept hp10 (newW_off hbn9)
  refine call_puts hw10.size ha10.words (fun w11 e11 => puts52 (p := [oneF]) (x := oneX) (s := ⟨none, 0, some ⟨w2.heap.size, 0, none⟩, 1, some ⟨w4.heap.size, 0, none⟩, 1⟩) (ha10.ext e11) (RowAt.keep FncE.kept hP10 (ext_off e11)) one_sized (by simp) 49 (-1) (hX10.keep (ext_off e11)) oneX_wd) fun w11 e11 ho11 => ⟨_, rfl, ?_⟩
  have hw11 := e11.after (fun k h => by subst h; exact hb) hw10
  rw [h1e, if_pos (by simp), if_pos (by simp), if_pos (by simp)]
  have hX11 : FrmAt w11 oneX ⟨none, 0, some ⟨w2.heap.size, 0, none⟩, 1, some ⟨w4.heap.size, 0, none⟩, 1⟩ := (hX10.keep (extS_off e11)).keep off_in
  have hb8 : b < w8.heap.size := ha8.words.lt
  have hY11 : FrmAt w11 oneX s := (((hf9.keep (newW_off hb8)).keep (ext_off e10)).keep (extS_off e11)).keep off_in
  exact call_gives hw11 (fun w12 e12 _ => gives56 (x := oneX) (s := ⟨none, 0, some ⟨w2.heap.size, 0, none⟩, 1, some ⟨w4.heap.size, 0, none⟩, 1⟩) (t := s) (hX11.keep (ext_keeps e12)) (hY11.keep (ext_keeps e12))) fun w12 _ hw12 => ⟨_, rfl, ret_is hw12 rfl⟩
end Go.Proofs.Ytlccbaemcfjdoaa
