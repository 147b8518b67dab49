/-
  Layer 18: the law's function FrameStacks returns true.
  Conditions: the numbers, and the words, lie in memory as told.
-/
import Derived.Test.YtlccbaemcfjdoaaZX18
import Derived.Test.YtlccbaemcfjdoaaZC40
import Derived.Test.YtlccbaemcfjdoaaZW14
set_option linter.unusedVariables false
set_option linter.unusedSimpArgs false
namespace Go.Proofs.Ytlccbaemcfjdoaa
open Go.RowKit
theorem frms_at {w : World} {A : Option Addr} {l : Nat} {xs : List Frm} (h : Frms w A l xs) {i : Nat} (hi : i < l) : ∃ x q s, xs[i]? = some x ∧ A = some q ∧ FrmAt w x s ∧ ∀ j u, (frmC x s)[j]? = some u → w.cell? ((q.add (i * 8)).add j) = some u := by
  obtain ⟨x, q, hx, hq, s, hc, hf⟩ := RowAt.at h hi
  exact ⟨x, q, s, hx, hq, hf, hc⟩
theorem stk_pre {p : List Fnc} {mem : List Int} {lo : Int} {xs : List Frm} (hs : Sized p) (hpl : p.length ≤ 1000) (hlo : 0 ≤ lo) (hok : StkOk p mem lo xs) (i : Nat) : StkAll p mem lo (xs.take i) ∧ (stk p mem lo (xs.take i)).fin ≤ mem.length ∧ (∀ x, xs[i]? = some x → (stk p mem lo xs).ats[i]? = some (stk p mem lo (xs.take i)).fin ∧ (stk p mem lo (xs.take i)).fin + sizeX p x ≤ mem.length ∧ stk p mem lo (xs.take (i + 1)) = stepK p (stk p mem lo (xs.take i)) x) := by
  have hall := stk_all hs hpl hlo xs hok.may hok.wd hok.fin
  have hfit : ∀ x, xs[i]? = some x → (stk p mem lo xs).ats[i]? = some (stk p mem lo (xs.take i)).fin ∧ (stk p mem lo (xs.take i)).fin + sizeX p x ≤ mem.length ∧ stk p mem lo (xs.take (i + 1)) = stepK p (stk p mem lo (xs.take i)) x := fun x hx => by
    have hi := (List.getElem?_eq_some_iff.1 hx).1
    have ha := stk_at p mem lo xs i hi
    have := hall.fit i x _ hx ha
    have hf := hok.fin
    refine ⟨ha, by omega, ?_⟩
    rw [← stk_snoc]
    congr 1
    rw [List.take_add_one, hx]; rfl
  have hfin : (stk p mem lo (xs.take i)).fin ≤ mem.length := by
    by_cases hi : i < xs.length
    · obtain ⟨_, h2, _⟩ := hfit _ (List.getElem?_eq_getElem hi)
      have := (size_may hs (hok.may _ (List.getElem_mem hi))).choose_spec
      omega
    · rw [List.take_of_length_le (by omega)]; exact hok.fin
  exact ⟨stk_all hs hpl hlo _ (fun x hx => hok.may x (List.mem_of_mem_take hx)) (fun x hx => hok.wd x (List.mem_of_mem_take hx)) hfin, hfin, hfit⟩
section
variable {w0 : World} {p : List Fnc} {P : Option Addr} {cap g b : Nat} {lo : Int} {mem : List Int} {xs : List Frm} {FA TA : Option Addr} {fc tc : Nat}
theorem l2_14 (hs : Sized p) (hpl : p.length ≤ 1000) (hlo : 0 ≤ lo) (hok : StkOk p mem lo xs) {q9 : Nat} : ∀ (k i : Nat) (w : World), xs.length < i + k → i ≤ xs.length → Below w0.heap.size w0 w → ArenaAt w g b (stk p mem lo xs).mem → ProgAt (off b w) P p.length p → Frms (off b w) FA xs.length xs → Nums .i64 (off b w) TA xs.length (stk p mem lo xs).ats →
    V14.l2 w0.heap.size (IsV w0 (.bool true)) k FA xs.length fc TA xs.length tc ⟨g, 0, none⟩ i q9 P p.length cap w := by
  have hall := stk_all hs hpl hlo xs hok.may hok.wd hok.fin
  intro k
  induction k with
  | zero => intros; omega
  | succ k ih =>
    intro i w hk hi hw ha hp hF hT
    dsimp -zeta only [V14.l2]
    by_cases hlt : i < xs.length
    · rw [if_pos (by simpa using hlt)]
      obtain ⟨x, q, s, hx, hq, hf, hc⟩ := frms_at hF hlt
      obtain ⟨a, qa, hat, hqa, hca⟩ := Nums.at hT hlt
      have hmx := hok.may x (List.mem_of_getElem? hx)
      have hwx := hok.wd x (List.mem_of_getElem? hx)
      have hr := (hall.chain.frm i x a hx hat).read hs hpl hmx hwx
      have body : ∀ (q21 : Nat) (s2 : Sls) (w1 : World), Ext w0.heap.size w w1 → FrmAt (newW w.heap.size w1) x s2 →
          V14.b3 w0.heap.size (IsV w0 (.bool true)) (V14.l2 w0.heap.size (IsV w0 (.bool true)) k) FA xs.length fc TA xs.length tc ⟨g, 0, none⟩ i 0 q21 x.f x.pc x.mode x.dfd x.value s2.D x.dfs.length s2.dc s2.L x.locals.length s2.lc s2.O x.ops.length s2.oc q9 P p.length cap w1 := by
        intro q21 s2 w1 e1 hf2
        have hw1 := e1.after hw
        have hcell : ∀ j u, (frmC x s)[j]? = some u → w1.cell? ((q.add ((i : Int).toNat * 8)).add j) = some u := fun j u hj => by rw [Int.toNat_natCast]; exact e1.cell (off_in _ _ (hc j u hj))
        unfold V14.b3
        rw [if_pos (by simp)]
        refine ⟨q, hq, by omega, by omega, x.f, hcell 0 _ rfl, x.pc, hcell 1 _ rfl, x.mode, hcell 2 _ rfl, x.dfd, hcell 3 _ rfl, x.value, hcell 4 _ rfl, s.D, _, s.dc, hcell 5 _ rfl, s.L, _, s.lc, hcell 6 _ rfl, s.O, _, s.oc, hcell 7 _ rfl, ?_⟩
        have hS := (hf.keep off_in).keep (ext_keeps e1)
        refine call_gives hw1 (fun w2 e2 _ => gives56 (x := x) (s := s2) (t := s) ((hf2.keep newW_in).keep (ext_keeps e2)) (hS.keep (ext_keeps e2))) fun w2 e2 hw2 => ⟨_, rfl, ?_⟩
        rw [if_neg (by simp)]
        have hwi : IntKind.wrap .i64 ((i : Int) + 1) = ((i + 1 : Nat) : Int) := by have := hok.few; rw [wrap_id (by omega) (by omega)]; rfl
        rw [hwi]
        have k2 : ∀ q v, (off b w).cell? q = some v → (off b w2).cell? q = some v := fun q v h => ext_off e2 _ _ (ext_off e1 _ _ h)
        exact ih (i + 1) w2 (by omega) (by omega) hw2 ((ha.ext e1).ext e2) (RowAt.keep FncE.kept hp k2) (RowAt.keep FrmE.kept hF k2) (RowAt.keep (NumE.kept _) hT k2)
      have hca' : w.cell? (qa.add (i : Int).toNat) = some (.int .i64 a) := by rw [Int.toNat_natCast]; exact off_in _ _ hca
      refine ⟨⟨qa, hqa, by omega, by omega, a, hca', ?_⟩, ⟨qa, hqa, by omega, by omega, a, hca', fun q21 _ => ⟨hca', ?_⟩⟩⟩
      · refine call_read hw.size ha (RowAt.keep FncE.kept hp off_in) hs hpl fun s2 w1 e1 hf2 => ?_
        rw [hr] at hf2 ⊢
        exact ⟨_, _, _, _, _, _, _, _, _, _, _, _, _, _, _, _, rfl, fun q21 _ => body q21 s2 w1 e1 hf2⟩
      · refine call_read hw.size ha (RowAt.keep FncE.kept hp off_in) hs hpl fun s2 w1 e1 hf2 => ?_
        rw [hr] at hf2 ⊢
        exact ⟨_, _, _, _, _, _, _, _, _, _, _, _, _, _, _, _, rfl, body q21 s2 w1 e1 hf2⟩
    · rw [if_neg (by simpa using hlt)]
      exact call_gives hw (fun w1 _ _ => gives47 w1) fun w1 _ hw1 => ⟨_, rfl, ret_is hw1 rfl⟩
theorem l1_14 (hs : Sized p) (hpl : p.length ≤ 1000) (hlo : 0 ≤ lo) (hok : StkOk p mem lo xs) (hm : Wd mem) (hml : mem.length = 512) {q9 : Nat} (hb : w0.heap.size ≤ b) : ∀ (k i : Nat) (w : World), xs.length < i + k → i ≤ xs.length → Below w0.heap.size w0 w → ArenaAt w g b (stk p mem lo (xs.take i)).mem → ProgAt (off b w) P p.length p → Frms (off b w) FA xs.length xs → Nums .i64 (off b w) TA xs.length (stk p mem lo xs).ats →
    V14.l1 w0.heap.size (IsV w0 (.bool true)) k FA xs.length fc TA xs.length tc (stk p mem lo xs).fin ⟨g, 0, none⟩ (stk p mem lo (xs.take i)).below i q9 P p.length cap w := by
  have hall := stk_all hs hpl hlo xs hok.may hok.wd hok.fin
  have hfew := hok.few
  intro k
  induction k with
  | zero => intros; omega
  | succ k ih =>
    intro i w hk hi hw ha hp hF hT
    dsimp -zeta only [V14.l1]
    obtain ⟨hpre, hpfin, hnext⟩ := stk_pre hs hpl hlo hok i
    by_cases hlt : i < xs.length
    · rw [if_pos (by simpa using hlt)]
      obtain ⟨x, q, s, hx, hq, hf, hc⟩ := frms_at hF hlt
      obtain ⟨a, qa, hat, hqa, hca⟩ := Nums.at hT hlt
      obtain ⟨hat2, hfit, hstep⟩ := hnext x hx
      rw [hat] at hat2; cases hat2
      have hmx := hok.may x (List.mem_of_getElem? hx)
      have hwx := hok.wd x (List.mem_of_getElem? hx)
      have hca' : w.cell? (qa.add (i : Int).toNat) = some (.int .i64 (stk p mem lo (xs.take i)).fin) := by rw [Int.toNat_natCast]; exact off_in _ _ hca
      have hcell : ∀ j u, (frmC x s)[j]? = some u → w.cell? ((q.add ((i : Int).toNat * 8)).add j) = some u := fun j u hj => by rw [Int.toNat_natCast]; exact off_in _ _ (hc j u hj)
      refine ⟨qa, hqa, by omega, by omega, _, hca', ?_⟩
      refine ⟨q, hq, by omega, by omega, x.f, hcell 0 _ rfl, x.pc, hcell 1 _ rfl, x.mode, hcell 2 _ rfl, x.dfd, hcell 3 _ rfl, x.value, hcell 4 _ rfl, s.D, _, s.dc, hcell 5 _ rfl, s.L, _, s.lc, hcell 6 _ rfl, s.O, _, s.oc, hcell 7 _ rfl, ?_⟩
      have hml2 := stk_mem_len p mem lo (xs.take i)
      have h0 := hpre.fin0
      have hbel := hpre.bel
      have hwok : writeOk p (stk p mem lo (xs.take i)).mem.length (stk p mem lo (xs.take i)).fin (stk p mem lo (xs.take i)).below x = true := write_ok hs hmx (by omega) (by rw [hml2]; omega) ⟨hbel.1, by rw [hml2]; omega⟩
      refine call_write (x := x) (s := s) hw.size ha hp hs hpl hf hwx (writeM_wd ha.wd (by omega) hpl _ _ hwx) fun w1 e1 ha1 => ⟨_, rfl, ?_⟩
      have hw1 := e1.after (fun j h => by subst h; exact hb) hw
      rw [if_neg (by unfold writeE; rw [if_pos hwok]; simp)]
      have hwi : IntKind.wrap .i64 ((i : Int) + 1) = ((i + 1 : Nat) : Int) := by rw [wrap_id (by omega) (by omega)]; rfl
      have k1 := extS_off e1
      have hca1 : w1.cell? (qa.add (i : Int).toNat) = some (.int .i64 (stk p mem lo (xs.take i)).fin) := by rw [Int.toNat_natCast]; exact off_in _ _ (k1 _ _ hca)
      refine ⟨qa, hqa, by omega, by omega, _, hca1, ?_⟩
      rw [hwi]
      have := ih (i + 1) w1 (by omega) (by omega) hw1 (by rw [hstep]; exact ha1) (RowAt.keep FncE.kept hp k1) (RowAt.keep FrmE.kept hF k1) (RowAt.keep (NumE.kept _) hT k1)
      rw [hstep] at this
      exact this
    · rw [if_neg (by simpa using hlt)]
      have htk : xs.take i = xs := List.take_of_length_le (by omega)
      rw [htk] at ha ⊢
      have hml2 := stk_mem_len p mem lo xs
      have hwm : walkM p (stk p mem lo xs).mem (stk p mem lo xs).below = ((stk p mem lo xs).ats.reverse, 0) := by
        rw [stk_below]
        exact walkM_chain hs hpl hall.chain (by rw [hml2]; omega)
      refine call_walk hw.size ha (RowAt.keep FncE.kept hp off_in) hs hpl fun A c w1 e1 hN => ⟨A, _, c, _, rfl, ?_⟩
      rw [hwm] at hN ⊢
      have hw1 := e1.after hw
      rw [if_pos (by simp)]
      have hT1 := RowAt.keep (NumE.kept _) (RowAt.keep (NumE.kept _) hT off_in) (ext_keeps e1)
      have hal := stk_ats_len p mem lo xs
      refine call_yieldsX (Q := fun w1 u w2 => ∃ A c, u = .slice A (stk p mem lo xs).ats.length c ∧ Nums .i64 (newW w1.heap.size w2) A (stk p mem lo xs).ats.length (stk p mem lo xs).ats.reverse) hw1.size (fun w2 e2 => yields61 (RowAt.keep (NumE.kept _) hT1 (ext_keeps e2)) (by omega)) fun w2 u w3 w4 hsz hQ hnew e4 => ?_
      obtain ⟨A2, c2, rfl, hN2⟩ := hQ
      refine ⟨A2, _, c2, rfl, ?_⟩
      have hw4 := e4.after hw1
      have hN4 : Nums .i64 w4 A2 (stk p mem lo xs).ats.length (stk p mem lo xs).ats.reverse := RowAt.keep (NumE.kept _) hN2 fun q v hq => by
        obtain ⟨h1, h2⟩ := newW_cell.1 hq
        exact (cell_same (hnew _ h2)).trans h1
      have hN3 := RowAt.keep (NumE.kept _) (RowAt.keep (NumE.kept _) hN newW_in) (ext_keeps e4)
      refine call_gives hw4 (fun w5 e5 _ => gives40 (RowAt.keep (NumE.kept _) hN3 (ext_keeps e5)) (RowAt.keep (NumE.kept _) hN4 (ext_keeps e5))) fun w5 e5 hw5 => ⟨_, rfl, ?_⟩
      have hfin := hok.fin
      rw [if_pos (by simp), if_neg (by simp; omega)]
      have k5 : ∀ q v, (off b w).cell? q = some v → (off b w5).cell? q = some v := fun q v h => ext_off e5 _ _ (ext_off e4 _ _ (ext_off e1 _ _ h))
      exact ⟨xs.length + 1, l2_14 hs hpl hlo hok (xs.length + 1) 0 w5 (by omega) (by omega) hw5 (((ha.ext e1).ext e4).ext e5) (RowAt.keep FncE.kept hp k5) (RowAt.keep FrmE.kept hF k5) (RowAt.keep (NumE.kept _) hT k5)⟩
end
theorem stkOk_other {p : List Fnc} {mem mem' : List Int} {lo : Int} {xs : List Frm} (h : StkOk p mem lo xs) (hl : mem'.length = mem.length) : StkOk p mem' lo xs := ⟨h.few, h.may, h.wd, by rw [(stk_ind p mem' mem lo xs).2.1, hl]; exact h.fin⟩
theorem gives14 {w : World} {A A1 A2 : Option Addr} {l c l1 c1 l2 c2 : Nat} {ns fs ws : List Int} (hns : BytesAt w A l c ns) (hfs : BytesAt w A1 l1 c1 fs) (hws : Nums .u64 w A2 l2 ws) (hwd : Wd ws) {lo : Int} (hlo : 0 ≤ lo ∧ lo < 256) :
    Gives Try.prog 14 [.slice A l c, .slice A1 l1 c1, .slice A2 l2 c2, .int .u8 lo] w (.bool true) := by
  refine gives_of (V14.sound ?_)
  unfold V14.vc
  refine call_madeN (Below.refl _ _) hns fun p C c' w1 hmade hp hc he hw => ⟨C, p.length, c', rfl, ?_⟩
  intro q9 _
  have hs : Sized p := hmade.sized
  have hpl : 1 ≤ p.length ∧ p.length ≤ 1000 := ⟨hmade.pos, by have := hmade.few; omega⟩
  have hp1 : ProgAt w1 C p.length p := RowAt.keep FncE.kept hp newW_in
  have hb8 : Try.t51.bytes = 8 := by kernel_rfl
  refine make_own (t := 50) (e := 51) (i := Try.t51) (z := .int .u64 0) (size := 1) (n := 512) (by kernel_rfl) (by kernel_rfl) (by kernel_rfl) (by kernel_rfl) (by rw [hb8]; omega) (by simp only [maxLen]; omega) hw.size fun m w2 hm e2 ho => ⟨_, _, _, rfl, ?_⟩
  rw [zeros_cells] at ho
  have hw2 := e2.after hw
  have hW : WordsAt w2 (some ⟨m, 0, none⟩) (List.replicate 512 (0 : Int)).length 512 (List.replicate 512 0) := ⟨OwnI.nums (e := 51) (xs := List.replicate 512 (0 : Int)) ho (by simp only [maxLen, List.length_replicate]; omega), zeros_wd _, by rw [List.length_replicate]; omega, by rw [List.length_replicate]; omega⟩
  rw [wrap_id (n := lo) (by omega) (by omega)]
  have hp2 := RowAt.keep FncE.kept hp1 (ext_keeps e2)
  have := call_stacked (w0 := w) (bs := [q9]) (P := C) (cap := c') hw2.size hp2 hs hpl (hfs.keep (below_keeps hw2)) (lo := lo) (by rw [List.length_replicate]; omega) hW (by rw [List.length_replicate]; omega) (K := fun v_2 w_3 =>
    ∃ (A32 : Option Addr) (A32l A32c : Nat) (A32_1 : Option Addr) (A32_1l A32_1c : Nat) (A32_2 : Option Addr) (A32_2l A32_2c : Nat) (x32 : Int), v_2 = .tuple ⟨[.slice A32 A32l A32c, .slice A32_1 A32_1l A32_1c, .slice A32_2 A32_2l A32_2c, .int .i64 x32]⟩ ∧
    CallK Try.prog 41 [.int .i64 8, .slice A2 l2 c2] w.heap.size w_3 [q9] fun v_3 w_4 =>
    ∃ (op39 A39 : Option Addr) (A39l A39c : Nat), v_3 = .tuple ⟨[.pointer op39, .slice A39 A39l A39c]⟩ ∧
    caseP op39 (False) (fun p39 => V14.b0 w.heap.size (IsV w (.bool true)) A32 A32l A32c A32_1 A32_1l A32_1c x32 p39 q9 C p.length c' w_4)) ?_
  · rw [List.length_replicate] at this
    exact this
  intro xs FA fc TA tc MA mc w3 e3 hok hF hM hT
  refine ⟨_, _, _, _, _, _, _, _, _, _, rfl, ?_⟩
  have hw3 := e3.after hw2
  refine call_laid (pages := 8) (by decide) hw3 (RowAt.keep (NumE.kept _) hws (below_keeps hw3)) hwd fun g b m2 mem w4 e4 hw4 ha hm2 hl hg hb hm0 hmb => ⟨_, _, _, _, rfl, ?_⟩
  show V14.b0 _ _ FA xs.length fc TA xs.length tc _ ⟨g, 0, none⟩ q9 C p.length c' w4
  unfold V14.b0
  have hl512 : mem.length = 512 := hl
  have hok' : StkOk p mem lo xs := stkOk_other hok (by rw [hl512, List.length_replicate])
  obtain ⟨hi1, hi2, hi3⟩ := stk_ind p (List.replicate 512 0) mem lo xs
  rw [hi2]
  rw [hi3] at hT
  have hal := stk_ats_len p mem lo xs
  have hfew := hok.few
  have hT3 : Nums .i64 (newW w2.heap.size w3) TA xs.length (stk p mem lo xs).ats := by
    have := owns_newk (A := TA) (c := tc) (xs := (stk p mem lo xs).ats) (e := 3) (B := w2.heap.size) (w := w3) (by rw [hal]; exact hT) (by omega)
    rwa [hal] at this
  have kk : ∀ {q v}, w3.cell? q = some v → (off b w4).cell? q = some v := fun {q v} h => off_old hb (fun _ _ h' => e4.cell h') _ _ h
  refine ⟨xs.length + 1, ?_⟩
  exact l1_14 hs hpl.2 hlo.1 hok' ha.wd hl512 (Nat.le_trans hw3.size hb) (xs.length + 1) 0 w4 (by omega) (by omega) hw4 ha (RowAt.keep FncE.kept hp2 fun q v h => kk (e3.cell h)) (RowAt.keep FrmE.kept hF fun q v h => kk (newW_in _ _ h)) (RowAt.keep (NumE.kept _) hT3 fun q v h => kk (newW_in _ _ h))
end Go.Proofs.Ytlccbaemcfjdoaa
