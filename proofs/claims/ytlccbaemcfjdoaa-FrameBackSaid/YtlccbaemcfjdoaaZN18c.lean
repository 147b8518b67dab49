/-
  Layer 18: the law's function FrameBack returns true.
  Conditions: the numbers, and the words, lie in memory as told.
-/
import Derived.Test.YtlccbaemcfjdoaaZRW18
import Derived.Test.YtlccbaemcfjdoaaZW12
set_option linter.unusedVariables false
set_option linter.unusedSimpArgs false
namespace Go.Proofs.Ytlccbaemcfjdoaa
open Go.RowKit
theorem wrap_i8 {n : Int} (h0 : -128 ≤ n) (h1 : n < 128) : IntKind.wrap .i64 n = n := wrap_id (by omega) (by omega)
theorem l1_12 {w0 : World} {g b m n : Nat} (hn : n ≤ 1000) {mem M : List Int} {at_ size : Int} (hat : 0 ≤ at_ ∧ at_ ≤ 1000) (hsz : 0 ≤ size ∧ size ≤ 1000) (hl : mem.length = n) (hlM : M.length = n) (hsame : ∀ j, j < at_.toNat ∨ at_.toNat + size.toNat ≤ j → M.getD j 0 = mem.getD j 0) :
    ∀ (k i : Nat) (w : World), n < i + k → i ≤ n → Below w0.heap.size w0 w → ArenaAt w g b M → OwnI w m .u64 51 mem → V12.l1 w0.heap.size (IsV w0 (.bool true)) k ⟨g, 0, none⟩ (some ⟨m, 0, none⟩) n n at_ size i w := by
  intro k
  induction k with
  | zero => intros; omega
  | succ k ih =>
    intro i w hk hi hw ha hm
    dsimp -zeta only [V12.l1]
    have hwi : IntKind.wrap .i64 ((i : Int) + 1) = ((i + 1 : Nat) : Int) := by rw [wrap_id (by omega) (by omega)]; rfl
    by_cases hlt : i < n
    · rw [if_pos (decide_eq_true (show (i : Int) < (n : Int) by omega))]
      refine call_gives hw (fun w1 e1 _ => gives57 (ha.ext e1) i) fun w1 e1 hw1 => ?_
      have hin : inM M.length i 1 = true := by unfold inM; exact decide_eq_true (by omega)
      unfold loadV
      rw [if_pos hin, Int.toNat_natCast]
      refine ⟨_, _, rfl, ?_⟩
      have next := ih (i + 1) w1 (by omega) (by omega) hw1 (ha.ext e1) (hm.ext e1)
      have hcell := (hm.ext e1).cell (getD_get (d := mem) (i := i) (by omega))
      rw [wrap_id (n := at_ + size) (by omega) (by omega), hwi]
      by_cases h1 : (i : Int) < at_
      · rw [if_neg (by simpa using h1)]
        refine ⟨_, rfl, by omega, by omega, _, hcell, ?_⟩
        rw [if_neg (by rw [hsame i (by omega)]; simp)]
        exact next
      · rw [if_pos (by simpa using h1)]
        by_cases h2 : (i : Int) ≥ at_ + size
        · rw [if_pos (by simpa using h2)]
          refine ⟨_, rfl, by omega, by omega, _, hcell, ?_⟩
          rw [if_neg (by rw [hsame i (by omega)]; simp)]
          exact next
        · rw [if_neg (by simpa using h2)]
          exact next
    · rw [if_neg (fun e => by have := of_decide_eq_true e; omega)]
      exact call_gives hw (fun w1 _ _ => gives47 w1) fun w1 _ hw1 => ⟨_, rfl, ret_is hw1 rfl⟩
theorem gives12 {w : World} {A A1 A2 : Option Addr} {l c l1 c1 l2 c2 : Nat} {ns fs ws : List Int} (hns : BytesAt w A l c ns) (hfs : BytesAt w A1 l1 c1 fs) (hws : Nums .u64 w A2 l2 ws) (hwd : Wd ws) {at_ below : Int} (hat : 0 ≤ at_ ∧ at_ < 256) (hbel : -128 ≤ below ∧ below < 128) :
    Gives Try.prog 12 [.slice A l c, .slice A1 l1 c1, .slice A2 l2 c2, .int .u8 at_, .int .i8 below] w (.bool true) := by
  refine gives_of (V12.sound ?_)
  unfold V12.vc
  refine call_madeN (Below.refl _ _) hns fun p C c' w1 hmade hp hc he hw => ⟨C, p.length, c', rfl, ?_⟩
  intro q11 _
  refine call_laid (pages := 4) (by decide) hw (RowAt.keep (NumE.kept _) hws (below_keeps hw)) hwd fun g b m mem w2 e2 hw2 ha hm hl hg hb hm0 hmb => ⟨_, _, _, _, rfl, ?_⟩
  show V12.b0 _ _ A1 l1 c1 at_ below ⟨g, 0, none⟩ (some ⟨m, 0, none⟩) 256 256 q11 C p.length c' w2
  unfold V12.b0
  have hs : Sized p := hmade.sized
  have hpl : 1 ≤ p.length ∧ p.length ≤ 1000 := ⟨hmade.pos, by have := hmade.few; omega⟩
  refine expo_alloc hw2.size fun w3 w4 hs3 e4 hl4 ho4 => ?_
  have hw4 := e4.after hw2
  have hn4 : NumsIn w w4 w3.heap.size := ⟨A1, l1, c1, fs, ho4, hfs⟩
  have hB3 : w.heap.size ≤ w3.heap.size := Nat.le_trans hw2.size hs3
  have hb0 : w.heap.size ≤ b := Nat.le_trans hw.size hb
  have hp1 : ProgAt w1 C p.length p := RowAt.keep FncE.kept hp newW_in
  have hp4 : ∀ j, w1.heap.size ≤ j → ProgAt (off j w4) C p.length p := fun j hj => RowAt.keep FncE.kept hp1 (off_old hj fun q v hq => e4.cell (e2.cell hq))
  have hw1s := e2.size
  refine call_frame hw4 hn4 hB3 (hp4 _ (by omega)) hs hpl fun x s w5 hmay hxw hown e5 hn5 hw5 => ⟨_, _, _, _, _, _, _, _, _, _, _, _, _, _, rfl, ?_⟩
  intro q15 _
  have ha4 := ha.ext e4
  have hbl : b < w2.heap.size := ha.words.lt
  have hgl : g < w2.heap.size := lt_of_some ha.head
  have hml : m < w2.heap.size := hm.lt
  have hneb : ¬ b = w3.heap.size := by omega
  have ha5 : ArenaAt w5 g b mem := ⟨e5.row _ _ _ _ (by omega) ha4.head, e5.row _ _ _ _ hneb ha4.words, ha.wd, ha.len⟩
  have hm5 : OwnI w5 m .u64 51 mem := e5.row _ _ _ _ (by omega) (hm.ext e4)
  have hp5 : ProgAt (off b w5) C p.length p := by
    refine RowAt.keep FncE.kept hp1 (off_old hb fun q v hq => ?_)
    have := cell_lt hq
    exact e5.cell (e4.cell (e2.cell hq)) (by omega)
  obtain ⟨hsm1, hsm2, hsm3, hsm4, hsm5, hsm6⟩ := may_small hs hmay
  obtain ⟨G, q, C', cc, hG, hq, c0, cl1, cl2, c3, hcode⟩ := prog_at (RowAt.keep FncE.kept hp5 off_in) (i := x.f.toNat) (by omega)
  have hfn := fnAt_some (p := p) (show ¬ x.f < 0 by omega) hG
  have hGs := hs G (List.mem_of_getElem? hG)
  have hbd := sized_bd hGs
  refine ⟨by omega, q, hq, by omega, by omega, G.params, c0, G.locals, cl1, G.refs, cl2, C', G.code.length, cc, c3, ?_⟩
  rw [wrap_id (n := at_) (by omega) (by omega), wrap_i8 hbel.1 hbel.2]
  have tk : 0 ≤ Int.tmod at_ 200 ∧ Int.tmod at_ 200 < 200 := ⟨Int.tmod_nonneg _ hat.1, Int.tmod_lt_of_pos _ (by omega)⟩
  generalize Int.tmod at_ 200 = k at tk ⊢
  obtain ⟨B, hB, hB1⟩ : ∃ B : Int, (if (-1 : Int) > below then (-1 : Int) else below) = B ∧ -1 ≤ B ∧ B < 128 := ⟨_, rfl, by split <;> omega, by split <;> omega⟩
  rw [hB]
  refine call_gives hw5 (fun w6 e6 _ => gives33 (RowAt.keep InsE.kept hcode (ext_keeps e6)) _ _ _) fun w6 e6 hw6 => ⟨_, rfl, ?_⟩
  have hX5 : FrmAt (off b w5) x s := (hown.mayAt hs hmay).keep (newW_off (by omega))
  have hl256 : mem.length = 256 := hl
  have hsF := sizeF_eq hGs
  have hah : 7 ≤ aheadM G ∧ aheadM G ≤ 23 := by unfold aheadM; split <;> omega
  have hok : writeOk p mem.length k B x = true := by
    unfold writeOk
    rw [hmay, hfn]
    simp only [Bool.true_and]
    rw [show belowM mem.length B = true by unfold belowM; exact decide_eq_true (by omega), Bool.true_and]
    unfold inM; exact decide_eq_true (by omega)
  have hE : writeE p mem.length k B x = 0 := by unfold writeE; rw [if_pos hok]
  refine call_write (x := x) (s := s) hw6.size (ha5.ext e6) (RowAt.keep FncE.kept hp5 (ext_off e6)) hs hpl.2 (hX5.keep (ext_off e6)) hxw (writeM_wd ha.wd (by omega) hpl.2 k B hxw) fun w7 e7 ha7 => ⟨_, rfl, ?_⟩
  have hw7 := e7.after (fun j h => by subst h; exact hb0) hw6
  have hp7 : ProgAt (off b w7) C p.length p := RowAt.keep FncE.kept (RowAt.keep FncE.kept hp5 (ext_off e6)) (extS_off e7)
  refine call_read hw7.size ha7 (RowAt.keep FncE.kept hp7 off_in) hs hpl.2 fun s8 w8 e8 hf8 => ?_
  rw [read_write hs hpl.2 hxw hok] at hf8 ⊢
  simp only at hf8
  have hw8 := e8.after hw7
  refine ⟨_, _, _, _, _, _, _, _, _, _, _, _, _, _, _, _, rfl, ?_⟩
  intro q20 _
  rw [hE, if_pos (by simp), if_pos (by simp), if_pos (by simp)]
  have hX8 : FrmAt w8 x s := ((((hX5.keep (ext_off e6)).keep (extS_off e7)).keep (ext_off e8)).keep off_in)
  refine call_gives hw8 (fun w9 e9 _ => gives56 (x := x) (s := s) (t := s8) (hX8.keep (ext_keeps e9)) ((hf8.keep newW_in).keep (ext_keeps e9))) fun w9 e9 hw9 => ⟨_, rfl, ?_⟩
  rw [if_neg (by simp)]
  have hm9 : OwnI w9 m .u64 51 mem := by
    have h7 : OwnI w7 m .u64 51 mem := e7.row _ _ _ _ hmb (hm5.ext e6)
    exact (h7.ext e8).ext e9
  obtain ⟨hout, _⟩ := write_words hs hpl.2 hok hfn
  refine ⟨257, l1_12 (w0 := w) (n := 256) (by decide) (mem := mem) (M := writeM p mem k B x) ⟨tk.1, by omega⟩ (show 0 ≤ sizeF G ∧ sizeF G ≤ 1000 by omega) hl256 (by rw [writeM_len]; exact hl256) hout 257 0 w9 (by omega) (by omega) hw9 ((ha7.ext e8).ext e9) hm9⟩
end Go.Proofs.Ytlccbaemcfjdoaa
