/-
  Layer 19: the document's example; whether a stack's frames read as they were; the law's functions MoveStacks returns true.
  Conditions: the numbers, and the words, lie in memory as told.
-/
import Derived.Test.YtlccbaemcfjdoaaZM19b
import Derived.Test.YtlccbaemcfjdoaaZN20
import Derived.Test.YtlccbaemcfjdoaaZW22
set_option linter.unusedVariables false
set_option linter.unusedSimpArgs false
set_option maxRecDepth 100000
namespace Go.Proofs.Ytlccbaemcfjdoaa
open Go.RowKit
theorem yields111 (w : World) : Yields Try.prog 111 [] w (OneQ w) := by
  refine yields_of (V111.sound ?_)
  intro q0 _
  refine expo_alloc (Nat.le_refl _) fun w1 w2 hs1 e2 hl2 ho2 => ?_
  refine expo_alloc e2.size fun w3 w4 hs3 e4 hl4 ho4 => ?_
  refine ret_q (e4.after e2.below) fun w5 e5 => ⟨_, _, rfl, ?_⟩
  have h1 : (newW w.heap.size w5).heap[w1.heap.size]? = some (.cells ⟨oneF.code.flatMap insV⟩ 26 (0, 0)) := by
    rw [newW_heap hs1]; exact e5.row _ _ _ _ (e4.row _ _ _ _ ho2)
  have h2 : (newW w.heap.size w5).heap[w3.heap.size]? = some (.cells ⟨[.int .i64 oneF.params, .int .i64 oneF.locals, .int .i64 oneF.refs, .slice (some ⟨w1.heap.size, 0, none⟩) oneF.code.length 2]⟩ 29 (0, 0)) := by
    rw [newW_heap (Nat.le_trans e2.size hs3)]; exact e5.row _ _ _ _ ho4
  exact prog_lit (f := oneF) h2 (code_lit h1 (by simp [oneF]))
theorem call_one19 {w0 w : World} {bs : List Nat} {K : Value → World → Prop} (hB : w0.heap.size ≤ w.heap.size) (hk : ∀ C c w', Ext w0.heap.size w w' → ProgAt (newW w.heap.size w') C 1 [oneF] → K (.agg ⟨[.slice C 1 c]⟩) w') : CallK Try.prog 111 [] w0.heap.size w bs K := by
  refine call_yieldsX (Q := OneQ) hB (fun w1 _ => yields111 w1) fun w1 u w2 w' hs hQ hnew he => ?_
  obtain ⟨C, c, rfl, hp⟩ := hQ
  refine hk C c w' he (RowAt.keep FncE.kept hp fun q v hq => ?_)
  obtain ⟨h1, h2⟩ := newW_cell.1 hq
  exact newW_cell.2 ⟨(cell_same (hnew _ h2)).trans h1, Nat.le_trans hs h2⟩
def twoX : Frm := ⟨0, 0, 0, false, 0, [], [1], []⟩
theorem twoX_wd : FrmWd twoX := ⟨by decide, fun x hx => by simp [twoX] at hx; omega, fun x hx => by simp [twoX] at hx, fun d hd => by simp [twoX] at hd⟩
theorem two_write : writeE [oneF] (List.replicate (2 * 64) 0 : List Int).length 0 (-1) twoX = 0 := by kernel_rfl
theorem two_stk : (stk [oneF] (List.replicate (2 * 64) 0) 0 [twoX]).mem = writeM [oneF] (List.replicate (2 * 64) 0) 0 (-1) twoX := rfl
theorem two_in : StackIn [oneF] (writeM [oneF] (List.replicate (2 * 64) 0) 0 (-1) twoX) [twoX] [0] 0 16 := by
  have hall := stk_all (p := [oneF]) (mem := List.replicate (2 * 64) 0) (lo := 0) one_sized (by simp) (Int.le_refl _) [twoX] (fun x hx => by simp at hx; subst hx; kernel_rfl) (fun x hx => by simp at hx; subst hx; exact twoX_wd) (by rw [List.length_replicate]; exact of_decide_eq_true (by kernel_rfl))
  have := stk_in one_sized (Int.le_refl _) hall (by rw [List.length_replicate]; exact of_decide_eq_true (by kernel_rfl))
  rw [two_stk] at this
  have h1 : (stk [oneF] (List.replicate (2 * 64) 0) 0 [twoX]).ats = [0] := rfl
  have h2 : (stk [oneF] (List.replicate (2 * 64) 0) 0 [twoX]).fin = 16 := by kernel_rfl
  rw [h1, h2] at this
  exact this
theorem two_move : (moveM (writeM [oneF] (List.replicate (2 * 64) 0) 0 (-1) twoX) [0] 1 0 16 32 64 32).2 = (⟨64, 32, 64⟩, 0) := by kernel_rfl
theorem two_word : (moveM (writeM [oneF] (List.replicate (2 * 64) 0) 0 (-1) twoX) [0] 1 0 16 32 64 32).1.getD 64 0 = 0 := by kernel_rfl
theorem two_len : (moveM (writeM [oneF] (List.replicate (2 * 64) 0) 0 (-1) twoX) [0] 1 0 16 32 64 32).1.length = 128 := by kernel_rfl
theorem two_lenW : (writeM [oneF] (List.replicate (2 * 64) 0) 0 (-1) twoX).length = 128 := by kernel_rfl
theorem all_wd {l : List Int} (hd : l.all (fun x => decide (0 ≤ x ∧ x < 18446744073709551616)) = true) : Wd l := fun x hx => of_decide_eq_true (List.all_eq_true.1 hd x hx)
theorem two_wdW : Wd (writeM [oneF] (List.replicate (2 * 64) 0) 0 (-1) twoX) := all_wd (by kernel_rfl)
theorem two_wdM : Wd (moveM (writeM [oneF] (List.replicate (2 * 64) 0) 0 (-1) twoX) [0] 1 0 16 32 64 32).1 := all_wd (by kernel_rfl)
theorem gives72 (w : World) : Gives Try.prog 72 [] w (.bool true) := by
  refine gives_of (V72.sound ?_)
  unfold V72.vc
  refine call_new (pages := 2) (by decide) (Below.refl _ _) fun g b w1 e1 hw1 ha hg hb => ⟨_, rfl, ?_⟩
  show V72.b0 _ _ ⟨g, 0, none⟩ w1
  obtain ⟨z, hz⟩ : ∃ z : List Int, List.replicate (2 * 64) 0 = z := ⟨_, rfl⟩
  have t1 := two_write
  have t2 := two_in
  have t3 := two_move
  have t4 := two_word
  have t5 := two_len
  have t6 := two_lenW
  have t7 := two_wdW
  have t8 := two_wdM
  have hzl : z.length = 128 := by rw [← hz]; simp
  rw [hz] at ha t1 t2 t3 t4 t5 t6 t7 t8
  clear hz
  unfold V72.b0
  have hbw : b < w1.heap.size := ha.words.lt
  refine call_one19 hw1.size fun C1 c1 w2 e2 hp2 => ⟨_, _, _, rfl, ?_⟩
  have hw2 := e2.after hw1
  intro w3 e3 _ w4
  obtain ⟨e4, o4⟩ : Ext w.heap.size w2 w4 ∧ w4.heap[w3.heap.size]? = some (.cells ⟨[.int .u64 1]⟩ 51) := alloc1 (.cells ⟨[.int .u64 1]⟩ 51) e3 hw2.size
  have hs2 := e2.size
  have hs3 := e3.size
  clear_value w4
  have hw4 := e4.after hw2
  have ha4 := (ha.ext e2).ext e4
  have hX4 : FrmAt (off b w4) twoX ⟨none, 0, some ⟨w3.heap.size, 0, none⟩, 1, none, 0⟩ := by
    have h1 : OwnI (off b w4) w3.heap.size .u64 51 [1] := by
      unfold OwnI off; rw [mask1_ne w4 (by omega)]; exact o4
    exact ⟨⟨rfl, Nat.zero_le _, fun i x h => by simp [twoX] at h⟩, h1.nums (by simp [maxLen]), nums_nil _ _⟩
  have hP4 : ProgAt (off b w4) C1 1 [oneF] := RowAt.keep FncE.kept (RowAt.keep FncE.kept hp2 (newW_off hbw)) (ext_off e4)
  refine call_puts hw4.size ha4.words (fun w5 e5 => puts52 (p := [oneF]) (x := twoX) (s := ⟨none, 0, some ⟨w3.heap.size, 0, none⟩, 1, none, 0⟩) (ha4.ext e5) (RowAt.keep FncE.kept hP4 (ext_off e5)) one_sized (by simp) 0 (-1) (hX4.keep (ext_off e5)) twoX_wd) fun w5 e5 ho5 => ⟨_, rfl, ?_⟩
  have hw5 := e5.after (fun k h => by subst h; exact hb) hw4
  rw [t1, if_neg (by simp)]
  have ha5 : ArenaAt w5 g b (writeM [oneF] z 0 (-1) twoX) := ha4.turned e5 ho5 (by rw [t6, hzl]) t7
  refine call_one19 hw5.size fun C2 c2 w6 e6 hp6 => ⟨_, _, _, rfl, ?_⟩
  have hw6 := e6.after hw5
  have hb5 : b < w5.heap.size := ha5.words.lt
  have ha6 := ha5.ext e6
  have hP6 : ProgAt (off b w6) C2 1 [oneF] := RowAt.keep FncE.kept hp6 (newW_off hb5)
  refine call_puts (v := moveV (moveM (writeM [oneF] z 0 (-1) twoX) [0] 1 0 16 32 64 32)) (xs' := (moveM (writeM [oneF] z 0 (-1) twoX) [0] 1 0 16 32 64 32).1) hw6.size ha6.words (fun w7 e7 => puts75 (p := [oneF]) (xs := [twoX]) (ats := [0]) (lo := 0) (fin := 16) (W := 32) (to := 64) (words := 32) (ha6.ext e7) (RowAt.keep FncE.kept hP6 (ext_off e7)) one_sized (by simp) t2 (by omega) (by omega) (by omega)) fun w7 e7 ho7 => ?_
  have hw7 := e7.after (fun k h => by subst h; exact hb) hw6
  have ha7 := ha6.turned e7 ho7 (by rw [t5, t6]) t8
  have h2 : (moveM (writeM [oneF] z 0 (-1) twoX) [0] 1 0 16 32 64 32).2.1 = ⟨64, 32, 64⟩ := by rw [t3]
  have h3 : (moveM (writeM [oneF] z 0 (-1) twoX) [0] 1 0 16 32 64 32).2.2 = 0 := by rw [t3]
  unfold moveV
  rw [h2, h3]
  refine ⟨_, _, _, _, rfl, ?_⟩
  intro q2 _
  refine call_gives hw7 (fun w8 e8 _ => gives57 (ha7.ext e8) 64) fun w8 e8 hw8 => ?_
  unfold loadV
  rw [if_pos (by unfold inM; rw [t5]; decide)]
  refine ⟨_, _, rfl, ?_⟩
  rw [if_pos (by simp), if_pos (by simp)]
  exact ret_is hw8 (by rw [show (64 : Int).toNat = 64 from rfl, t4]; rfl)
section
variable {w w' : World} {p : List Fnc} {mem0 : List Int} {lo : Int} {xs : List Frm} {P FA TA : Option Addr} {g b m : Nat}
end
end Go.Proofs.Ytlccbaemcfjdoaa
