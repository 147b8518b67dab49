/-
  Layer 19: the law's function MoveNone returns true.
  Conditions: the numbers, and the words, lie in memory as told.
-/
import Derived.Test.YtlccbaemcfjdoaaZN19b
import Derived.Test.YtlccbaemcfjdoaaZN18f
import Derived.Test.YtlccbaemcfjdoaaZW25
import Derived.Test.YtlccbaemcfjdoaaZWO
set_option linter.unusedVariables false
set_option linter.unusedSimpArgs false
set_option maxRecDepth 100000
namespace Go.Proofs.Ytlccbaemcfjdoaa
open Go.RowKit
theorem gives57n (w : World) (at_ : Int) : Gives Try.prog 57 [.pointer none, .int .i64 at_] w (.tuple ⟨[.int .u64 0, .int .i64 2]⟩) := by
  refine gives_of (V57n.sound ?_)
  refine call_gives (Below.refl _ _) (fun w1 _ _ => gives105n w1 at_ 1) fun w1 _ hw1 => ⟨_, _, _, _, rfl, ?_⟩
  rw [if_pos (by simp)]
  exact ret_is hw1 rfl
theorem gives73n (w : World) (C : Option Addr) (cl cc : Nat) (s : St) : Gives Try.prog 73 [.pointer none, .agg ⟨[.slice C cl cc]⟩, stV s] w (.tuple ⟨[.int .i64 0, .int .i64 2]⟩) := by
  refine gives_of (V73n.sound ?_)
  intro q4 _ q5 _
  exact ret_is (Below.refl _ _) rfl
theorem gives75n (w : World) (C : Option Addr) (cl cc : Nat) (s : St) (to words : Int) : Gives Try.prog 75 [.pointer none, .agg ⟨[.slice C cl cc]⟩, stV s, .int .i64 to, .int .i64 words] w (.tuple ⟨[stV st0, .int .i64 2]⟩) := by
  refine gives_of (V75n.sound ?_)
  intro q6 _ q7 _ q10 _
  refine call_gives (Below.refl _ _) (fun w1 _ _ => gives73n w1 C cl cc s) fun w1 _ hw1 => ⟨_, _, rfl, ?_⟩
  rw [if_pos (by simp)]
  exact ret_is hw1 rfl
theorem gives77n (w : World) (at_ by_ : Int) : Gives Try.prog 77 [.pointer none, .int .i64 at_, .int .i64 by_] w (.tuple ⟨[.int .i64 0, .int .i64 2]⟩) := by
  refine gives_of (V77n.sound ?_)
  refine call_gives (Below.refl _ _) (fun w1 _ _ => gives57n w1 at_) fun w1 _ hw1 => ⟨_, _, rfl, ?_⟩
  rw [if_pos (by simp)]
  exact ret_is hw1 rfl
theorem none_in (p : List Fnc) (M : List Int) {lo : Int} (h0 : 0 ≤ lo) (h1 : lo ≤ M.length) : StackIn p M [] [] lo lo :=
  ⟨⟨rfl, (fun x h => by cases h), (fun x h => by cases h), (fun i x a h => by simp at h), (fun i x a b h => by simp at h), (fun a h => by cases h)⟩, (fun i x a h => by simp at h), (fun x a h => by simp at h), fun _ => rfl, h0, Int.le_refl _, h1⟩
theorem gives25 {w : World} {A A1 : Option Addr} {l c l1 c1 : Nat} {ns ws : List Int} (hns : BytesAt w A l c ns) (hws : Nums .u64 w A1 l1 ws) (hwd : Wd ws) {at_ : Int} (hat : -9223372036854775808 ≤ at_ ∧ at_ ≤ 9223372036854775807) (by_ : Int) {lo to : Int} (hlo : 0 ≤ lo ∧ lo < 256) (hto : 0 ≤ to ∧ to < 256) :
    Gives Try.prog 25 [.slice A l c, .slice A1 l1 c1, .int .i64 at_, .int .i64 by_, .int .u8 lo, .int .u8 to] w (.bool true) := by
  refine gives_of (V25.sound ?_)
  unfold V25.vc
  refine call_madeN (Below.refl _ _) hns fun p C c' w1 hmade hp hc e1 hw1 => ⟨C, p.length, c', rfl, ?_⟩
  intro q13 _
  have hs : Sized p := hmade.sized
  have hpl : 1 ≤ p.length ∧ p.length ≤ 1000 := ⟨hmade.pos, by have := hmade.few; omega⟩
  refine call_gives hw1 (fun w2 _ _ => gives73n w2 C p.length c' ⟨at_, 1, -1⟩) fun w2 e2 hw2 => ⟨_, _, rfl, ?_⟩
  refine call_gives hw2 (fun w3 _ _ => gives77n w3 at_ by_) fun w3 e3 hw3 => ⟨_, _, rfl, ?_⟩
  refine call_gives hw3 (fun w4 _ _ => gives75n w4 C p.length c' ⟨0, 32, -1⟩ 64 32) fun w4 e4 hw4 => ⟨_, _, _, _, rfl, ?_⟩
  intro q18 _
  rw [if_pos (by simp), if_neg (by simp), if_pos (by simp), if_pos (by simp), if_pos (by simp [st0]), if_neg (by simp)]
  unfold V25.b0
  have hp4 : ProgAt w4 C p.length p := RowAt.keep FncE.kept (RowAt.keep FncE.kept hp newW_in) (ext_keeps ((e2.trans e3).trans e4))
  refine call_laid (pages := 16) (by decide) hw4 (RowAt.keep (NumE.kept _) hws (below_keeps hw4)) hwd fun g b m mem w5 e5 hw5 ha hm hl hg hb hm0 hmb => ⟨_, _, _, _, rfl, ?_⟩
  show V25.b1 _ _ lo to ⟨g, 0, none⟩ (some ⟨m, 0, none⟩) 1024 1024 q13 C p.length c' w5
  unfold V25.b1
  intro q22 _
  rw [wrap_id (n := lo) (by omega) (by omega), wrap_id (n := to) (by omega) (by omega), wrap_id (n := 512 + to) (by omega) (by omega)]
  have hp5 := RowAt.keep FncE.kept hp4 (ext_keeps e5)
  have hst := none_in p mem (lo := lo) hlo.1 (by omega)
  have hend := hst.end_ hs hpl.2 32
  have hp0 : prevA ([] : List Int) ([] : List Frm).length = -1 := rfl
  rw [hp0] at hend
  refine call_gives hw5 (fun w6 e6 _ => gives73 (ha.ext e6) (RowAt.keep FncE.kept hp5 (ext_keeps e6)) hs ⟨lo, 32, -1⟩) fun w6 e6 hw6 => ?_
  rw [hend]
  refine ⟨_, _, rfl, ?_⟩
  have ha6 := ha.ext e6
  have hmv : moveM mem [] 0 lo lo 32 (512 + to) 64 = (mem, ⟨512 + to, 64, -1⟩, 0) := by
    unfold moveM
    rw [if_neg (by omega), if_pos ⟨by unfold inM; exact decide_eq_true (by omega), by unfold overM; exact decide_eq_false (by omega)⟩]
    rw [moved_none _ _ _ _ (Int.le_refl _)]
    rfl
  have hwsz := hw4.size
  have hP6 : ProgAt (off b w6) C p.length p := RowAt.keep FncE.kept hp4 fun q v hq => off_cell.2 ⟨e6.cell (e5.cell hq), by have := cell_lt hq; omega⟩
  refine call_puts (v := moveV (moveM mem [] 0 lo lo 32 (512 + to) 64)) (xs' := (moveM mem [] 0 lo lo 32 (512 + to) 64).1) hw6.size ha6.words (fun w7 e7 => puts75 (xs := []) (ats := []) (lo := lo) (fin := lo) (W := 32) (ha6.ext e7) (RowAt.keep FncE.kept hP6 (ext_off e7)) hs hpl.2 hst (by omega) (by omega) (by omega)) fun w7 e7 ho7 => ?_
  rw [hmv] at ho7 ⊢
  refine ⟨_, _, _, _, rfl, ?_⟩
  intro q25 _
  have hw7 := e7.after (fun k hk => by subst hk; omega) hw6
  have ha7 := ha6.turned e7 ho7 rfl ha.wd
  have hm7 : OwnI w7 m .u64 51 mem := e7.row _ _ _ _ hmb (e6.row _ _ _ _ hm)
  rw [if_pos (by simp), if_pos (by simp), if_pos (by simp), if_pos (by simp)]
  have hN7 : Nums .u64 w7 (some ⟨m, 0, none⟩) 1024 mem := by
    have := OwnI.nums hm7 (by rw [hl]; simp only [maxLen]; omega)
    rw [hl] at this
    exact this
  refine call_gives hw7 (fun w8 e8 _ => gives46 (ha7.ext e8) (RowAt.keep (NumE.kept _) hN7 (ext_keeps e8))) fun w8 e8 hw8 => ⟨_, rfl, ?_⟩
  rw [if_pos (by simp)]
  exact call_gives hw8 (fun w9 _ _ => gives72 w9) fun w9 _ hw9 => ⟨_, rfl, ret_is hw9 rfl⟩
end Go.Proofs.Ytlccbaemcfjdoaa
