/-
  Layer 23: CallAll, CallBack, CallTexts return true.
  Conditions: the variables of the host's library hold what the program's text lays into them.
-/
import Derived.Test.YtofblkmibghmbaaDoorZG23
set_option linter.unusedVariables false
set_option linter.unusedSimpArgs false
set_option maxRecDepth 100000
namespace Go.Proofs.YtofblkmibghmbaaDoor
open Go.RowKit
def signs : List UInt8 := [32, 48, 43, 45, 64, 35, 120, 0]
theorem gives13 {w : World} (hl : Libs w) {kd a b at_ how : Int} (hk : 0 ≤ kd ∧ kd < 256) (ha : 0 ≤ a ∧ a < 256) (hb : 0 ≤ b ∧ b < 256) (hat : 0 ≤ at_ ∧ at_ < 256) (hhow : 0 ≤ how ∧ how < 256) :
    Gives Tryd.prog 13 [.int .u8 kd, .int .u8 a, .int .u8 b, .int .u8 at_, .int .u8 how] w (.bool true) := by
  refine gives_of (V13.sound ?_)
  unfold V13.vc
  have be : ∀ x : Int, (x == x) = true := fun x => beq_self_eq_true x
  obtain ⟨hmm, hmr⟩ := made_ok (kd := kd) (n := 6) ha hb (by omega)
  refine call_gives (Below.refl _ _) (fun _ _ h => gives61 hk ha hb (by omega)) fun w1 _ h1 => ⟨_, _, _, rfl, ?_⟩
  generalize madeC kd a b 6 = m at *
  refine call_gives h1 (fun _ _ h => gives59 (c := m) (hl.tabs.on h) hmr) fun w2 _ h2 => ⟨_, rfl, ?_⟩
  have hml := text_short hmm hmr
  have hne := (text_ends hmm).1
  generalize textC m = s at *
  have hs1 : 1 ≤ s.length := by
    cases s with
    | nil => exact absurd rfl hne
    | cons _ _ => simp
  rw [bstr_size, if_neg (by simp; omega)]
  have hw1 : IntKind.wrap .i64 ((s.length : Int) + 1) = ((s.length + 1 : Nat) : Int) := by rw [wrap_id (by omega) (by omega)]; rfl
  rw [hw1, wrap_id (n := at_) (by omega) (by omega), Int.tmod_eq_emod_of_nonneg hat.1, Int.tmod_eq_emod_of_nonneg hhow.1]
  obtain ⟨k, hk2⟩ : ∃ k : Nat, at_ % ((s.length + 1 : Nat) : Int) = k := ⟨(at_ % ((s.length + 1 : Nat) : Int)).toNat, by have := Int.emod_nonneg at_ (show ((s.length + 1 : Nat) : Int) ≠ 0 by omega); omega⟩
  have hkl : k ≤ s.length := by have := Int.emod_lt_of_pos at_ (show 0 < ((s.length + 1 : Nat) : Int) by omega); omega
  rw [hk2, Int.toNat_natCast]
  refine ⟨by omega, by omega, by omega, by decide, by omega, by omega, ?_⟩
  intro w3 e3 _
  obtain ⟨e4, ho4⟩ := alloc1 (.cells ⟨signs.map fun c => .int .u8 ((c.toNat : Nat) : Int)⟩ 5) e3 h2.size
  have hd : (Obj.cells ⟨[.int .u8 32, .int .u8 48, .int .u8 43, .int .u8 45, .int .u8 64, .int .u8 35, .int .u8 120, .int .u8 0]⟩ 5 : Obj) = .cells ⟨signs.map fun c => .int .u8 ((c.toNat : Nat) : Int)⟩ 5 := rfl
  try dsimp only
  rw [hd]
  generalize w3.alloc (.cells ⟨signs.map fun c => .int .u8 ((c.toNat : Nat) : Int)⟩ 5) = w4 at *
  have h4 := e4.after h2
  obtain ⟨i, hi⟩ : ∃ i : Nat, how % 8 = i := ⟨(how % 8).toNat, by omega⟩
  have hi8 : i < 8 := by omega
  rw [hi, Int.toNat_natCast]
  have hx : signs[i]? = some (signs[i]'(by simpa [signs] using hi8)) := List.getElem?_eq_getElem _
  generalize signs[i]'(by simpa [signs] using hi8) = x at hx
  have hcell : w4.cell? ((⟨w3.heap.size, 0, none⟩ : Addr).add i) = some (.int .u8 ((x.toNat : Nat) : Int)) := by
    rw [own_add]
    exact at_cell ho4 (by rw [List.getElem?_map, hx]; rfl)
  refine ⟨_, rfl, by omega, by omega, _, hcell, ?_⟩
  intro w5 e5 _
  obtain ⟨e6, ho6⟩ := alloc1 (.cells ⟨[.int .u8 ((x.toNat : Nat) : Int)]⟩ 5) e5 h4.size
  try dsimp only
  generalize w5.alloc (.cells ⟨[.int .u8 ((x.toNat : Nat) : Int)]⟩ 5) = w6 at *
  have h6 := e6.after h4
  refine conv_str (e := 5) (by kernel_rfl) (by kernel_rfl) (by kernel_rfl) h6.size (ns := [x]) rfl (fun j b hj => ?_) fun w7 e7 => ?_
  · cases j with
    | zero => simp only [List.getElem?_cons_zero, Option.some.injEq] at hj; subst hj; rw [own_add]; exact at_cell ho6 rfl
    | succ j => simp at hj
  have h7 := e7.after h6
  have et : (((bstr s).extract 0 k ++ (⟨[x].toArray⟩ : ByteArray)) ++ (bstr s).extract k (bstr s).size) = bstr (s.take k ++ [x] ++ s.drop k) := by
    rw [bext, bext, bstr_size, show (⟨[x].toArray⟩ : ByteArray) = bstr [x] from rfl, ba_app, ba_app]
    have e : (s.drop 0).take (k - 0) ++ [x] ++ (s.drop k).take (s.length - k) = s.take k ++ [x] ++ s.drop k := by
      rw [List.take_of_length_le (l := s.drop k) (by simp)]
      simp
    rw [e]
  have e0 : (bstr s).extract 0 k = bstr (s.take k) := by rw [bext]; simp
  rw [bstr_size] at et
  refine ⟨_, rfl, ?_, ?_, ?_⟩
  · rw [e0, bstr_size]; have : (⟨[x].toArray⟩ : ByteArray).size = 1 := rfl
    rw [this]; simp; omega
  · rw [e0, show (⟨[x].toArray⟩ : ByteArray) = bstr [x] from rfl, ba_app, bext, bstr_size, bstr_size]; simp; omega
  rw [et]
  have htl : (s.take k ++ [x] ++ s.drop k).length ≤ 1000 := by simp; omega
  generalize s.take k ++ [x] ++ s.drop k = t at *
  refine call_gives h7 (fun _ _ h => gives55 (s := t) (hl.on h) (by omega)) fun w8 _ h8 => ⟨_, _, _, _, rfl, fun q14 _ => ⟨by show _ + 1 ≤ _; omega, ?_⟩⟩
  rw [show ({ data := #[32] } : ByteArray) = bstr [32] from rfl, ba_app]
  refine call_gives h8 (fun _ _ h => gives55 (s := s ++ [32]) (hl.on h) (by simp; omega)) fun w9 _ h9 => ⟨_, _, _, _, rfl, fun q16 _ => ⟨by rw [bstr_size]; show 1 + _ ≤ _; omega, ?_⟩⟩
  rw [ba_app]
  refine call_gives h9 (fun _ _ h => gives55 (s := [32] ++ s) (hl.on h) (by simp; omega)) fun w10 _ h10 => ⟨_, _, _, _, rfl, fun q18 _ => ⟨by omega, by omega, ?_⟩⟩
  rw [e0]
  refine call_gives h10 (fun _ _ h => gives55 (s := s.take k) (hl.on h) (by simp; omega)) fun w11 _ h11 => ⟨_, _, _, _, rfl, fun q20 _ => ?_⟩
  rw [read_blank_end, show [32] ++ s = 32 :: s from rfl, read_blank_begin]
  have main : ∀ w12, Below w.heap.size w w12 → ∀ bs : List Nat,
      (if (!noC.2) = true then (if ((noC.1.k == 0) && ((noC.1.a == 0) && (noC.1.b == 0))) = true then (if (!noC.2) = true then (if (!(readC (s.take k)).2) = false
           then (if (decide ((k : Int) > 0)) = true
            then (CallK Tryd.prog 54 [] w.heap.size w12 bs fun v_9 w_14 => ∃ b117 : Bool, v_9 = .bool b117 ∧ Ret w.heap.size w_14 (IsV w (.bool true) (.bool b117)))
            else (Ret w.heap.size w12 (IsV w (.bool true) (.bool false))))
           else (CallK Tryd.prog 54 [] w.heap.size w12 bs fun v_9 w_14 => ∃ b117 : Bool, v_9 = .bool b117 ∧ Ret w.heap.size w_14 (IsV w (.bool true) (.bool b117))))
          else (Ret w.heap.size w12 (IsV w (.bool true) (.bool false))))
         else (Ret w.heap.size w12 (IsV w (.bool true) (.bool false))))
        else (Ret w.heap.size w12 (IsV w (.bool true) (.bool false)))) := by
    intro w12 h12 bs
    rw [if_pos (show (!noC.2) = true from rfl), if_pos (show ((noC.1.k == 0) && ((noC.1.a == 0) && (noC.1.b == 0))) = true from rfl), if_pos (show (!noC.2) = true from rfl)]
    have fin : CallK Tryd.prog 54 [] w.heap.size w12 bs fun v_9 w_14 => ∃ b117 : Bool, v_9 = .bool b117 ∧ Ret w.heap.size w_14 (IsV w (.bool true) (.bool b117)) :=
      call_gives h12 (fun _ _ h => gives54 (hl.on h)) fun w13 _ h13 => ⟨_, rfl, ret_is h13 rfl⟩
    by_cases hc : (readC (s.take k)).2 = true
    · rw [hc, if_pos (show (!true) = false from rfl)]
      have hk0 : 0 < k := by
        rcases Nat.eq_zero_or_pos k with h0 | h0
        · subst h0; rw [List.take_zero, read_nil] at hc; cases hc
        · exact h0
      rw [if_pos (by simpa using hk0)]
      exact fin
    · have hc' : (readC (s.take k)).2 = false := by simpa using hc
      rw [hc', if_neg (show ¬ (!false) = false from fun h => by cases h)]
      exact fin
  rcases read_cases t with ⟨c, hr, h2', h3', h4', h5'⟩ | ⟨hr, _⟩
  · rw [hr, if_neg (show ¬ (!true) = true from Bool.false_ne_true), if_pos rfl]
    refine call_gives h11 (fun _ _ h => gives59 (c := c) (hl.tabs.on h) h4') fun w12 _ h12 => ⟨_, rfl, ?_⟩
    rw [beqs rfl, decide_eq_true h3', if_pos rfl]
    refine call_gives h12 (fun _ _ h => gives57 c) fun w13 _ h13 => ⟨_, rfl, ?_⟩
    rw [h2', if_pos rfl]
    exact main w13 h13 _
  · rw [hr, if_pos (show (!noC.2) = true from rfl), if_neg (show ¬ ((noC.1.k == 0) && ((noC.1.a == 0) && (noC.1.b == 0))) = false from fun h => by cases h)]
    exact main w11 h11 _
end Go.Proofs.YtofblkmibghmbaaDoor
