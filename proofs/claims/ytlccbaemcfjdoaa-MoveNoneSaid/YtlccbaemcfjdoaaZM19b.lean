/-
  Layer 19: stacks moved: the program's answer and the document's.
  Conditions: the arena, the words, and the program, lie in memory as told; the stack's frames are one right behind the other.
-/
import Derived.Test.YtlccbaemcfjdoaaZM19
set_option linter.unusedVariables false
set_option linter.unusedSimpArgs false
set_option maxRecDepth 100000
namespace Go.Proofs.Ytlccbaemcfjdoaa
open Go.RowKit
theorem copy_part {B : Nat} {w : World} {bs : List Nat} {K : Value → World → Prop} {b to from_ n c c' : Nat} {mem : List Int} (ho : OwnI w b .u64 51 mem) (hB : B ≤ w.heap.size) (hto : to + n ≤ mem.length) (hfrom : from_ + n ≤ mem.length) (hn : 0 < n)
    (hk : ∀ w', ExtS B (fun j => j = b) w w' → OwnI w' b .u64 51 (mem.take to ++ (mem.drop from_).take n ++ mem.drop (to + n)) → K (.int .i64 (n : Int)) w') :
    RunK Try.prog (Builtin.copy_ #[50, 50] 3 ⟨[.slice (some ⟨b, to, none⟩) n c, .slice (some ⟨b, from_, none⟩) n c']⟩) B w bs K := by
  intro w1 he hxx
  have hB1 : B ≤ w1.heap.size := Nat.le_trans hB he.size
  have ho1 := ho.ext he
  have hgb : b ∉ bs := fun h => (hxx b h).2.1 _ _ _ ho
  have hlen : ((mem.drop from_).take n).length = n := by simp; omega
  have hcs : (((mem.drop from_).take n).map (Value.int .u64)).length = Nat.min n n := by simp only [List.length_map, hlen]; exact (Nat.min_self n).symm
  have hr := run_copy_row (P := Try.prog) w1 50 50 3 51 b to n c ⟨b, from_, none⟩ n c' (mem.map (Value.int .u64)).toArray 51 (((mem.drop from_).take n).map (.int .u64)) (by kernel_rfl) (by kernel_rfl) (show w1.heap[b]? = some (.cells (mem.map (.int .u64)).toArray 51 (0, 0)) from ho1) hcs (fun j v hj => by
      rw [List.getElem?_map, List.getElem?_take] at hj
      split at hj
      · rw [List.getElem?_drop] at hj
        obtain ⟨x, hx, rfl⟩ := Option.map_eq_some_iff.1 hj
        have := ho1.cell hx
        rw [own_add] at this
        rw [bx_add]
        exact this
      · cases hj) (by simp only [List.size_toArray, List.length_map, hlen]; omega) (fun v hv => by obtain ⟨x, _, rfl⟩ := List.mem_map.1 hv; rfl)
  have hgrow : w1.grownBy (w1.setRow b (((mem.map (Value.int .u64)).toArray).toList.take to ++ ((mem.drop from_).take n).map (Value.int .u64) ++ ((mem.map (Value.int .u64)).toArray).toList.drop (to + (((mem.drop from_).take n).map (Value.int .u64)).length)).toArray) (some b) := ⟨rfl, rfl, rfl, by simp [World.setRow], fun j _ hj => setRow_other w1 b j _ (fun e => hj (by simp [e]))⟩
  refine ⟨_, _, hr, ⟨hgrow.size, fun x hxb => hgrow.block x (hxx x hxb).1 (fun e => hgb (by cases e; exact hxb))⟩, hide_any fun w' hm => ?_⟩
  have hrow := hk w' (maskedS he hxx hgrow (fun j hj => by cases hj; rfl) hm hB1) (by
    unfold OwnI
    rw [hm.block b hgb, setRow_heap w1 b _ _ 51 (0, 0) ho1]
    rw [show (((mem.drop from_).take n).map (Value.int .u64)).length = n by simp only [List.length_map, hlen]]
    congr 2
    simp only [List.toList_toArray, List.map_append, List.map_take, List.map_drop])
  have e : goInt (((mem.drop from_).take n).map (Value.int .u64)).length = .int .i64 (n : Int) := by rw [List.length_map, hlen]; rfl
  rw [e]
  exact hrow
theorem parted (mem : List Int) {to from_ n : Nat} (hto : to + n ≤ mem.length) (hfrom : from_ + n ≤ mem.length) : mem.take to ++ (mem.drop from_).take n ++ mem.drop (to + n) = movedD mem from_ ((from_ : Int) + n) to [] 0 := by
  have hl : (mem.take to ++ (mem.drop from_).take n ++ mem.drop (to + n)).length = mem.length := by simp; omega
  refine ext_getD (by rw [hl, movedD_len]) fun i hi => ?_
  rw [hl] at hi
  rw [movedD_get _ _ _ _ _ _ hi]
  simp only [List.getD]
  by_cases h1 : i < to
  · rw [if_neg (by omega), List.append_assoc, List.getElem?_append_left (by simp; omega), List.getElem?_take, if_pos h1]
  · by_cases h2 : i < to + n
    · rw [if_pos (by omega), List.append_assoc, List.getElem?_append_right (by simp; omega), List.getElem?_append_left (by simp; omega), List.getElem?_take, List.length_take, Nat.min_eq_left (by omega), if_pos (by omega), List.getElem?_drop]
      rw [show ((i : Int) - to + from_).toNat = from_ + (i - to) by omega]
      simp
    · rw [if_neg (by omega), List.getElem?_append_right (by simp; omega)]
      rw [List.getElem?_drop]
      congr 1
      simp
      congr 1
      omega
theorem moved_none (mem : List Int) (lo fin to : Int) (h : fin ≤ lo) (ats : List Int) (d : Nat) : movedD mem lo fin to ats d = mem := by
  refine ext_getD (movedD_len _ _ _ _ _ _) fun i hi => ?_
  rw [movedD_len] at hi
  rw [movedD_get _ _ _ _ _ _ hi, if_neg (by omega)]
theorem moved_nil (mem : List Int) (lo fin to : Int) {ats : List Int} {d : Nat} (h : ats.length ≤ d) : movedD mem lo fin to [] 0 = movedD mem lo fin to ats d := by
  unfold movedD
  rw [List.drop_of_length_le h]
  rfl
section
variable {w : World} {g b : Nat} {mem : List Int}
theorem puts113 (ha : ArenaAt w g b mem) {to from_ n : Nat} (h1 : to + n ≤ mem.length) (h2 : from_ + n ≤ mem.length) : Puts Try.prog 113 [.pointer (some ⟨g, 0, none⟩), .int .i64 (to : Int), .int .i64 (from_ : Int), .int .i64 (n : Int)] w b (.int .i64 0) .u64 51 (movedD mem from_ ((from_ : Int) + n) to [] 0) := by
  refine puts_of (V113.sound ?_)
  unfold V113.vc
  have hml := ha.len
  have i1 : inM mem.length (to : Int) (n : Int) = true := by unfold inM; exact decide_eq_true (by omega)
  have i2 : inM mem.length (from_ : Int) (n : Int) = true := by unfold inM; exact decide_eq_true (by omega)
  refine call_gives (Below.refl _ _) (fun w1 e1 _ => gives105 (ha.ext e1) to n) fun w1 e1 hw1 => ?_
  unfold partE
  rw [if_pos i1]
  refine ⟨_, _, _, _, rfl, ?_⟩
  refine call_gives hw1 (fun w2 e2 _ => gives105 ((ha.ext e1).ext e2) from_ n) fun w2 e2 hw2 => ?_
  have ha2 := (ha.ext e1).ext e2
  unfold partE
  rw [if_pos i2]
  refine ⟨_, _, _, _, rfl, ?_⟩
  rw [if_neg (by simp), if_pos (by simp)]
  simp only [Int.toNat_natCast]
  by_cases hn : n = 0
  · subst hn
    intro w3 he hxx
    have hr := run_copy_none (P := Try.prog) w3 50 50 3 51 (if mem.length = to then some ⟨b, 0, none⟩ else some ⟨b, to, none⟩) (if mem.length = from_ then some ⟨b, 0, none⟩ else some ⟨b, from_, none⟩) 0 (mem.length - to) 0 (mem.length - from_) (by kernel_rfl) (by kernel_rfl) rfl
    refine ⟨_, w3, hr, ⟨Nat.le_refl _, fun _ _ => rfl⟩, hide_any fun w' hm => ?_⟩
    have h1 := masked he hxx (Nat.le_trans hw2.size he.size) (Below.refl _ _) hm
    refine ⟨_, rfl, ?_⟩
    rw [moved_none _ _ _ _ (by omega)]
    exact ret_p (below_chg (h1.after hw2)) rfl (ha2.ext h1).words
  · rw [if_neg (by omega), if_neg (by omega)]
    refine copy_part ha2.words hw2.size h1 h2 (by omega) fun w3 e3 ho3 => ⟨_, rfl, ?_⟩
    rw [parted mem h1 h2] at ho3
    exact ret_p (e3.chgS (below_chg hw2)) rfl ho3
end
def moveV (r : List Int × St × Int) : Value := .tuple ⟨[stV r.2.1, .int .i64 r.2.2]⟩
section
variable {w0 : World} {p : List Fnc} {M : List Int} {xs : List Frm} {ats : List Int} {lo fin : Int} {g b : Nat}
theorem l0_75 (hs : Sized p) (h : StackIn p M xs ats lo fin) {to : Int} (hto : 0 ≤ to) (hfit : to + (fin - lo) ≤ M.length) (hMl : M.length ≤ 16384) {words : Int} {q15 q10 : Nat} {v : Value} (hv : v = .tuple ⟨[.agg ⟨[.int .i64 to, .int .i64 words, .int .i64 (prevA (ats.map (· + (to - lo))) xs.length)]⟩, .int .i64 0]⟩) :
    ∀ (f k : Nat) (w : World), k < f → k ≤ xs.length → Chg (fun j => j = b) w0 w → ArenaAt w g b (movedD M lo fin to ats (max k 1)) →
      V75.l0 w0.heap.size (IsP w0 b v .u64 51 (movedD M lo fin to ats 1)) f ⟨g, 0, none⟩ (to - lo) (prevA (ats.map (· + (to - lo))) k) q15 to words (prevA (ats.map (· + (to - lo))) xs.length) q10 0 0 0 w := by
  have hl := h.chain.len
  have hl0 := h.lo0
  have hle := h.le
  have hln := h.len
  intro f
  induction f with
  | zero => intros; omega
  | succ f ih =>
    intro k w hkf hk hc ha
    dsimp -zeta only [V75.l0]
    by_cases hk0 : k = 0
    · subst hk0
      have hp : prevA (ats.map (· + (to - lo))) 0 = -1 := by unfold prevA; rw [if_pos rfl]
      rw [hp, if_neg (by simp)]
      exact ret_p hc hv.symm ha.words
    · obtain ⟨j, rfl⟩ : ∃ j, k = j + 1 := ⟨k - 1, by omega⟩
      have ha' : ats[j]? = some (ats[j]'(by omega)) := List.getElem?_eq_getElem _
      generalize ats[j]'(by omega) = a at ha'
      have hx : xs[j]? = some (xs[j]'(by omega)) := List.getElem?_eq_getElem _
      have hft := h.fit j _ a hx ha'
      have hp : prevA (ats.map (· + (to - lo))) (j + 1) = a + (to - lo) := by
        rw [prev_map _ (by omega), if_neg (by omega), Nat.add_sub_cancel]
        simp [List.getD, ha']
      rw [hp, if_pos (by simp; omega)]
      rw [Nat.max_eq_left (by omega)] at ha
      have hfs := fix_step hs h hto hfit ha'
      refine call_puts hc.size ha.words (fun w1 e1 => puts77 (ha.ext e1) (a + (to - lo)) (by omega)) fun w1 e1 ho1 => ?_
      rw [hfs] at ho1 ⊢
      refine ⟨_, _, rfl, ?_⟩
      rw [if_neg (by simp)]
      refine ih j w1 (by omega) (by omega) (e1.chgS hc) (ha.turned e1 ho1 (by rw [movedD_len, movedD_len]) ?_)
      have := fixW_wd ha.wd (by rw [movedD_len]; omega) (a + (to - lo)) (to - lo)
      rw [hfs] at this
      exact this
theorem puts75 {w : World} (ha : ArenaAt w g b M) {P : Option Addr} {cap : Nat} (hp : ProgAt (off b w) P p.length p) (hs : Sized p) (hpl : p.length ≤ 1000) (h : StackIn p M xs ats lo fin) {W : Int} (hW : -9223372036854775808 ≤ W ∧ W ≤ 9223372036854775807) {to words : Int} (hto : -9223372036854775808 ≤ to ∧ to ≤ 9223372036854775807) (hwo : -9223372036854775808 ≤ words ∧ words ≤ 9223372036854775807) :
    Puts Try.prog 75 [.pointer (some ⟨g, 0, none⟩), .agg ⟨[.slice P p.length cap]⟩, stV ⟨lo, W, prevA ats xs.length⟩, .int .i64 to, .int .i64 words] w b (moveV (moveM M ats xs.length lo fin W to words)) .u64 51 (moveM M ats xs.length lo fin W to words).1 := by
  refine puts_of (V75.sound ?_)
  intro q6 _ q7 _ q10 _
  have hml := ha.len
  have hl0 := h.lo0
  have hle := h.le
  have hln := h.len
  have hl := h.chain.len
  have hend := h.end_ hs hpl W
  refine call_gives (Below.refl _ _) (fun w1 e1 _ => gives73 (ha.ext e1) (RowAt.keep FncE.kept (RowAt.keep FncE.kept hp off_in) (ext_keeps e1)) hs ⟨lo, W, prevA ats xs.length⟩) fun w1 e1 hw1 => ?_
  rw [hend]
  refine ⟨_, _, rfl, ?_⟩
  rw [if_neg (by simp), wrap_id (n := fin - lo) (by omega) (by omega)]
  have ha1 := ha.ext e1
  generalize hr : moveM M ats xs.length lo fin W to words = r
  unfold moveM at hr
  by_cases h1 : words < fin - lo
  · rw [if_pos h1] at hr
    subst hr
    rw [if_pos (by simpa using h1)]
    exact ret_p (below_chg hw1) rfl ha1.words
  · rw [if_neg h1] at hr
    rw [if_neg (by simpa using h1)]
    refine call_slice hw1 ha1 fun A l c w2 e2 hw2 _ _ _ => ?_
    have ha2 := ha1.ext e2
    unfold errV
    by_cases hin : inM M.length to words = true
    · rw [if_pos hin]
      have hi := of_decide_eq_true hin
      refine ⟨_, _, _, _, rfl, ?_⟩
      rw [if_neg (by simp)]
      refine call_gives hw2 (fun w3 _ _ => gives112 w3 to words lo W) fun w3 e3 hw3 => ⟨_, rfl, ?_⟩
      have ha3 := ha2.ext e3
      by_cases hov : overM to words lo W = true
      · rw [if_neg (fun hc => by rw [hov] at hc; cases hc.2)] at hr
        subst hr
        rw [if_pos hov]
        exact ret_p (below_chg hw3) rfl ha3.words
      · have hov' : overM to words lo W = false := by simpa using hov
        rw [if_pos ⟨hin, hov'⟩] at hr
        subst hr
        rw [if_neg hov]
        obtain ⟨tn, htn⟩ : ∃ tn : Nat, to = tn := ⟨to.toNat, by omega⟩
        obtain ⟨ln, hlnn⟩ : ∃ ln : Nat, lo = ln := ⟨lo.toNat, by omega⟩
        obtain ⟨n, hn⟩ : ∃ n : Nat, fin - lo = n := ⟨(fin - lo).toNat, by omega⟩
        have hcopy : ∀ w', ArenaAt w' g b M → Puts Try.prog 113 [.pointer (some ⟨g, 0, none⟩), .int .i64 to, .int .i64 lo, .int .i64 (fin - lo)] w' b (.int .i64 0) .u64 51 (movedD M lo fin to ats (max xs.length 1)) := fun w' ha' => by
          have := puts113 ha' (to := tn) (from_ := ln) (n := n) (by omega) (by omega)
          rw [← htn, ← hlnn, ← hn, show lo + (fin - lo) = fin by omega, moved_nil (ats := ats) (d := max xs.length 1) _ _ _ _ (by omega)] at this
          exact this
        refine call_puts hw3.size ha3.words (fun w4 e4 => hcopy w4 (ha3.ext e4)) fun w4 e4 ho4 => ⟨_, rfl, ?_⟩
        rw [if_neg (by simp)]
        have hwd4 : Wd (movedD M lo fin to ats (max xs.length 1)) := fun x hx => by
          unfold movedD at hx
          obtain ⟨i, _, rfl⟩ := List.mem_map.1 hx
          have h1 : List.drop (max xs.length 1) ats = [] := List.drop_of_length_le (by omega)
          simp only [h1, List.not_mem_nil, if_false, Int.add_zero]
          split
          · exact getD_wd ha.wd _
          · exact getD_wd ha.wd _
        have ha4 : ArenaAt w4 g b (movedD M lo fin to ats (max xs.length 1)) := ha3.turned e4 ho4 (by rw [movedD_len]) hwd4
        intro q15 _
        by_cases hn0 : xs.length = 0
        · have hp : prevA ats xs.length = -1 := by unfold prevA; rw [if_pos hn0]
          have hp' : prevA (ats.map (· + (to - lo))) xs.length = -1 := by unfold prevA; rw [if_pos hn0]
          rw [if_pos (by simpa using hp)]
          rw [hn0] at ho4 hp'
          rw [hn0]
          exact ret_p (e4.chgS (below_chg hw3)) (by unfold moveV stV; simp only [hp']) ho4
        · have ht : ats[xs.length - 1]? = some (ats[xs.length - 1]'(by omega)) := List.getElem?_eq_getElem _
          have hx : xs[xs.length - 1]? = some (xs[xs.length - 1]'(by omega)) := List.getElem?_eq_getElem _
          have hft := h.fit _ _ _ hx ht
          obtain ⟨g0, _, _, _, hsx, z0, _⟩ := size_may hs (h.chain.may _ (List.mem_of_getElem? hx))
          have hp : prevA ats xs.length = ats[xs.length - 1]'(by omega) := by
            unfold prevA
            rw [if_neg hn0]
            simp [List.getD, ht]
          have hp' : prevA (ats.map (· + (to - lo))) xs.length = ats[xs.length - 1]'(by omega) + (to - lo) := by
            rw [prev_map _ (by omega), if_neg hn0]
            simp [List.getD, ht]
          rw [if_neg (by simp only [hp]; simp; omega)]
          simp only [hp]
          rw [wrap_id (n := to - lo) (by omega) (by omega), wrap_id (n := ats[xs.length - 1]'(by omega) + (to - lo)) (by omega) (by omega), ← hp']
          refine ⟨xs.length + 1, ?_⟩
          exact l0_75 (to := to) hs h (by omega) (by omega) hml.2 rfl (xs.length + 1) xs.length w4 (by omega) (Nat.le_refl _) (e4.chgS (below_chg hw3)) ha4
    · rw [if_neg (fun hc => hin hc.1)] at hr
      subst hr
      rw [if_neg hin]
      refine ⟨_, _, _, _, rfl, ?_⟩
      rw [if_pos (by simp)]
      exact ret_p (below_chg hw2) rfl ha2.words
end
section
variable {w0 : World} {p : List Fnc} {M : List Int} {xs : List Frm} {ats : List Int} {lo fin : Int} {A0 : Option Addr}
end
end Go.Proofs.Ytlccbaemcfjdoaa
