/-
  Layer 18: a frame's head put: the program's answer and the document's, by one plain rule.
  Conditions: the arena, and the words, lie in memory as told.
-/
import Derived.Test.YtlccbaemcfjdoaaE18
set_option linter.unusedVariables false
set_option linter.unusedSimpArgs false
namespace Go.Proofs.Ytlccbaemcfjdoaa
open Go.RowKit

def hdW (h : Hd) : List Int := [h.below + 1, h.f, h.pc, h.mode + (if h.dfd = true then 4 else 0), h.value, h.dfs, h.ops]
def putOk (n : Nat) (at_ : Int) (h : Hd) : Bool := inM n at_ 7 && decide (-1 ≤ h.below ∧ h.below < n ∧ 0 ≤ h.f ∧ h.f ≤ 2147483648 ∧ 0 ≤ h.pc ∧ h.pc ≤ 2147483648 ∧ 0 ≤ h.dfs ∧ h.dfs ≤ 2147483648 ∧ 0 ≤ h.ops ∧ h.ops ≤ 2147483648 ∧ 0 ≤ h.mode ∧ h.mode ≤ 2)
def putM (mem : List Int) (at_ : Int) (h : Hd) : List Int := if putOk mem.length at_ h = true then storesM mem at_ (hdW h) 7 else mem
def putE (n : Nat) (at_ : Int) (h : Hd) : Int := if putOk n at_ h = true then 0 else 1
theorem hdW_wd {n : Nat} {at_ : Int} {h : Hd} (hp : putOk n at_ h = true) (hv : 0 ≤ h.value ∧ h.value < 18446744073709551616) (hn : n ≤ 1000000000) : Wd (hdW h) := fun x hx => by
  unfold putOk at hp
  rw [Bool.and_eq_true] at hp
  have := of_decide_eq_true hp.2
  simp only [hdW, List.mem_cons, List.not_mem_nil, or_false] at hx
  rcases hx with rfl | rfl | rfl | rfl | rfl | rfl | rfl
  · omega
  · omega
  · omega
  · split <;> omega
  · exact hv
  · omega
  · omega
theorem putM_len (mem : List Int) (at_ : Int) (h : Hd) : (putM mem at_ h).length = mem.length := by unfold putM; split <;> simp [storesM_len]
theorem putM_wd {mem : List Int} (hm : Wd mem) (at_ : Int) {h : Hd} (hv : 0 ≤ h.value ∧ h.value < 18446744073709551616) (hl : mem.length ≤ 1000000000) : Wd (putM mem at_ h) := by
  unfold putM
  split
  · rename_i hp
    exact storesM_wd hm at_ (hdW_wd hp hv hl) 7
  · exact hm
theorem storesM_set {mem : List Int} {at_ : Int} {ws : List Int} {n i : Nat} (hin : 0 ≤ at_ ∧ at_ + n ≤ mem.length) (hi : i < n) : storesM mem at_ ws (i + 1) = (storesM mem at_ ws i).set (at_.toNat + i) (ws.getD i 0) := by
  show storeV _ _ _ = _
  unfold storeV
  rw [if_pos (by unfold inM; rw [storesM_len]; exact decide_eq_true (by omega))]
  congr 1
  omega
section
variable {w : World} {g b : Nat} {mem : List Int}
theorem puts44 (h : ArenaAt w g b mem) (at_ : Int) {hd : Hd} (hv : 0 ≤ hd.value ∧ hd.value < 18446744073709551616) : Puts Try.prog 44 [.pointer (some ⟨g, 0, none⟩), .int .i64 at_, hdV hd] w b (.int .i64 (putE mem.length at_ hd)) .u64 51 (putM mem at_ hd) := by
  refine puts_of (V44.sound ?_)
  intro q5 _
  have hl := h.len
  refine call_slice (Below.refl _ _) h fun A l c w1 e1 hw1 _ hn _ => ?_
  unfold errV
  refine ⟨_, _, _, _, rfl, ?_⟩
  have no : ∀ {w2}, Ext w.heap.size w w2 → putOk mem.length at_ hd = false → Ret w.heap.size w2 (IsP w b (.int .i64 (putE mem.length at_ hd)) .u64 51 (putM mem at_ hd) (.int .i64 1)) := fun he hp =>
    ret_p (ext_chg (Chg.refl _ _) he) (by unfold putE; rw [hp]; rfl) (by unfold putM; rw [hp]; exact h.words.ext he)
  cases hin : inM mem.length at_ 7 with
  | false =>
    simp only [Bool.false_eq_true, if_false]
    rw [if_pos (by simp)]
    exact no e1 (by unfold putOk; rw [hin]; rfl)
  | true =>
    simp only [if_true]
    rw [if_neg (by simp)]
    have hi := of_decide_eq_true hin
    refine call_gives hw1 (fun w2 e2 _ => gives96 ((h.ext e1).ext e2) hd.below) fun w2 e2 hw2 => ⟨_, rfl, ?_⟩
    have e12 := e1.trans e2
    have hpo : putOk mem.length at_ hd = decide (-1 ≤ hd.below ∧ hd.below < mem.length ∧ 0 ≤ hd.f ∧ hd.f ≤ 2147483648 ∧ 0 ≤ hd.pc ∧ hd.pc ≤ 2147483648 ∧ 0 ≤ hd.dfs ∧ hd.dfs ≤ 2147483648 ∧ 0 ≤ hd.ops ∧ hd.ops ≤ 2147483648 ∧ 0 ≤ hd.mode ∧ hd.mode ≤ 2) := by
      unfold putOk; rw [hin]; rfl
    have no' := fun (hp : ¬ (-1 ≤ hd.below ∧ hd.below < mem.length ∧ 0 ≤ hd.f ∧ hd.f ≤ 2147483648 ∧ 0 ≤ hd.pc ∧ hd.pc ≤ 2147483648 ∧ 0 ≤ hd.dfs ∧ hd.dfs ≤ 2147483648 ∧ 0 ≤ hd.ops ∧ hd.ops ≤ 2147483648 ∧ 0 ≤ hd.mode ∧ hd.mode ≤ 2)) => no e12 (by rw [hpo]; exact decide_eq_false hp)
    cases hbel : belowM mem.length hd.below with
    | false =>
      have := of_decide_eq_false hbel
      rw [if_neg (by simp)]
      exact no' (by omega)
    | true =>
      have hbb := of_decide_eq_true hbel
      rw [if_pos (by simp)]
      by_cases m0 : hd.mode < 0
      · rw [if_neg (by simpa using m0)]; exact no' (by omega)
      rw [if_pos (by simpa using m0)]
      by_cases m2 : hd.mode > 2
      · rw [if_pos (by simpa using m2)]; exact no' (by omega)
      rw [if_neg (by simpa using m2)]
      refine ⟨5, ?_⟩
      have w01 : IntKind.wrap .i64 ((0 : Int) + 1) = 1 := by decide
      have w12 : IntKind.wrap .i64 ((1 : Int) + 1) = 2 := by decide
      have w23 : IntKind.wrap .i64 ((2 : Int) + 1) = 3 := by decide
      have w34 : IntKind.wrap .i64 ((3 : Int) + 1) = 4 := by decide
      dsimp -zeta only [V44.l0]
      have g0 : ([hd.f, hd.pc, hd.dfs, hd.ops] : List Int).getD (0 : Int).toNat 0 = hd.f := rfl
      have g1 : ([hd.f, hd.pc, hd.dfs, hd.ops] : List Int).getD (1 : Int).toNat 0 = hd.pc := rfl
      have g2 : ([hd.f, hd.pc, hd.dfs, hd.ops] : List Int).getD (2 : Int).toNat 0 = hd.dfs := rfl
      have g3 : ([hd.f, hd.pc, hd.dfs, hd.ops] : List Int).getD (3 : Int).toNat 0 = hd.ops := rfl
      rw [if_pos (by decide), g0]
      refine ⟨by decide, by decide, ?_⟩
      by_cases t0 : hd.f < 0
      · rw [if_neg (by simpa using t0)]; exact no' (by omega)
      rw [if_pos (by simpa using t0)]
      by_cases t1 : hd.f > 2147483648
      · rw [if_pos (by simpa using t1)]; exact no' (by omega)
      rw [if_neg (by simpa using t1), w01, if_pos (by decide), g1]
      refine ⟨by decide, by decide, ?_⟩
      by_cases t2 : hd.pc < 0
      · rw [if_neg (by simpa using t2)]; exact no' (by omega)
      rw [if_pos (by simpa using t2)]
      by_cases t3 : hd.pc > 2147483648
      · rw [if_pos (by simpa using t3)]; exact no' (by omega)
      rw [if_neg (by simpa using t3), w12, if_pos (by decide), g2]
      refine ⟨by decide, by decide, ?_⟩
      by_cases t4 : hd.dfs < 0
      · rw [if_neg (by simpa using t4)]; exact no' (by omega)
      rw [if_pos (by simpa using t4)]
      by_cases t5 : hd.dfs > 2147483648
      · rw [if_pos (by simpa using t5)]; exact no' (by omega)
      rw [if_neg (by simpa using t5), w23, if_pos (by decide), g3]
      refine ⟨by decide, by decide, ?_⟩
      by_cases t6 : hd.ops < 0
      · rw [if_neg (by simpa using t6)]; exact no' (by omega)
      rw [if_pos (by simpa using t6)]
      by_cases t7 : hd.ops > 2147483648
      · rw [if_pos (by simpa using t7)]; exact no' (by omega)
      rw [if_neg (by simpa using t7), w34, if_neg (by decide)]
      have hok : putOk mem.length at_ hd = true := by rw [hpo]; exact decide_eq_true (by omega)
      have hwd := hdW_wd hok hv (by omega)
      have body : ∀ m, m = hd.mode + (if hd.dfd = true then 4 else 0) → V44.b1 w.heap.size (IsP w b (.int .i64 (putE mem.length at_ hd)) .u64 51 (putM mem at_ hd)) ⟨g, 0, none⟩ at_ m q5 hd.below hd.f hd.pc hd.mode hd.dfd hd.value hd.dfs hd.ops w2 := by
        intro m hm
        have hmb : 0 ≤ m ∧ m ≤ 6 := by rw [hm]; split <;> omega
        unfold V44.b1
        rw [wrap_id (n := hd.below + 1) (by omega) (by omega), wrap_u64 (n := hd.below + 1) (by omega) (by omega), wrap_u64 (n := hd.f) (by omega) (by omega), wrap_u64 (n := hd.pc) (by omega) (by omega), wrap_u64 (n := m) (by omega) (by omega), wrap_u64 (n := hd.dfs) (by omega) (by omega), wrap_u64 (n := hd.ops) (by omega) (by omega)]
        have hws : ([hd.below + 1, hd.f, hd.pc, m, hd.value, hd.dfs, hd.ops] : List Int) = hdW hd := by rw [hm]; rfl
        have hE : putE mem.length at_ hd = 0 := by unfold putE; rw [if_pos hok]
        have hM : putM mem at_ hd = storesM mem at_ (hdW hd) 7 := by unfold putM; rw [if_pos hok]
        rw [hE, hM]
        have loop : ∀ (k i : Nat) (w' : World), 7 < i + k → i ≤ 7 → Chg (fun j => j = b) w w' → ArenaAt w' g b (storesM mem at_ (hdW hd) i) →
            V44.l2 w.heap.size (IsP w b (.int .i64 0) .u64 51 (storesM mem at_ (hdW hd) 7)) k ⟨g, 0, none⟩ at_ (hd.below + 1) hd.f hd.pc m hd.value hd.dfs hd.ops i w' := by
          intro k
          induction k with
          | zero => intros; omega
          | succ k ih =>
            intro i w' hk hi' hc ha
            dsimp -zeta only [V44.l2]
            by_cases h1 : i < 7
            · rw [if_pos (by simp; omega), hws]
              refine ⟨by omega, by omega, ?_⟩
              rw [wrap_id (n := at_ + (i : Int)) (by omega) (by omega), Int.toNat_natCast]
              refine call_puts hc.size ha.words (fun w6 e6 => puts70 (ha.ext e6) _ _) fun w6 e6 ho6 => ?_
              unfold errV
              refine ⟨_, rfl, ?_⟩
              have hwi : IntKind.wrap .i64 ((i : Int) + 1) = ((i + 1 : Nat) : Int) := by rw [wrap_id (by omega) (by omega)]; rfl
              rw [hwi]
              exact ih (i + 1) w6 (by omega) (by omega) (e6.chgS hc) (ha.turned e6 ho6 (by rw [storesM_len, storesM_len]) (storesM_wd h.wd at_ hwd (i + 1)))
            · rw [if_neg (by simp; omega)]
              have : i = 7 := by omega
              subst this
              exact ret_p hc rfl ha.words
        exact ⟨8, loop 8 0 w2 (by omega) (by omega) (ext_chg (Chg.refl _ _) e12) (h.ext e12)⟩
      split
      · rename_i hdf
        exact body _ (by rw [if_pos hdf, wrap_id (by omega) (by omega)])
      · rename_i hdf
        exact body _ (by rw [if_neg hdf]; omega)
def RPutQ (A : Option Addr) (l c : Nat) (mem : List Int) (at_ : Int) (hd : Hd) (w1 : World) : Value → World → Prop := fun u w2 =>
  if putOk mem.length at_ hd = true then ∃ v, u = .tuple ⟨[v, .int .i64 0]⟩ ∧ OwnWs w2 w1.heap.size v (putM mem at_ hd) else u = .tuple ⟨[.slice A l c, .int .i64 1]⟩
theorem yields45 {A : Option Addr} {l c : Nat} (hx : WordsAt w A l c mem) (at_ : Int) {hd : Hd} (hv : 0 ≤ hd.value ∧ hd.value < 18446744073709551616) : Yields Try.prog 45 [.slice A l c, .int .i64 at_, hdV hd] w (RPutQ A l c mem at_ hd w) := by
  refine yields_of (V45.sound ?_)
  intro q5 _
  obtain rfl := hx.nums.len
  have hsm := hx.small
  refine call_gives (Below.refl _ _) (fun w1 _ _ => gives95 hx.nums.small at_ 7) fun w1 e1 hw1 => ⟨_, rfl, ?_⟩
  have heq : allM mem.length at_ 7 = inM mem.length at_ 7 := by unfold allM inM; exact decide_eq_decide.2 (by omega)
  rw [heq]
  have no : putOk mem.length at_ hd = false → Ret w.heap.size w1 (IsQ w (RPutQ A mem.length c mem at_ hd w) (.tuple ⟨[.slice A mem.length c, .int .i64 1]⟩)) := fun hp =>
    ret_q hw1 fun w2 _ => by unfold RPutQ; rw [hp]; rfl
  cases hin : inM mem.length at_ 7 with
  | false =>
    rw [if_neg (by simp)]
    exact no (by unfold putOk; rw [hin]; rfl)
  | true =>
    rw [if_pos (by simp)]
    have hi := of_decide_eq_true hin
    have hpo : putOk mem.length at_ hd = decide (-1 ≤ hd.below ∧ hd.below < mem.length ∧ 0 ≤ hd.f ∧ hd.f ≤ 2147483648 ∧ 0 ≤ hd.pc ∧ hd.pc ≤ 2147483648 ∧ 0 ≤ hd.dfs ∧ hd.dfs ≤ 2147483648 ∧ 0 ≤ hd.ops ∧ hd.ops ≤ 2147483648 ∧ 0 ≤ hd.mode ∧ hd.mode ≤ 2) := by
      unfold putOk; rw [hin]; rfl
    have no' := fun (hp : ¬ (-1 ≤ hd.below ∧ hd.below < mem.length ∧ 0 ≤ hd.f ∧ hd.f ≤ 2147483648 ∧ 0 ≤ hd.pc ∧ hd.pc ≤ 2147483648 ∧ 0 ≤ hd.dfs ∧ hd.dfs ≤ 2147483648 ∧ 0 ≤ hd.ops ∧ hd.ops ≤ 2147483648 ∧ 0 ≤ hd.mode ∧ hd.mode ≤ 2)) => no (by rw [hpo]; exact decide_eq_false hp)
    by_cases b0 : hd.below < -1
    · rw [if_neg (by simpa using b0)]; exact no' (by omega)
    rw [if_pos (by simpa using b0)]
    by_cases b1 : hd.below ≥ mem.length
    · rw [if_neg (by simpa using b1)]; exact no' (by omega)
    rw [if_pos (by simpa using b1)]
    by_cases t0 : hd.f < 0
    · rw [if_neg (by simpa using t0)]; exact no' (by omega)
    rw [if_pos (by simpa using t0)]
    by_cases t1 : hd.f > 2147483648
    · rw [if_neg (by simpa using t1)]; exact no' (by omega)
    rw [if_pos (by simpa using t1)]
    by_cases t2 : hd.pc < 0
    · rw [if_neg (by simpa using t2)]; exact no' (by omega)
    rw [if_pos (by simpa using t2)]
    by_cases t3 : hd.pc > 2147483648
    · rw [if_neg (by simpa using t3)]; exact no' (by omega)
    rw [if_pos (by simpa using t3)]
    by_cases t4 : hd.dfs < 0
    · rw [if_neg (by simpa using t4)]; exact no' (by omega)
    rw [if_pos (by simpa using t4)]
    by_cases t5 : hd.dfs > 2147483648
    · rw [if_neg (by simpa using t5)]; exact no' (by omega)
    rw [if_pos (by simpa using t5)]
    by_cases t6 : hd.ops < 0
    · rw [if_neg (by simpa using t6)]; exact no' (by omega)
    rw [if_pos (by simpa using t6)]
    by_cases t7 : hd.ops > 2147483648
    · rw [if_neg (by simpa using t7)]; exact no' (by omega)
    rw [if_pos (by simpa using t7)]
    by_cases m0 : hd.mode < 0
    · rw [if_neg (by simpa using m0)]; exact no' (by omega)
    rw [if_pos (by simpa using m0)]
    by_cases m2 : hd.mode > 2
    · rw [if_pos (by simpa using m2)]; exact no' (by omega)
    rw [if_neg (by simpa using m2)]
    have hok : putOk mem.length at_ hd = true := by rw [hpo]; exact decide_eq_true (by omega)
    obtain ⟨a, rfl⟩ : ∃ a, A = some a := by
      obtain ⟨_, p, _, hp, _⟩ := hx.nums.at (i := 0) (by omega)
      exact ⟨p, hp⟩
    refine expo_alloc hw1.size fun w2 w3 hs2 e3 _ ho3 => ?_
    have hB2 : w.heap.size ≤ w2.heap.size := Nat.le_trans hw1.size hs2
    have hw3 := e3.after hw1
    refine append_fresh (b0 := w.heap.size) hw3 ho3 hB2 hw3.size hB2 (RowAt.keep (NumE.kept _) (RowAt.keep (NumE.kept _) hx.nums (ext_keeps e1)) (ext_keeps e3)) (by omega) fun v w4 hk4 _ hw4 ho4 _ => ?_
    obtain ⟨g5, cap, hv5, hb5, hbb⟩ := owns_some ho4 (by omega)
    subst hv5
    refine ⟨_, mem.length, cap, rfl, ?_⟩
    have body : ∀ m, m = hd.mode + (if hd.dfd = true then 4 else 0) → V45.b0 w.heap.size (IsQ w (RPutQ (some a) mem.length c mem at_ hd w)) at_ (some ⟨g5, 0, none⟩) mem.length cap m q5 hd.below hd.f hd.pc hd.mode hd.dfd hd.value hd.dfs hd.ops w4 := by
      intro m hm
      have hmb : 0 ≤ m ∧ m ≤ 6 := by rw [hm]; split <;> omega
      unfold V45.b0
      rw [wrap_id (n := hd.below + 1) (by omega) (by omega), wrap_u64 (n := hd.below + 1) (by omega) (by omega), wrap_u64 (n := hd.f) (by omega) (by omega), wrap_u64 (n := hd.pc) (by omega) (by omega), wrap_u64 (n := hd.dfs) (by omega) (by omega), wrap_u64 (n := hd.ops) (by omega) (by omega)]
      refine expo_alloc hw4.size fun w5 w6 hs5 e6 _ ho6 => ?_
      have hlit : ([.int .u64 (hd.below + 1), .int .u64 hd.f, .int .u64 hd.pc, .int .u64 m, .int .u64 hd.value, .int .u64 hd.dfs, .int .u64 hd.ops] : List Value) = (hdW hd).map (.int .u64) := by rw [hm]; rfl
      rw [hlit] at ho6
      have hne : w5.heap.size ≠ g5 := by have := (ho4.lt g5 rfl).2; omega
      have loop : ∀ (k i : Nat) (w' : World), 7 < i + k → i ≤ 7 → Below w.heap.size w w' → OwnI w' w5.heap.size .u64 51 (hdW hd) → w'.ownsRow w.heap.size 51 1 (.slice (some ⟨g5, 0, none⟩) mem.length cap) mem.length ((storesM mem at_ (hdW hd) i).map (.int .u64)) →
          V45.l1 w.heap.size (IsQ w (RPutQ (some a) mem.length c mem at_ hd w)) k at_ (some ⟨g5, 0, none⟩) mem.length cap (some ⟨w5.heap.size, 0, none⟩) 7 7 i w' := by
        intro k
        induction k with
        | zero => intros; omega
        | succ k ih =>
          intro i w' hk hi' hw' hol hor
          dsimp -zeta only [V45.l1]
          by_cases h1 : i < 7
          · rw [if_pos (by simp; omega)]
            have hget : (hdW hd)[i]? = some ((hdW hd).getD i 0) := getD_get (by simp [hdW]; omega)
            have hcell := hol.cell hget
            have hlen : (storesM mem at_ (hdW hd) i).length = mem.length := storesM_len _ _ _ _
            have hidx : at_.toNat + i < ((storesM mem at_ (hdW hd) i).map (Value.int .u64)).length := by rw [List.length_map, hlen]; omega
            have hcell2 := owns_cell hor (List.getElem?_eq_getElem hidx)
            rw [wrap_id (n := at_ + (i : Int)) (by omega) (by omega)]
            have hto : (at_ + (i : Int)).toNat = at_.toNat + i := by omega
            refine ⟨_, rfl, by omega, by omega, _, hcell, _, rfl, by omega, by omega, ⟨_, by simpa only [own_add, bx_add, Nat.add_zero, Nat.zero_add, hto] using hcell2⟩, by simpa only [own_add, bx_add, Nat.add_zero, Nat.zero_add, hto] using owns_frozen hor _, ?_⟩
            simp only [own_add, bx_add, Nat.add_zero, Nat.zero_add, hto]
            have hset := owns_set hor (at_.toNat + i) (.int .u64 ((hdW hd).getD i 0)) (by omega)
            rw [← List.map_set, ← storesM_set (n := 7) ⟨hi.1, by omega⟩ h1] at hset
            have hwi : IntKind.wrap .i64 ((i : Int) + 1) = ((i + 1 : Nat) : Int) := by rw [wrap_id (by omega) (by omega)]; rfl
            rw [hwi]
            refine ih (i + 1) _ (by omega) (by omega) (hw'.setCell hbb _) ?_ hset
            unfold OwnI
            rw [at_other hne]
            exact hol
          · rw [if_neg (by simp; omega)]
            have : i = 7 := by omega
            subst this
            refine ret_q hw' fun w8 e8 => ?_
            unfold RPutQ
            rw [if_pos hok]
            refine ⟨_, rfl, ?_⟩
            unfold OwnWs putM
            rw [if_pos hok, storesM_len]
            exact e8.owns hor
      refine ⟨8, loop 8 0 w6 (by omega) (by omega) (e6.after hw4) ho6 ?_⟩
      exact e6.owns ho4
    split
    · rename_i hdf
      refine body _ ?_
      rw [if_pos hdf, wrap_u64 (n := hd.mode) (by omega) (by omega), wrap_u64 (by omega) (by omega)]
    · rename_i hdf
      refine body _ ?_
      rw [if_neg hdf, wrap_u64 (n := hd.mode) (by omega) (by omega)]; omega
end
end Go.Proofs.Ytlccbaemcfjdoaa
