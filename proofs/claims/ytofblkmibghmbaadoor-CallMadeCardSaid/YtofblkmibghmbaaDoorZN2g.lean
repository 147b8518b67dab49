import Derived.Test.YtofblkmibghmbaaDoorZN2
import Derived.Test.YtofblkmibghmbaaDoorZT2d
/-
  Layer 2: decimal texts read back.
  Conditions: none.
-/
set_option linter.unusedVariables false
set_option linter.unusedSimpArgs false
set_option maxRecDepth 100000
namespace Go.Proofs.YtofblkmibghmbaaDoor
open Go.RowKit Ieee
theorem bstr_get (L : List UInt8) (i : Nat) : (bstr L)[i]? = L[i]? := by
  by_cases h : i < L.length
  · have h2 : i < (bstr L).size := by rw [bstr_size]; exact h
    rw [getElem?_pos (bstr L) i h2, List.getElem?_eq_getElem h]
    rfl
  · have h2 : ¬ i < (bstr L).size := by rw [bstr_size]; exact h
    rw [getElem?_neg (bstr L) i h2, List.getElem?_eq_none (by omega)]
theorem bstr_tail (c : UInt8) (L : List UInt8) : (bstr (c :: L)).extract 1 (bstr (c :: L)).size = bstr L := by
  apply ByteArray.ext
  rw [ByteArray.data_extract, bstr_size]
  apply Array.toList_inj.1
  simp [bstr]
theorem rdD_take {L : List UInt8} {i : Nat} {c : UInt8} (h : L[i]? = some c) : rdD (L.take (i + 1)) = rdD (L.take i) * 10 + (c.toNat - 48) := by
  rw [List.take_add_one, h]
  exact rdD_app _ _
theorem rdD_lt {L : List UInt8} (hL : ∀ c ∈ L, 48 ≤ c.toNat ∧ c.toNat ≤ 57) : ∀ i, i ≤ L.length → rdD (L.take i) < 10 ^ i
  | 0, _ => by simp [rdD]
  | i + 1, h => by
    obtain ⟨c, hc⟩ : ∃ c, L[i]? = some c := ⟨L[i], List.getElem?_eq_getElem (by omega)⟩
    have ih := rdD_lt hL i (by omega)
    have hd := hL c (List.mem_of_getElem? hc)
    rw [rdD_take hc, Nat.pow_succ]
    omega
section
variable {w : World}
def rdV (down : Bool) (u : Nat) : Value := if down = true then .tuple ⟨[.int .i64 (-(u : Int)), .bool (decide (0 < u))]⟩ else .tuple ⟨[.int .i64 u, .bool true]⟩
theorem l3_37 {w0 : World} {L : List UInt8} {down : Bool} (hL : ∀ c ∈ L, 48 ≤ c.toNat ∧ c.toNat ≤ 57) (h16 : L.length ≤ 16) : ∀ (k i : Nat) (w : World), i + k = L.length + 1 → 1 ≤ k → Below w0.heap.size w0 w →
    V37.l3 w0.heap.size (IsV w0 (rdV down (rdD L))) k (bstr L) down ((rdD (L.take i) : Nat) : Int) (i : Int) w := by
  intro k
  induction k with
  | zero => intro i w h1 h2; omega
  | succ k ih =>
    intro i w hi hk hb
    unfold V37.l3
    rw [bstr_size]
    by_cases h : i < L.length
    · rw [if_pos (by simp; omega)]
      obtain ⟨c, hc⟩ : ∃ c, L[i]? = some c := ⟨L[i], List.getElem?_eq_getElem h⟩
      have hd := hL c (List.mem_of_getElem? hc)
      have hlt := rdD_lt hL i (by omega)
      have hp : 10 ^ i ≤ 10 ^ 15 := Nat.pow_le_pow_right (by omega) (by omega)
      have hp2 : (10 : Nat) ^ 15 = 1000000000000000 := by decide
      have hg : (bstr L)[(i : Int).toNat]? = some c := by rw [Int.toNat_natCast, bstr_get]; exact hc
      refine ⟨c, by omega, hg, ?_⟩
      rw [if_pos (by simp; omega)]
      refine ⟨c, by omega, hg, ?_⟩
      rw [if_neg (by simp; omega)]
      refine ⟨c, by omega, hg, ?_⟩
      have e8 : IntKind.wrap .u8 (((c.toNat : Nat) : Int) - 48) = ((c.toNat - 48 : Nat) : Int) := by
        have e : ∀ m : Int, IntKind.wrap .u8 m = m % 256 := fun m => by simp [IntKind.wrap, IntKind.bits, IntKind.signed]
        rw [e]; omega
      rw [e8, wrap_id (n := ((c.toNat - 48 : Nat) : Int)) (by omega) (by omega), wrap_id (n := ((rdD (L.take i) : Nat) : Int) * 10) (by omega) (by omega), wrap_id (by omega) (by omega), wrap_id (by omega) (by omega)]
      have := ih (i + 1) w (by omega) (by omega) hb
      rw [rdD_take hc] at this
      have e : (((rdD (L.take i) * 10 + (c.toNat - 48) : Nat)) : Int) = ((rdD (L.take i) : Nat) : Int) * 10 + ((c.toNat - 48 : Nat) : Int) := by omega
      rw [e] at this
      exact this
    · rw [if_neg (by simp; omega)]
      have hi2 : i = L.length := by omega
      have et : L.take i = L := by rw [hi2, List.take_length]
      rw [et]
      have hlt := rdD_lt hL L.length (Nat.le_refl _)
      rw [List.take_length] at hlt
      have hp : 10 ^ L.length ≤ 10 ^ 16 := Nat.pow_le_pow_right (by omega) h16
      have hp2 : (10 : Nat) ^ 16 = 10000000000000000 := by decide
      unfold rdV
      cases down
      · rw [if_neg (by decide), if_neg (by decide)]
        exact ret_is hb rfl
      · rw [if_pos rfl, if_pos rfl]
        refine ret_is hb ?_
        rw [wrap_id (by omega) (by omega)]
        have : decide (((rdD L : Nat) : Int) > 0) = decide (0 < rdD L) := decide_eq_decide.2 (by omega)
        rw [this, Int.zero_sub]
theorem b1_37 {w0 w : World} {u : Nat} {down : Bool} (hu : u < 10000000000000000) (hb : Below w0.heap.size w0 w) : V37.b1 w0.heap.size (IsV w0 (rdV down u)) (bstr (Lib.decDigits u)) down w := by
  have hne := dec_ne u
  have hlen : (Lib.decDigits u).length ≤ 16 := by
    rw [Lib.decDigits_length]
    refine Nat.le_of_not_lt fun h => ?_
    have key : ∀ (k v : Nat), v < 10 ^ (k + 1) → Lib.nDigits v ≤ k + 1 := by
      intro k
      induction k with
      | zero => intro v hv; rw [Lib.nDigits_small (by simpa using hv)]; omega
      | succ k ih =>
        intro v hv
        by_cases h10 : v < 10
        · rw [Lib.nDigits_small h10]; omega
        · rw [Lib.nDigits_big h10]
          have := ih (v / 10) (by rw [Nat.pow_succ] at hv; omega)
          omega
    have := key 15 u (by have : (10 : Nat) ^ (15 + 1) = 10000000000000000 := by decide
                         omega)
    omega
  have hpos : 0 < (Lib.decDigits u).length := List.length_pos_iff.2 hne
  have hall := dec_all u
  have b2 : V37.b2 w0.heap.size (IsV w0 (rdV down u)) (bstr (Lib.decDigits u)) down w := by
    unfold V37.b2
    refine ⟨(Lib.decDigits u).length + 1, ?_⟩
    have := l3_37 (w0 := w0) (L := Lib.decDigits u) (down := down) hall hlen ((Lib.decDigits u).length + 1) 0 w (by omega) (by omega) hb
    rw [rdD_dec, List.take_zero] at this
    exact this
  unfold V37.b1
  rw [bstr_size, if_pos (by simp; omega), if_pos (by simp; omega)]
  by_cases h1 : 1 < (Lib.decDigits u).length
  · rw [if_pos (by simp; omega)]
    obtain ⟨c, hc⟩ : ∃ c, (Lib.decDigits u)[0]? = some c := ⟨_, List.getElem?_eq_getElem hpos⟩
    refine ⟨c, by omega, by rw [bstr_get]; exact hc, ?_⟩
    have hu10 : ¬ u < 10 := fun h => by rw [Lib.decDigits, dif_pos h] at h1; simp at h1
    rw [if_neg]
    · exact b2
    · intro e
      have e2 : c.toNat = 48 := by
        have : ((c.toNat : Nat) : Int) = 48 := by simpa using e
        omega
      cases hd : Lib.decDigits u with
      | nil => exact hne hd
      | cons x r =>
        rw [hd] at hc
        simp only [List.getElem?_cons_zero, Option.some.injEq] at hc
        have : c = 48 := UInt8.toNat_inj.1 e2
        exact dec_head (show 0 < u by omega) r (by rw [hd, hc, this])
  · rw [if_neg (by simp; omega)]
    exact b2
theorem gives37 {n : Int} (hn : n.natAbs < 10000000000000000) : Gives Tryd.prog 37 [.string (bstr (Lib.itoa n))] w (.tuple ⟨[.int .i64 n, .bool true]⟩) := by
  refine gives_of (V37.sound ?_)
  unfold V37.vc V37.b0
  rw [bstr_size]
  unfold Lib.itoa
  by_cases h : n < 0
  · rw [if_pos h, if_pos (by simp)]
    refine ⟨45, by omega, by rw [bstr_get]; rfl, ?_⟩
    rw [if_pos (by decide)]
    refine ⟨by omega, by simp; omega, ?_⟩
    have htl := bstr_tail 45 (Lib.decDigits n.natAbs)
    rw [bstr_size] at htl
    rw [htl]
    have := b1_37 (w0 := w) (w := w) (u := n.natAbs) (down := true) hn (Below.refl _ _)
    have e : rdV true n.natAbs = .tuple ⟨[.int .i64 n, .bool true]⟩ := by
      unfold rdV
      rw [if_pos rfl, decide_eq_true (show 0 < n.natAbs by omega), show (-(n.natAbs : Int)) = n by omega]
    rw [e] at this
    exact this
  · rw [if_neg h]
    have hne := dec_ne n.toNat
    have hpos : 0 < (Lib.decDigits n.toNat).length := List.length_pos_iff.2 hne
    rw [if_pos (by simp; omega)]
    obtain ⟨c, hc⟩ : ∃ c, (Lib.decDigits n.toNat)[0]? = some c := ⟨_, List.getElem?_eq_getElem hpos⟩
    have hd := dec_all n.toNat c (List.mem_of_getElem? hc)
    refine ⟨c, by omega, by rw [bstr_get]; exact hc, ?_⟩
    have hne45 : (((c.toNat : Nat) : Int) == 45) = false := beq_eq_false_iff_ne.2 (by omega)
    rw [hne45, if_neg (by decide)]
    have := b1_37 (w0 := w) (w := w) (u := n.toNat) (down := false) (by omega) (Below.refl _ _)
    have e : rdV false n.toNat = .tuple ⟨[.int .i64 n, .bool true]⟩ := by
      unfold rdV
      rw [if_neg (by decide), show ((n.toNat : Nat) : Int) = n by omega]
    rw [e] at this
    exact this
end
end Go.Proofs.YtofblkmibghmbaaDoor
