import Derived.Test.YtidcpndlloppdaaZN21e
/-
  Layer 21: AbsmDefers's function returns true.
  Conditions: the arguments' memory says what their values are.
-/
set_option linter.unusedVariables false
set_option linter.unusedSimpArgs false
set_option maxRecDepth 20000
namespace Go.Proofs.Ytidcpndlloppdaa
open Go.RowKit
theorem take_getN {α : Type} {l : List α} {i : Nat} {x : α} (h : l[i]? = some x) : l.take (i + 1) = l.take i ++ [x] := by
  rw [List.take_add_one, h]; rfl
theorem defC_app (a b : List Int) : defC (a ++ b) = defC a ++ defC b := by unfold defC; rw [List.flatMap_append]
theorem defC_len : ∀ l : List Int, (defC l).length = 2 * l.length
  | [] => rfl
  | a :: r => by
    have : defC (a :: r) = [⟨1, a, 0⟩, ⟨19, 1, 0⟩] ++ defC r := rfl
    rw [this, List.length_append, defC_len r]; simp only [List.length_cons, List.length_nil]; omega
def OutCQ (Y : Option Addr) (w : World) : Prop := CodeAt w Y 4 oF.code
theorem outc_kept {Y : Option Addr} : KeptP (OutCQ Y) := fun w w' hw h => RowAt.keep InsE.kept h hw
def kindD (n : Nat) (falls : Bool) : Int := if n = 5 then 4 else if falls = true then 4 else 3
def wordD (n : Nat) (v : Int) : Nat := if n = 5 then far .quo (nw 1) (nw 0) else nw v
theorem b4_4 {w0 w : World} {xs : List Ins} {ms : List Mk} {vP : Value} {A : Option Addr} {n c : Nat} {Q : World → Prop} (h : GrowAt w0 w xs ms vP (.slice A n c) Q) (hn : n = ms.length) (hms : ms.length ≤ 100) {n0 g : Nat} {C : Option Addr} {cc : Nat} {p : List Fnc} {m : Mach} {F T : Value} {ss : List Sl} (hO : Own w n0 w0.heap.size g C cc p m F T ss)
    {k : Int} {u : Nat} (he : EndsT m (ms ++ [⟨k, u⟩])) : V4.b4 w0.heap.size (IsV w0 (.bool true)) k (u : Int) A n c ⟨g, 0, none⟩ w := by
  subst hn
  unfold V4.b4
  obtain ⟨h1, h2⟩ := he
  refine call_gives h.below (fun w1 e1 _ => gives13 (hO.mach.ext e1)) fun w1 e1 hw1 => ⟨_, rfl, ?_⟩
  rw [if_pos h1]
  refine call_trace hw1.size (hO.mach.ext e1) (by rw [h2]; simp; omega) fun A2 c2 w2 e2 hm2 _ => ⟨_, _, _, rfl, ?_⟩
  have hG2 := (h.ext e1).ext e2
  intro w3 e3 _
  obtain ⟨e4, ho4⟩ := alloc1 (.cells ⟨[.int .i64 k, .int .u64 (u : Int)]⟩ 31) e3 hG2.size
  simp only
  generalize w3.alloc (.cells ⟨[.int .i64 k, .int .u64 (u : Int)]⟩ 31) = w4 at *
  have hG4 := hG2.ext e4
  refine hG4.appMarks (ys := [⟨k, u⟩]) rfl (mark_one ho4) (by omega) fun A5 c5 w5 h5 e5 => ?_
  refine ⟨A5, _, c5, rfl, ?_⟩
  have hs1 := e1.size
  have k1 : Marks w5 A2 m.trace.length m.trace := RowAt.keep MarkE.kept hm2 fun q v hq => by
    obtain ⟨a, b⟩ := newW_cell.1 hq
    refine e5.cell (e4.cell a) fun hs => ?_
    have := ((h.ext e1).marks.lt _ hs).2
    omega
  have k2 : Marks w5 A5 (ms.length + 1) (ms ++ [⟨k, u⟩]) := by
    have := marks_own h5.marks (by simp; omega)
    exact this
  refine call_gives h5.below (fun w6 e6 _ => gives14 (RowAt.keep MarkE.kept k1 (ext_keeps e6)) (RowAt.keep MarkE.kept k2 (ext_keeps e6))) fun w6 e6 hw6 => ⟨_, rfl, ?_⟩
  rw [if_pos ((eqMs_iff _ _).2 h2)]
  exact call_gives hw6 (fun _ _ _ => gives16) fun w7 e7 hw7 => ⟨_, rfl, ret_is hw7 rfl⟩
section
variable {w0 : World} {v : Int} (hv : -32768 ≤ v ∧ v ≤ 32767) {falls : Bool} {ns : List Int} {S : Option Addr} {l c : Nat} (hns : Nums .i8 w0 S l ns) (hbd : ∀ n ∈ ns, -128 ≤ n ∧ n ≤ 127) {n : Nat} (hn : n = min l 5)
include hv hns hbd hn
def wantD (q : List Int) (t : Nat) : List Mk := (q.drop t).reverse.map fun a => ⟨1, nw a⟩
theorem l3_4 {Y : Option Addr} {q1 q2 : Nat} {P : Option Addr} {nP cP : Nat} (hnP : nP = 2 * n + 2) {yc : Nat} : ∀ (k t : Nat) (w : World) (A : Option Addr) (nA cA : Nat), t < k → t ≤ min n 4 → nA = min n 4 - t →
    GrowAt w0 w (defC (ns.take n) ++ [⟨1, v, 0⟩, ⟨if falls = true then 20 else 18, 0, 0⟩]) (wantD (ns.take (min n 4)) t) (.slice P nP cP) (.slice A nA cA) (OutCQ Y) →
    V4.l3 w0.heap.size (IsV w0 (.bool true)) k S l c (kindD n falls) (wordD n v : Int) A nA cA ((t : Int) - 1) q1 0 0 0 P nP cP q2 1 1 0 Y 4 yc w
  | 0, t, w, A, nA, cA, hk, ht, hnA, _ => by omega
  | k + 1, t, w, A, nA, cA, hk, ht, hnA, h => by
    subst hnA
    dsimp -zeta only [V4.l3]
    have hll := hns.len
    have hq4 : (ns.take (min n 4)).length = min n 4 := by rw [List.length_take]; omega
    have hwl : (wantD (ns.take (min n 4)) t).length = min n 4 - t := by unfold wantD; rw [List.length_map, List.length_reverse, List.length_drop, hq4]
    by_cases h0 : 0 < t
    · rw [if_pos (by simp; omega)]
      obtain ⟨x, q, hx, hq, hc⟩ := hns.at (i := t - 1) (by omega)
      have hxb := hbd x (List.mem_of_getElem? hx)
      have hix : ((t : Int) - 1).toNat = t - 1 := by omega
      rw [hix]
      refine ⟨q, hq, by omega, by omega, x, below_keeps h.below _ _ hc, ?_⟩
      rw [wrap_id (n := x) (by omega) (by omega)]
      refine call_gives h.below (fun _ _ _ => gives10 x) fun w1 e1 hw1 => ⟨_, rfl, ?_⟩
      have h1 := h.ext e1
      refine expo_alloc hw1.size fun w2 w3 hs2 e3 hlt3 ho3 => ?_
      have h3 := h1.ext e3
      refine h3.appMarks (ys := [⟨1, nw x⟩]) rfl (mark_one ho3) (by omega) fun A4 c4 w4 h4 e4 => ?_
      rw [hwl] at h4 ⊢
      refine ⟨A4, _, c4, rfl, ?_⟩
      rw [wrap_id (n := (t : Int) - 1 - 1) (by omega) (by omega), show (t : Int) - 1 - 1 = ((t - 1 : Nat) : Int) - 1 by omega]
      have hwant : wantD (ns.take (min n 4)) t ++ [⟨1, nw x⟩] = wantD (ns.take (min n 4)) (t - 1) := by
        unfold wantD
        have hx' : (ns.take (min n 4))[t - 1]? = some x := by rw [List.getElem?_take, if_pos (by omega)]; exact hx
        rw [drop_at hx', show t - 1 + 1 = t by omega, List.reverse_cons, List.map_append]
        rfl
      rw [hwant] at h4
      exact l3_4 hnP k (t - 1) w4 A4 _ c4 (by omega) (by omega) (by omega) h4
    · have : t = 0 := by omega
      subst this
      rw [if_neg (by simp)]
      refine expo_alloc h.size fun w1 w2 hs1 e2 hlt2 ho2 => ?_
      have h2 := h.ext e2
      have htl : (ns.take n).length = n := by rw [List.length_take]; omega
      have hlen : (defC (ns.take n) ++ ([⟨1, v, 0⟩, ⟨if falls = true then 20 else 18, 0, 0⟩] : List Ins)).length = nP := by rw [List.length_append, defC_len, htl, hnP]; rfl
      obtain ⟨A6, c6, hv6, hc6⟩ := owns_code h2.code (by omega)
      rw [hlen] at hv6
      cases hv6
      have hmain : CodeAt w2 P nP (defC (ns.take n) ++ [⟨1, v, 0⟩, ⟨if falls = true then 20 else 18, 0, 0⟩]) := by rw [← hlen]; exact RowAt.keep InsE.kept hc6 fun q v hq => (newW_cell.1 hq).1
      have hout := h2.aside.get outc_kept
      have hprog : ProgAt w2 (some ⟨w1.heap.size, 0, none⟩) 2 (defP (ns.take n) falls v) := ⟨rfl, by decide, fun j x hx => ⟨_, rfl, by
        match j, hx with
        | 0, hx => cases hx; exact ⟨at_cell (i := 0) ho2 rfl, at_cell (i := 1) ho2 rfl, at_cell (i := 2) ho2 rfl, P, _, cP, at_cell (i := 3) ho2 rfl, hmain⟩
        | 1, hx => cases hx; exact ⟨at_cell (i := 4) ho2 rfl, at_cell (i := 5) ho2 rfl, at_cell (i := 6) ho2 rfl, Y, 4, yc, at_cell (i := 7) ho2 rfl, hout⟩
        | j + 2, hx => simp [defP] at hx⟩⟩
      have hchk := def_check (ns.take n) (by omega) (fun a ha => hbd a (List.mem_of_mem_take ha)) falls v hv
      have hr : Rt (defP (ns.take n) falls v) := rt_of (by rw [hchk])
      have hfst : fnAt (defP (ns.take n) falls v) 0 = some ⟨0, 0, 0, defC (ns.take n) ++ [⟨1, v, 0⟩, ⟨if falls = true then 20 else 18, 0, 0⟩]⟩ := rfl
      have hend := def_end (ns.take n) (by omega) falls v
      refine call_played (p := defP (ns.take n) falls v) (n := 100) hr hfst rfl h2.size hprog (by omega) fun g Cm cm Fm Tm sm w7 h7 e7 => ⟨_, rfl, ?_⟩
      simp only [caseP]
      refine b4_4 (h2.ext e7) hwl.symm (by omega) h7 ?_
      have : defWant (ns.take n) falls v = wantD (ns.take (min n 4)) 0 ++ [⟨kindD n falls, wordD n v⟩] := by
        unfold defWant wantD kindD wordD
        rw [htl, List.drop_zero, List.take_take, Nat.min_comm 4 n]
        by_cases h5 : n = 5
        · rw [if_pos h5, if_pos h5, if_pos h5]
        · rw [if_neg h5, if_neg h5, if_neg h5]
      rw [← this]
      exact hend
theorem b1_4 {Y : Option Addr} {q1 q2 q3 : Nat} {P : Option Addr} {nP cP : Nat} (hnP : nP = 2 * n) {yc : Nat} {kind op : Int} (hkind : kind = if falls = true then 4 else 3) (hop : op = if falls = true then 20 else 18) {w : World} (h : GrowAt w0 w (defC (ns.take n)) [] (.slice P nP cP) N0 (OutCQ Y)) :
    V4.b1 w0.heap.size (IsV w0 (.bool true)) S l c v (n : Int) kind (nw v : Int) q1 op 0 0 q2 0 0 0 P nP cP q3 1 1 0 Y 4 yc w := by
  subst hnP
  unfold V4.b1
  rw [wrap_id (n := v) (by omega) (by omega)]
  have hll := hns.len
  have htl : (ns.take n).length = n := by rw [List.length_take]; omega
  have hcl : (defC (ns.take n)).length = 2 * n := by rw [defC_len, htl]
  refine expo_alloc h.size fun w1 w2 hs1 e2 hlt2 ho2 => ?_
  have h2 := h.ext e2
  refine h2.appCode (ys := [⟨1, v, 0⟩, ⟨op, 0, 0⟩]) rfl (fun j u hj => by rw [own_add]; exact at_cell ho2 hj) (by omega) fun A3 c3 w3 h3 => ?_
  rw [hcl] at h3 ⊢
  rw [hop] at h3
  refine ⟨A3, _, c3, rfl, ?_⟩
  have last : ∀ (w4 : World) (k : Int) (u : Nat), Ext w0.heap.size w3 w4 → k = kindD n falls → u = wordD n v → V4.b2 w0.heap.size (IsV w0 (.bool true)) S l c (n : Int) k (u : Int) q2 0 0 0 A3 (2 * n + 2) c3 q3 1 1 0 Y 4 yc w4 := fun w4 k u e4 hk hu => by
    subst hk
    subst hu
    unfold V4.b2
    have hm : (if (4 : Int) < (n : Int) then (4 : Int) else (n : Int)) = ((min n 4 : Nat) : Int) := by split <;> omega
    rw [hm, wrap_id (n := ((min n 4 : Nat) : Int) - 1) (by omega) (by omega)]
    refine ⟨6, l3_4 hv hns hbd hn rfl 6 (min n 4) w4 none 0 0 (by omega) (Nat.le_refl _) (by omega) ?_⟩
    have : wantD (ns.take (min n 4)) (min n 4) = [] := by
      unfold wantD
      rw [List.drop_of_length_le (by rw [List.length_take]; omega)]; rfl
    rw [this]
    exact h3.ext e4
  by_cases h5 : n = 5
  · rw [if_pos (by simp; omega)]
    refine call_gives h3.below (fun _ _ _ => gives10 1) fun w4 e4 hw4 => ⟨_, rfl, ?_⟩
    refine call_gives hw4 (fun _ _ _ => gives10 0) fun w5 e5 hw5 => ⟨_, rfl, ?_⟩
    refine call_gives hw5 (fun _ _ _ => gives17 (nw 1) (nw 0)) fun w6 e6 hw6 => ⟨_, rfl, ?_⟩
    exact last w6 4 _ ((e4.trans e5).trans e6) (by unfold kindD; rw [if_pos h5]) (by unfold wordD; rw [if_pos h5])
  · rw [if_neg (by simp; omega)]
    exact last w3 kind _ (Ext.refl _ _) (by unfold kindD; rw [if_neg h5]; exact hkind) (by unfold wordD; rw [if_neg h5])
theorem l0_4 {Y : Option Addr} {q1 q2 : Nat} {yc : Nat} : ∀ (k i : Nat) (w : World) (P : Option Addr) (nP cP : Nat), n < i + k → i ≤ n → nP = 2 * i → GrowAt w0 w (defC (ns.take i)) [] (.slice P nP cP) N0 (OutCQ Y) →
    V4.l0 w0.heap.size (IsV w0 (.bool true)) k S l c falls v (n : Int) (i : Int) q1 0 0 0 P nP cP q2 1 1 0 Y 4 yc w
  | 0, i, w, P, nP, cP, hk, hi, hnP, _ => by omega
  | k + 1, i, w, P, nP, cP, hk, hi, hnP, h => by
    subst hnP
    dsimp -zeta only [V4.l0]
    have hll := hns.len
    have htl : (ns.take i).length = i := by rw [List.length_take]; omega
    have hcl : (defC (ns.take i)).length = 2 * i := by rw [defC_len, htl]
    by_cases hlt : i < n
    · rw [if_pos (by simp; omega)]
      obtain ⟨x, q, hx, hq, hc⟩ := hns.at (i := i) (by omega)
      have hxb := hbd x (List.mem_of_getElem? hx)
      rw [Int.toNat_natCast]
      refine ⟨q, hq, by omega, by omega, x, below_keeps h.below _ _ hc, ?_⟩
      rw [wrap_id (n := x) (by omega) (by omega)]
      refine expo_alloc h.size fun w1 w2 hs1 e2 hlt2 ho2 => ?_
      have h2 := h.ext e2
      refine h2.appCode (ys := [⟨1, x, 0⟩, ⟨19, 1, 0⟩]) rfl (fun j u hj => by rw [own_add]; exact at_cell ho2 hj) (by omega) fun A3 c3 w3 h3 => ?_
      rw [hcl] at h3 ⊢
      refine ⟨A3, _, c3, rfl, ?_⟩
      rw [wrap_id (n := (i : Int) + 1) (by omega) (by omega)]
      have hd : defC (ns.take i) ++ [⟨1, x, 0⟩, ⟨19, 1, 0⟩] = defC (ns.take (i + 1)) := by rw [take_getN hx, defC_app]; rfl
      rw [hd] at h3
      exact l0_4 k (i + 1) w3 A3 _ c3 (by omega) (by omega) (by omega) h3
    · have : i = n := by omega
      subst this
      rw [if_neg (by simp)]
      intro M _
      rw [wrap_id (n := v) (by omega) (by omega)]
      refine call_gives h.below (fun _ _ _ => gives10 v) fun w1 e1 hw1 => ⟨_, rfl, ?_⟩
      cases falls with
      | true =>
        rw [if_pos rfl]
        exact b1_4 hv hns hbd hn (falls := true) rfl rfl rfl (h.ext e1)
      | false =>
        rw [if_neg (by simp)]
        exact b1_4 hv hns hbd hn (falls := false) rfl rfl rfl (h.ext e1)
end
theorem gives4 {w : World} {S : Option Addr} {l c : Nat} {ns : List Int} (hns : Nums .i8 w S l ns) (hbd : ∀ n ∈ ns, -128 ≤ n ∧ n ≤ 127) (falls : Bool) {v : Int} (hv : -32768 ≤ v ∧ v ≤ 32767) : Gives Try.prog 4 [.slice S l c, .bool falls, .int .i16 v] w (.bool true) := by
  refine gives_of (V4.sound ?_)
  unfold V4.vc
  intro w1 e1 _
  obtain ⟨e2, ho2⟩ := alloc1 (.cells ⟨[.int .i64 3, .int .i64 0, .int .i64 0, .int .i64 22, .int .i64 0, .int .i64 0, .int .i64 3, .int .i64 0, .int .i64 0, .int .i64 18, .int .i64 0, .int .i64 0]⟩ 23) e1 (Nat.le_refl _)
  have hs1 := e1.size
  simp only
  generalize w1.alloc (.cells ⟨[.int .i64 3, .int .i64 0, .int .i64 0, .int .i64 22, .int .i64 0, .int .i64 0, .int .i64 3, .int .i64 0, .int .i64 0, .int .i64 18, .int .i64 0, .int .i64 0]⟩ 23) = w2 at *
  have hw2 := e2.after (Below.refl _ _)
  intro q1 _ q2 _
  have hm : (if (5 : Int) < (l : Int) then (5 : Int) else (l : Int)) = ((min l 5 : Nat) : Int) := by split <;> omega
  rw [hm]
  refine ⟨7, l0_4 hv hns hbd rfl 7 0 w2 none 0 0 (by omega) (by omega) rfl ⟨hw2, ?_, OwnMs.nil _ _, ?_⟩⟩
  · exact World.ownsRow_nil _ _ _ _
  · have hc : CodeAt w2 (some ⟨w1.heap.size, 0, none⟩) 4 oF.code := code_row (xs := oF.code) ho2 rfl (by decide)
    refine (Aside.old (S := fun k => w2.heap.size ≤ k) (P := OutCQ (some ⟨w1.heap.size, 0, none⟩)) hc fun k hk => hk).mono fun k hk => ?_
    rcases hk with hk | hk <;> cases hk
end Go.Proofs.Ytidcpndlloppdaa
