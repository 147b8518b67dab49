/-
  Layer 20: the document's walker: all its steps are those of the walker by steps; a walker's roots, copied; walked returns true.
  Conditions: the words, and the program, lie in memory as told; the program's functions are sized.
-/
import Derived.Test.YtlccbaemcfjdoaaZP20
set_option linter.unusedVariables false
set_option linter.unusedSimpArgs false
namespace Go.Proofs.Ytlccbaemcfjdoaa
open Go.RowKit
def lookC (l : LookW) (_ : Unit) : List Value := [.int .i64 l.1, .bool l.2.1, .int .i64 l.2.2]
theorem lookC_len (l : LookW) (s : Unit) : (lookC l s).length = 3 := rfl
def lksC (L : List LookW) : List Value := flatC lookC L (List.replicate L.length ())
theorem lksC_snoc (L : List LookW) (l : LookW) : lksC (L ++ [l]) = lksC L ++ lookC l () := by
  unfold lksC
  induction L with
  | nil => rfl
  | cons x r ih =>
    simp only [List.cons_append, List.length_cons, List.replicate_succ, flatC] at ih ⊢
    rw [ih, List.append_assoc]
theorem lksC_len (L : List LookW) : (lksC L).length = L.length * 3 := flatC_len lookC_len (by simp)
theorem lksC_get {L : List LookW} {i j : Nat} {l : LookW} {u : Value} (h : L[i]? = some l) (hu : (lookC l ())[j]? = some u) : (lksC L)[i * 3 + j]? = some u := by
  refine flatC_get lookC_len h (s := ()) ?_ hu
  rw [List.getElem?_replicate, if_pos (List.getElem?_eq_some_iff.1 h).1]
def LookE (w : World) (p : Addr) (l : LookW) : Prop := w.cell? (p.add 0) = some (.int .i64 l.1) ∧ w.cell? (p.add 1) = some (.bool l.2.1) ∧ w.cell? (p.add 2) = some (.int .i64 l.2.2)
theorem LookE.kept : Kept1 LookE := fun _ _ _ _ hw h => ⟨hw _ _ h.1, hw _ _ h.2.1, hw _ _ h.2.2⟩
theorem push_look {B b0 : Nat} {w : World} {bs : List Nat} {v : Value} {n : Nat} {L : List LookW} {l : LookW} {K : Value → World → Prop} (hB : B ≤ w.heap.size) (hb0 : b0 ≤ w.heap.size) (ho : w.ownsRow b0 169 3 v n (lksC L)) (hn : n ≤ 1000000000)
    (hk : ∀ v' w', ExtS B (fun k => v.ownBlock = some k) w w' → w'.ownsRow b0 169 3 v' (n + 1) (lksC (L ++ [l])) → K v' w') :
    Expo B w bs fun w1 => Hide bs (w1.alloc (.cells ⟨[.int .i64 l.1, .bool l.2.1, .int .i64 l.2.2]⟩ 169)) fun w2 => RunK Try.prog (Builtin.append_ #[165, 165] 165 ⟨[v, .slice (some ⟨w1.heap.size, 0, none⟩) 1 1]⟩) B w2 bs K := by
  refine expo_alloc hB fun w1 w2 hs e2 _ ho2 => ?_
  have hb : Try.t169.bytes = 24 := by kernel_rfl
  refine append_own (t := 165) (e := 169) (i := Try.t169) (z := .agg ⟨[.int .i64 0, .bool false, .int .i64 0]⟩) (size := 3) (bytes := 24) (b0 := b0) (by kernel_rfl) (by kernel_rfl) (by kernel_rfl) (by kernel_rfl) hb rfl (by omega) (e2.owns ho) (news := lookC l ()) rfl (fun j y hj => by rw [own_add]; exact at_cell (L := lookC l ()) ho2 hj) (fun u hu => by
    simp only [lookC, List.mem_cons, List.not_mem_nil, or_false] at hu
    rcases hu with rfl | rfl | rfl <;> rfl) (by simp only [maxLen]; omega) (by omega) (Nat.le_trans hB e2.size) (Nat.le_trans hb0 e2.size) fun v' w' he ho' _ => hk v' w' (he.ofExt e2) (by rw [lksC_snoc]; exact ho')
theorem looks_row {w : World} {B : Nat} {A : Option Addr} {c : Nat} {L : List LookW} (h : w.ownsRow B 169 3 (.slice A L.length c) L.length (lksC L)) (hl : L.length ≤ 1000000000) : RowAt LookE 3 (newW B w) A L.length L := by
  refine ⟨rfl, by simp only [maxLen]; omega, fun i l hi => ?_⟩
  have hil := (List.getElem?_eq_some_iff.1 hi).1
  obtain ⟨g, cap, hv, hb, hle⟩ := owns_some h (by omega)
  cases hv
  have c : ∀ j u, (lookC l ())[j]? = some u → (newW B w).cell? (((⟨g, 0, none⟩ : Addr).add (i * 3)).add j) = some u := fun j u hu => by
    rw [own_add, bx_add]
    exact newW_cell.2 ⟨owns_cell h (lksC_get hi hu), (h.lt g rfl).1⟩
  exact ⟨_, rfl, c 0 _ rfl, c 1 _ rfl, c 2 _ rfl⟩
def Lk (out : List LookW) (b : Bool) (L : List LookW) : Prop := (b = false ∧ L = out) ∨ (b = true ∧ ∃ o a, out = o ++ [(a, false, 0)] ∧ L = o ++ [(a, true, 0)])
theorem Lk.push (out : List LookW) (a : Int) (b : Bool) : Lk (out ++ [(a, false, 0)]) b (out ++ [(a, b, 0)]) := by
  cases b
  · exact .inl ⟨rfl, rfl⟩
  · exact .inr ⟨rfl, out, a, rfl, rfl⟩
theorem Lk.no {out L : List LookW} (h : Lk out false L) : L = out := by
  rcases h with ⟨_, h⟩ | ⟨h, _⟩
  · exact h
  · cases h
def RunAt (p : List Fnc) (mem : List Int) (top : Int) (s : Wk) (out : List LookW) (b : Bool) : Prop := ∃ m L, runW p mem m (wk0 top) = (s, L) ∧ Lk out b L
theorem RunAt.step {p : List Fnc} {mem : List Int} {top : Int} {s s' : Wk} {out : List LookW} {a : Int} {b : Bool} (h : RunAt p mem top s out false) (hs : stepW p mem s = (s', (a, b, 0))) : RunAt p mem top s' (out ++ [(a, false, 0)]) b := by
  obtain ⟨m, L, hr, hl⟩ := h
  refine ⟨m + 1, out ++ [(a, b, 0)], ?_, Lk.push out a b⟩
  rw [runW_succ, hr, hl.no, hs]
def WalkdQ (p : List Fnc) (mem : List Int) (top : Int) (w1 : World) : Value → World → Prop := fun v w2 => ∃ m s L A c RA rc, runW p mem m (wk0 top) = (s, L) ∧ s.at_ = -1 ∧ v = .tuple ⟨[.slice A L.length c, .slice RA s.roots.length rc]⟩ ∧
  RowAt LookE 3 (newW w1.heap.size w2) A L.length L ∧ Nums .u64 (newW w1.heap.size w2) RA s.roots.length s.roots ∧ L.length ≤ 500000
structure Outs2 (w0 w : World) (A : Option Addr) (c : Nat) (out : List LookW) (RA : Option Addr) (rc : Nat) (roots : List Int) : Prop where
  looks : w.ownsRow w0.heap.size 169 3 (.slice A out.length c) out.length (lksC out)
  row : w.ownsRow w0.heap.size 51 1 (.slice RA roots.length rc) roots.length (roots.map (.int .u64))
  below : Below w0.heap.size w0 w
section
variable {w0 : World} {p : List Fnc} {mem : List Int} {top : Int}
theorem Outs2.ext {w w' : World} {A RA : Option Addr} {c rc : Nat} {out : List LookW} {roots : List Int} (h : Outs2 w0 w A c out RA rc roots) (he : Ext w0.heap.size w w') : Outs2 w0 w' A c out RA rc roots := ⟨he.owns h.looks, he.owns h.row, he.after h.below⟩
theorem Outs2.look {w w' : World} {A RA A' : Option Addr} {c rc c' : Nat} {out : List LookW} {l : LookW} {roots : List Int} (h : Outs2 w0 w A c out RA rc roots) (he : ExtS w0.heap.size (fun k => (Value.slice A out.length c).ownBlock = some k) w w') (ho : w'.ownsRow w0.heap.size 169 3 (.slice A' (out.length + 1) c') (out.length + 1) (lksC (out ++ [l]))) : Outs2 w0 w' A' c' (out ++ [l]) RA rc roots :=
  ⟨by simpa using ho, owns_extT h.row he (other_own h.looks (ts := [51]) (by simp)) (by simp), he.after (fun j hj => (h.looks.lt j hj).1) h.below⟩
theorem Outs2.root {w w' : World} {A RA A' : Option Addr} {c rc c' : Nat} {out : List LookW} {x : Int} {roots : List Int} (h : Outs2 w0 w A c out RA rc roots) (he : ExtS w0.heap.size (fun k => (Value.slice RA roots.length rc).ownBlock = some k) w w') (ho : w'.ownsRow w0.heap.size 51 1 (.slice A' (roots.length + 1) c') (roots.length + 1) ((roots ++ [x]).map (.int .u64))) : Outs2 w0 w' A c out A' c' (roots ++ [x]) :=
  ⟨owns_extT h.looks he (other_own h.row (ts := [169]) (by simp)) (by simp), by simpa using ho, he.after (fun j hj => (h.row.lt j hj).1) h.below⟩
theorem fail_110 {bs : List Nat} {w : World} {A RA : Option Addr} {c rc : Nat} {out : List LookW} {roots : List Int} {s : Wk} {a e : Int} (hO : Outs2 w0 w A c out RA rc roots) (hol : out.length ≤ 400000) (hR : RunAt p mem top s out false) (hs : stepW p mem s = failW s a e) :
    Expo w0.heap.size w bs fun w1 => Hide bs (w1.alloc (.cells ⟨[.int .i64 a, .bool true, .int .i64 e]⟩ 169)) fun w2 => RunK Try.prog (Builtin.append_ #[165, 165] 165 ⟨[.slice A out.length c, .slice (some ⟨w1.heap.size, 0, none⟩) 1 1]⟩) w0.heap.size w2 bs fun v w3 =>
      ∃ (A35 : Option Addr) (A35l A35c : Nat), v = .slice A35 A35l A35c ∧ Ret w0.heap.size w3 (IsQ w0 (WalkdQ p mem top w0) (.tuple ⟨[.slice A35 A35l A35c, .slice none 0 0]⟩)) := by
  refine push_look (l := (a, true, e)) hO.below.size hO.below.size hO.looks (by omega) fun v w1 e1 ho1 => ?_
  obtain ⟨A1, c1, rfl⟩ := owns_slice0 ho1
  have hO1 := hO.look e1 ho1
  refine ⟨A1, _, c1, rfl, ret_q hO1.below fun w2 e2 => ?_⟩
  obtain ⟨m, L, hr, hl⟩ := hR
  have hlen : (out ++ [(a, true, e)]).length = out.length + 1 := by simp
  refine ⟨m + 1, (failW s a e).1, out ++ [(a, true, e)], A1, c1, none, 0, ?_, rfl, ?_, ?_, nums_nil _ _, by rw [hlen]; omega⟩
  · rw [runW_succ, hr, hl.no, hs]; rfl
  · rw [hlen]; rfl
  · exact looks_row (e2.owns hO1.looks) (by omega)
theorem l3_110 {mA : Option Addr} {ml mc : Nat} {L0 : Option Addr → Nat → Nat → Option Addr → Nat → Nat → Option Addr → Nat → Nat → Int → Nat → Option Addr → Nat → Nat → World → Prop} (hm : WordsAt w0 mA ml mc mem) {a b k14 : Int} {G : Fnc} (hG : sizedF G = true) (ha : 0 ≤ a ∧ a < mem.length) (hb : -1 ≤ b ∧ b < a) (hml : mem.length ≤ 20000) (hk14 : k14 = a + aheadM G) {N : Nat} (hN : N ≤ 400000) {q13 q4 : Nat} {C P : Option Addr} {cl cc pl pc : Nat}
    (hk : ∀ (w : World) (A : Option Addr) (c : Nat) (out : List LookW) (RA : Option Addr) (rc : Nat) (roots : List Int), Outs2 w0 w A c out RA rc roots → out.length ≤ N → roots.length ≤ out.length → RunAt p mem top ⟨b, 0, b, G, roots⟩ out (decide (b = -1)) → L0 mA ml mc A out.length c RA roots.length rc b q4 P pl pc w) :
    ∀ (k i : Nat) (w : World) (A : Option Addr) (c : Nat) (out : List LookW) (RA : Option Addr) (rc : Nat) (roots : List Int), G.refs.toNat < i + k → i ≤ G.refs.toNat → Outs2 w0 w A c out RA rc roots → out.length + (G.refs.toNat - i) ≤ N → roots.length ≤ out.length → RunAt p mem top (endW a b G i roots) out (decide (i = G.refs.toNat ∧ b = -1)) →
      V110.l3 w0.heap.size (IsQ w0 (WalkdQ p mem top w0)) L0 k mA ml mc A out.length c RA roots.length rc (b + 1) k14 (G.locals - G.refs + i) q13 G.params G.locals G.refs C cl cc q4 P pl pc w := by
  have hbd := sized_bd hG
  have hah : 7 ≤ aheadM G ∧ aheadM G ≤ 23 := by unfold aheadM; split <;> omega
  have hmll := hm.nums.len
  intro k
  induction k with
  | zero => intros; omega
  | succ k ih =>
    intro i w A c out RA rc roots hki hi hO hol hrl hR
    dsimp -zeta only [V110.l3]
    by_cases hlt : i < G.refs.toNat
    · rw [if_pos (by simp; omega)]
      have hadr : IntKind.wrap .i64 (k14 + (G.locals - G.refs + (i : Int))) = a + firstM G + i := by rw [hk14, wrap_id (by omega) (by omega)]; unfold firstM; omega
      have hf0 : 0 ≤ firstM G := by unfold firstM; omega
      rw [hadr]
      rw [decide_eq_false (fun h => by omega)] at hR
      have he : endW a b G i roots = ⟨a, 2 + i, b, G, roots⟩ := by unfold endW; rw [if_neg (by omega)]
      have hat : atW ⟨a, 2 + i, b, G, roots⟩ = a + firstM G + i := by
        unfold atW firstM
        simp only
        rw [if_pos (by omega)]
        omega
      by_cases hin : a + firstM G + i ≥ ml
      · rw [if_pos (by simpa using hin)]
        exact fail_110 hO (by omega) hR (by
          rw [he]
          unfold stepW
          rw [if_neg (by simp only; omega), hat, if_neg (by unfold inM; simp; omega)])
      · rw [if_neg (by simpa using hin)]
        obtain ⟨j, hj⟩ : ∃ j : Nat, a + firstM G + i = j := ⟨(a + firstM G + i).toNat, by omega⟩
        obtain ⟨x, q, hx, hq, hc⟩ := Nums.at hm.nums (i := j) (by omega)
        have hstep := step_ref (p := p) (mem := mem) (a := a) (b := b) (G := G) (i := i) (R := roots) (v := x) hlt ha.1 hf0 (by omega) (by rw [hj, Int.toNat_natCast]; simp [List.getD, hx])
        have hR' := hR.step hstep
        rw [hj] at hR' ⊢
        have hc' : ∀ {w' : World}, Below w0.heap.size w0 w' → w'.cell? (q.add ((j : Int)).toNat) = some (.int .u64 x) := fun {w'} hw => by rw [Int.toNat_natCast]; exact below_keeps hw _ _ hc
        refine ⟨q, hq, by omega, by omega, x, hc' hO.below, ?_⟩
        have fin : ∀ (w : World) (RA : Option Addr) (rc : Nat) (roots' : List Int), Outs2 w0 w A c out RA rc roots' → roots'.length ≤ out.length + 1 → RunAt p mem top (endW a b G (i + 1) roots') (out ++ [((j : Int), false, 0)]) (decide (i + 1 = G.refs.toNat ∧ b = -1)) →
            V110.b4 w0.heap.size (IsQ w0 (WalkdQ p mem top w0)) L0 (V110.l3 w0.heap.size (IsQ w0 (WalkdQ p mem top w0)) L0 k) mA ml mc A out.length c RA roots'.length rc (b + 1) k14 (G.locals - G.refs + i) q13 G.params G.locals G.refs C cl cc q4 P pl pc w := by
          intro w RA rc roots' hO hrl' hR'
          unfold V110.b4
          rw [hadr, hj]
          refine push_look (l := ((j : Int), false, 0)) hO.below.size hO.below.size hO.looks (by omega) fun v w1 e1 ho1 => ?_
          obtain ⟨A1, c1, rfl⟩ := owns_slice0 ho1
          refine ⟨A1, _, c1, rfl, ?_⟩
          have hlen : (out ++ [((j : Int), false, (0 : Int))]).length = out.length + 1 := by simp
          have hwi : IntKind.wrap .i64 (G.locals - G.refs + (i : Int) + 1) = G.locals - G.refs + ((i + 1 : Nat) : Int) := by rw [wrap_id (by omega) (by omega)]; omega
          rw [hwi]
          have := ih (i + 1) w1 A1 c1 (out ++ [((j : Int), false, 0)]) RA rc roots' (by omega) (by omega) (hO.look e1 ho1) (by rw [hlen]; omega) (by rw [hlen]; exact hrl') hR'
          rw [hlen] at this
          exact this
        by_cases h0 : x = 0
        · rw [if_neg (by simpa using h0)]
          have hnz : nz [x] = [] := by rw [h0]; rfl
          rw [hnz, List.append_nil] at hR'
          exact fin w RA rc roots hO (by omega) hR'
        · rw [if_pos (by simpa using h0)]
          have hnz : nz [x] = [x] := by simp [nz, h0]
          rw [hnz] at hR'
          refine ⟨q, hq, by omega, by omega, x, hc' hO.below, ?_⟩
          refine push_wordO hO.below.size hO.below.size hO.row (by omega) fun v w1 e1 ho1 _ => ?_
          obtain ⟨A1, c1, rfl⟩ := owns_slice0 ho1
          refine ⟨A1, _, c1, rfl, ?_⟩
          have hlen : (roots ++ [x]).length = roots.length + 1 := by simp
          have := fin w1 A1 c1 (roots ++ [x]) (hO.root e1 ho1) (by rw [hlen]; omega) hR'
          rw [hlen] at this
          exact this
    · have hil : i = G.refs.toNat := by omega
      subst hil
      rw [if_neg (by simp; omega)]
      have hb1 : IntKind.wrap .i64 (IntKind.wrap .i64 (b + 1) - 1) = b := by rw [wrap_id (n := b + 1) (by omega) (by omega), wrap_id (by omega) (by omega)]; omega
      rw [hb1]
      have he : endW a b G G.refs.toNat roots = ⟨b, 0, b, G, roots⟩ := by unfold endW; rw [if_pos rfl]
      rw [he] at hR
      simp only [true_and] at hR
      exact hk w A c out RA rc roots hO (by omega) hrl hR
theorem l0_110 {mA P : Option Addr} {ml mc cap : Nat} (hm : WordsAt w0 mA ml mc mem) (hp : ProgAt w0 P p.length p) (hs : Sized p) (hpl : p.length ≤ 1000) (hml : mem.length ≤ 20000) {q4 : Nat} :
    ∀ (k : Nat) (at_ : Int) (w : World) (A : Option Addr) (c : Nat) (out : List LookW) (RA : Option Addr) (rc : Nat) (s : Wk), 1 ≤ k → (at_ < mem.length → at_ + 1 < k) → s.at_ = at_ → s.next = 0 → Outs2 w0 w A c out RA rc s.roots → out.length + 10 * k ≤ 300000 → s.roots.length ≤ out.length → RunAt p mem top s out (decide (at_ = -1)) →
      V110.l0 w0.heap.size (IsQ w0 (WalkdQ p mem top w0)) k mA ml mc A out.length c RA s.roots.length rc at_ q4 P p.length cap w := by
  have hmll := hm.nums.len
  intro k
  induction k with
  | zero => intros; omega
  | succ k ih =>
    intro at_ w A c out RA rc s h1 hk hsat hsn hO hol hrl hR
    dsimp -zeta only [V110.l0]
    by_cases hend : at_ = -1
    · rw [if_neg (by simpa using hend)]
      rw [decide_eq_true hend] at hR
      obtain ⟨m, L, hr, hl⟩ := hR
      rcases hl with ⟨hl, _⟩ | ⟨_, o, a, ho, hL⟩
      · cases hl
      subst ho hL
      have hlen : (o ++ [(a, false, (0 : Int))]).length = o.length + 1 := by simp
      obtain ⟨g, cp, hv, hb, hle⟩ := owns_some hO.looks (by omega)
      cases hv
      have hwi : IntKind.wrap .i64 (((o ++ [(a, false, (0 : Int))]).length : Int) - 1) = (o.length : Int) := by rw [hlen, wrap_id (by omega) (by omega)]; omega
      rw [hwi]
      have hcell : (lksC (o ++ [(a, false, 0)]))[o.length * 3 + 1]? = some (.bool false) := lksC_get (l := (a, false, 0)) (by simp) rfl
      refine ⟨_, rfl, by omega, by rw [hlen]; omega, ?_⟩
      simp only [own_add, bx_add, Nat.zero_add, Nat.add_zero, Int.toNat_natCast]
      refine ⟨⟨_, owns_cell hO.looks hcell⟩, owns_frozen hO.looks _, ?_⟩
      have hset := owns_set hO.looks (o.length * 3 + 1) (.bool true) (by rw [hlen]; omega)
      have he : (lksC (o ++ [(a, false, 0)])).set (o.length * 3 + 1) (.bool true) = lksC (o ++ [(a, true, 0)]) := by
        rw [lksC_snoc, lksC_snoc, List.set_append_right _ _ (by rw [lksC_len]; omega), lksC_len, show o.length * 3 + 1 - o.length * 3 = 1 by omega]
        rfl
      rw [he] at hset
      have hrow := owns_other (w' := w.setCell ⟨g, o.length * 3 + 1, none⟩ (.bool true)) hO.row fun j hj => at_other fun e => by
        subst e
        exact owns_ne hO.row hO.looks (by decide) hj rfl
      refine ret_q (hO.below.setCell (hO.looks.lt g rfl).1 _) fun w1 e1 => ⟨m, s, o ++ [(a, true, 0)], some ⟨g, 0, none⟩, c, RA, rc, hr, by rw [hsat]; exact hend, by rw [hlen]; simp, ?_, ?_, by rw [hlen] at hol; simp; omega⟩
      · have hl2 : (o ++ [(a, true, (0 : Int))]).length = (o ++ [(a, false, (0 : Int))]).length := by simp
        refine looks_row (c := c) ?_ (by rw [hl2]; omega)
        rw [hl2]
        exact e1.owns hset
      · exact owns_newk (e1.owns hrow) (by omega)
    · rw [if_pos (by simpa using hend)]
      rw [decide_eq_false hend] at hR
      have hatW : atW s = at_ := by unfold atW; rw [if_neg (by omega), hsat, hsn]; omega
      have hstep0 : ¬ inM mem.length at_ 1 = true → stepW p mem s = failW s at_ 1 := fun h => by
        unfold stepW; rw [if_neg (by rw [hsat]; exact hend), hatW, if_neg h]
      by_cases hneg : at_ < 0
      · rw [if_neg (by simpa using hneg)]
        unfold V110.b1
        rw [if_pos rfl]
        exact fail_110 hO (by omega) hR (hstep0 (by unfold inM; simp; omega))
      · rw [if_pos (by simpa using hneg)]
        unfold V110.b1
        by_cases hge : at_ ≥ ml
        · rw [if_pos (by simpa using hge)]
          exact fail_110 hO (by omega) hR (hstep0 (by unfold inM; simp; omega))
        · rw [if_neg (by simpa using hge)]
          have hk1 := hk (by omega)
          obtain ⟨j, hj⟩ : ∃ j : Nat, at_ = j := ⟨at_.toNat, by omega⟩
          obtain ⟨x, q, hx, hq, hc⟩ := Nums.at hm.nums (i := j) (by omega)
          have hxb := hm.wd.at hx
          have hgx : mem.getD at_.toNat 0 = x := by rw [hj, Int.toNat_natCast]; simp [List.getD, hx]
          have hin : inM mem.length at_ 1 = true := by unfold inM; exact decide_eq_true (by omega)
          have hstep : stepW p mem s = if (mem.length : Int) < x ∨ at_ ≤ x - 1 then failW s at_ 6 else advW { s with under := x - 1 } at_ := by
            unfold stepW
            rw [if_neg (by rw [hsat]; exact hend), hatW, if_pos hin, if_pos hsn, hgx, hsat]
          refine ⟨q, hq, by omega, by omega, x, by rw [hj, Int.toNat_natCast]; exact below_keeps hO.below _ _ hc, ?_⟩
          rw [wrap_u64 (n := (ml : Int)) (by omega) (by omega)]
          by_cases hbig : (mem.length : Int) < x
          · rw [if_neg (by simp; omega)]
            unfold V110.b2
            rw [if_pos rfl]
            exact fail_110 hO (by omega) hR (by rw [hstep, if_pos (.inl hbig)])
          · rw [if_pos (by simp; omega)]
            unfold V110.b2
            rw [wrap_id (n := x) (by omega) (by omega), wrap_id (n := x - 1) (by omega) (by omega)]
            by_cases hun : x - 1 ≥ at_
            · rw [if_pos (by simpa using hun)]
              exact fail_110 hO (by omega) hR (by rw [hstep, if_pos (.inr hun)])
            · rw [if_neg (by simpa using hun)]
              rw [if_neg (by omega)] at hstep
              have hadv : advW { s with under := x - 1 } at_ = (⟨at_, 1, x - 1, s.f, s.roots⟩, (at_, false, 0)) := by
                unfold advW movedW
                simp only
                rw [if_neg (by omega), hsat, hsn, decide_eq_false hend]
                rfl
              have hR1 := hR.step (hstep.trans hadv)
              refine push_look (l := (at_, false, 0)) hO.below.size hO.below.size hO.looks (by omega) fun v w1 e1 ho1 => ?_
              obtain ⟨A1, c1, rfl⟩ := owns_slice0 ho1
              have hO1 := hO.look e1 ho1
              have hlen1 : (out ++ [(at_, false, (0 : Int))]).length = out.length + 1 := by simp
              refine ⟨A1, _, c1, rfl, ?_⟩
              rw [wrap_id (n := at_ + 1) (by omega) (by omega)]
              have hat1 : atW ⟨at_, 1, x - 1, s.f, s.roots⟩ = at_ + 1 := by unfold atW; simp only; rw [if_neg (by omega)]
              by_cases hge1 : at_ + 1 ≥ ml
              · rw [if_pos (by simpa using hge1)]
                have := fail_110 (bs := [q4]) hO1 (by rw [hlen1]; omega) hR1 (a := at_ + 1) (e := 1) (by
                  unfold stepW
                  rw [if_neg (by simp only; omega), hat1, if_neg (by unfold inM; simp; omega)])
                rw [hlen1] at this
                exact this
              · rw [if_neg (by simpa using hge1)]
                obtain ⟨y, q', hy, hq', hd⟩ := Nums.at hm.nums (i := j + 1) (by omega)
                rw [hq] at hq'; cases hq'
                have hyb := hm.wd.at hy
                have hgy : mem.getD (at_ + 1).toNat 0 = y := by rw [show (at_ + 1).toNat = j + 1 by omega]; simp [List.getD, hy]
                have hin1 : inM mem.length (at_ + 1) 1 = true := by unfold inM; exact decide_eq_true (by omega)
                have hstep1 : stepW p mem ⟨at_, 1, x - 1, s.f, s.roots⟩ = match p[y.toNat]? with
                    | none => failW ⟨at_, 1, x - 1, s.f, s.roots⟩ (at_ + 1) 6
                    | some g => advW ⟨at_, 1, x - 1, g, s.roots⟩ (at_ + 1) := by
                  unfold stepW
                  rw [if_neg (by simp only; omega), hat1, if_pos hin1, if_neg (by simp only; omega), if_pos rfl, hgy]
                  cases p[y.toNat]? <;> rfl
                refine ⟨q, hq, by omega, by omega, y, by rw [show (at_ + 1).toNat = j + 1 by omega]; exact below_keeps hO1.below _ _ hd, ?_⟩
                rw [wrap_u64 (n := (p.length : Int)) (by omega) (by omega)]
                by_cases hfn : y ≥ p.length
                · rw [if_pos (by simpa using hfn)]
                  have hn : p[y.toNat]? = none := List.getElem?_eq_none (by omega)
                  rw [hn] at hstep1
                  have := fail_110 (bs := [q4]) hO1 (by rw [hlen1]; omega) hR1 (a := at_ + 1) (e := 6) hstep1
                  rw [hlen1] at this
                  exact this
                · rw [if_neg (by simpa using hfn)]
                  rw [wrap_id (n := y) (by omega) (by omega)]
                  obtain ⟨G, q', C, cc, hG, hq', c0, cl1, cl2, c3, hcode⟩ := prog_at hp (i := y.toNat) (by omega)
                  rw [hG] at hstep1
                  have hGs := hs G (List.mem_of_getElem? hG)
                  have hbd := sized_bd hGs
                  refine ⟨q', hq', by omega, by omega, G.params, below_keeps hO1.below _ _ c0, G.locals, below_keeps hO1.below _ _ cl1, G.refs, below_keeps hO1.below _ _ cl2, C, G.code.length, cc, below_keeps hO1.below _ _ c3, ?_⟩
                  intro q13 _
                  have hadv1 : advW ⟨at_, 1, x - 1, G, s.roots⟩ (at_ + 1) = (endW at_ (x - 1) G 0 s.roots, (at_ + 1, decide (0 = G.refs.toNat ∧ x - 1 = -1), 0)) := by
                    unfold advW movedW endW
                    simp only
                    by_cases hl : 0 = G.refs.toNat
                    · rw [if_pos (by omega), if_pos hl]
                      simp [← hl]
                    · rw [if_neg (by omega), if_neg hl]
                      simp only [hl, false_and, decide_false]
                      rw [decide_eq_false (by omega)]
                      rfl
                  have hR2 := hR1.step (hstep1.trans hadv1)
                  have hpush := push_look (bs := [q13, q4]) (l := (at_ + 1, false, 0)) hO1.below.size hO1.below.size hO1.looks (by omega) (K := fun v_1 w_6 => ∃ (A101 : Option Addr) (A101l A101c : Nat), v_1 = .slice A101 A101l A101c ∧
                    CallK Try.prog 101 [.agg ⟨[.int .i64 G.params, .int .i64 G.locals, .int .i64 G.refs, .slice C G.code.length cc]⟩] w0.heap.size w_6 [q13, q4] fun v_2 w_7 =>
                    ∃ x105 : Int, v_2 = .int .i64 x105 ∧
                    ∃ k_1, V110.l3 w0.heap.size (IsQ w0 (WalkdQ p mem top w0)) (V110.l0 w0.heap.size (IsQ w0 (WalkdQ p mem top w0)) k) k_1 mA ml mc A101 A101l A101c RA s.roots.length rc x (IntKind.wrap .i64 (IntKind.wrap .i64 (at_ + 7) + IntKind.wrap .i64 (x105 * 4))) (IntKind.wrap .i64 (G.locals - G.refs)) q13 G.params G.locals G.refs C G.code.length cc q4 P p.length cap w_7) ?_
                  · rw [hlen1] at hpush
                    exact hpush
                  intro v w2 e2 ho2
                  obtain ⟨A2, c2, rfl⟩ := owns_slice0 ho2
                  have hO2 := hO1.look e2 ho2
                  refine ⟨A2, _, c2, rfl, ?_⟩
                  have hcode2 := RowAt.keep InsE.kept hcode (below_keeps hO2.below)
                  refine call_gives hO2.below (fun w3 e3 _ => gives101 (x := G) (RowAt.keep InsE.kept hcode2 (ext_keeps e3))) fun w3 e3 hw3 => ⟨_, rfl, ?_⟩
                  have hroom : (roomM G : Int) * 4 + 7 = aheadM G := by unfold roomM aheadM; split <;> omega
                  have hrm : (roomM G : Int) ≤ 4 := by unfold roomM; split <;> omega
                  rw [wrap_id (n := at_ + 7) (by omega) (by omega), wrap_id (n := (roomM G : Int) * 4) (by omega) (by omega), wrap_id (n := at_ + 7 + (roomM G : Int) * 4) (by omega) (by omega), wrap_id (n := G.locals - G.refs) (by omega) (by omega)]
                  refine ⟨G.refs.toNat + 1, ?_⟩
                  have hlen2 : (out ++ [(at_, false, (0 : Int))] ++ [(at_ + 1, false, (0 : Int))]).length = out.length + 1 + 1 := by simp
                  have := l3_110 (w0 := w0) (p := p) (mem := mem) (top := top) (L0 := V110.l0 w0.heap.size (IsQ w0 (WalkdQ p mem top w0)) k) hm (a := at_) (b := x - 1) (k14 := at_ + 7 + (roomM G : Int) * 4) (G := G) hGs ⟨by omega, by omega⟩ ⟨by omega, by omega⟩ hml (by omega) (N := out.length + 10) (by omega) (q13 := q13) (q4 := q4) (C := C) (cl := G.code.length) (cc := cc) (P := P) (pl := p.length) (pc := cap)
                    (fun w A c out' RA rc roots hO hol' hrl' hR => ih (x - 1) w A c out' RA rc ⟨x - 1, 0, x - 1, G, roots⟩ (by omega) (fun _ => by omega) rfl rfl hO (by omega) hrl' hR) (G.refs.toNat + 1) 0 w3 A2 c2 _ RA rc s.roots (by omega) (by omega) (hO2.ext e3) (by rw [hlen2]; omega) (by rw [hlen2]; omega) hR2
                  rw [hlen2] at this
                  rw [hlen1]
                  rw [show x - 1 + 1 = x by omega, show G.locals - G.refs + ((0 : Nat) : Int) = G.locals - G.refs by omega] at this
                  exact this
end
theorem yields110 {w : World} {M : Option Addr} {ml mc : Nat} {mem : List Int} {p : List Fnc} {P : Option Addr} {cap : Nat} (hm : WordsAt w M ml mc mem) (hml : mem.length ≤ 20000) (hp : ProgAt w P p.length p) (hs : Sized p) (hpl : p.length ≤ 1000) (top : Int) :
    Yields Try.prog 110 [.slice M ml mc, .agg ⟨[.slice P p.length cap]⟩, .int .i64 top] w (WalkdQ p mem top w) := by
  refine yields_of (V110.sound ?_)
  intro q4 _
  by_cases ht : top = -1
  · subst ht
    rw [if_pos (by simp)]
    refine expo_alloc (Nat.le_refl _) fun w1 w2 hs1 e2 _ ho2 => ?_
    have hw2 := e2.after (Below.refl _ _)
    refine ret_q hw2 fun w3 e3 => ⟨1, wk0 (-1), [(-1, true, 0)], _, _, none, 0, ?_, rfl, rfl, ?_, nums_nil _ _, by simp⟩
    · simp only [runW]
      have : stepW p mem (wk0 (-1)) = (wk0 (-1), (-1, true, 0)) := by unfold stepW; exact if_pos rfl
      rw [this]
    · refine ⟨rfl, by simp only [maxLen, List.length_cons, List.length_nil]; omega, fun i l hi => ?_⟩
      have hi0 : i = 0 := by have := (List.getElem?_eq_some_iff.1 hi).1; simp at this; omega
      subst hi0
      obtain rfl : ((-1 : Int), true, (0 : Int)) = l := by simpa using hi
      have c : ∀ j u, ([.int .i64 (-1), .bool true, .int .i64 0] : List Value)[j]? = some u → (newW w.heap.size w3).cell? (((⟨w1.heap.size, 0, none⟩ : Addr).add (0 * 3)).add j) = some u := fun j u hu => by
        rw [own_add, bx_add]
        exact newW_cell.2 ⟨e3.cell (by rw [show 0 * 3 + j = j by omega]; exact at_cell ho2 hu), hs1⟩
      exact ⟨_, rfl, c 0 _ rfl, c 1 _ rfl, c 2 _ rfl⟩
  · rw [if_neg (by simpa using ht)]
    refine ⟨mem.length + 2, ?_⟩
    exact l0_110 hm hp hs hpl hml (mem.length + 2) top w none 0 [] none 0 (wk0 top) (by omega) (fun h => by omega) rfl rfl ⟨World.ownsRow_nil _ _ _ _, World.ownsRow_nil _ _ _ _, Below.refl _ _⟩ (by simp; omega) (by simp [wk0]) ⟨0, [], rfl, .inl ⟨by rw [decide_eq_false ht], rfl⟩⟩
end Go.Proofs.Ytlccbaemcfjdoaa
