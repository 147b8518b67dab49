import Derived.Test.YtidcpndlloppdaaZC17c
/-
  The function of layer 17 that reckons depths returns what the plain rule tells.
  Conditions: the arguments' memory says what their values are; jumps do not go below nought; few numbers are handed.
-/
set_option linter.unusedVariables false
set_option linter.unusedSimpArgs false
namespace Go.Proofs.Ytidcpndlloppdaa
open Go.RowKit
abbrev dsl (g n : Nat) : Value := .slice (some ⟨g, 0, none⟩) n n
def failV (i : Nat) : Value := .tuple ⟨[.slice none 0 0, .int .i64 i, .bool false]⟩
section
variable {w0 : World} {Q : Value → World → Prop} {g n cC np cP q2 : Nat} {C A0 : Option Addr}
theorem b4_49 {L1 : Option Addr → Nat → Nat → Option Addr → Nat → Nat → Nat → Option Addr → Nat → Nat → World → Prop}
    {L2 : Option Addr → Nat → Nat → Option Addr → Nat → Nat → Bool → Option Addr → Nat → Nat → Int → Int → Nat → Option Addr → Nat → Nat → World → Prop}
    {L3 : Option Addr → Nat → Nat → Option Addr → Nat → Nat → Bool → Int → Int → Option Addr → Nat → Nat → Int → Int → Option Addr → Nat → Nat → Int → Int → Nat → Option Addr → Nat → Nat → World → Prop}
    {A65 : Option Addr} {l65 c65 i j : Nat} {behind t x28 : Int} {d : List Int} {fresh : Bool} {w : World} (hg : w0.heap.size ≤ g) (hw : Below w0.heap.size w0 w) (ho : OwnI w g .i64 3 d) (hd : d.length = n) (h0 : 0 ≤ t) (ht : t < (n : Int))
    (hL : ∀ w', Below w0.heap.size w0 w' → OwnI w' g .i64 3 (if d.getD t.toNat 0 < 0 then d.set t.toNat behind else d) → (∀ k, k ≠ g → w'.heap[k]? = w.heap[k]?) →
      L3 C n cC (some ⟨g, 0, none⟩) n n (if d.getD t.toNat 0 < 0 then true else fresh) i behind C n cC x28 i A65 l65 c65 l65 (IntKind.wrap .i64 (j + 1)) q2 A0 np cP w') :
    V49.b4 w0.heap.size (IsQ w0 Q) L1 L2 L3 C n cC (some ⟨g, 0, none⟩) n n fresh i behind t C n cC x28 i A65 l65 c65 l65 j false q2 A0 np cP w := by
  unfold V49.b4
  rw [if_neg (by simp)]
  have hget := getD_get (d := d) (i := t.toNat) (by omega)
  refine ⟨_, rfl, h0, ht, _, ho.cell hget, ?_⟩
  by_cases hneg : d.getD t.toNat 0 < 0
  · rw [if_pos (by simpa using hneg)]
    simp only [if_pos hneg] at hL
    refine ⟨_, rfl, h0, ht, ⟨_, by rw [own_add, bx_add, Nat.add_zero, ← own_add]; exact ho.cell hget⟩, ho.frozen _, ?_⟩
    exact hL _ (below_set hw hg _) (ho.set _ _) (fun k hk => set_other hk)
  · rw [if_neg (by simpa using hneg)]
    simp only [if_neg hneg] at hL
    exact hL w hw ho (fun _ _ => rfl)
theorem l3_49 {L1 : Option Addr → Nat → Nat → Option Addr → Nat → Nat → Nat → Option Addr → Nat → Nat → World → Prop}
    {L2 : Option Addr → Nat → Nat → Option Addr → Nat → Nat → Bool → Option Addr → Nat → Nat → Int → Int → Nat → Option Addr → Nat → Nat → World → Prop}
    {A65 : Option Addr} {l65 c65 i : Nat} {behind x28 : Int} {ts : List Int} (hg : w0.heap.size ≤ g) (hb : 0 ≤ behind) (hts : ∀ t ∈ ts, 0 ≤ t) (hne : ∀ q, A65 = some q → q.block ≠ g) :
    ∀ (k j : Nat) (w : World) (d : List Int) (fresh : Bool), l65 < j + k → j ≤ l65 → Below w0.heap.size w0 w → OwnI w g .i64 3 d → d.length = n → Nums .i64 w A65 l65 ts →
      (tosM n behind (ts.drop j) d fresh = none → ∀ w', Below w0.heap.size w0 w' → Ret w0.heap.size w' (IsQ w0 Q (failV i))) →
      (∀ d' f' w', tosM n behind (ts.drop j) d fresh = some (d', f') → Below w0.heap.size w0 w' → OwnI w' g .i64 3 d' → L2 C n cC (some ⟨g, 0, none⟩) n n f' C n cC x28 (IntKind.wrap .i64 ((i : Int) + 1)) q2 A0 np cP w') →
      V49.l3 w0.heap.size (IsQ w0 Q) L1 L2 k C n cC (some ⟨g, 0, none⟩) n n fresh i behind C n cC x28 i A65 l65 c65 l65 j q2 A0 np cP w
  | 0, j, w, d, fresh, hk, hj, _, _, _, _, _, _ => by omega
  | k + 1, j, w, d, fresh, hk, hj, hw, ho, hd, hn, hfail, hok => by
    dsimp -zeta only [V49.l3]
    by_cases h : j < l65
    · rw [if_pos (by simpa using h)]
      obtain ⟨t, p, ht, hp, hc⟩ := hn.at h
      have ht0 := hts t (List.mem_of_getElem? ht)
      have hdrop : ts.drop j = t :: ts.drop (j + 1) := by
        obtain ⟨hlt, rfl⟩ := List.getElem?_eq_some_iff.1 ht
        exact List.drop_eq_getElem_cons hlt
      refine ⟨p, hp, by omega, by omega, t, by simpa using hc, ?_⟩
      rw [hdrop] at hfail hok
      unfold tosM at hfail hok
      by_cases hbig : (n : Int) ≤ t
      · rw [if_neg (by simp; omega)]
        unfold V49.b4
        rw [if_pos rfl]
        exact hfail (by rw [if_pos hbig]) w hw
      · rw [if_pos (by simp; omega)]
        rw [if_neg hbig] at hfail
        simp only [if_neg hbig] at hok
        have hget := getD_get (d := d) (i := t.toNat) (by omega)
        refine ⟨_, rfl, ht0, by omega, _, ho.cell hget, ?_⟩
        have next : ∀ (d1 : List Int) (f1 : Bool), d1 = (if d.getD t.toNat 0 < 0 then d.set t.toNat behind else d) → f1 = (if d.getD t.toNat 0 < 0 then true else fresh) →
            (tosM n behind (ts.drop (j + 1)) d1 f1 = none → ∀ w', Below w0.heap.size w0 w' → Ret w0.heap.size w' (IsQ w0 Q (failV i))) →
            (∀ d' f' w', tosM n behind (ts.drop (j + 1)) d1 f1 = some (d', f') → Below w0.heap.size w0 w' → OwnI w' g .i64 3 d' → L2 C n cC (some ⟨g, 0, none⟩) n n f' C n cC x28 (IntKind.wrap .i64 ((i : Int) + 1)) q2 A0 np cP w') →
            V49.b4 w0.heap.size (IsQ w0 Q) L1 L2 (V49.l3 w0.heap.size (IsQ w0 Q) L1 L2 k) C n cC (some ⟨g, 0, none⟩) n n fresh i behind t C n cC x28 i A65 l65 c65 l65 j false q2 A0 np cP w := by
          rintro d1 f1 rfl rfl h1 h2
          refine b4_49 hg hw ho hd ht0 (by omega) fun w' hw' ho' hsame => ?_
          rw [wrap_succ h hn.small]
          exact l3_49 hg hb hts hne k (j + 1) w' _ _ (by omega) (by omega) hw' ho' (by split <;> simp [hd]) (nums_block hn (fun q hq => hsame _ (hne q hq))) h1 h2
        by_cases hpos : 0 ≤ d.getD t.toNat 0
        · rw [if_pos (by simpa using hpos)]
          rw [if_pos hpos] at hfail
          simp only [if_pos hpos] at hok
          refine ⟨_, rfl, ht0, by omega, _, ho.cell hget, ?_⟩
          by_cases he : d.getD t.toNat 0 = behind
          · rw [if_pos he] at hfail
            simp only [if_pos he] at hok
            have hf : (d.getD t.toNat 0 != behind) = false := by simpa using he
            rw [hf]
            exact next d fresh (by rw [if_neg (by omega)]) (by rw [if_neg (by omega)]) hfail hok
          · have hf : (d.getD t.toNat 0 != behind) = true := by simpa using he
            rw [hf]
            unfold V49.b4
            rw [if_pos rfl]
            exact hfail (by rw [if_neg he]) w hw
        · rw [if_neg (by simpa using hpos)]
          rw [if_neg hpos] at hfail
          simp only [if_neg hpos] at hok
          exact next (d.set t.toNat behind) true (by rw [if_pos (by omega)]) (by rw [if_pos (by omega)]) hfail hok
    · rw [if_neg (by simpa using h)]
      refine hok d fresh w ?_ hw ho
      rw [List.drop_eq_nil_of_le (by have := hn.len; omega)]
      rfl
theorem l2_49 {L1 : Option Addr → Nat → Nat → Option Addr → Nat → Nat → Nat → Option Addr → Nat → Nat → World → Prop} {p : List Fnc} {xs : List Ins} (hp : ProgAt w0 A0 np p) (hfew : Few p) (hx : CodeAt w0 C n xs) (hjmp : ∀ x ∈ xs, x.op = 15 ∨ x.op = 16 → 0 ≤ x.a) (hg : w0.heap.size ≤ g) :
    ∀ (k i : Nat) (w : World) (d : List Int) (fresh : Bool), n < i + k → i ≤ n → Below w0.heap.size w0 w → OwnI w g .i64 3 d → DOk n d →
      (∀ a, scanM p n (xs.drop i) i d fresh = .inl a → ∀ w', Below w0.heap.size w0 w' → Ret w0.heap.size w' (IsQ w0 Q (failV a))) →
      (∀ d' w', scanM p n (xs.drop i) i d fresh = .inr (d', true) → Below w0.heap.size w0 w' → OwnI w' g .i64 3 d' → L1 C n cC (some ⟨g, 0, none⟩) n n q2 A0 np cP w') →
      (∀ d' w', scanM p n (xs.drop i) i d fresh = .inr (d', false) → Below w0.heap.size w0 w' → OwnI w' g .i64 3 d' → Ret w0.heap.size w' (IsQ w0 Q (.tuple ⟨[dsl g n, .int .i64 0, .bool true]⟩))) →
      V49.l2 w0.heap.size (IsQ w0 Q) L1 k C n cC (some ⟨g, 0, none⟩) n n fresh C n cC n i q2 A0 np cP w
  | 0, i, w, d, fresh, hk, hi, _, _, _, _, _, _ => by omega
  | k + 1, i, w, d, fresh, hk, hi, hw, ho, hd, hfail, hagain, hdone => by
    dsimp -zeta only [V49.l2]
    by_cases h : i < n
    · rw [if_pos (by simpa using h)]
      obtain ⟨x, a, hxi, ha, he⟩ := (hx.keep hw).at h
      have hdrop : xs.drop i = x :: xs.drop (i + 1) := by
        obtain ⟨hlt, rfl⟩ := List.getElem?_eq_some_iff.1 hxi
        exact List.drop_eq_getElem_cons hlt
      rw [hdrop] at hfail hagain hdone
      unfold scanM at hfail hagain hdone
      have hget := getD_get (d := d) (i := i) (by rw [hd.1]; exact h)
      have hcell := ho.cell hget
      refine ⟨a, ha, by omega, by omega, x.op, by simpa using he.1, x.a, by simpa using he.2.1, x.b, by simpa using he.2.2, fun q11 _ => ⟨_, rfl, by omega, by omega, d.getD i 0, by simpa using hcell, ?_⟩⟩
      by_cases hneg : d.getD i 0 < 0
      · rw [if_pos (by simpa using hneg)]
        simp only [if_pos hneg] at hfail hagain hdone
        rw [wrap_succ h hx.small]
        exact l2_49 hp hfew hx hjmp hg k (i + 1) w d fresh (by omega) (by omega) hw ho hd hfail hagain hdone
      · rw [if_neg (by simpa using hneg)]
        simp only [if_neg hneg] at hfail hagain hdone
        have hpb := popsM_bd hfew x.op x.a
        have hrb := rowT_bd x.op
        have hdb := hd.2 _ (List.mem_of_getElem? hget)
        refine ⟨_, rfl, by omega, by omega, d.getD i 0, by simpa using hcell, ?_⟩
        refine call_gives hw (fun w1 _ hb => gives63 (hp.keep hb) _ _ _) fun w1 e1 hw1 => ⟨_, rfl, by simpa using (ho.ext e1).cell hget, ?_⟩
        refine call_gives hw1 (fun w1 _ hb => gives76 _ _ _ _) fun w2 e2 hw2 => ⟨_, rfl, by simpa using ((ho.ext e1).ext e2).cell hget, ?_⟩
        have ho2 := (ho.ext e1).ext e2
        refine ⟨_, rfl, by omega, by omega, d.getD i 0, by simpa using ho2.cell hget, ?_⟩
        refine call_gives hw2 (fun w1 _ hb => gives63 (hp.keep hb) _ _ _) fun w3 e3 hw3 => ⟨_, rfl, by simpa using (ho2.ext e3).cell hget, ?_⟩
        have ho3 := ho2.ext e3
        have hwr : IntKind.wrap .i64 (IntKind.wrap .i64 (d.getD i 0 - popsM p x.op x.a) + pushesI x.op) = d.getD i 0 - popsM p x.op x.a + pushesI x.op := by
          rw [wrap_id (n := d.getD i 0 - popsM p x.op x.a) (by omega) (by omega), wrap_id (n := d.getD i 0 - popsM p x.op x.a + pushesI x.op) (by omega) (by omega)]
        rw [hwr]
        by_cases hlow : d.getD i 0 < popsM p x.op x.a
        · rw [if_neg (by simpa using hlow)]
          exact hfail i (by rw [if_pos (.inl hlow)]) w3 hw3
        · rw [if_pos (by simpa using hlow)]
          by_cases hhigh : 8 < d.getD i 0 - popsM p x.op x.a + pushesI x.op
          · rw [if_pos (by simpa using hhigh)]
            exact hfail i (by rw [if_pos (.inr hhigh)]) w3 hw3
          · rw [if_neg (by simpa using hhigh)]
            simp only [if_neg (show ¬ (d.getD i 0 < popsM p x.op x.a ∨ 8 < d.getD i 0 - popsM p x.op x.a + pushesI x.op) from fun hor => hor.elim hlow hhigh)] at hfail hagain hdone
            refine call_yields (Q := FreshNums (nextM i x.op x.a)) hw3 (fun w1 _ _ => yields77 i x.op x.a x.b (Nat.lt_of_lt_of_le h hx.small) w1) fun w4 v w5 w6 hs _ hQ _ hnew he6 hw6 => ?_
            obtain ⟨A65, l65, c65, rfl, hn5, hfr⟩ := hQ
            refine ⟨A65, l65, c65, rfl, l65 + 1, ?_⟩
            have hn6 : Nums .i64 w6 A65 l65 (nextM i x.op x.a) := nums_block hn5 fun q hq => hnew _ (hfr q hq)
            have ho6 := ho3.ext he6
            have hne : ∀ q, A65 = some q → q.block ≠ g := fun q hq e => by
              have h1 := hfr q hq
              have h2 := ho3.lt
              omega
            have hjx := hjmp x (List.mem_of_getElem? hxi)
            refine l3_49 hg (by omega) (nextM_pos hjx) hne (l65 + 1) 0 w6 d fresh (by omega) (by omega) hw6 ho6 hd.1 hn6 ?_ ?_
            · intro hnone w' hw'
              rw [List.drop_zero] at hnone
              exact hfail i (by rw [hnone]) w' hw'
            · intro d' f' w' hsome hw' ho'
              rw [List.drop_zero] at hsome
              simp only [hsome] at hfail hagain hdone
              have hok := tosM_ok (by omega) hd (nextM_pos hjx) hsome
              rw [wrap_succ h hx.small]
              exact l2_49 hp hfew hx hjmp hg k (i + 1) w' d' f' (by omega) (by omega) hw' ho' hok.1 hfail hagain hdone
    · rw [if_neg (by simpa using h)]
      have hnil : xs.drop i = [] := List.drop_eq_nil_of_le (by have := hx.len; omega)
      rw [hnil] at hfail hagain hdone
      cases fresh with
      | false =>
        rw [if_pos (by simp)]
        exact hdone d w rfl hw ho
      | true =>
        rw [if_neg (by simp)]
        exact hagain d w rfl hw ho
end
end Go.Proofs.Ytidcpndlloppdaa
