import Derived.Test.YtidcpndlloppdaaZC17e
/-
  The reference's function that reckons depths returns what the plain rule tells.
  Conditions: the arguments' memory says what their values are; jumps do not go below nought; few numbers are handed.
-/
set_option linter.unusedVariables false
set_option linter.unusedSimpArgs false
namespace Go.Proofs.Ytidcpndlloppdaa
open Go.RowKit
theorem append_lit {w0 w : World} {bs : List Nat} {g : Nat} {xs : List Int} {K : Value → World → Prop} (hw : Below w0.heap.size w0 w) (ho : OwnI w g .i64 3 xs) (hl : xs.length ≤ 1000)
    (hk : ∀ A c w', Ext w0.heap.size w w' → Nums .i64 w' A xs.length xs → (∀ p, A = some p → w.heap.size ≤ p.block) → K (.slice A xs.length c) w') :
    RunK Try.prog (Builtin.append_ #[67, 67] 67 ⟨[.slice none 0 0, .slice (some ⟨g, 0, none⟩) xs.length xs.length]⟩) w0.heap.size w bs K := by
  have hb : Try.t3.bytes = 8 := by kernel_rfl
  refine append_own (t := 67) (e := 3) (i := Try.t3) (z := .int .i64 0) (size := 1) (bytes := 8) (by kernel_rfl) (by kernel_rfl) (by kernel_rfl) (by kernel_rfl) hb rfl (by omega) (n := 0) (xs := []) (news := xs.map (.int .i64)) (World.ownsRow_nil _ _ _ _)
    (by simp) (fun j u hj => ?_) (fun u hu => ?_) (by rw [Nat.zero_add]; exact len_ok hl) (by omega) hw.size hw.size fun v' w' he ho' hnew => ?_
  · rw [List.getElem?_map] at hj
    obtain ⟨n, hn, rfl⟩ := Option.map_eq_some_iff.1 hj
    exact ho.cell hn
  · obtain ⟨n, _, rfl⟩ := List.mem_map.1 hu; rfl
  · rw [Nat.zero_add, List.nil_append] at ho'
    obtain ⟨A, c, rfl, hn, hbk⟩ := owns_nums ho' (len_ok hl)
    have he' : Ext w0.heap.size w w' := ⟨he.os, he.tape, he.output, he.size, fun k c t f hk => he.row k c t f (fun h => by cases h) hk, fun k hk => he.low k hk (fun h => by cases h)⟩
    refine hk A c w' he' hn fun p hp => ?_
    rcases hnew _ (hbk p hp) with h | h
    · cases h
    · exact h
def failR (i : Nat) : Value := .tuple ⟨[.slice none 0 0, .int .i64 i]⟩
section
variable {w0 : World} {Q : Value → World → Prop} {g n dC np cP q2 q3 : Nat} {A0 : Option Addr} {f3 f3_1 f3_2 : Int} {C : Option Addr} {cC : Nat}
abbrev T1 : Type := Option Addr → Nat → Nat → Bool → Nat → Int → Int → Int → Option Addr → Nat → Nat → Nat → Option Addr → Nat → Nat → World → Prop
abbrev T2 : Type := Option Addr → Nat → Nat → Bool → Int → Nat → Int → Int → Int → Option Addr → Nat → Nat → Nat → Option Addr → Nat → Nat → World → Prop
theorem l5_54 {L1 : T1} {L2 : T2} {A : Option Addr} {l c i : Nat} {behind : Int} {ts : List Int} (hg : w0.heap.size ≤ g) (hb : 0 ≤ behind) (hts : ∀ t ∈ ts, 0 ≤ t) (hne : ∀ q, A = some q → q.block ≠ g) :
    ∀ (k j : Nat) (w : World) (d : List Int) (more : Bool), l < j + k → j ≤ l → Below w0.heap.size w0 w → OwnI w g .i64 3 d → d.length = n → Nums .i64 w A l ts →
      (tosM n behind (ts.drop j) d more = none → ∀ w', Below w0.heap.size w0 w' → Ret w0.heap.size w' (IsQ w0 Q (failR i))) →
      (∀ d' f' w', tosM n behind (ts.drop j) d more = some (d', f') → Below w0.heap.size w0 w' → OwnI w' g .i64 3 d' → L2 (some ⟨g, 0, none⟩) n n f' (IntKind.wrap .i64 ((i : Int) + 1)) q3 f3 f3_1 f3_2 C n cC q2 A0 np cP w') →
      V54.l5 w0.heap.size (IsQ w0 Q) L1 L2 k (some ⟨g, 0, none⟩) n n more i behind A l c j q3 f3 f3_1 f3_2 C n cC q2 A0 np cP w
  | 0, j, w, d, more, hk, hj, _, _, _, _, _, _ => by omega
  | k + 1, j, w, d, more, hk, hj, hw, ho, hd, hn, hfail, hok => by
    dsimp -zeta only [V54.l5]
    by_cases h : j < l
    · rw [if_pos (by simpa using h)]
      obtain ⟨t, p, ht, hp, hc⟩ := hn.at h
      have ht0 := hts t (List.mem_of_getElem? ht)
      have hdrop : ts.drop j = t :: ts.drop (j + 1) := by
        obtain ⟨hlt, rfl⟩ := List.getElem?_eq_some_iff.1 ht
        exact List.drop_eq_getElem_cons hlt
      refine ⟨p, hp, by omega, by omega, t, by simpa using hc, ?_⟩
      rw [hdrop] at hfail hok
      unfold tosM at hfail hok
      by_cases hbig : (n : Int) ≤ t
      · rw [if_neg (by simp; omega)]
        exact hfail (by rw [if_pos hbig]) w hw
      · rw [if_pos (by simp; omega)]
        rw [if_neg hbig] at hfail
        simp only [if_neg hbig] at hok
        have hget := getD_get (d := d) (i := t.toNat) (by omega)
        refine ⟨_, rfl, ht0, by omega, _, ho.cell hget, ?_⟩
        by_cases hpos : 0 ≤ d.getD t.toNat 0
        · rw [if_pos (by simpa using hpos)]
          rw [if_pos hpos] at hfail
          simp only [if_pos hpos] at hok
          refine ⟨_, rfl, ht0, by omega, _, ho.cell hget, ?_⟩
          by_cases he : d.getD t.toNat 0 = behind
          · rw [if_pos he] at hfail
            simp only [if_pos he] at hok
            rw [if_neg (by simpa using he)]
            unfold V54.b6
            refine ⟨_, rfl, ht0, by omega, _, ho.cell hget, ?_⟩
            rw [if_neg (by simpa using hpos), wrap_succ h hn.small]
            exact l5_54 hg hb hts hne k (j + 1) w d more (by omega) (by omega) hw ho hd hn hfail hok
          · rw [if_pos (by simpa using he)]
            exact hfail (by rw [if_neg he]) w hw
        · rw [if_neg (by simpa using hpos)]
          rw [if_neg hpos] at hfail
          simp only [if_neg hpos] at hok
          unfold V54.b6
          refine ⟨_, rfl, ht0, by omega, _, ho.cell hget, ?_⟩
          rw [if_pos (by simpa using hpos)]
          refine ⟨_, rfl, ht0, by omega, ⟨_, by rw [own_add, bx_add, Nat.add_zero, ← own_add]; exact ho.cell hget⟩, ho.frozen _, ?_⟩
          rw [wrap_succ h hn.small]
          exact l5_54 hg hb hts hne k (j + 1) _ (d.set t.toNat behind) true (by omega) (by omega) (below_set hw hg _) (ho.set _ _) (by simp [hd]) (nums_block hn (fun q hq => set_other (hne q hq))) hfail hok
    · rw [if_neg (by simpa using h)]
      refine hok d more w ?_ hw ho
      rw [List.drop_eq_nil_of_le (by have := hn.len; omega)]
      rfl
theorem l2_54 {L1 : T1} {p : List Fnc} {xs : List Ins} (hp : ProgAt w0 A0 np p) (hfew : Few p) (hx : CodeAt w0 C n xs) (hjmp : ∀ x ∈ xs, x.op = 15 ∨ x.op = 16 → 0 ≤ x.a) (hg : w0.heap.size ≤ g) :
    ∀ (k i : Nat) (w : World) (d : List Int) (more : Bool), n < i + k → i ≤ n → Below w0.heap.size w0 w → OwnI w g .i64 3 d → DOk n d →
      (∀ a, scanM p n (xs.drop i) i d more = .inl a → ∀ w', Below w0.heap.size w0 w' → Ret w0.heap.size w' (IsQ w0 Q (failR a))) →
      (∀ d' f' w', scanM p n (xs.drop i) i d more = .inr (d', f') → Below w0.heap.size w0 w' → OwnI w' g .i64 3 d' → L1 (some ⟨g, 0, none⟩) n n f' q3 f3 f3_1 f3_2 C n cC q2 A0 np cP w') →
      V54.l2 w0.heap.size (IsQ w0 Q) L1 k (some ⟨g, 0, none⟩) n n more i q3 f3 f3_1 f3_2 C n cC q2 A0 np cP w
  | 0, i, w, d, more, hk, hi, _, _, _, _, _ => by omega
  | k + 1, i, w, d, more, hk, hi, hw, ho, hd, hfail, hdone => by
    dsimp -zeta only [V54.l2]
    by_cases h : i < n
    · rw [if_pos (by simpa using h)]
      obtain ⟨x, a, hxi, ha, he⟩ := (hx.keep hw).at h
      have hdrop : xs.drop i = x :: xs.drop (i + 1) := by
        obtain ⟨hlt, rfl⟩ := List.getElem?_eq_some_iff.1 hxi
        exact List.drop_eq_getElem_cons hlt
      rw [hdrop] at hfail hdone
      unfold scanM at hfail hdone
      have hget := getD_get (d := d) (i := i) (by rw [hd.1]; exact h)
      have hcell := ho.cell hget
      refine ⟨_, rfl, by omega, by omega, d.getD i 0, by simpa using hcell, ?_⟩
      by_cases hneg : d.getD i 0 < 0
      · rw [if_pos (by simpa using hneg)]
        simp only [if_pos hneg] at hfail hdone
        rw [wrap_succ h hx.small]
        exact l2_54 hp hfew hx hjmp hg k (i + 1) w d more (by omega) (by omega) hw ho hd hfail hdone
      · rw [if_neg (by simpa using hneg)]
        simp only [if_neg hneg] at hfail hdone
        have hpb := popsM_bd hfew x.op x.a
        have hrb := rowT_bd x.op
        have hdb := hd.2 _ (List.mem_of_getElem? hget)
        refine ⟨a, ha, by omega, by omega, x.op, by simpa using he.1, x.a, by simpa using he.2.1, x.b, by simpa using he.2.2, fun q10 _ => ⟨_, rfl, by omega, by omega, d.getD i 0, by simpa using hcell, ?_⟩⟩
        refine call_gives hw (fun w1 _ hb => gives80 (hp.keep hb) _ _ _) fun w1 e1 hw1 => ⟨_, rfl, by simpa using (ho.ext e1).cell hget, ?_⟩
        have ho1 := ho.ext e1
        have hwr1 : IntKind.wrap .i64 (d.getD i 0 - popsM p x.op x.a) = d.getD i 0 - popsM p x.op x.a := wrap_id (by omega) (by omega)
        have hwr2 : IntKind.wrap .i64 (d.getD i 0 - popsM p x.op x.a + pushesI x.op) = d.getD i 0 - popsM p x.op x.a + pushesI x.op := wrap_id (by omega) (by omega)
        rw [hwr1]
        by_cases hlow : d.getD i 0 < popsM p x.op x.a
        · rw [if_pos (by simp only [decide_eq_true_eq]; omega)]
          exact hfail i (by rw [if_pos (.inl hlow)]) w1 hw1
        · rw [if_neg (by simp only [decide_eq_true_eq]; omega)]
          refine call_gives hw1 (fun w1 _ hb => gives81 _ _ _ _) fun w2 e2 hw2 => ⟨_, rfl, ?_⟩
          have ho2 := ho1.ext e2
          rw [hwr2]
          by_cases hhigh : 8 < d.getD i 0 - popsM p x.op x.a + pushesI x.op
          · rw [if_pos (by simpa using hhigh)]
            exact hfail i (by rw [if_pos (.inr hhigh)]) w2 hw2
          · rw [if_neg (by simpa using hhigh)]
            simp only [if_neg (show ¬ (d.getD i 0 < popsM p x.op x.a ∨ 8 < d.getD i 0 - popsM p x.op x.a + pushesI x.op) from fun hor => hor.elim hlow hhigh)] at hfail hdone
            have hjx := hjmp x (List.mem_of_getElem? hxi)
            have hwi : IntKind.wrap .i64 ((i : Int) + 1) = (i : Int) + 1 := by rw [wrap_succ h hx.small]; rfl
            -- behind the choice of places
            have go : ∀ (A : Option Addr) (l c : Nat) (w6 : World), l = (nextM i x.op x.a).length → Below w0.heap.size w0 w6 → OwnI w6 g .i64 3 d → Nums .i64 w6 A l (nextM i x.op x.a) → (∀ q, A = some q → q.block ≠ g) →
                V54.b4 w0.heap.size (IsQ w0 Q) L1 (V54.l2 w0.heap.size (IsQ w0 Q) L1 k) (some ⟨g, 0, none⟩) n n more i (d.getD i 0 - popsM p x.op x.a + pushesI x.op) A l c q3 f3 f3_1 f3_2 C n cC q2 A0 np cP w6 := by
              intro A l c w6 hl hw6 ho6 hn6 hne
              refine ⟨l + 1, l5_54 hg (by omega) (nextM_pos hjx) hne (l + 1) 0 w6 d more (by omega) (by omega) hw6 ho6 hd.1 hn6 ?_ ?_⟩
              · intro hnone w' hw'
                rw [List.drop_zero] at hnone
                exact hfail i (by rw [hnone]) w' hw'
              · intro d' f' w' hsome hw' ho'
                rw [List.drop_zero] at hsome
                simp only [hsome] at hfail hdone
                have hok := tosM_ok (by omega) hd (nextM_pos hjx) hsome
                rw [wrap_succ h hx.small]
                exact l2_54 hp hfew hx hjmp hg k (i + 1) w' d' f' (by omega) (by omega) hw' ho' hok.1 hfail hdone
            -- a literal row, appended to nothing
            have lit : ∀ ys : List Int, nextM i x.op x.a = ys → ys.length ≤ 2 → ∀ bs, Expo w0.heap.size w2 bs fun w_1 => Hide bs (w_1.alloc (.cells ⟨ys.map (.int .i64)⟩ 3)) fun w_2 =>
                RunK Try.prog (Builtin.append_ #[67, 67] 67 ⟨[.slice none 0 0, .slice (some ⟨w_1.heap.size, 0, none⟩) ys.length ys.length]⟩) w0.heap.size w_2 bs fun v w_3 => ∃ (A : Option Addr) (l c : Nat), v = .slice A l c ∧
                V54.b4 w0.heap.size (IsQ w0 Q) L1 (V54.l2 w0.heap.size (IsQ w0 Q) L1 k) (some ⟨g, 0, none⟩) n n more i (d.getD i 0 - popsM p x.op x.a + pushesI x.op) A l c q3 f3 f3_1 f3_2 C n cC q2 A0 np cP w_3 := by
              intro ys hys hl bs
              refine expo_alloc hw2.size fun wa w' hs he _ hnewo => ?_
              refine append_lit (he.after hw2) (hnewo : OwnI w' wa.heap.size .i64 3 ys) (by omega) fun A c w6 he6 hn6 hfr => ⟨A, _, c, rfl, ?_⟩
              refine go A _ c w6 (by rw [hys]) (he6.after (he.after hw2)) ((ho2.ext he).ext he6) (by rw [hys]; exact hn6) fun q hq e => ?_
              have h1 := hfr q hq
              have h2 := (ho2.ext he).lt
              omega
            have b3 : ∀ b70 : Bool, (b70 = true ↔ (x.op = 18 ∨ x.op = 20)) → V54.b3 w0.heap.size (IsQ w0 Q) L1 (V54.l2 w0.heap.size (IsQ w0 Q) L1 k) (some ⟨g, 0, none⟩) n n more i (d.getD i 0 - popsM p x.op x.a + pushesI x.op) none 0 0 x.op b70 q10 x.op x.a x.b q3 f3 f3_1 f3_2 C n cC q2 A0 np cP w2 := by
              intro b70 hb70
              unfold V54.b3
              rw [hwi]
              by_cases h18 : x.op = 18 ∨ x.op = 20
              · rw [if_pos (hb70.2 h18)]
                have hnx : nextM i x.op x.a = [] := by unfold nextM; rw [if_pos h18]
                refine go none 0 0 w2 (by rw [hnx]; rfl) hw2 ho2 (by rw [hnx]; exact nums_nil _ _) (fun q hq => by cases hq)
              · rw [if_neg (fun e => h18 (hb70.1 e))]
                by_cases h15 : x.op = 15
                · rw [if_pos (by simpa using h15)]
                  exact lit [x.a] (by unfold nextM; rw [if_neg h18, if_pos h15]) (by simp) _
                · rw [if_neg (by simpa using h15)]
                  by_cases h16 : x.op = 16
                  · rw [if_pos (by simpa using h16)]
                    exact lit [x.a, (i : Int) + 1] (by unfold nextM; rw [if_neg h18, if_neg h15, if_pos h16]) (by simp) _
                  · rw [if_neg (by simpa using h16)]
                    exact lit [(i : Int) + 1] (by unfold nextM; rw [if_neg h18, if_neg h15, if_neg h16]) (by simp) _
            by_cases h18 : x.op = 18
            · rw [if_pos (by simpa using h18)]
              exact b3 _ (by simp [h18])
            · rw [if_neg (by simpa using h18)]
              exact b3 _ (by simp [h18])
    · rw [if_neg (by simpa using h)]
      have hnil : xs.drop i = [] := List.drop_eq_nil_of_le (by have := hx.len; omega)
      rw [hnil] at hdone
      exact hdone d more w rfl hw ho
end
end Go.Proofs.Ytidcpndlloppdaa
