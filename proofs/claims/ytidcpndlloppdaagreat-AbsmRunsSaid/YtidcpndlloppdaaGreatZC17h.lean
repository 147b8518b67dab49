import Derived.Test.YtidcpndlloppdaaGreatZC17e
/-
 The reference's function that reckons depths returns what the plain rule tells.
 Conditions: the arguments' memory says what their values are; jumps do not go below nought; few numbers are handed.
-/
set_option linter.unusedVariables false
set_option linter.unusedSimpArgs false
namespace Go.Proofs.YtidcpndlloppdaaGreat
open Go.RowKit
theorem append_lit {w0 w : World} {bs : List Nat} {g : Nat} {xs : List Int} {K : Value → World → Prop} (hw : Below w0.heap.size w0 w) (ho : OwnI w g .i64 3 xs) (hl : xs.length ≤ 1000)
   (hk : ∀ A c w',Ext w0.heap.size w w' → Nums .i64 w' A xs.length xs → (∀ p,A = some p → w.heap.size ≤ p.block) → K (.slice A xs.length c) w') :
   RunK Tryz.prog (Builtin.append_ #[87,87] 87 ⟨[.slice none 0 0,.slice (some ⟨g,0,none⟩) xs.length xs.length]⟩) w0.heap.size w bs K := by
 have hb : Tryz.t3.bytes = 8 := by kernel_rfl
 refine append_own (t := 87) (e := 3) (i := Tryz.t3) (z := .int .i64 0) (size := 1) (bytes := 8) (by kernel_rfl) (by kernel_rfl) (by kernel_rfl) (by kernel_rfl) hb rfl (by omega) (n := 0) (xs := []) (news := xs.map (.int .i64)) (World.ownsRow_nil _ _ _ _)
   (by simp) (fun j u hj => ?_) (fun u hu => ?_) (by rw [Nat.zero_add]; exact len_ok hl) (by omega) hw.size hw.size fun v' w' he ho' hnew => ?_
 · rw [List.getElem?_map] at hj
   obtain ⟨n,hn,rfl⟩ := Option.map_eq_some_iff.1 hj
   exact ho.cell hn
 · obtain ⟨n,_,rfl⟩ := List.mem_map.1 hu; rfl
 · rw [Nat.zero_add,List.nil_append] at ho'
   obtain ⟨A,c,rfl,hn,hbk⟩ := owns_nums ho' (len_ok hl)
   have he' : Ext w0.heap.size w w' := ⟨he.os,he.tape,he.output,he.size,fun k c t f hk => he.row k c t f (fun h => by cases h) hk,fun k hk => he.low k hk (fun h => by cases h)⟩
   refine hk A c w' he' hn fun p hp => ?_
   rcases hnew _ (hbk p hp) with h | h
   · cases h
   · exact h
def failR (i : Nat) : Value := .tuple ⟨[.slice none 0 0,.int .i64 i]⟩
section
variable {w0 : World} {Q : Value → World → Prop} {g n dC np cP q2 q3 : Nat} {A0 : Option Addr} {f3 f3_1 f3_2 : Int} {C : Option Addr} {cC : Nat}
abbrev T1 : Type := Option Addr → Nat → Nat → Bool → Nat → Int → Int → Int → Option Addr → Nat → Nat → Nat → Option Addr → Nat → Nat → World → Prop
abbrev T2 : Type := Option Addr → Nat → Nat → Bool → Int → Nat → Int → Int → Int → Option Addr → Nat → Nat → Nat → Option Addr → Nat → Nat → World → Prop
theorem l5_76 {L1 : T1} {L2 : T2} {A : Option Addr} {l c i : Nat} {behind : Int} {ts : List Int} (hg : w0.heap.size ≤ g) (hb : 0 ≤ behind) (hts : ∀ t ∈ ts,0 ≤ t) (hne : ∀ q,A = some q → q.block ≠ g) :
   ∀ (k j : Nat) (w : World) (d : List Int) (more : Bool),l < j + k → j ≤ l → Below w0.heap.size w0 w → OwnI w g .i64 3 d → d.length = n → Nums .i64 w A l ts →
     (tosM n behind (ts.drop j) d more = none → ∀ w',Below w0.heap.size w0 w' → Ret w0.heap.size w' (IsQ w0 Q (failR i))) →
     (∀ d' f' w',tosM n behind (ts.drop j) d more = some (d',f') → Below w0.heap.size w0 w' → OwnI w' g .i64 3 d' → L2 (some ⟨g,0,none⟩) n n f' (IntKind.wrap .i64 ((i : Int) + 1)) q3 f3 f3_1 f3_2 C n cC q2 A0 np cP w') →
     V76.l5 w0.heap.size (IsQ w0 Q) L1 L2 k (some ⟨g,0,none⟩) n n more i behind A l c j q3 f3 f3_1 f3_2 C n cC q2 A0 np cP w
 | 0,j,w,d,more,hk,hj,_,_,_,_,_,_ => by omega
 | k + 1,j,w,d,more,hk,hj,hw,ho,hd,hn,hfail,hok => by
   dsimp -zeta only [V76.l5]
   by_cases h : j < l
   · rw [if_pos (by simpa using h)]
     obtain ⟨t,p,ht,hp,hc⟩ := hn.at h
     have ht0 := hts t (List.mem_of_getElem? ht)
     have hdrop : ts.drop j = t :: ts.drop (j + 1) := by
       obtain ⟨hlt,rfl⟩ := List.getElem?_eq_some_iff.1 ht
       exact List.drop_eq_getElem_cons hlt
     refine ⟨p,hp,by omega,by omega,t,by simpa using hc, ?_⟩
     rw [hdrop] at hfail hok
     unfold tosM at hfail hok
     by_cases hbig : (n : Int) ≤ t
     · rw [if_neg (by simp; omega)]
       exact hfail (by rw [if_pos hbig]) w hw
     · rw [if_pos (by simp; omega)]
       rw [if_neg hbig] at hfail
       simp only [if_neg hbig] at hok
       have hget := getD_get (d := d) (i := t.toNat) (by omega)
       refine ⟨_,rfl,ht0,by omega,_,ho.cell hget, ?_⟩
       by_cases hpos : 0 ≤ d.getD t.toNat 0
       · rw [if_pos (by simpa using hpos)]
         rw [if_pos hpos] at hfail
         simp only [if_pos hpos] at hok
         refine ⟨_,rfl,ht0,by omega,_,ho.cell hget, ?_⟩
         by_cases he : d.getD t.toNat 0 = behind
         · rw [if_pos he] at hfail
           simp only [if_pos he] at hok
           rw [if_neg (by simpa using he)]
           unfold V76.b6
           refine ⟨_,rfl,ht0,by omega,_,ho.cell hget, ?_⟩
           rw [if_neg (by simpa using hpos),wrap_succ h hn.small]
           exact l5_76 hg hb hts hne k (j + 1) w d more (by omega) (by omega) hw ho hd hn hfail hok
         · rw [if_pos (by simpa using he)]
           exact hfail (by rw [if_neg he]) w hw
       · rw [if_neg (by simpa using hpos)]
         rw [if_neg hpos] at hfail
         simp only [if_neg hpos] at hok
         unfold V76.b6
         refine ⟨_,rfl,ht0,by omega,_,ho.cell hget, ?_⟩
         rw [if_pos (by simpa using hpos)]
         refine ⟨_,rfl,ht0,by omega,⟨_,by rw [own_add,bx_add,Nat.add_zero, ← own_add]; exact ho.cell hget⟩,ho.frozen _, ?_⟩
         rw [wrap_succ h hn.small]
         exact l5_76 hg hb hts hne k (j + 1) _ (d.set t.toNat behind) true (by omega) (by omega) (below_set hw hg _) (ho.set _ _) (by simp [hd]) (nums_block hn (fun q hq => set_other (hne q hq))) hfail hok
   · rw [if_neg (by simpa using h)]
     refine hok d more w ?_ hw ho
     rw [List.drop_eq_nil_of_le (by have := hn.len; omega)]
     rfl
theorem l2_76 {L1 : T1} {p : List Fnc} {xs : List Ins} (hp : ProgAt w0 A0 np p) (hfew : Few p) (hx : CodeAt w0 C n xs) (hjmp : ∀ x ∈ xs,x.op = 15 ∨ x.op = 16 → 0 ≤ x.a) (hg : w0.heap.size ≤ g) :
   ∀ (k i : Nat) (w : World) (d : List Int) (more : Bool),n < i + k → i ≤ n → Below w0.heap.size w0 w → OwnI w g .i64 3 d → DOk n d →
     (∀ a,scanM p n (xs.drop i) i d more = .inl a → ∀ w',Below w0.heap.size w0 w' → Ret w0.heap.size w' (IsQ w0 Q (failR a))) →
     (∀ d' f' w',scanM p n (xs.drop i) i d more = .inr (d',f') → Below w0.heap.size w0 w' → OwnI w' g .i64 3 d' → L1 (some ⟨g,0,none⟩) n n f' q3 f3 f3_1 f3_2 C n cC q2 A0 np cP w') →
     V76.l2 w0.heap.size (IsQ w0 Q) L1 k (some ⟨g,0,none⟩) n n more i q3 f3 f3_1 f3_2 C n cC q2 A0 np cP w
 | 0,i,w,d,more,hk,hi,_,_,_,_,_ => by omega
 | k + 1,i,w,d,more,hk,hi,hw,ho,hd,hfail,hdone => by
   dsimp -zeta only [V76.l2]
   by_cases h : i < n
   · rw [if_pos (by simpa using h)]
     obtain ⟨x,a,hxi,ha,he⟩ := (hx.keep hw).at h
     have hdrop : xs.drop i = x :: xs.drop (i + 1) := by
       obtain ⟨hlt,rfl⟩ := List.getElem?_eq_some_iff.1 hxi
       exact List.drop_eq_getElem_cons hlt
     rw [hdrop] at hfail hdone
     unfold scanM at hfail hdone
     have hget := getD_get (d := d) (i := i) (by rw [hd.1]; exact h)
     have hcell := ho.cell hget
     refine ⟨_,rfl,by omega,by omega,d.getD i 0,by simpa using hcell, ?_⟩
     by_cases hneg : d.getD i 0 < 0
     · rw [if_pos (by simpa using hneg)]
       simp only [if_pos hneg] at hfail hdone
       rw [wrap_succ h hx.small]
       exact l2_76 hp hfew hx hjmp hg k (i + 1) w d more (by omega) (by omega) hw ho hd hfail hdone
     · rw [if_neg (by simpa using hneg)]
       simp only [if_neg hneg] at hfail hdone
       have hpb := popsM_bd hfew x.op x.a
       have hrb := rowT_bd x.op
       have hdb := hd.2 _ (List.mem_of_getElem? hget)
       refine ⟨a,ha,by omega,by omega,x.op,by simpa using he.1,x.a,by simpa using he.2.1,x.b,by simpa using he.2.2,fun q10 _ => ⟨_,rfl,by omega,by omega,d.getD i 0,by simpa using hcell, ?_⟩⟩
       refine call_gives hw (fun w1 _ hb => gives117 (hp.keep hb) _ _ _) fun w1 e1 hw1 => ⟨_,rfl,by simpa using (ho.ext e1).cell hget, ?_⟩
       have ho1 := ho.ext e1
       have hwr1 : IntKind.wrap .i64 (d.getD i 0 - popsM p x.op x.a) = d.getD i 0 - popsM p x.op x.a := wrap_id (by omega) (by omega)
       have hwr2 : IntKind.wrap .i64 (d.getD i 0 - popsM p x.op x.a + pushesI x.op) = d.getD i 0 - popsM p x.op x.a + pushesI x.op := wrap_id (by omega) (by omega)
       rw [hwr1]
       by_cases hlow : d.getD i 0 < popsM p x.op x.a
       · rw [if_pos (by simp only [decide_eq_true_eq]; omega)]
         exact hfail i (by rw [if_pos (.inl hlow)]) w1 hw1
       · rw [if_neg (by simp only [decide_eq_true_eq]; omega)]
         refine call_gives hw1 (fun w1 _ hb => gives118 _ _ _ _) fun w2 e2 hw2 => ⟨_,rfl, ?_⟩
         have ho2 := ho1.ext e2
         rw [hwr2]
         by_cases hhigh : 8 < d.getD i 0 - popsM p x.op x.a + pushesI x.op
         · rw [if_pos (by simpa using hhigh)]
           exact hfail i (by rw [if_pos (.inr hhigh)]) w2 hw2
         · rw [if_neg (by simpa using hhigh)]
           simp only [if_neg (show ¬ (d.getD i 0 < popsM p x.op x.a ∨ 8 < d.getD i 0 - popsM p x.op x.a + pushesI x.op) from fun hor => hor.elim hlow hhigh)] at hfail hdone
           have hjx := hjmp x (List.mem_of_getElem? hxi)
           have hwi : IntKind.wrap .i64 ((i : Int) + 1) = (i : Int) + 1 := by rw [wrap_succ h hx.small]; rfl
           -- behind the choice of places
           have go : ∀ (A : Option Addr) (l c : Nat) (w6 : World),l = (nextM i x.op x.a).length → Below w0.heap.size w0 w6 → OwnI w6 g .i64 3 d → Nums .i64 w6 A l (nextM i x.op x.a) → (∀ q,A = some q → q.block ≠ g) →
               V76.b4 w0.heap.size (IsQ w0 Q) L1 (V76.l2 w0.heap.size (IsQ w0 Q) L1 k) (some ⟨g,0,none⟩) n n more i (d.getD i 0 - popsM p x.op x.a + pushesI x.op) A l c q3 f3 f3_1 f3_2 C n cC q2 A0 np cP w6 := by
             intro A l c w6 hl hw6 ho6 hn6 hne
             refine ⟨l + 1,l5_76 hg (by omega) (nextM_pos hjx) hne (l + 1) 0 w6 d more (by omega) (by omega) hw6 ho6 hd.1 hn6 ?_ ?_⟩
             · intro hnone w' hw'
               rw [List.drop_zero] at hnone
               exact hfail i (by rw [hnone]) w' hw'
             · intro d' f' w' hsome hw' ho'
               rw [List.drop_zero] at hsome
               simp only [hsome] at hfail hdone
               have hok := tosM_ok (by omega) hd (nextM_pos hjx) hsome
               rw [wrap_succ h hx.small]
               exact l2_76 hp hfew hx hjmp hg k (i + 1) w' d' f' (by omega) (by omega) hw' ho' hok.1 hfail hdone
           -- a literal row,appended to nothing
           have lit : ∀ ys : List Int,nextM i x.op x.a = ys → ys.length ≤ 2 → ∀ bs,Expo w0.heap.size w2 bs fun w_1 => Hide bs (w_1.alloc (.cells ⟨ys.map (.int .i64)⟩ 3)) fun w_2 =>
               RunK Tryz.prog (Builtin.append_ #[87,87] 87 ⟨[.slice none 0 0,.slice (some ⟨w_1.heap.size,0,none⟩) ys.length ys.length]⟩) w0.heap.size w_2 bs fun v w_3 => ∃ (A : Option Addr) (l c : Nat),v = .slice A l c ∧
               V76.b4 w0.heap.size (IsQ w0 Q) L1 (V76.l2 w0.heap.size (IsQ w0 Q) L1 k) (some ⟨g,0,none⟩) n n more i (d.getD i 0 - popsM p x.op x.a + pushesI x.op) A l c q3 f3 f3_1 f3_2 C n cC q2 A0 np cP w_3 := by
             intro ys hys hl bs
             refine expo_alloc hw2.size fun wa w' hs he _ hnewo => ?_
             refine append_lit (he.after hw2) (hnewo : OwnI w' wa.heap.size .i64 3 ys) (by omega) fun A c w6 he6 hn6 hfr => ⟨A,_,c,rfl, ?_⟩
             refine go A _ c w6 (by rw [hys]) (he6.after (he.after hw2)) ((ho2.ext he).ext he6) (by rw [hys]; exact hn6) fun q hq e => ?_
             have h1 := hfr q hq
             have h2 := (ho2.ext he).lt
             omega
           have b3 : ∀ b70 : Bool,(b70 = true ↔ (x.op = 18 ∨ x.op = 20)) → V76.b3 w0.heap.size (IsQ w0 Q) L1 (V76.l2 w0.heap.size (IsQ w0 Q) L1 k) (some ⟨g,0,none⟩) n n more i (d.getD i 0 - popsM p x.op x.a + pushesI x.op) none 0 0 x.op b70 q10 x.op x.a x.b q3 f3 f3_1 f3_2 C n cC q2 A0 np cP w2 := by
             intro b70 hb70
             unfold V76.b3
             rw [hwi]
             by_cases h18 : x.op = 18 ∨ x.op = 20
             · rw [if_pos (hb70.2 h18)]
               have hnx : nextM i x.op x.a = [] := by unfold nextM; rw [if_pos h18]
               refine go none 0 0 w2 (by rw [hnx]; rfl) hw2 ho2 (by rw [hnx]; exact nums_nil _ _) (fun q hq => by cases hq)
             · rw [if_neg (fun e => h18 (hb70.1 e))]
               by_cases h15 : x.op = 15
               · rw [if_pos (by simpa using h15)]
                 exact lit [x.a] (by unfold nextM; rw [if_neg h18,if_pos h15]) (by simp) _
               · rw [if_neg (by simpa using h15)]
                 by_cases h16 : x.op = 16
                 · rw [if_pos (by simpa using h16)]
                   exact lit [x.a,(i : Int) + 1] (by unfold nextM; rw [if_neg h18,if_neg h15,if_pos h16]) (by simp) _
                 · rw [if_neg (by simpa using h16)]
                   exact lit [(i : Int) + 1] (by unfold nextM; rw [if_neg h18,if_neg h15,if_neg h16]) (by simp) _
           by_cases h18 : x.op = 18
           · rw [if_pos (by simpa using h18)]
             exact b3 _ (by simp [h18])
           · rw [if_neg (by simpa using h18)]
             exact b3 _ (by simp [h18])
   · rw [if_neg (by simpa using h)]
     have hnil : xs.drop i = [] := List.drop_eq_nil_of_le (by have := hx.len; omega)
     rw [hnil] at hdone
     exact hdone d more w rfl hw ho
end
end Go.Proofs.YtidcpndlloppdaaGreat

/-
 Layer 17: checks and depths,the program's and the reference's,return what one plain rule tells.
 Conditions: the arguments' memory says what their values are.
-/
set_option linter.unusedVariables false
set_option linter.unusedSimpArgs false
namespace Go.Proofs.YtidcpndlloppdaaGreat
open Go.RowKit
def FlowQ (p : List Fnc) (code : List Ins) (w1 : World) : Value → World → Prop := fun v w2 => match depthsM p code with
 | .inl i => v = failR i
 | .inr d => ∃ g,w1.heap.size ≤ g ∧ v = .tuple ⟨[dsl g code.length,.int .i64 (-1)]⟩ ∧ OwnI w2 g .i64 3 d
section
variable {w0 : World} {Q : Value → World → Prop} {g cC np cP q2 q3 : Nat} {C A0 : Option Addr} {p : List Fnc} {xs : List Ins} {f3 f3_1 f3_2 : Int}
theorem l1_76 (hp : ProgAt w0 A0 np p) (hfew : Few p) (hx : CodeAt w0 C xs.length xs) (hjmp : ∀ x ∈ xs,x.op = 15 ∨ x.op = 16 → 0 ≤ x.a) (hg : w0.heap.size ≤ g) :
   ∀ (k : Nat) (w : World) (d : List Int),negs d < k → Below w0.heap.size w0 w → OwnI w g .i64 3 d → DOk xs.length d →
     (∀ a,fixM p xs k d = .inl a → ∀ w',Below w0.heap.size w0 w' → Ret w0.heap.size w' (IsQ w0 Q (failR a))) →
     (∀ d' w',fixM p xs k d = .inr d' → Below w0.heap.size w0 w' → OwnI w' g .i64 3 d' → Ret w0.heap.size w' (IsQ w0 Q (.tuple ⟨[dsl g xs.length,.int .i64 (-1)]⟩))) →
     V76.l1 w0.heap.size (IsQ w0 Q) (k + 1) (some ⟨g,0,none⟩) xs.length xs.length true q3 f3 f3_1 f3_2 C xs.length cC q2 A0 np cP w
 | 0,w,d,hk,_,_,_,_,_ => by omega
 | k + 1,w,d,hk,hw,ho,hd,hfail,hdone => by
   dsimp -zeta only [V76.l1]
   rw [if_pos rfl]
   refine ⟨xs.length + 1, ?_⟩
   unfold fixM at hfail hdone
   refine l2_76 hp hfew hx hjmp hg (xs.length + 1) 0 w d false (by omega) (by omega) hw ho hd ?_ ?_
   · intro a ha
     rw [List.drop_zero] at ha
     exact hfail a (by rw [ha])
   · intro d' f' w' hs hw' ho'
     rw [List.drop_zero] at hs
     have hok := scanM_ok hfew hd hjmp hs
     cases f' with
     | true =>
       simp only [hs] at hfail hdone
       have hlt : negs d' < negs d := by
         rcases hok.2.2.1 rfl with h | h
         · cases h
         · exact h
       exact l1_76 hp hfew hx hjmp hg k w' d' (by omega) hw' ho' hok.1 hfail hdone
     | false =>
       show if false = true then _ else _
       rw [if_neg (by simp)]
       exact hdone d' w' (by rw [hs]) hw' ho'
theorem l0_76 (hp : ProgAt w0 A0 np p) (hfew : Few p) (hx : CodeAt w0 C xs.length xs) (hjmp : ∀ x ∈ xs,x.op = 15 ∨ x.op = 16 → 0 ≤ x.a) (hg : w0.heap.size ≤ g) :
   ∀ (k i : Nat) (w : World),xs.length < i + k ∧ 1 ≤ k → 1 ≤ i → Below w0.heap.size w0 w → OwnI w g .i64 3 (initM xs.length i) →
     V76.l0 w0.heap.size (IsQ w0 (FlowQ p xs w0)) k (some ⟨g,0,none⟩) xs.length xs.length i q3 f3 f3_1 f3_2 C xs.length cC q2 A0 np cP w
 | 0,i,w,hk,h1,hw,ho => by omega
 | k + 1,i,w,hk,h1,hw,ho => by
   dsimp -zeta only [V76.l0]
   by_cases h : i < xs.length
   · rw [if_pos (by simpa using h)]
     have hget := getD_get (d := initM xs.length i) (i := i) (by rw [initM_len]; exact h)
     refine ⟨_,rfl,by omega,by omega,⟨_,by rw [own_add,bx_add,Nat.add_zero, ← own_add]; exact ho.cell hget⟩,ho.frozen _, ?_⟩
     have hs := ho.set i (-1)
     rw [initM_set h1 h] at hs
     rw [wrap_succ h hx.small]
     exact l0_76 hp hfew hx hjmp hg k (i + 1) _ ⟨by omega,by omega⟩ (by omega) (below_set hw hg _) hs
   · rw [if_neg (by simpa using h)]
     rw [initM_end (by omega)] at ho
     refine ⟨xs.length + 2,l1_76 hp hfew hx hjmp hg (xs.length + 1) w _ ?_ hw ho (start_ok _) ?_ ?_⟩
     · have := negs_le (start xs.length); rw [(start_ok xs.length).1] at this; omega
     · intro a ha w' hw'
       refine ret_q hw' fun w1 _ => ?_
       unfold FlowQ depthsM
       rw [ha]
     · intro d' w' hd hw' ho'
       refine ret_q hw' fun w1 h1 => ?_
       unfold FlowQ depthsM
       rw [hd]
       exact ⟨g,hg,rfl,ho'.ext h1⟩
theorem yields76 {w : World} {c c' : Nat} (hp : ProgAt w A0 np p) (hfew : Few p) (hx : CodeAt w C xs.length xs) (hjmp : ∀ x ∈ xs,x.op = 15 ∨ x.op = 16 → 0 ≤ x.a) (hlen : xs.length ≤ 1000) (a b r : Int) :
   Yields Tryz.prog 76 [.agg ⟨[.slice A0 np c]⟩,.agg ⟨[.int .i64 a,.int .i64 b,.int .i64 r,.slice C xs.length c']⟩] w (FlowQ p xs w) := by
 refine yields_of (V76.sound ?_)
 intro q2 _ q3 _
 refine make_own (t := 87) (e := 3) (i := Tryz.t3) (z := .int .i64 0) (size := 1) (by kernel_rfl) (by kernel_rfl) (by kernel_rfl) (by kernel_rfl) ?_ (len_ok hlen) (Nat.le_refl _) fun g w' hg he ho => ?_
 · have : Tryz.t3.bytes = 8 := by kernel_rfl
   rw [this]; omega
 · refine ⟨_,_,_,rfl,xs.length + 1, ?_⟩
   rw [made_zero] at ho
   exact l0_76 hp hfew hx hjmp hg (xs.length + 1) 1 w' ⟨by omega,by omega⟩ (Nat.le_refl _) he.below ho
end
end Go.Proofs.YtidcpndlloppdaaGreat

/-
 Layer 17: Check and Depths,the program's and the reference's,return what one plain rule tells.
 Conditions: the arguments' memory says what their values are.
-/
set_option linter.unusedVariables false
set_option linter.unusedSimpArgs false
namespace Go.Proofs.YtidcpndlloppdaaGreat
open Go.RowKit
section
variable {w0 : World} {v : Int × Int × Int} {cP q1 : Nat} {A : Option Addr} {p : List Fnc}
theorem l3_67 (hp : ProgAt w0 A p.length p) (hfew : Few p) (hlen : ∀ f ∈ p,f.code.length ≤ 1000) (hjmp : ∀ f ∈ p,∀ x ∈ f.code,x.op = 15 ∨ x.op = 16 → 0 ≤ x.a) : ∀ (k i : Nat) (w : World),p.length < i + k ∧ 1 ≤ k → i ≤ p.length → Below w0.heap.size w0 w →
   (∀ a b,flowsM p (p.drop i) i = some (a,b) → v = (9,(a : Int),(b : Int))) → (flowsM p (p.drop i) i = none → v = (0,0,0)) → V67.l3 w0.heap.size (IsV w0 (tripV v)) k A p.length cP p.length i q1 A p.length cP w
 | 0,i,w,hk,_,_,_,_ => by omega
 | k + 1,i,w,hk,hi,hw,h1,h2 => by
   dsimp -zeta only [V67.l3]
   by_cases h : i < p.length
   · rw [if_pos (by simpa using h)]
     obtain ⟨f,a,C,c,hf,ha,c0,c1,c2,c3,hc⟩ := prog_at (hp.keep hw) h
     rw [drop_at hf] at h1 h2
     unfold flowsM at h1 h2
     have hm := List.mem_of_getElem? hf
     refine ⟨a,ha,by omega,by omega,f.params,by simpa using c0,f.locals,by simpa using c1,f.refs,by simpa using c2,C,f.code.length,c,by simpa using c3,fun q12 _ => ?_⟩
     refine call_yields (Q := DepthsQ p f.code) hw (fun w1 e1 hb => yields112 (hp.keep hb) hfew (RowAt.keep InsE.kept hc (ext_keeps e1)) (hjmp f hm) (hlen f hm)) fun w4 u w5 w6 hs _ hQ _ hnew he6 hw6 => ?_
     unfold DepthsQ at hQ
     cases hd : depthsM p f.code with
     | inl j =>
       simp only [hd] at hQ h1
       subst hQ
       refine ⟨none,0,0,j,false,rfl, ?_⟩
       rw [if_pos (by simp)]
       exact ret_is hw6 (by rw [h1 i j rfl]; rfl)
     | inr d =>
       simp only [hd] at hQ h1 h2
       obtain ⟨g,_,rfl,_⟩ := hQ
       refine ⟨_,_,_,0,true,rfl, ?_⟩
       rw [if_neg (by simp),wrap_succ h hp.small]
       exact l3_67 hp hfew hlen hjmp k (i + 1) w6 ⟨by omega,by omega⟩ (by omega) hw6 h1 h2
   · rw [if_neg (by simpa using h)]
     rw [List.drop_eq_nil_of_le (by omega)] at h2
     exact ret_is hw (by rw [h2 rfl]; rfl)
theorem l2_67 {L1 : Option Addr → Nat → Nat → Int → Int → Nat → Option Addr → Nat → Nat → World → Prop} (hp : ProgAt w0 A p.length p) {i : Nat} {f : Fnc} {C : Option Addr} {c q8 : Nat} (hc : CodeAt w0 C f.code.length f.code) : ∀ (k j : Nat) (w : World),f.code.length < j + k ∧ 1 ≤ k → j ≤ f.code.length → Below w0.heap.size w0 w →
   (∀ b,firstNot (shapedI p.length f) (f.code.drop j) j = some b → v = (6,(i : Int),(b : Int))) →
   (firstNot (shapedI p.length f) (f.code.drop j) j = none → ∀ w',Below w0.heap.size w0 w' → L1 A p.length cP p.length (IntKind.wrap .i64 ((i : Int) + 1)) q1 A p.length cP w') →
   V67.l2 w0.heap.size (IsV w0 (tripV v)) L1 k i A p.length cP p.length i C f.code.length c f.code.length j q8 f.params f.locals f.refs C f.code.length c q1 A p.length cP w
 | 0,j,w,hk,_,_,_,_ => by omega
 | k + 1,j,w,hk,hj,hw,h1,h2 => by
   dsimp -zeta only [V67.l2]
   by_cases h : j < f.code.length
   · rw [if_pos (by simpa using h)]
     obtain ⟨x,a,hx,ha,he⟩ := (hc.keep hw).at h
     rw [drop_at hx] at h1 h2
     unfold firstNot at h1 h2
     refine ⟨a,ha,by omega,by omega,x.op,by simpa using he.1,x.a,by simpa using he.2.1,x.b,by simpa using he.2.2,fun q10 _ => ?_⟩
     refine call_gives hw (fun w1 _ hb => gives111 (hp.keep hb) _ _ _ _ _ _ _ _ _) fun w1 _ hw1 => ⟨_,rfl, ?_⟩
     by_cases hs : shapedI p.length f x = true
     · simp only [if_pos hs] at h1 h2
       have hs' : shapedM p.length f.locals f.refs f.code.length x.op x.a x.b = true := hs
       rw [if_neg (by rw [hs']; simp),wrap_succ h hc.small]
       exact l2_67 hp hc k (j + 1) w1 ⟨by omega,by omega⟩ (by omega) hw1 h1 h2
     · simp only [if_neg hs] at h1
       have hs' : ¬ shapedM p.length f.locals f.refs f.code.length x.op x.a x.b = true := hs
       rw [if_pos (by rw [Bool.eq_false_iff.2 hs']; simp)]
       exact ret_is hw1 (by rw [h1 j rfl]; rfl)
   · rw [if_neg (by simpa using h)]
     rw [List.drop_eq_nil_of_le (by omega)] at h2
     exact h2 rfl w hw
theorem l1_67 (hp : ProgAt w0 A p.length p) (hfew : Few p) (hlen : ∀ f ∈ p,f.code.length ≤ 1000) : ∀ (k i : Nat) (w : World),p.length < i + k ∧ 1 ≤ k → i ≤ p.length → Below w0.heap.size w0 w → (∀ f ∈ p.take i,∀ x ∈ f.code,x.op = 15 ∨ x.op = 16 → 0 ≤ x.a) →
   (∀ a b,shapesM p.length (p.drop i) i = some (a,b) → v = (6,(a : Int),(b : Int))) → (shapesM p.length (p.drop i) i = none → (∀ a b,flowsM p p 0 = some (a,b) → v = (9,(a : Int),(b : Int))) ∧ (flowsM p p 0 = none → v = (0,0,0))) →
   V67.l1 w0.heap.size (IsV w0 (tripV v)) k A p.length cP p.length i q1 A p.length cP w
 | 0,i,w,hk,_,_,_,_,_ => by omega
 | k + 1,i,w,hk,hi,hw,hj,h1,h2 => by
   dsimp -zeta only [V67.l1]
   by_cases h : i < p.length
   · rw [if_pos (by simpa using h)]
     obtain ⟨f,a,C,c,hf,ha,c0,c1,c2,c3,hc⟩ := prog_at hp h
     have lk : ∀ {q : Addr} {u : Value},w0.cell? q = some u → w.cell? q = some u := fun hq => below_keeps hw _ _ hq
     rw [drop_at hf] at h1 h2
     unfold shapesM at h1 h2
     refine ⟨a,ha,by omega,by omega,f.params,by simpa using lk c0,f.locals,by simpa using lk c1,f.refs,by simpa using lk c2,C,f.code.length,c,by simpa using lk c3,fun q8 _ => ⟨f.code.length + 1, ?_⟩⟩
     refine l2_67 hp hc (f.code.length + 1) 0 w ⟨by omega,by omega⟩ (by omega) hw ?_ ?_
     · intro b hb
       rw [List.drop_zero] at hb
       simp only [hb] at h1
       exact h1 i b rfl
     · intro hb w' hw'
       rw [List.drop_zero] at hb
       simp only [hb] at h1 h2
       rw [wrap_succ h hp.small]
       refine l1_67 hp hfew hlen k (i + 1) w' ⟨by omega,by omega⟩ (by omega) hw' ?_ h1 h2
       intro f' hf' x hx ho
       rw [List.take_add_one,hf] at hf'
       rcases List.mem_append.1 hf' with hf' | hf'
       · exact hj f' hf' x hx ho
       · simp at hf'
         subst hf'
         exact shaped_jump (firstNot_all hb x hx) ho
   · rw [if_neg (by simpa using h)]
     rw [List.drop_eq_nil_of_le (by omega)] at h2
     rw [List.take_of_length_le (by omega)] at hj
     exact ⟨p.length + 1,l3_67 hp hfew hlen hj (p.length + 1) 0 w ⟨by omega,by omega⟩ (by omega) hw (h2 rfl).1 (h2 rfl).2⟩
theorem l0_67 (hp : ProgAt w0 A p.length p) : ∀ (k i : Nat) (w : World),p.length < i + k ∧ 1 ≤ k → i ≤ p.length → Below w0.heap.size w0 w →
   (∀ a,firstNot sizedF (p.drop i) i = some a → v = (1,(a : Int),0)) → (firstNot sizedF (p.drop i) i = none → ∀ w',Below w0.heap.size w0 w' → ∃ k_1,V67.l1 w0.heap.size (IsV w0 (tripV v)) k_1 A p.length cP p.length 0 q1 A p.length cP w') →
   V67.l0 w0.heap.size (IsV w0 (tripV v)) k A p.length cP p.length i q1 A p.length cP w
 | 0,i,w,hk,_,_,_,_ => by omega
 | k + 1,i,w,hk,hi,hw,h1,h2 => by
   dsimp -zeta only [V67.l0]
   by_cases h : i < p.length
   · rw [if_pos (by simpa using h)]
     obtain ⟨f,a,C,c,hf,ha,c0,c1,c2,c3,hc⟩ := prog_at (hp.keep hw) h
     rw [drop_at hf] at h1 h2
     unfold firstNot at h1 h2
     refine ⟨a,ha,by omega,by omega,f.params,by simpa using c0,f.locals,by simpa using c1,f.refs,by simpa using c2,C,f.code.length,c,by simpa using c3,fun q6 _ => ?_⟩
     refine call_gives hw (fun w1 _ _ => gives110 _ _ _ _ _ _ _) fun w1 _ hw1 => ⟨_,rfl, ?_⟩
     by_cases hs : sizedF f = true
     · simp only [if_pos hs] at h1 h2
       have hs' : sizedM f.params f.locals f.refs f.code.length = true := hs
       rw [if_neg (by rw [hs']; simp),wrap_succ h hp.small]
       exact l0_67 hp k (i + 1) w1 ⟨by omega,by omega⟩ (by omega) hw1 h1 h2
     · simp only [if_neg hs] at h1
       have hs' : ¬ sizedM f.params f.locals f.refs f.code.length = true := hs
       rw [if_pos (by rw [Bool.eq_false_iff.2 hs']; simp)]
       exact ret_is hw1 (by rw [h1 i rfl]; rfl)
   · rw [if_neg (by simpa using h)]
     rw [List.drop_eq_nil_of_le (by omega)] at h2
     exact h2 rfl w hw
end
theorem gives67 {w : World} {A : Option Addr} {p : List Fnc} {c : Nat} (hp : ProgAt w A p.length p) : Gives Tryz.prog 67 [.agg ⟨[.slice A p.length c]⟩] w (tripV (checkM p)) := by
 refine gives_of (V67.sound ?_)
 intro q1 _
 by_cases h1 : p.length < 1
 · rw [if_neg (by simp; omega)]
   exact ret_is (Below.refl _ _) (by unfold checkM; rw [if_pos (.inl h1)]; rfl)
 · rw [if_pos (by simp; omega)]
   by_cases h8 : 8 < p.length
   · rw [if_pos (by simp; omega)]
     exact ret_is (Below.refl _ _) (by unfold checkM; rw [if_pos (.inr h8)]; rfl)
   · rw [if_neg (by simp; omega)]
     have hc : checkM p = match firstNot sizedF p 0 with
         | some i => (1,(i : Int),0)
         | none => match shapesM p.length p 0 with
           | some (i,j) => (6,(i : Int),(j : Int))
           | none => match flowsM p p 0 with
             | some (i,j) => (9,(i : Int),(j : Int))
             | none => (0,0,0) := by unfold checkM; rw [if_neg (fun h => h.elim h1 h8)]; rfl
     refine ⟨p.length + 1,l0_67 hp (p.length + 1) 0 w ⟨by omega,by omega⟩ (by omega) (Below.refl _ _) ?_ ?_⟩
     · intro a ha
       rw [List.drop_zero] at ha
       rw [hc,ha]
     · intro hs w' hw'
       rw [List.drop_zero] at hs
       rw [hs] at hc
       refine ⟨p.length + 1,l1_67 hp (sized_few hs) (fun f hf => sized_len hs hf) (p.length + 1) 0 w' ⟨by omega,by omega⟩ (by omega) hw' (fun f hf => by simp at hf) ?_ ?_⟩
       · intro a b hab
         rw [List.drop_zero] at hab
         rw [hc,hab]
       · intro hn
         rw [List.drop_zero] at hn
         rw [hn] at hc
         refine ⟨fun a b hab => by rw [hc,hab],fun hf => by rw [hc,hf]⟩
end Go.Proofs.YtidcpndlloppdaaGreat
