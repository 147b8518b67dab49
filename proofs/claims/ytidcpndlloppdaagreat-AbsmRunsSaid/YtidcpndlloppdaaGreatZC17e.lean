import Derived.Test.YtidcpndlloppdaaGreatZK17
import Derived.Test.YtidcpndlloppdaaGreatZVX
/-
 The functions of layer 17 that tell whether a function's numbers and an instruction's fields may be,and which places follow: what their calls return.
 Conditions: the arguments' memory says what their values are.
-/
set_option linter.unusedVariables false
set_option linter.unusedSimpArgs false
namespace Go.Proofs.YtidcpndlloppdaaGreat
open Go.RowKit
theorem gives74 (p l r : Int) (A : Option Addr) (n c : Nat) (w : World) : Gives Tryz.prog 74 [.agg ⟨[.int .i64 p,.int .i64 l,.int .i64 r,.slice A n c]⟩] w (.bool (sizedM p l r n)) := by
 refine gives_of (V74.sound ?_)
 intro q _
 have hw : 0 ≤ p ∧ p ≤ 3 ∧ p ≤ l ∧ l ≤ 8 → IntKind.wrap .i64 (l - p) = l - p := sized_wrap
 generalize IntKind.wrap .i64 (l - p) = X at hw
 simp only [decide_eq_true_eq]
 repeat' split
 all_goals refine ret_is (Below.refl _ _) (congrArg Value.bool ?_)
 all_goals unfold sizedM
 all_goals first
   | exact (decide_eq_false (by omega)).symm
   | exact decide_eq_decide.2 (by omega)
theorem gives116 (a n : Int) (w : World) : Gives Tryz.prog 116 [.int .i64 a,.int .i64 n] w (.bool (withinM a n)) := by
 refine gives_of (V116.sound ?_)
 unfold V116.vc
 simp only [decide_eq_true_eq]
 split
 · exact ret_is (Below.refl _ _) (congrArg Value.bool (decide_eq_decide.2 (by omega)))
 · exact ret_is (Below.refl _ _) (congrArg Value.bool (decide_eq_false (by omega)).symm)
theorem gives158 (a n : Int) (w : World) : Gives Tryz.prog 158 [.int .i64 a,.int .i64 n] w (.bool (withinM a n)) := by
 refine gives_of (V158.sound ?_)
 unfold V158.vc
 simp only [decide_eq_true_eq]
 split
 · exact ret_is (Below.refl _ _) (congrArg Value.bool (decide_eq_decide.2 (by omega)))
 · exact ret_is (Below.refl _ _) (congrArg Value.bool (decide_eq_false (by omega)).symm)
theorem gives75 {w : World} {A : Option Addr} {np c : Nat} {pr : List Fnc} (hp : ProgAt w A np pr) (p l r : Int) (A' : Option Addr) (n c' : Nat) (op a b : Int) :
   Gives Tryz.prog 75 [.agg ⟨[.slice A np c]⟩,.agg ⟨[.int .i64 p,.int .i64 l,.int .i64 r,.slice A' n c']⟩,.agg ⟨[.int .i64 op,.int .i64 a,.int .i64 b]⟩] w (.bool (shapedM np l r n op a b)) := by
 refine gives_of (V75.sound ?_)
 intro q3 _ q4 _ q5 _
 refine call_gives (Below.refl _ _) (fun w1 _ _ => gives115 op w1) fun w1 _ hb => ?_
 refine ⟨_,_,_,_,rfl, ?_⟩
 have body : ∀ X,X = (rowT op).1 → (rowT op).2.2.2 = true → ((rowT op).1 == 7 || b == 0) = true → V75.b0 w.heap.size (IsV w (.bool (shapedM np l r n op a b))) X q5 op a b q4 p l r A' n c' q3 A np c w1 := by
   rintro X rfl h1 h2
   have hs : shapedM np l r n op a b = kindM np l r n (rowT op).1 a b := by unfold shapedM; rw [h1,h2]; rfl
   rw [hs]
   generalize (rowT op).1 = k
   unfold V75.b0 kindM
   simp only [beq_iff_eq,decide_eq_true_eq]
   by_cases k1 : k = 1
   · simp only [k1,if_true]
     split
     · exact ret_is hb (congrArg Value.bool (decide_eq_decide.2 (by omega)))
     · exact ret_is hb (congrArg Value.bool (decide_eq_false (by omega)).symm)
   simp only [k1,if_false]
   by_cases k2 : k = 2
   · simp only [k2,if_true]
     exact call_gives hb (fun w2 _ _ => gives116 _ _ w2) fun w2 _ hb2 => ⟨_,rfl,ret_is hb2 rfl⟩
   simp only [k2,if_false]
   by_cases k3 : k = 3
   · simp only [k3,if_true]
     exact call_gives hb (fun w2 _ _ => gives116 _ _ w2) fun w2 _ hb2 => ⟨_,rfl,ret_is hb2 rfl⟩
   simp only [k3,if_false]
   by_cases k4 : k = 4
   · simp only [k4,if_true]
     exact call_gives hb (fun w2 _ _ => gives116 _ _ w2) fun w2 _ hb2 => ⟨_,rfl,ret_is hb2 rfl⟩
   simp only [k4,if_false]
   by_cases k5 : k = 5
   · simp only [k5,if_true]
     exact call_gives hb (fun w2 _ _ => gives116 _ _ w2) fun w2 _ hb2 => ⟨_,rfl,ret_is hb2 rfl⟩
   simp only [k5,if_false]
   by_cases k6 : k = 6
   · simp only [k6,if_true]
     exact call_gives hb (fun w2 _ _ => gives116 _ _ w2) fun w2 _ hb2 => ⟨_,rfl,ret_is hb2 rfl⟩
   simp only [k6,if_false]
   by_cases k7 : k = 7
   · simp only [k7,if_true]
     refine call_gives hb (fun w2 _ _ => gives116 _ _ w2) fun w2 _ hb2 => ⟨_,rfl, ?_⟩
     split
     · rename_i h; rw [h]
       exact call_gives hb2 (fun w3 _ _ => gives116 _ _ w3) fun w3 _ hb3 => ⟨_,rfl,ret_is hb3 rfl⟩
     · rename_i h
       exact ret_is hb2 (by rw [Bool.eq_false_iff.2 h]; rfl)
   simp only [k7,if_false]
   exact ret_is hb rfl
 cases h1 : (rowT op).2.2.2 with
 | false =>
   rw [if_neg (by simp)]
   exact ret_is hb (by unfold shapedM; rw [h1]; rfl)
 | true =>
   rw [if_pos (by simp)]
   by_cases h7 : (rowT op).1 = 7
   · rw [if_neg (by simpa using h7)]
     exact body _ rfl h1 (by simp [h7])
   · rw [if_pos (by simpa using h7)]
     by_cases hb0 : b = 0
     · rw [if_neg (by simpa using hb0)]
       exact body _ rfl h1 (by simp [hb0])
     · rw [if_pos (by simpa using hb0)]
       exact ret_is hb (by unfold shapedM; simp [h7,hb0])
theorem gives111 {w : World} {A : Option Addr} {np c : Nat} {pr : List Fnc} (hp : ProgAt w A np pr) (p l r : Int) (A' : Option Addr) (n c' : Nat) (op a b : Int) :
   Gives Tryz.prog 111 [.agg ⟨[.slice A np c]⟩,.agg ⟨[.int .i64 p,.int .i64 l,.int .i64 r,.slice A' n c']⟩,.agg ⟨[.int .i64 op,.int .i64 a,.int .i64 b]⟩] w (.bool (shapedM np l r n op a b)) := by
 refine gives_of (V111.sound ?_)
 intro q3 _ q4 _ q5 _
 have two : ∀ (x y : Int) (v : Bool),(withinM x y && b == 0) = v → CallK Tryz.prog 158 [.int .i64 x,.int .i64 y] w.heap.size w [q5,q4,q3] fun v1 w_1 => ∃ b37 : Bool,v1 = .bool b37 ∧ if b37 = true then (Ret w.heap.size w_1 (IsV w (.bool v) (.bool (b == 0)))) else (Ret w.heap.size w_1 (IsV w (.bool v) (.bool false))) := by
   intro x y v hv
   refine call_gives (Below.refl _ _) (fun w2 _ _ => gives158 _ _ w2) fun w2 _ hb2 => ⟨_,rfl, ?_⟩
   split
   · rename_i h; exact ret_is hb2 (by rw [← hv,h]; simp)
   · rename_i h; exact ret_is hb2 (by rw [← hv,Bool.eq_false_iff.2 h]; simp)
 have main : ∀ (none7 : Bool),none7 = (a == 0 && b == 0) → V111.b0 w.heap.size (IsV w (.bool (shapedM np l r n op a b))) none7 q5 op a b q4 p l r A' n c' q3 A np c w := by
   intro none7 hn
   rcases op_cases op with h | h | h | h | h | h | h | h | h | h | h | h | h | h | h | h | h | h | h | h | h | h | h | h | h | h | h | hd
   case inl =>
     subst h
     simp only [V111.b0,Int.reduceBEq,if_true,decide_eq_true_eq]
     split
     · split
       · exact ret_is (Below.refl _ _) (congrArg Value.bool (by simp [shapedM,kindM,rowT, *]))
       · exact ret_is (Below.refl _ _) (congrArg Value.bool (by simp [shapedM,kindM,rowT, *]))
     · exact ret_is (Below.refl _ _) (congrArg Value.bool (by simp [shapedM,kindM,rowT]; omega))
   all_goals first
     | subst h
       simp only [V111.b0,V111.b1,V111.b2,V111.b3,V111.b4,V111.b5,Int.reduceBEq,Bool.false_eq_true,if_false,if_true]
       first
         | exact two _ _ _ (by simp [shapedM,kindM,rowT,Bool.and_comm])
         | exact ret_is (Below.refl _ _) (by rw [hn]; simp [shapedM,kindM,rowT,Bool.and_comm])
         | (refine call_gives (Below.refl _ _) (fun w2 _ _ => gives158 _ _ w2) fun w2 _ hb2 => ⟨_,rfl, ?_⟩
            split
            · rename_i h
              exact call_gives hb2 (fun w3 _ _ => gives158 _ _ w3) fun w3 _ hb3 => ⟨_,rfl,ret_is hb3 (by simp [shapedM,kindM,rowT,h])⟩
            · rename_i h
              exact ret_is hb2 (by simp [shapedM,kindM,rowT,h]))
         | skip
     | obtain ⟨h1,h2,h3,h4,h5,h6,h7,h8,h9,h10,h11,h12,h13,h14,h15,h16,h17,h18,h19,h20,h21,h22,h23,h24,h25,h26,h27⟩ := hd
       simp only [V111.b0,V111.b1,V111.b2,V111.b3,V111.b4,V111.b5,beq_iff_eq, *,if_false,if_true,Bool.false_eq_true]
       have hr : rowT op = (0,0,0,false) := by simp [rowT, *]
       have hs : shapedM np l r n op a b = false := by unfold shapedM; rw [hr]; rfl
       rw [hs]
       split
       · refine call_gives (Below.refl _ _) (fun w2 _ hb => gives99 (hp.keep hb) _ _ _) fun w2 _ hb2 => ⟨_,rfl, ?_⟩
         rw [if_neg (by unfold popsM; rw [hr]; simp)]
         exact ret_is hb2 rfl
       · exact ret_is (Below.refl _ _) rfl
   all_goals
     have hn2 := hn.trans (Bool.and_comm _ _)
     cases none7 with
     | false =>
       rw [if_neg (by simp)]
       exact ret_is (Below.refl _ _) (congrArg Value.bool (show false = (b == 0 && a == 0) from hn2))
     | true =>
       rw [if_pos rfl]
       refine call_gives (Below.refl _ _) (fun w2 _ hb => gives99 (hp.keep hb) _ _ _) fun w2 _ hb2 => ⟨_,rfl, ?_⟩
       rw [if_pos (by simp [popsM,rowT])]
       exact call_gives hb2 (fun w3 _ _ => gives159 _ _ _ w3) fun w3 _ hb3 => ⟨_,rfl,ret_is hb3 (congrArg Value.bool (show true = (b == 0 && a == 0) from hn2))⟩
 by_cases ha : a = 0
 · rw [if_pos (by simpa using ha)]
   exact main _ (by simp [ha])
 · rw [if_neg (by simpa using ha)]
   exact main _ (by simp [ha])
end Go.Proofs.YtidcpndlloppdaaGreat

/-
 The function of layer 17 that reckons depths: what its calls return.
 Conditions: the arguments' memory says what their values are; jumps do not go below nought; few numbers are handed.
-/
set_option linter.unusedVariables false
set_option linter.unusedSimpArgs false
namespace Go.Proofs.YtidcpndlloppdaaGreat
open Go.RowKit
theorem yields160 (at_ : Nat) (op a b : Int) (hat : at_ < maxLen) (w : World) : Yields Tryz.prog 160 [.int .i64 at_,.agg ⟨[.int .i64 op,.int .i64 a,.int .i64 b]⟩] w (FreshNums (nextM at_ op a) w) := by
 refine yields_of (V160.sound ?_)
 intro q3 _
 have hw1 : IntKind.wrap .i64 ((at_ : Int) + 1) = (at_ : Int) + 1 := by rw [wrap_succ hat (Nat.le_refl _)]; rfl
 have nil : ∀ b7 : Bool,b7 = true → (op = 18 ∨ op = 20) → V160.b0 w.heap.size (IsQ w (FreshNums (nextM at_ op a) w)) at_ op b7 q3 op a b w := by
   intro b7 h1 h2
   unfold V160.b0
   rw [if_pos h1]
   refine ret_q (Below.refl _ _) fun w1 h1 => ⟨_,_,_,rfl, ?_,fun p hp => by cases hp⟩
   have : nextM at_ op a = [] := by unfold nextM; rw [if_pos h2]
   rw [this]
   exact nums_nil _ _
 have rest : ∀ b7 : Bool,b7 = false → ¬ (op = 18 ∨ op = 20) → V160.b0 w.heap.size (IsQ w (FreshNums (nextM at_ op a) w)) at_ op b7 q3 op a b w := by
   intro b7 h1 h2
   unfold V160.b0
   rw [if_neg (by simp [h1]),hw1]
   by_cases h15 : op = 15
   · rw [if_pos (by simpa using h15)]
     have hx : nextM at_ op a = [a] := by unfold nextM; rw [if_neg h2,if_pos h15]
     rw [hx]
     exact expo_alloc (Nat.le_refl _) fun wa w' hs he _ ho => fresh_ret (xs := [a]) (Below.refl _ _) hs he ho (by simp)
   · rw [if_neg (by simpa using h15)]
     by_cases h16 : op = 16
     · rw [if_pos (by simpa using h16)]
       have hx : nextM at_ op a = [a,(at_ : Int) + 1] := by unfold nextM; rw [if_neg h2,if_neg h15,if_pos h16]
       rw [hx]
       exact expo_alloc (Nat.le_refl _) fun wa w' hs he _ ho => fresh_ret (xs := [a,(at_ : Int) + 1]) (Below.refl _ _) hs he ho (by simp)
     · rw [if_neg (by simpa using h16)]
       have hx : nextM at_ op a = [(at_ : Int) + 1] := by unfold nextM; rw [if_neg h2,if_neg h15,if_neg h16]
       rw [hx]
       exact expo_alloc (Nat.le_refl _) fun wa w' hs he _ ho => fresh_ret (xs := [(at_ : Int) + 1]) (Below.refl _ _) hs he ho (by simp)
 by_cases h18 : op = 18
 · rw [if_pos (by simpa using h18)]
   exact nil _ (by simpa using h18) (.inl h18)
 · rw [if_neg (by simpa using h18)]
   by_cases h20 : op = 20
   · exact nil _ (by simpa using h20) (.inr h20)
   · exact rest _ (by simpa using h20) (by simp [h18,h20])
end Go.Proofs.YtidcpndlloppdaaGreat

/-
 The function of layer 17 that reckons depths returns what the plain rule tells.
 Conditions: the arguments' memory says what their values are; jumps do not go below nought; few numbers are handed.
-/
set_option linter.unusedVariables false
set_option linter.unusedSimpArgs false
namespace Go.Proofs.YtidcpndlloppdaaGreat
open Go.RowKit
abbrev dsl (g n : Nat) : Value := .slice (some ⟨g,0,none⟩) n n
def failV (i : Nat) : Value := .tuple ⟨[.slice none 0 0,.int .i64 i,.bool false]⟩
section
variable {w0 : World} {Q : Value → World → Prop} {g n cC np cP q2 : Nat} {C A0 : Option Addr}
theorem b4_112 {L1 : Option Addr → Nat → Nat → Option Addr → Nat → Nat → Nat → Option Addr → Nat → Nat → World → Prop}
   {L2 : Option Addr → Nat → Nat → Option Addr → Nat → Nat → Bool → Option Addr → Nat → Nat → Int → Int → Nat → Option Addr → Nat → Nat → World → Prop}
   {L3 : Option Addr → Nat → Nat → Option Addr → Nat → Nat → Bool → Int → Int → Option Addr → Nat → Nat → Int → Int → Option Addr → Nat → Nat → Int → Int → Nat → Option Addr → Nat → Nat → World → Prop}
   {A65 : Option Addr} {l65 c65 i j : Nat} {behind t x28 : Int} {d : List Int} {fresh : Bool} {w : World} (hg : w0.heap.size ≤ g) (hw : Below w0.heap.size w0 w) (ho : OwnI w g .i64 3 d) (hd : d.length = n) (h0 : 0 ≤ t) (ht : t < (n : Int))
   (hL : ∀ w',Below w0.heap.size w0 w' → OwnI w' g .i64 3 (if d.getD t.toNat 0 < 0 then d.set t.toNat behind else d) → (∀ k,k ≠ g → w'.heap[k]? = w.heap[k]?) →
     L3 C n cC (some ⟨g,0,none⟩) n n (if d.getD t.toNat 0 < 0 then true else fresh) i behind C n cC x28 i A65 l65 c65 l65 (IntKind.wrap .i64 (j + 1)) q2 A0 np cP w') :
   V112.b4 w0.heap.size (IsQ w0 Q) L1 L2 L3 C n cC (some ⟨g,0,none⟩) n n fresh i behind t C n cC x28 i A65 l65 c65 l65 j false q2 A0 np cP w := by
 unfold V112.b4
 rw [if_neg (by simp)]
 have hget := getD_get (d := d) (i := t.toNat) (by omega)
 refine ⟨_,rfl,h0,ht,_,ho.cell hget, ?_⟩
 by_cases hneg : d.getD t.toNat 0 < 0
 · rw [if_pos (by simpa using hneg)]
   simp only [if_pos hneg] at hL
   refine ⟨_,rfl,h0,ht,⟨_,by rw [own_add,bx_add,Nat.add_zero, ← own_add]; exact ho.cell hget⟩,ho.frozen _, ?_⟩
   exact hL _ (below_set hw hg _) (ho.set _ _) (fun k hk => set_other hk)
 · rw [if_neg (by simpa using hneg)]
   simp only [if_neg hneg] at hL
   exact hL w hw ho (fun _ _ => rfl)
theorem l3_112 {L1 : Option Addr → Nat → Nat → Option Addr → Nat → Nat → Nat → Option Addr → Nat → Nat → World → Prop}
   {L2 : Option Addr → Nat → Nat → Option Addr → Nat → Nat → Bool → Option Addr → Nat → Nat → Int → Int → Nat → Option Addr → Nat → Nat → World → Prop}
   {A65 : Option Addr} {l65 c65 i : Nat} {behind x28 : Int} {ts : List Int} (hg : w0.heap.size ≤ g) (hb : 0 ≤ behind) (hts : ∀ t ∈ ts,0 ≤ t) (hne : ∀ q,A65 = some q → q.block ≠ g) :
   ∀ (k j : Nat) (w : World) (d : List Int) (fresh : Bool),l65 < j + k → j ≤ l65 → Below w0.heap.size w0 w → OwnI w g .i64 3 d → d.length = n → Nums .i64 w A65 l65 ts →
     (tosM n behind (ts.drop j) d fresh = none → ∀ w',Below w0.heap.size w0 w' → Ret w0.heap.size w' (IsQ w0 Q (failV i))) →
     (∀ d' f' w',tosM n behind (ts.drop j) d fresh = some (d',f') → Below w0.heap.size w0 w' → OwnI w' g .i64 3 d' → L2 C n cC (some ⟨g,0,none⟩) n n f' C n cC x28 (IntKind.wrap .i64 ((i : Int) + 1)) q2 A0 np cP w') →
     V112.l3 w0.heap.size (IsQ w0 Q) L1 L2 k C n cC (some ⟨g,0,none⟩) n n fresh i behind C n cC x28 i A65 l65 c65 l65 j q2 A0 np cP w
 | 0,j,w,d,fresh,hk,hj,_,_,_,_,_,_ => by omega
 | k + 1,j,w,d,fresh,hk,hj,hw,ho,hd,hn,hfail,hok => by
   dsimp -zeta only [V112.l3]
   by_cases h : j < l65
   · rw [if_pos (by simpa using h)]
     obtain ⟨t,p,ht,hp,hc⟩ := hn.at h
     have ht0 := hts t (List.mem_of_getElem? ht)
     have hdrop : ts.drop j = t :: ts.drop (j + 1) := by
       obtain ⟨hlt,rfl⟩ := List.getElem?_eq_some_iff.1 ht
       exact List.drop_eq_getElem_cons hlt
     refine ⟨p,hp,by omega,by omega,t,by simpa using hc, ?_⟩
     rw [hdrop] at hfail hok
     unfold tosM at hfail hok
     by_cases hbig : (n : Int) ≤ t
     · rw [if_neg (by simp; omega)]
       unfold V112.b4
       rw [if_pos rfl]
       exact hfail (by rw [if_pos hbig]) w hw
     · rw [if_pos (by simp; omega)]
       rw [if_neg hbig] at hfail
       simp only [if_neg hbig] at hok
       have hget := getD_get (d := d) (i := t.toNat) (by omega)
       refine ⟨_,rfl,ht0,by omega,_,ho.cell hget, ?_⟩
       have next : ∀ (d1 : List Int) (f1 : Bool),d1 = (if d.getD t.toNat 0 < 0 then d.set t.toNat behind else d) → f1 = (if d.getD t.toNat 0 < 0 then true else fresh) →
           (tosM n behind (ts.drop (j + 1)) d1 f1 = none → ∀ w',Below w0.heap.size w0 w' → Ret w0.heap.size w' (IsQ w0 Q (failV i))) →
           (∀ d' f' w',tosM n behind (ts.drop (j + 1)) d1 f1 = some (d',f') → Below w0.heap.size w0 w' → OwnI w' g .i64 3 d' → L2 C n cC (some ⟨g,0,none⟩) n n f' C n cC x28 (IntKind.wrap .i64 ((i : Int) + 1)) q2 A0 np cP w') →
           V112.b4 w0.heap.size (IsQ w0 Q) L1 L2 (V112.l3 w0.heap.size (IsQ w0 Q) L1 L2 k) C n cC (some ⟨g,0,none⟩) n n fresh i behind t C n cC x28 i A65 l65 c65 l65 j false q2 A0 np cP w := by
         rintro d1 f1 rfl rfl h1 h2
         refine b4_112 hg hw ho hd ht0 (by omega) fun w' hw' ho' hsame => ?_
         rw [wrap_succ h hn.small]
         exact l3_112 hg hb hts hne k (j + 1) w' _ _ (by omega) (by omega) hw' ho' (by split <;> simp [hd]) (nums_block hn (fun q hq => hsame _ (hne q hq))) h1 h2
       by_cases hpos : 0 ≤ d.getD t.toNat 0
       · rw [if_pos (by simpa using hpos)]
         rw [if_pos hpos] at hfail
         simp only [if_pos hpos] at hok
         refine ⟨_,rfl,ht0,by omega,_,ho.cell hget, ?_⟩
         by_cases he : d.getD t.toNat 0 = behind
         · rw [if_pos he] at hfail
           simp only [if_pos he] at hok
           have hf : (d.getD t.toNat 0 != behind) = false := by simpa using he
           rw [hf]
           exact next d fresh (by rw [if_neg (by omega)]) (by rw [if_neg (by omega)]) hfail hok
         · have hf : (d.getD t.toNat 0 != behind) = true := by simpa using he
           rw [hf]
           unfold V112.b4
           rw [if_pos rfl]
           exact hfail (by rw [if_neg he]) w hw
       · rw [if_neg (by simpa using hpos)]
         rw [if_neg hpos] at hfail
         simp only [if_neg hpos] at hok
         exact next (d.set t.toNat behind) true (by rw [if_pos (by omega)]) (by rw [if_pos (by omega)]) hfail hok
   · rw [if_neg (by simpa using h)]
     refine hok d fresh w ?_ hw ho
     rw [List.drop_eq_nil_of_le (by have := hn.len; omega)]
     rfl
theorem l2_112 {L1 : Option Addr → Nat → Nat → Option Addr → Nat → Nat → Nat → Option Addr → Nat → Nat → World → Prop} {p : List Fnc} {xs : List Ins} (hp : ProgAt w0 A0 np p) (hfew : Few p) (hx : CodeAt w0 C n xs) (hjmp : ∀ x ∈ xs,x.op = 15 ∨ x.op = 16 → 0 ≤ x.a) (hg : w0.heap.size ≤ g) :
   ∀ (k i : Nat) (w : World) (d : List Int) (fresh : Bool),n < i + k → i ≤ n → Below w0.heap.size w0 w → OwnI w g .i64 3 d → DOk n d →
     (∀ a,scanM p n (xs.drop i) i d fresh = .inl a → ∀ w',Below w0.heap.size w0 w' → Ret w0.heap.size w' (IsQ w0 Q (failV a))) →
     (∀ d' w',scanM p n (xs.drop i) i d fresh = .inr (d',true) → Below w0.heap.size w0 w' → OwnI w' g .i64 3 d' → L1 C n cC (some ⟨g,0,none⟩) n n q2 A0 np cP w') →
     (∀ d' w',scanM p n (xs.drop i) i d fresh = .inr (d',false) → Below w0.heap.size w0 w' → OwnI w' g .i64 3 d' → Ret w0.heap.size w' (IsQ w0 Q (.tuple ⟨[dsl g n,.int .i64 0,.bool true]⟩))) →
     V112.l2 w0.heap.size (IsQ w0 Q) L1 k C n cC (some ⟨g,0,none⟩) n n fresh C n cC n i q2 A0 np cP w
 | 0,i,w,d,fresh,hk,hi,_,_,_,_,_,_ => by omega
 | k + 1,i,w,d,fresh,hk,hi,hw,ho,hd,hfail,hagain,hdone => by
   dsimp -zeta only [V112.l2]
   by_cases h : i < n
   · rw [if_pos (by simpa using h)]
     obtain ⟨x,a,hxi,ha,he⟩ := (hx.keep hw).at h
     have hdrop : xs.drop i = x :: xs.drop (i + 1) := by
       obtain ⟨hlt,rfl⟩ := List.getElem?_eq_some_iff.1 hxi
       exact List.drop_eq_getElem_cons hlt
     rw [hdrop] at hfail hagain hdone
     unfold scanM at hfail hagain hdone
     have hget := getD_get (d := d) (i := i) (by rw [hd.1]; exact h)
     have hcell := ho.cell hget
     refine ⟨a,ha,by omega,by omega,x.op,by simpa using he.1,x.a,by simpa using he.2.1,x.b,by simpa using he.2.2,fun q11 _ => ⟨_,rfl,by omega,by omega,d.getD i 0,by simpa using hcell, ?_⟩⟩
     by_cases hneg : d.getD i 0 < 0
     · rw [if_pos (by simpa using hneg)]
       simp only [if_pos hneg] at hfail hagain hdone
       rw [wrap_succ h hx.small]
       exact l2_112 hp hfew hx hjmp hg k (i + 1) w d fresh (by omega) (by omega) hw ho hd hfail hagain hdone
     · rw [if_neg (by simpa using hneg)]
       simp only [if_neg hneg] at hfail hagain hdone
       have hpb := popsM_bd hfew x.op x.a
       have hrb := rowT_bd x.op
       have hdb := hd.2 _ (List.mem_of_getElem? hget)
       refine ⟨_,rfl,by omega,by omega,d.getD i 0,by simpa using hcell, ?_⟩
       refine call_gives hw (fun w1 _ hb => gives99 (hp.keep hb) _ _ _) fun w1 e1 hw1 => ⟨_,rfl,by simpa using (ho.ext e1).cell hget, ?_⟩
       refine call_gives hw1 (fun w1 _ hb => gives159 _ _ _ _) fun w2 e2 hw2 => ⟨_,rfl,by simpa using ((ho.ext e1).ext e2).cell hget, ?_⟩
       have ho2 := (ho.ext e1).ext e2
       refine ⟨_,rfl,by omega,by omega,d.getD i 0,by simpa using ho2.cell hget, ?_⟩
       refine call_gives hw2 (fun w1 _ hb => gives99 (hp.keep hb) _ _ _) fun w3 e3 hw3 => ⟨_,rfl,by simpa using (ho2.ext e3).cell hget, ?_⟩
       have ho3 := ho2.ext e3
       have hwr : IntKind.wrap .i64 (IntKind.wrap .i64 (d.getD i 0 - popsM p x.op x.a) + pushesI x.op) = d.getD i 0 - popsM p x.op x.a + pushesI x.op := by
         rw [wrap_id (n := d.getD i 0 - popsM p x.op x.a) (by omega) (by omega),wrap_id (n := d.getD i 0 - popsM p x.op x.a + pushesI x.op) (by omega) (by omega)]
       rw [hwr]
       by_cases hlow : d.getD i 0 < popsM p x.op x.a
       · rw [if_neg (by simpa using hlow)]
         exact hfail i (by rw [if_pos (.inl hlow)]) w3 hw3
       · rw [if_pos (by simpa using hlow)]
         by_cases hhigh : 8 < d.getD i 0 - popsM p x.op x.a + pushesI x.op
         · rw [if_pos (by simpa using hhigh)]
           exact hfail i (by rw [if_pos (.inr hhigh)]) w3 hw3
         · rw [if_neg (by simpa using hhigh)]
           simp only [if_neg (show ¬ (d.getD i 0 < popsM p x.op x.a ∨ 8 < d.getD i 0 - popsM p x.op x.a + pushesI x.op) from fun hor => hor.elim hlow hhigh)] at hfail hagain hdone
           refine call_yields (Q := FreshNums (nextM i x.op x.a)) hw3 (fun w1 _ _ => yields160 i x.op x.a x.b (Nat.lt_of_lt_of_le h hx.small) w1) fun w4 v w5 w6 hs _ hQ _ hnew he6 hw6 => ?_
           obtain ⟨A65,l65,c65,rfl,hn5,hfr⟩ := hQ
           refine ⟨A65,l65,c65,rfl,l65 + 1, ?_⟩
           have hn6 : Nums .i64 w6 A65 l65 (nextM i x.op x.a) := nums_block hn5 fun q hq => hnew _ (hfr q hq)
           have ho6 := ho3.ext he6
           have hne : ∀ q,A65 = some q → q.block ≠ g := fun q hq e => by
             have h1 := hfr q hq
             have h2 := ho3.lt
             omega
           have hjx := hjmp x (List.mem_of_getElem? hxi)
           refine l3_112 hg (by omega) (nextM_pos hjx) hne (l65 + 1) 0 w6 d fresh (by omega) (by omega) hw6 ho6 hd.1 hn6 ?_ ?_
           · intro hnone w' hw'
             rw [List.drop_zero] at hnone
             exact hfail i (by rw [hnone]) w' hw'
           · intro d' f' w' hsome hw' ho'
             rw [List.drop_zero] at hsome
             simp only [hsome] at hfail hagain hdone
             have hok := tosM_ok (by omega) hd (nextM_pos hjx) hsome
             rw [wrap_succ h hx.small]
             exact l2_112 hp hfew hx hjmp hg k (i + 1) w' d' f' (by omega) (by omega) hw' ho' hok.1 hfail hagain hdone
   · rw [if_neg (by simpa using h)]
     have hnil : xs.drop i = [] := List.drop_eq_nil_of_le (by have := hx.len; omega)
     rw [hnil] at hfail hagain hdone
     cases fresh with
     | false =>
       rw [if_pos (by simp)]
       exact hdone d w rfl hw ho
     | true =>
       rw [if_neg (by simp)]
       exact hagain d w rfl hw ho
end
end Go.Proofs.YtidcpndlloppdaaGreat

/-
 The function of layer 17 that reckons depths: the whole of it.
 Conditions: the arguments' memory says what their values are; jumps do not go below nought; few numbers are handed.
-/
set_option linter.unusedVariables false
set_option linter.unusedSimpArgs false
namespace Go.Proofs.YtidcpndlloppdaaGreat
open Go.RowKit
def DepthsQ (p : List Fnc) (code : List Ins) (w1 : World) : Value → World → Prop := fun v w2 => match depthsM p code with
 | .inl i => v = failV i
 | .inr d => ∃ g,w1.heap.size ≤ g ∧ v = .tuple ⟨[dsl g code.length,.int .i64 0,.bool true]⟩ ∧ OwnI w2 g .i64 3 d
section
variable {w0 : World} {Q : Value → World → Prop} {g cC np cP q2 : Nat} {C A0 : Option Addr} {p : List Fnc} {xs : List Ins}
theorem l1_112 (hp : ProgAt w0 A0 np p) (hfew : Few p) (hx : CodeAt w0 C xs.length xs) (hjmp : ∀ x ∈ xs,x.op = 15 ∨ x.op = 16 → 0 ≤ x.a) (hg : w0.heap.size ≤ g) :
   ∀ (k : Nat) (w : World) (d : List Int),negs d < k → Below w0.heap.size w0 w → OwnI w g .i64 3 d → DOk xs.length d →
     (∀ a,fixM p xs k d = .inl a → ∀ w',Below w0.heap.size w0 w' → Ret w0.heap.size w' (IsQ w0 Q (failV a))) →
     (∀ d' w',fixM p xs k d = .inr d' → Below w0.heap.size w0 w' → OwnI w' g .i64 3 d' → Ret w0.heap.size w' (IsQ w0 Q (.tuple ⟨[dsl g xs.length,.int .i64 0,.bool true]⟩))) →
     V112.l1 w0.heap.size (IsQ w0 Q) k C xs.length cC (some ⟨g,0,none⟩) xs.length xs.length q2 A0 np cP w
 | 0,w,d,hk,_,_,_,_,_ => by omega
 | k + 1,w,d,hk,hw,ho,hd,hfail,hdone => by
   dsimp -zeta only [V112.l1]
   refine ⟨xs.length + 1, ?_⟩
   unfold fixM at hfail hdone
   refine l2_112 hp hfew hx hjmp hg (xs.length + 1) 0 w d false (by omega) (by omega) hw ho hd ?_ ?_ ?_
   · intro a ha
     rw [List.drop_zero] at ha
     exact hfail a (by rw [ha])
   · intro d' w' hs hw' ho'
     rw [List.drop_zero] at hs
     simp only [hs] at hfail hdone
     have hok := scanM_ok hfew hd hjmp hs
     have hlt : negs d' < negs d := by rcases hok.2.2.1 rfl with h | h; · cases h
                                       · exact h
     exact l1_112 hp hfew hx hjmp hg k w' d' (by omega) hw' ho' hok.1 hfail hdone
   · intro d' w' hs hw' ho'
     rw [List.drop_zero] at hs
     exact hdone d' w' (by rw [hs]) hw' ho'
theorem l0_112 (hp : ProgAt w0 A0 np p) (hfew : Few p) (hx : CodeAt w0 C xs.length xs) (hjmp : ∀ x ∈ xs,x.op = 15 ∨ x.op = 16 → 0 ≤ x.a) (hg : w0.heap.size ≤ g) :
   ∀ (k i : Nat) (w : World),xs.length < i + k ∧ 1 ≤ k → 1 ≤ i → Below w0.heap.size w0 w → OwnI w g .i64 3 (initM xs.length i) →
     V112.l0 w0.heap.size (IsQ w0 (DepthsQ p xs w0)) k C xs.length cC (some ⟨g,0,none⟩) xs.length xs.length i q2 A0 np cP w
 | 0,i,w,hk,h1,hw,ho => by
   exfalso
   omega
 | k + 1,i,w,hk,h1,hw,ho => by
   dsimp -zeta only [V112.l0]
   by_cases h : i < xs.length
   · rw [if_pos (by simpa using h)]
     have hget := getD_get (d := initM xs.length i) (i := i) (by rw [initM_len]; exact h)
     refine ⟨_,rfl,by omega,by omega,⟨_,by rw [own_add,bx_add,Nat.add_zero, ← own_add]; exact ho.cell hget⟩,ho.frozen _, ?_⟩
     have hs := ho.set i (-1)
     rw [initM_set h1 h] at hs
     rw [wrap_succ h hx.small]
     exact l0_112 hp hfew hx hjmp hg k (i + 1) _ ⟨by omega,by omega⟩ (by omega) (below_set hw hg _) hs
   · rw [if_neg (by simpa using h)]
     rw [initM_end (by omega)] at ho
     refine ⟨xs.length + 1,l1_112 hp hfew hx hjmp hg (xs.length + 1) w _ ?_ hw ho (start_ok _) ?_ ?_⟩
     · have := negs_le (start xs.length); rw [(start_ok xs.length).1] at this; omega
     · intro a ha w' hw'
       refine ret_q hw' fun w1 _ => ?_
       unfold DepthsQ depthsM
       rw [ha]
     · intro d' w' hd hw' ho'
       refine ret_q hw' fun w1 h1 => ?_
       unfold DepthsQ depthsM
       rw [hd]
       exact ⟨g,hg,rfl,ho'.ext h1⟩
theorem yields112 {w : World} {c c' : Nat} (hp : ProgAt w A0 np p) (hfew : Few p) (hx : CodeAt w C xs.length xs) (hjmp : ∀ x ∈ xs,x.op = 15 ∨ x.op = 16 → 0 ≤ x.a) (hlen : xs.length ≤ 1000) :
   Yields Tryz.prog 112 [.agg ⟨[.slice A0 np c]⟩,.slice C xs.length c'] w (DepthsQ p xs w) := by
 refine yields_of (V112.sound ?_)
 intro q2 _
 refine make_own (t := 87) (e := 3) (i := Tryz.t3) (z := .int .i64 0) (size := 1) (by kernel_rfl) (by kernel_rfl) (by kernel_rfl) (by kernel_rfl) ?_ (len_ok hlen) (Nat.le_refl _) fun g w' hg he ho => ?_
 · have : Tryz.t3.bytes = 8 := by kernel_rfl
   rw [this]; omega
 · refine ⟨_,_,_,rfl,xs.length + 1, ?_⟩
   rw [made_zero] at ho
   exact l0_112 hp hfew hx hjmp hg (xs.length + 1) 1 w' ⟨by omega,by omega⟩ (Nat.le_refl _) he.below ho
end
end Go.Proofs.YtidcpndlloppdaaGreat
