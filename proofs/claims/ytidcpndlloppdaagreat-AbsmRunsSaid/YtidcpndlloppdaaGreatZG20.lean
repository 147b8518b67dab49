import Derived.Test.YtidcpndlloppdaaGreatZM17
import Derived.Test.YtidcpndlloppdaaGreatZWH
/-
 Layer 20: a program cloned,in memory of its own.
 Conditions: the program lies in memory as told.
-/
set_option linter.unusedVariables false
set_option linter.unusedSimpArgs false
namespace Go.Proofs.YtidcpndlloppdaaGreat
open Go.RowKit
section
variable {α σ : Type} (cs : α → σ → List Value)
def flatC : List α → List σ → List Value
 | x :: xs,s :: ss => cs x s ++ flatC xs ss
 | _,_ => []
variable {cs} {sz : Nat} (hsz : ∀ x s,(cs x s).length = sz)
include hsz
theorem flatC_len : ∀ {xs : List α} {ss : List σ},ss.length = xs.length → (flatC cs xs ss).length = xs.length * sz
 | [],[],_ => by simp [flatC]
 | [],_ :: _,h => by simp at h
 | _ :: _,[],h => by simp at h
 | x :: xs,s :: ss,h => by
   have := flatC_len (xs := xs) (ss := ss) (by simpa using h)
   simp only [flatC,List.length_append,hsz,this,List.length_cons,Nat.add_mul]
   omega
theorem flatC_get : ∀ {xs : List α} {ss : List σ} {i j : Nat} {x : α} {s : σ} {u : Value},xs[i]? = some x → ss[i]? = some s → (cs x s)[j]? = some u → (flatC cs xs ss)[i * sz + j]? = some u
 | [],ss,i,j,x,s,u,h,_,_ => by simp at h
 | y :: xs,[],i,j,x,s,u,_,h,_ => by simp at h
 | y :: xs,t :: ss,0,j,x,s,u,h,hs,hu => by
   simp at h hs; subst h; subst hs
   have hj := (List.getElem?_eq_some_iff.1 hu).1
   rw [show 0 * sz + j = j by omega]
   show (cs y t ++ flatC cs xs ss)[j]? = _
   rw [List.getElem?_append_left hj]; exact hu
 | y :: xs,t :: ss,i + 1,j,x,s,u,h,hs,hu => by
   have := flatC_get (xs := xs) (ss := ss) (i := i) (j := j) (by simpa using h) (by simpa using hs) hu
   show (cs y t ++ flatC cs xs ss)[(i + 1) * sz + j]? = _
   have he : (i + 1) * sz = i * sz + sz := by rw [Nat.add_mul]; omega
   rw [List.getElem?_append_right (by rw [hsz]; omega),hsz,show (i + 1) * sz + j - sz = i * sz + j by omega]
   exact this
theorem flatC_inv : ∀ {xs : List α} {ss : List σ} {j : Nat} {u : Value},(flatC cs xs ss)[j]? = some u → ∃ i r x s,j = i * sz + r ∧ xs[i]? = some x ∧ ss[i]? = some s ∧ (cs x s)[r]? = some u
 | [],ss,j,u,h => by simp [flatC] at h
 | y :: xs,[],j,u,h => by simp [flatC] at h
 | y :: xs,t :: ss,j,u,h => by
   change (cs y t ++ flatC cs xs ss)[j]? = some u at h
   by_cases hj : j < sz
   · rw [List.getElem?_append_left (by rw [hsz]; exact hj)] at h
     exact ⟨0,j,y,t,by omega,rfl,rfl,h⟩
   · rw [List.getElem?_append_right (by rw [hsz]; omega),hsz] at h
     obtain ⟨i,r,x,s,h1,h2,h3,h4⟩ := flatC_inv h
     refine ⟨i + 1,r,x,s, ?_,by simpa using h2,by simpa using h3,h4⟩
     have he : (i + 1) * sz = i * sz + sz := by rw [Nat.add_mul]; omega
     omega
theorem flatC_set : ∀ {xs : List α} {ss : List σ} {i r : Nat} {x : α} {s s' : σ} {u : Value},xs[i]? = some x → ss[i]? = some s → r < sz → (cs x s).set r u = cs x s' → (flatC cs xs ss).set (i * sz + r) u = flatC cs xs (ss.set i s')
 | [],ss,i,r,x,s,s',u,h,_,_,_ => by simp at h
 | y :: xs,[],i,r,x,s,s',u,_,h,_,_ => by simp at h
 | y :: xs,t :: ss,0,r,x,s,s',u,h,hs,hr,hu => by
   simp at h hs; subst h; subst hs
   rw [show 0 * sz + r = r by omega]
   show (cs y t ++ flatC cs xs ss).set r u = cs y s' ++ flatC cs xs ss
   rw [List.set_append_left _ _ (by rw [hsz]; exact hr),hu]
 | y :: xs,t :: ss,i + 1,r,x,s,s',u,h,hs,hr,hu => by
   have := flatC_set (xs := xs) (ss := ss) (i := i) (r := r) (by simpa using h) (by simpa using hs) hr hu
   have he : (i + 1) * sz = i * sz + sz := by rw [Nat.add_mul]; omega
   show (cs y t ++ flatC cs xs ss).set ((i + 1) * sz + r) u = cs y t ++ flatC cs xs (ss.set i s')
   rw [List.set_append_right _ _ (by rw [hsz]; omega),hsz,show (i + 1) * sz + r - sz = i * sz + r by omega,this]
end
theorem each_some {α σ : Type} {Q : Nat → α → σ → Prop} {xs : List α} (h : ∀ i x,xs[i]? = some x → ∃ s,Q i x s) : ∀ n,n ≤ xs.length → ∃ ss : List σ,ss.length = n ∧ ∀ i x s,xs[i]? = some x → ss[i]? = some s → Q i x s
 | 0,_ => ⟨[],rfl,fun i x s _ hs => by simp at hs⟩
 | n + 1,hn => by
   obtain ⟨ss,hl,hq⟩ := each_some h n (by omega)
   have hx : xs[n]? = some (xs[n]'(by omega)) := List.getElem?_eq_getElem _
   obtain ⟨s,hs⟩ := h n _ hx
   refine ⟨ss ++ [s],by simp [hl],fun i x t hx' ht => ?_⟩
   by_cases hi : i < n
   · rw [List.getElem?_append_left (by omega)] at ht
     exact hq i x t hx' ht
   · have hin : i = n := by have := (List.getElem?_eq_some_iff.1 ht).1; simp at this; omega
     subst hin
     rw [List.getElem?_append_right (by omega),hl,Nat.sub_self] at ht
     have : s = t := by simpa using ht
     subst this
     rw [hx] at hx'; cases hx'
     exact hs
def insC (x : Ins) (_ : Unit) : List Value := [.int .i64 x.op,.int .i64 x.a,.int .i64 x.b]
def fncC (x : Fnc) (s : Option Addr × Nat) : List Value := [.int .i64 x.params,.int .i64 x.locals,.int .i64 x.refs,.slice s.1 x.code.length s.2]
theorem insC_len (x : Ins) (s : Unit) : (insC x s).length = 3 := rfl
theorem fncC_len (x : Fnc) (s : Option Addr × Nat) : (fncC x s).length = 4 := rfl
theorem code_src {w : World} {a : Addr} {l : Nat} {xs : List Ins} (h : CodeAt w (some a) l xs) : ∃ ss : List Unit,ss.length = xs.length ∧ ∀ j u,(flatC insC xs ss)[j]? = some u → w.cell? (a.add j) = some u := by
 refine ⟨List.replicate xs.length (),by simp,fun j u hj => ?_⟩
 obtain ⟨i,r,x,s,rfl,hx,_,hu⟩ := flatC_inv insC_len hj
 obtain ⟨p,hp,h0,h1,h2⟩ := h.get i x hx
 cases hp
 rw [← adr_add]
 have hr := (List.getElem?_eq_some_iff.1 hu).1
 rw [insC_len] at hr
 match r,hu with
 | 0,hu => simp [insC] at hu; subst hu; exact h0
 | 1,hu => simp [insC] at hu; subst hu; exact h1
 | 2,hu => simp [insC] at hu; subst hu; exact h2
theorem ins_one {xs : List Ins} {ss : List Unit} : ∀ u ∈ flatC insC xs ss,u.oneCell' = true := fun u hu => by
 obtain ⟨j,hj,he⟩ := List.getElem_of_mem hu
 obtain ⟨i,r,x,s,_,_,_,h⟩ := flatC_inv insC_len (List.getElem?_eq_some_iff.2 ⟨hj,he⟩)
 have := List.mem_of_getElem? h
 simp only [insC,List.mem_cons,List.not_mem_nil,or_false] at this
 rcases this with rfl | rfl | rfl <;> rfl
theorem fnc_one {xs : List Fnc} {ss : List (Option Addr × Nat)} : ∀ u ∈ flatC fncC xs ss,u.oneCell' = true := fun u hu => by
 obtain ⟨j,hj,he⟩ := List.getElem_of_mem hu
 obtain ⟨i,r,x,s,_,_,_,h⟩ := flatC_inv fncC_len (List.getElem?_eq_some_iff.2 ⟨hj,he⟩)
 have := List.mem_of_getElem? h
 simp only [fncC,List.mem_cons,List.not_mem_nil,or_false] at this
 rcases this with rfl | rfl | rfl | rfl <;> rfl
def CodeNQ (xs : List Ins) (w1 : World) : Value → World → Prop := fun v w2 => ∃ C c,v = .slice C xs.length c ∧ CodeAt (newW w1.heap.size w2) C xs.length xs
theorem yields114 {w : World} {C : Option Addr} {c : Nat} {xs : List Ins} (h : CodeAt w C xs.length xs) (hl : xs.length ≤ 1000) : Yields Tryz.prog 114 [.slice C xs.length c] w (CodeNQ xs w) := by
 refine yields_of (V114.sound ?_)
 unfold V114.vc
 cases C with
 | none =>
   simp only [Option.isNone_none,if_true]
   have hn : xs = [] := by
     cases xs with
     | nil => rfl
     | cons x r => obtain ⟨p,hp,_⟩ := h.get 0 x rfl; cases hp
   subst hn
   exact ret_q (Below.refl _ _) fun w1 he => ⟨none,0,rfl,rfl,Nat.zero_le _,fun i x h => by simp at h⟩
 | some a =>
   simp only [Option.isNone_some,Bool.false_eq_true,if_false]
   intro w1 e1 _
   obtain ⟨e2,ho2⟩ := alloc1 (.cells ⟨[]⟩ 105) e1 (Nat.le_refl _)
   have hs1 := e1.size
   have hl2 := lt_of_some ho2
   generalize w1.alloc (.cells ⟨[]⟩ 105) = w2 at *
   have hb : Tryz.t105.bytes = 24 := by kernel_rfl
   obtain ⟨ss,hss,hsrc⟩ := code_src h
   have hfl := flatC_len insC_len hss
   refine append_own (bs := []) (t := 61) (e := 105) (i := Tryz.t105) (z := .agg ⟨[.int .i64 0,.int .i64 0,.int .i64 0]⟩) (size := 3) (bytes := 24) (b0 := w1.heap.size) (n := 0) (xs := []) (by kernel_rfl) (by kernel_rfl) (by kernel_rfl) (by kernel_rfl) hb rfl (by omega) (owns_empty ho2 (Nat.le_refl _)) (news := flatC insC xs ss) hfl (fun j u hj => ext_keeps e2 _ _ (hsrc j u hj)) ins_one (by simp only [maxLen]; omega) (by omega) e2.size (Nat.le_of_lt hl2) fun v w3 e3 ho3 _ => ?_
   rw [Nat.zero_add] at ho3
   obtain ⟨A3,c3,rfl⟩ := owns_slice0 ho3
   refine ⟨A3,_,c3,rfl, ?_⟩
   have hw3 := e3.after (fun j hj => by cases hj; exact hs1) (e2.after (Below.refl _ _))
   refine ret_q hw3 fun w4 e4 => ⟨A3,c3,rfl,rfl,by simp only [maxLen]; omega,fun i x hx => ?_⟩
   have hi := (List.getElem?_eq_some_iff.1 hx).1
   have ho4 := e4.owns ho3
   rw [List.nil_append] at ho4
   rcases ho4.2 with ⟨hv,h0⟩ | ⟨g,cap,cur,hv,hbg,_⟩
   · omega
   · cases hv
     refine ⟨_,rfl, ?_⟩
     have hs' : ss[i]? = some (ss[i]'(by omega)) := List.getElem?_eq_getElem _
     have cell : ∀ r u,(insC x ())[r]? = some u → (newW w.heap.size w4).cell? (((⟨g,0,none⟩ : Addr).add (i * 3)).add r) = some u := fun r u hu => by
       simp only [own_add,bx_add,Nat.zero_add]
       exact newW_cell.2 ⟨owns_cell ho4 (flatC_get insC_len hx hs' hu),Nat.le_trans hs1 hbg⟩
     exact ⟨cell 0 _ rfl,cell 1 _ rfl,cell 2 _ rfl⟩
theorem call_code {w0 w : World} {bs : List Nat} {C : Option Addr} {c : Nat} {xs : List Ins} {K : Value → World → Prop} (hB : w0.heap.size ≤ w.heap.size) (h : CodeAt w C xs.length xs) (hl : xs.length ≤ 1000)
   (hk : ∀ C' c' w',Ext w0.heap.size w w' → CodeAt (newW w.heap.size w') C' xs.length xs → K (.slice C' xs.length c') w') : CallK Tryz.prog 114 [.slice C xs.length c] w0.heap.size w bs K := by
 refine call_yieldsX (Q := CodeNQ xs) hB (fun w1 e1 => yields114 (RowAt.keep InsE.kept h (ext_keeps e1)) hl) fun w1 u w2 w' hsz hQ hnew he => ?_
 obtain ⟨C',c',rfl,hc⟩ := hQ
 refine hk C' c' w' he (RowAt.keep InsE.kept hc fun q v hq => ?_)
 obtain ⟨h1,h2⟩ := newW_cell.1 hq
 exact newW_cell.2 ⟨(cell_same (hnew _ h2)).trans h1,Nat.le_trans hsz h2⟩
theorem prog_src {w : World} {a : Addr} {p : List Fnc} (h : ProgAt w (some a) p.length p) : ∃ ss : List (Option Addr × Nat),ss.length = p.length ∧ (∀ (i : Nat) (x : Fnc) (s : Option Addr × Nat),p[i]? = some x → ss[i]? = some s → CodeAt w s.1 x.code.length x.code) ∧ ∀ j u,(flatC fncC p ss)[j]? = some u → w.cell? (a.add j) = some u := by
 have each : ∀ (i : Nat) (x : Fnc),p[i]? = some x → ∃ s : Option Addr × Nat,CodeAt w s.1 x.code.length x.code ∧ ∀ r u,(fncC x s)[r]? = some u → w.cell? ((a.add (i * 4)).add r) = some u := fun i x hx => by
   obtain ⟨q,hq,h0,h1,h2,C,l,c,h3,hc⟩ := h.get i x hx
   cases hq
   obtain rfl := hc.len
   refine ⟨(C,c),hc,fun r u hu => ?_⟩
   have hr := (List.getElem?_eq_some_iff.1 hu).1
   rw [fncC_len] at hr
   match r,hu with
   | 0,hu => simp [fncC] at hu; subst hu; exact h0
   | 1,hu => simp [fncC] at hu; subst hu; exact h1
   | 2,hu => simp [fncC] at hu; subst hu; exact h2
   | 3,hu => simp [fncC] at hu; subst hu; exact h3
 obtain ⟨ss,hl,hs⟩ := each_some each p.length (Nat.le_refl _)
 refine ⟨ss,hl,fun i x s hx hs' => (hs i x s hx hs').1,fun j u hj => ?_⟩
 obtain ⟨i,r,x,s,rfl,hx,hs',hu⟩ := flatC_inv fncC_len hj
 rw [← adr_add]
 exact (hs i x s hx hs').2 r u hu
def CloneQ (p : List Fnc) (w1 : World) : Value → World → Prop := fun v w2 => ∃ C c,v = .agg ⟨[.slice C p.length c]⟩ ∧ ProgAt (newW w1.heap.size w2) C p.length p
theorem l0_68 {w0 : World} {p : List Fnc} (hs : Sized p) {g cap q2 q1 : Nat} (hg : w0.heap.size ≤ g) (hp : p.length ≤ 1000) {A2 : Option Addr} {A2l A2c : Nat} : ∀ (k i : Nat) (w : World) (ss : List (Option Addr × Nat)),p.length < i + k → i ≤ p.length → Below w0.heap.size w0 w → ss.length = p.length → w.ownsRow w0.heap.size 63 4 (.slice (some ⟨g,0,none⟩) p.length cap) p.length (flatC fncC p ss) →
   (∀ (j : Nat) (x : Fnc) (s : Option Addr × Nat),p[j]? = some x → ss[j]? = some s → if j < i then CodeAt (newW (g + 1) w) s.1 x.code.length x.code else CodeAt w0 s.1 x.code.length x.code) →
   V68.l0 w0.heap.size (IsQ w0 (CloneQ p w0)) k (some ⟨g,0,none⟩) p.length cap p.length i q2 A2 A2l A2c q1 (some ⟨g,0,none⟩) p.length cap w := by
 intro k
 induction k with
 | zero => intros; omega
 | succ k ih =>
   intro i w ss hk hi hw hsl ho hcode
   dsimp -zeta only [V68.l0]
   by_cases hlt : i < p.length
   · rw [if_pos (by simpa using hlt)]
     have hx : p[i]? = some (p[i]'hlt) := List.getElem?_eq_getElem _
     have hs' : ss[i]? = some (ss[i]'(by omega)) := List.getElem?_eq_getElem _
     generalize p[i]'hlt = x at hx
     generalize ss[i]'(by omega) = s at hs'
     have hcl : x.code.length ≤ 64 := (sized_bd (hs x (List.mem_of_getElem? hx))).2.2.2.2.2.2.2
     have cell : ∀ r u,(fncC x s)[r]? = some u → w.cell? (((⟨g,0,none⟩ : Addr).add (((i : Nat) : Int).toNat * 4)).add r) = some u := fun r u hu => by
       simp only [own_add,bx_add,Nat.zero_add,Int.toNat_natCast]
       exact owns_cell ho (flatC_get fncC_len hx hs' hu)
     refine ⟨_,rfl,by omega,by omega,x.params,cell 0 _ rfl,x.locals,cell 1 _ rfl,x.refs,cell 2 _ rfl,s.1,x.code.length,s.2,cell 3 _ rfl, ?_⟩
     intro q4 _
     have hold := hcode i x s hx hs'
     rw [if_neg (by omega)] at hold
     refine call_code hw.size (RowAt.keep InsE.kept hold (below_keeps hw)) (by omega) fun C2 c2 w1 e1 hC2 => ⟨C2,_,c2,rfl,_,rfl,by omega,by omega, ?_⟩
     have ho1 := e1.owns ho
     have hw1 := e1.after hw
     have hlg := (ho.lt g rfl).2
     have h3 : (flatC fncC p ss)[i * 4 + 3]? = some (.slice s.1 x.code.length s.2) := flatC_get fncC_len hx hs' rfl
     simp only [own_add,bx_add,Nat.zero_add,Nat.add_zero,Int.toNat_natCast]
     refine ⟨⟨_,owns_cell ho1 h3⟩,owns_frozen ho1 _, ?_⟩
     have hset := owns_set ho1 (i * 4 + 3) (.slice C2 x.code.length c2) (by omega)
     rw [flatC_set fncC_len hx hs' (by omega) (show (fncC x s).set 3 (.slice C2 x.code.length c2) = fncC x (C2,c2) from rfl)] at hset
     have hwi : IntKind.wrap .i64 ((i : Int) + 1) = ((i + 1 : Nat) : Int) := by rw [wrap_id (by omega) (by omega)]; rfl
     rw [hwi]
     have kset : ∀ q v,(newW (g + 1) w1).cell? q = some v → (newW (g + 1) (w1.setCell ⟨g,i * 4 + 3,none⟩ (.slice C2 x.code.length c2))).cell? q = some v := fun q v hq => by
       obtain ⟨h1,h2⟩ := newW_cell.1 hq
       exact newW_cell.2 ⟨(cell_same (at_other (by omega))).trans h1,h2⟩
     refine ih (i + 1) _ (ss.set i (C2,c2)) (by omega) (by omega) (hw1.setCell hg _) (by simpa using hsl) hset fun j y t hy ht => ?_
     rw [List.getElem?_set] at ht
     by_cases hij : i = j
     · subst hij
       rw [if_pos rfl,if_pos (by omega)] at ht
       cases ht
       rw [hx] at hy; cases hy
       rw [if_pos (by omega)]
       exact RowAt.keep InsE.kept hC2 fun q v hq => kset q v (newW_keep (by omega) (fun _ _ h => h) q v hq)
     · rw [if_neg hij] at ht
       have := hcode j y t hy ht
       by_cases hj : j < i
       · rw [if_pos hj] at this
         rw [if_pos (by omega)]
         exact RowAt.keep InsE.kept this fun q v hq => kset q v (newW_keep (Nat.le_refl _) (ext_keeps e1) q v hq)
       · rw [if_neg hj] at this
         rw [if_neg (by omega)]
         exact this
   · rw [if_neg (by simpa using hlt)]
     refine ret_q hw fun w1 e1 => ⟨some ⟨g,0,none⟩,cap,rfl,rfl,by simp only [maxLen]; omega,fun j x hx => ?_⟩
     have hj := (List.getElem?_eq_some_iff.1 hx).1
     have hs' : ss[j]? = some (ss[j]'(by omega)) := List.getElem?_eq_getElem _
     generalize ss[j]'(by omega) = s at hs'
     have hc := hcode j x s hx hs'
     rw [if_pos (by omega)] at hc
     have cell : ∀ r u,(fncC x s)[r]? = some u → (newW w0.heap.size w1).cell? (((⟨g,0,none⟩ : Addr).add (j * 4)).add r) = some u := fun r u hu => by
       simp only [own_add,bx_add,Nat.zero_add]
       exact newW_cell.2 ⟨e1.cell (owns_cell ho (flatC_get fncC_len hx hs' hu)),hg⟩
     exact ⟨_,rfl,cell 0 _ rfl,cell 1 _ rfl,cell 2 _ rfl,s.1,x.code.length,s.2,cell 3 _ rfl,RowAt.keep InsE.kept hc fun q v hq => newW_keep (by omega) (ext_keeps e1) q v hq⟩
theorem yields68 {w : World} {P : Option Addr} {cap : Nat} {p : List Fnc} (h : ProgAt w P p.length p) (hs : Sized p) (hl : 1 ≤ p.length ∧ p.length ≤ 1000) : Yields Tryz.prog 68 [.agg ⟨[.slice P p.length cap]⟩] w (CloneQ p w) := by
 refine yields_of (V68.sound ?_)
 intro q1 _ q2 _
 obtain ⟨x0,a,_,hP,_⟩ := RowAt.at h (i := 0) (by omega)
 subst hP
 obtain ⟨ss,hsl,hcode,hsrc⟩ := prog_src h
 have y125 : ∀ w1,Ext w.heap.size w w1 → Yields Tryz.prog 113 [.slice (some a) p.length cap] w1 (fun v w2 => w2.ownsRow w1.heap.size 63 4 v p.length (flatC fncC p ss)) := fun w1 e1 => by
   refine yields_of (V113.sound ?_)
   unfold V113.vc
   simp only [Option.isNone_some,Bool.false_eq_true,if_false]
   intro w2 e2 _
   obtain ⟨e3,ho3⟩ := alloc1 (.cells ⟨[]⟩ 63) e2 (Nat.le_refl _)
   have hs1 := e2.size
   have hl3 := lt_of_some ho3
   generalize w2.alloc (.cells ⟨[]⟩ 63) = w3 at *
   have hb : Tryz.t63.bytes = 48 := by kernel_rfl
   refine append_own (bs := []) (t := 22) (e := 63) (i := Tryz.t63) (z := .agg ⟨[.int .i64 0,.int .i64 0,.int .i64 0,.slice none 0 0]⟩) (size := 4) (bytes := 48) (b0 := w2.heap.size) (n := 0) (xs := []) (by kernel_rfl) (by kernel_rfl) (by kernel_rfl) (by kernel_rfl) hb rfl (by omega) (owns_empty ho3 (Nat.le_refl _)) (news := flatC fncC p ss) (flatC_len fncC_len hsl) (fun j u hj => e3.cell (e1.cell (hsrc j u hj))) fnc_one (by simp only [maxLen]; omega) (by omega) e3.size (Nat.le_of_lt hl3) fun v w4 e4 ho4 _ => ?_
   rw [Nat.zero_add,List.nil_append] at ho4
   obtain ⟨A3,c3,rfl⟩ := owns_slice0 ho4
   refine ⟨A3,_,c3,rfl, ?_⟩
   have hw4 := e4.after (fun j hj => by cases hj; exact hs1) (e3.after (Below.refl _ _))
   exact ret_q hw4 fun w5 e5 => owns_base (e5.owns ho4) hs1
 refine call_yieldsX (Q := fun w1 v w2 => w2.ownsRow w1.heap.size 63 4 v p.length (flatC fncC p ss)) (Nat.le_refl _) y125 fun w1 v w2 w' hsz hQ hnew he => ?_
 have ho : w'.ownsRow w.heap.size 63 4 v p.length (flatC fncC p ss) := owns_base (owns_other hQ fun j hj => hnew j (hQ.lt j hj).1) hsz
 obtain ⟨g,c,rfl,_,hg⟩ := owns_some ho (by omega)
 refine ⟨_,_,c,rfl,p.length + 1, ?_⟩
 exact l0_68 hs hg hl.2 (p.length + 1) 0 w' ss (by omega) (by omega) (he.after (Below.refl _ _)) hsl ho fun j x s hx hs' => by
   rw [if_neg (by omega)]; exact hcode j x s hx hs'
theorem call_clone {w0 w : World} {bs : List Nat} {P : Option Addr} {cap : Nat} {p : List Fnc} {K : Value → World → Prop} (hB : w0.heap.size ≤ w.heap.size) (h : ProgAt w P p.length p) (hs : Sized p) (hl : 1 ≤ p.length ∧ p.length ≤ 1000)
   (hk : ∀ C c w',Ext w0.heap.size w w' → ProgAt (newW w.heap.size w') C p.length p → K (.agg ⟨[.slice C p.length c]⟩) w') : CallK Tryz.prog 68 [.agg ⟨[.slice P p.length cap]⟩] w0.heap.size w bs K := by
 refine call_yieldsX (Q := CloneQ p) hB (fun w1 e1 => yields68 (RowAt.keep FncE.kept h (ext_keeps e1)) hs hl) fun w1 u w2 w' hsz hQ hnew he => ?_
 obtain ⟨C,c,rfl,hc⟩ := hQ
 refine hk C c w' he (RowAt.keep FncE.kept hc fun q v hq => ?_)
 obtain ⟨h1,h2⟩ := newW_cell.1 hq
 exact newW_cell.2 ⟨(cell_same (hnew _ h2)).trans h1,Nat.le_trans hsz h2⟩
end Go.Proofs.YtidcpndlloppdaaGreat
