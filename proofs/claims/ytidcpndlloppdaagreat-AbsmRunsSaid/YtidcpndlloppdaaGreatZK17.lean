import Derived.Test.YtidcpndlloppdaaGreatZEngD
import Derived.Test.YtidcpndlloppdaaGreatZC17
/-
 Layer 17,as plain rules: which places follow,depths,checks; rows of memory that tell programs.
 Conditions: none.
-/
set_option linter.unusedVariables false
set_option linter.unusedSimpArgs false
namespace Go.Proofs.YtidcpndlloppdaaGreat
open Go.RowKit
def sizedM (p l r : Int) (n : Nat) : Bool := decide (0 ≤ p ∧ p ≤ 3 ∧ p ≤ l ∧ l ≤ 8 ∧ 0 ≤ r ∧ r ≤ l - p ∧ 1 ≤ n ∧ n ≤ 64)
theorem sized_wrap {p l : Int} (h : 0 ≤ p ∧ p ≤ 3 ∧ p ≤ l ∧ l ≤ 8) : IntKind.wrap .i64 (l - p) = l - p := wrap_id (by omega) (by omega)
theorem gives110 (p l r : Int) (A : Option Addr) (n c : Nat) (w : World) : Gives Tryz.prog 110 [.agg ⟨[.int .i64 p,.int .i64 l,.int .i64 r,.slice A n c]⟩] w (.bool (sizedM p l r n)) := by
 refine gives_of (V110.sound ?_)
 intro q _
 have hw : 0 ≤ p ∧ p ≤ 3 ∧ p ≤ l ∧ l ≤ 8 → IntKind.wrap .i64 (l - p) = l - p := sized_wrap
 unfold V110.b0 V110.b1
 generalize IntKind.wrap .i64 (l - p) = X at hw
 simp only [decide_eq_true_eq,decide_eq_false_iff_not,if_true]
 repeat' split
 all_goals refine ret_is (Below.refl _ _) (congrArg Value.bool ?_)
 all_goals unfold sizedM
 all_goals first
   | exact (decide_eq_false (by omega)).symm
   | exact decide_eq_decide.2 (by omega)
def withinM (a n : Int) : Bool := decide (0 ≤ a ∧ a < n)
def kindM (np : Nat) (locals refs : Int) (n : Nat) (k a b : Int) : Bool :=
 if k = 1 then decide (-2147483648 ≤ a ∧ a ≤ 2147483648) else if k = 2 then withinM a 6 else if k = 3 then withinM a (IntKind.wrap .i64 (locals - refs)) else if k = 4 then withinM a n
 else if k = 5 then withinM a np else if k = 6 then withinM a refs else if k = 7 then withinM a refs && withinM b refs else a == 0
def shapedM (np : Nat) (locals refs : Int) (n : Nat) (op a b : Int) : Bool :=
 (rowT op).2.2.2 && ((rowT op).1 == 7 || b == 0) && kindM np locals refs n (rowT op).1 a b
def nextM (at_ : Nat) (op a : Int) : List Int := if op = 18 ∨ op = 20 then [] else if op = 15 then [a] else if op = 16 then [a,(at_ : Int) + 1] else [(at_ : Int) + 1]
def FreshNums (xs : List Int) (w1 : World) : Value → World → Prop := fun v w2 => ∃ A l c,v = .slice A l c ∧ Nums .i64 w2 A l xs ∧ ∀ p,A = some p → w1.heap.size ≤ p.block
theorem fresh_row {w1 w' : World} {xs : List Int} {e : TypeId} (ho : w'.heap[w1.heap.size]? = some (.cells (xs.map (.int .i64)).toArray e (0,0))) (hl : xs.length ≤ maxLen) : Nums .i64 w' (some ⟨w1.heap.size,0,none⟩) xs.length xs :=
 OwnI.nums (w := w') (g := w1.heap.size) (e := e) ho hl
theorem len_ok {n : Nat} (h : n ≤ 1000) : n ≤ maxLen := by simp only [maxLen]; omega
theorem fresh_ret {w0 w wa w' : World} {xs : List Int} {e : TypeId} (hw : Below w0.heap.size w0 w) (hs : w.heap.size ≤ wa.heap.size) (he : Ext w0.heap.size w w') (ho : w'.heap[wa.heap.size]? = some (.cells (xs.map (.int .i64)).toArray e (0,0))) (hl : xs.length ≤ 1000) :
   Ret w0.heap.size w' (IsQ w0 (FreshNums xs w0) (.slice (some ⟨wa.heap.size,0,none⟩) xs.length xs.length)) := by
 refine ret_q (he.after hw) fun w1 h1 => ⟨_,_,_,rfl,fresh_row (w1 := wa) (h1.row _ _ _ _ ho) (len_ok hl),fun p hp => ?_⟩
 cases hp
 exact Nat.le_trans hw.size hs
def tosM (n : Nat) (behind : Int) : List Int → List Int → Bool → Option (List Int × Bool)
 | [],d,fresh => some (d,fresh)
 | to :: r,d,fresh =>
   if (n : Int) ≤ to then none else if 0 ≤ d.getD to.toNat 0 then (if d.getD to.toNat 0 = behind then tosM n behind r d fresh else none)
   else tosM n behind r (d.set to.toNat behind) true
def scanM (p : List Fnc) (n : Nat) : List Ins → Nat → List Int → Bool → Nat ⊕ (List Int × Bool)
 | [],_,d,fresh => .inr (d,fresh)
 | x :: r,i,d,fresh =>
   if d.getD i 0 < 0 then scanM p n r (i + 1) d fresh
   else if d.getD i 0 < popsM p x.op x.a ∨ 8 < d.getD i 0 - popsM p x.op x.a + pushesI x.op then .inl i
   else match tosM n (d.getD i 0 - popsM p x.op x.a + pushesI x.op) (nextM i x.op x.a) d fresh with
     | none => .inl i
     | some (d',fresh') => scanM p n r (i + 1) d' fresh'
def fixM (p : List Fnc) (code : List Ins) : Nat → List Int → Nat ⊕ List Int
 | 0,d => .inr d
 | k + 1,d => match scanM p code.length code 0 d false with
   | .inl i => .inl i
   | .inr (d',true) => fixM p code k d'
   | .inr (d',false) => .inr d'
def initM (n i : Nat) : List Int := (List.range n).map fun j => if j ≠ 0 ∧ j < i then -1 else 0
def start (n : Nat) : List Int := initM n n
def depthsM (p : List Fnc) (code : List Ins) : Nat ⊕ List Int := fixM p code (code.length + 1) (start code.length)
def negs (d : List Int) : Nat := (d.filter fun x => decide (x < 0)).length
def DOk (n : Nat) (d : List Int) : Prop := d.length = n ∧ ∀ x ∈ d, -1 ≤ x ∧ x ≤ 8
theorem negs_set : ∀ {d : List Int} {i : Nat} {x : Int},i < d.length → d.getD i 0 < 0 → 0 ≤ x → negs (d.set i x) + 1 = negs d
 | [],i,x,h,_,_ => by simp at h
 | y :: r,0,x,_,h1,h2 => by
   have h1 : y < 0 := by simpa using h1
   simp [negs,h1,Int.not_lt.2 h2]
 | y :: r,i + 1,x,h,h1,h2 => by
   have := negs_set (d := r) (i := i) (x := x) (by simpa using h) (by simpa using h1) h2
   simp only [negs,List.set_cons_succ,List.filter_cons] at this ⊢
   split
   · simp only [List.length_cons]; omega
   · exact this
theorem tosM_ok {n : Nat} {behind : Int} (hb : 0 ≤ behind ∧ behind ≤ 8) : ∀ {ts : List Int} {d : List Int} {fresh : Bool} {d' : List Int} {fresh' : Bool},DOk n d → (∀ t ∈ ts,0 ≤ t) → tosM n behind ts d fresh = some (d',fresh') →
   DOk n d' ∧ negs d' ≤ negs d ∧ (fresh' = true → fresh = true ∨ negs d' < negs d) ∧ (∀ i,0 ≤ d.getD i 0 → d'.getD i 0 = d.getD i 0)
 | [],d,fresh,d',fresh',hd,_,h => by
   simp only [tosM,Option.some.injEq,Prod.mk.injEq] at h
   obtain ⟨rfl,rfl⟩ := h
   exact ⟨hd,Nat.le_refl _,.inl,fun _ _ => rfl⟩
 | t :: ts,d,fresh,d',fresh',hd,ht,h => by
   have ht' : ∀ u ∈ ts,0 ≤ u := fun u hu => ht u (List.mem_cons_of_mem _ hu)
   have ht0 := ht t List.mem_cons_self
   unfold tosM at h
   split at h
   · cases h
   · rename_i hn
     split at h
     · split at h
       · exact tosM_ok hb hd ht' h
       · cases h
     · rename_i hneg
       have hlt : t.toNat < d.length := by rw [hd.1]; omega
       have hs : DOk n (d.set t.toNat behind) := ⟨by simp [hd.1],fun x hx => by
         rcases List.mem_or_eq_of_mem_set hx with hx | rfl
         · exact hd.2 x hx
         · omega⟩
       obtain ⟨h1,h2,h3,h4⟩ := tosM_ok hb hs ht' h
       have hset := negs_set hlt (by omega) hb.1
       refine ⟨h1,by omega,fun _ => .inr (by omega),fun i hi => ?_⟩
       have hne : i ≠ t.toNat := fun e => by subst e; omega
       have hsame : (d.set t.toNat behind).getD i 0 = d.getD i 0 := by simp [List.getElem?_set_ne (Ne.symm hne)]
       rw [h4 i (by rw [hsame]; exact hi),hsame]
theorem nextM_pos {i : Nat} {op a : Int} (h : op = 15 ∨ op = 16 → 0 ≤ a) : ∀ t ∈ nextM i op a,0 ≤ t := by
 intro t ht
 unfold nextM at ht
 split at ht
 · cases ht
 · split at ht
   · rename_i h15; simp at ht; subst ht; exact h (.inl h15)
   · split at ht
     · rename_i h16; simp at ht; rcases ht with rfl | rfl
       · exact h (.inr h16)
       · omega
     · simp at ht; omega
theorem rowT_bd (op : Int) : -1 ≤ (rowT op).2.1 ∧ (rowT op).2.1 ≤ 2 ∧ 0 ≤ pushesI op ∧ pushesI op ≤ 2 := by
 unfold pushesI
 rcases op_cases op with h | h | h | h | h | h | h | h | h | h | h | h | h | h | h | h | h | h | h | h | h | h | h | h | h | h | h | hd
 all_goals first
   | (subst h; decide)
   | (obtain ⟨h1,h2,h3,h4,h5,h6,h7,h8,h9,h10,h11,h12,h13,h14,h15,h16,h17,h18,h19,h20,h21,h22,h23,h24,h25,h26,h27⟩ := hd; simp [rowT, *])
def Few (p : List Fnc) : Prop := ∀ f ∈ p,f.params ≤ 3
theorem popsM_bd {p : List Fnc} (hp : Few p) (op a : Int) : 0 ≤ popsM p op a ∧ popsM p op a ≤ 3 := by
 have := rowT_bd op
 unfold popsM
 split
 · unfold paramsM
   split
   · omega
   · split
     · rename_i x hx
       have := hp x (List.mem_of_getElem? hx)
       split <;> omega
     · omega
 · omega
theorem scanM_ok {p : List Fnc} {n : Nat} (hp : Few p) : ∀ {xs : List Ins} {i : Nat} {d : List Int} {fresh : Bool} {d' : List Int} {fresh' : Bool},DOk n d → (∀ x ∈ xs,x.op = 15 ∨ x.op = 16 → 0 ≤ x.a) → scanM p n xs i d fresh = .inr (d',fresh') →
   DOk n d' ∧ negs d' ≤ negs d ∧ (fresh' = true → fresh = true ∨ negs d' < negs d) ∧ (∀ i,0 ≤ d.getD i 0 → d'.getD i 0 = d.getD i 0)
 | [],i,d,fresh,d',fresh',hd,_,h => by
   simp only [scanM,Sum.inr.injEq,Prod.mk.injEq] at h
   obtain ⟨rfl,rfl⟩ := h
   exact ⟨hd,Nat.le_refl _,.inl,fun _ _ => rfl⟩
 | x :: r,i,d,fresh,d',fresh',hd,hx,h => by
   have hx' : ∀ y ∈ r,y.op = 15 ∨ y.op = 16 → 0 ≤ y.a := fun y hy => hx y (List.mem_cons_of_mem _ hy)
   unfold scanM at h
   split at h
   · exact scanM_ok hp hd hx' h
   · rename_i hneg
     split at h
     · cases h
     · rename_i hok
       have hpb := popsM_bd hp x.op x.a
       have hrb := rowT_bd x.op
       split at h
       · cases h
       · rename_i d1 f1 ht
         obtain ⟨h1,h2,h3,h4⟩ := tosM_ok (by omega) hd (nextM_pos (hx x List.mem_cons_self)) ht
         obtain ⟨g1,g2,g3,g4⟩ := scanM_ok hp h1 hx' h
         refine ⟨g1,by omega,fun hf => ?_,fun i hi => ?_⟩
         · rcases g3 hf with h5 | h5
           · rcases h3 h5 with h6 | h6
             · exact .inl h6
             · exact .inr (by omega)
           · exact .inr (by omega)
         · rw [g4 i (by rw [h4 i hi]; exact hi),h4 i hi]
theorem getD_get {d : List Int} {i : Nat} (h : i < d.length) : d[i]? = some (d.getD i 0) := by
 simp [List.getD,h]
theorem negs_le (d : List Int) : negs d ≤ d.length := by unfold negs; exact List.length_filter_le _ _
theorem initM_len (n i : Nat) : (initM n i).length = n := by simp [initM]
theorem initM_set {n i : Nat} (h1 : 1 ≤ i) (h : i < n) : (initM n i).set i (-1) = initM n (i + 1) := by
 apply List.ext_getElem
 · simp [initM]
 · intro j hj hj'
   simp only [List.getElem_set,initM,List.getElem_map,List.getElem_range]
   by_cases hji : j = i
   · subst hji; rw [if_pos rfl,if_pos ⟨by omega,by omega⟩]
   · rw [if_neg (fun e => hji e.symm)]
     by_cases hlt : j ≠ 0 ∧ j < i
     · rw [if_pos hlt,if_pos ⟨hlt.1,by omega⟩]
     · rw [if_neg hlt,if_neg (by omega)]
theorem initM_end {n i : Nat} (h : n ≤ i) : initM n i = start n := by
 unfold start initM
 apply List.map_congr_left
 intro j hj
 have := List.mem_range.1 hj
 by_cases h0 : j ≠ 0
 · rw [if_pos ⟨h0,by omega⟩,if_pos ⟨h0,by omega⟩]
 · rw [if_neg (fun e => h0 e.1),if_neg (fun e => h0 e.1)]
theorem start_ok (n : Nat) : DOk n (start n) := ⟨initM_len n n,fun x hx => by
 unfold start initM at hx
 obtain ⟨j,_,rfl⟩ := List.mem_map.1 hx
 split <;> omega⟩
theorem made_zero (n : Nat) : madeCells (Value.int .i64 0).cells (n * 1) = ((initM n 1).map (Value.int .i64)).toArray := by
 apply Array.toList_inj.1
 rw [Nat.mul_one]
 simp only [madeCells,initM,Array.toList_map,Array.toList_range,List.map_map]
 apply List.map_congr_left
 intro j _
 have : ¬ (j ≠ 0 ∧ j < 1) := by omega
 simp [Value.cells,Nat.mod_one,this]
theorem fixM_len {p : List Fnc} {xs : List Ins} (hfew : Few p) (hjmp : ∀ x ∈ xs,x.op = 15 ∨ x.op = 16 → 0 ≤ x.a) : ∀ {k : Nat} {d d' : List Int},DOk xs.length d → fixM p xs k d = .inr d' → DOk xs.length d'
 | 0,d,d',hd,h => by cases h; exact hd
 | k + 1,d,d',hd,h => by
   unfold fixM at h
   split at h
   · cases h
   · rename_i d1 hs; exact fixM_len hfew hjmp (scanM_ok hfew hd hjmp hs).1 h
   · rename_i d1 hs; cases h; exact (scanM_ok hfew hd hjmp hs).1
theorem owns_nums {w : World} {B : Nat} {e : TypeId} {k : IntKind} {v : Value} {n : Nat} {xs : List Int} (h : w.ownsRow B e 1 v n (xs.map (.int k))) (hn : n ≤ maxLen) :
   ∃ A c,v = .slice A n c ∧ Nums k w A n xs ∧ ∀ p,A = some p → v.ownBlock = some p.block := by
 have hl : xs.length = n := by have := h.1; simpa using this
 rcases h.2 with ⟨rfl,rfl⟩ | ⟨g,cap,cur,rfl,hb,hg,_⟩
 · exact ⟨none,0,rfl,⟨hl,hn,fun i x hi => by rw [List.eq_nil_of_length_eq_zero hl] at hi; simp at hi⟩,fun p hp => by cases hp⟩
 · refine ⟨_,cap,rfl,⟨hl,hn,fun i x hi => ⟨_,rfl, ?_⟩⟩,fun p hp => by cases hp; rfl⟩
   rw [Nat.mul_one]
   exact h.cells rfl i _ (by rw [List.getElem?_map,hi]; rfl)
def firstNot {α : Type} (f : α → Bool) : List α → Nat → Option Nat
 | [],_ => none
 | x :: r,i => if f x = true then firstNot f r (i + 1) else some i
def sizedF (f : Fnc) : Bool := sizedM f.params f.locals f.refs f.code.length
def shapedI (np : Nat) (f : Fnc) (x : Ins) : Bool := shapedM np f.locals f.refs f.code.length x.op x.a x.b
def shapesM (np : Nat) : List Fnc → Nat → Option (Nat × Nat)
 | [],_ => none
 | f :: r,i => match firstNot (shapedI np f) f.code 0 with
   | some j => some (i,j)
   | none => shapesM np r (i + 1)
def flowsM (p : List Fnc) : List Fnc → Nat → Option (Nat × Nat)
 | [],_ => none
 | f :: r,i => match depthsM p f.code with
   | .inl j => some (i,j)
   | .inr _ => flowsM p r (i + 1)
def checkM (p : List Fnc) : Int × Int × Int :=
 if p.length < 1 ∨ 8 < p.length then (1,0,0) else match firstNot sizedF p 0 with
   | some i => (1,i,0)
   | none => match shapesM p.length p 0 with
     | some (i,j) => (6,i,j)
     | none => match flowsM p p 0 with
       | some (i,j) => (9,i,j)
       | none => (0,0,0)
theorem firstNot_all {α : Type} {f : α → Bool} : ∀ {l : List α} {i : Nat},firstNot f l i = none → ∀ x ∈ l,f x = true
 | [],i,h,x,hx => by cases hx
 | y :: r,i,h,x,hx => by
   unfold firstNot at h
   split at h
   · rename_i hy
     rcases List.mem_cons.1 hx with rfl | hx
     · exact hy
     · exact firstNot_all h x hx
   · cases h
theorem shapesM_all {np : Nat} : ∀ {l : List Fnc} {i : Nat},shapesM np l i = none → ∀ f ∈ l,∀ x ∈ f.code,shapedI np f x = true
 | [],i,h,f,hf => by cases hf
 | y :: r,i,h,f,hf => by
   unfold shapesM at h
   split at h
   · cases h
   · rename_i hy
     rcases List.mem_cons.1 hf with rfl | hf
     · exact firstNot_all hy
     · exact shapesM_all h f hf
theorem shaped_jump {np : Nat} {l r : Int} {n : Nat} {op a b : Int} (h : shapedM np l r n op a b = true) (ho : op = 15 ∨ op = 16) : 0 ≤ a := by
 unfold shapedM at h
 simp only [Bool.and_eq_true] at h
 have h3 := h.2
 have hk : (rowT op).1 = 4 := by rcases ho with rfl | rfl <;> rfl
 rw [hk] at h3
 have : withinM a n = true := h3
 unfold withinM at this
 exact (of_decide_eq_true this).1
theorem sized_few {p : List Fnc} (h : firstNot sizedF p 0 = none) : Few p := fun f hf => by
 have := firstNot_all h f hf
 unfold sizedF sizedM at this
 exact (of_decide_eq_true this).2.1
theorem sized_len {p : List Fnc} (h : firstNot sizedF p 0 = none) {f : Fnc} (hf : f ∈ p) : f.code.length ≤ 1000 := by
 have := firstNot_all h f hf
 unfold sizedF sizedM at this
 have := of_decide_eq_true this
 omega
def tripV (x : Int × Int × Int) : Value := .tuple ⟨[.int .i64 x.1,.int .i64 x.2.1,.int .i64 x.2.2]⟩
theorem prog_at {w : World} {A : Option Addr} {p : List Fnc} (hp : ProgAt w A p.length p) {i : Nat} (h : i < p.length) :
   ∃ f q C c,p[i]? = some f ∧ A = some q ∧ w.cell? ((q.add (i * 4)).add 0) = some (.int .i64 f.params) ∧ w.cell? ((q.add (i * 4)).add 1) = some (.int .i64 f.locals) ∧ w.cell? ((q.add (i * 4)).add 2) = some (.int .i64 f.refs) ∧
     w.cell? ((q.add (i * 4)).add 3) = some (.slice C f.code.length c) ∧ CodeAt w C f.code.length f.code := by
 obtain ⟨f,q,hf,hq,h0,h1,h2,C,l,c,h3,hc⟩ := hp.at h
 obtain rfl := hc.len
 exact ⟨f,q,C,c,hf,hq,h0,h1,h2,h3,hc⟩
theorem drop_at {α : Type} {l : List α} {i : Nat} {x : α} (h : l[i]? = some x) : l.drop i = x :: l.drop (i + 1) := by
 obtain ⟨hlt,rfl⟩ := List.getElem?_eq_some_iff.1 h
 exact List.drop_eq_getElem_cons hlt
theorem check_ok {p : List Fnc} (h : (checkM p).1 = 0) : Few p ∧ (∀ f ∈ p,f.code.length ≤ 1000) ∧ (∀ f ∈ p,∀ x ∈ f.code,x.op = 15 ∨ x.op = 16 → 0 ≤ x.a) ∧ flowsM p p 0 = none ∧ firstNot sizedF p 0 = none := by
 unfold checkM at h
 split at h
 · cases h
 · split at h
   · cases h
   · rename_i hs
     split at h
     · cases h
     · rename_i hn
       split at h
       · cases h
       · rename_i hf
         exact ⟨sized_few hs,fun f hf => sized_len hs hf,fun f hf x hx ho => shaped_jump (shapesM_all hn f hf x hx) ho,hf,hs⟩
theorem flowsM_all {p : List Fnc} : ∀ {l : List Fnc} {i : Nat},flowsM p l i = none → ∀ f ∈ l,∃ d,depthsM p f.code = .inr d
 | [],i,h,f,hf => by cases hf
 | y :: r,i,h,f,hf => by
   unfold flowsM at h
   split at h
   · cases h
   · rename_i d hy
     rcases List.mem_cons.1 hf with rfl | hf
     · exact ⟨d,hy⟩
     · exact flowsM_all h f hf
def insV (x : Ins) : List Value := [.int .i64 x.op,.int .i64 x.a,.int .i64 x.b]
theorem tosM_true {n : Nat} {behind : Int} : ∀ {ts d : List Int} {d' : List Int},tosM n behind ts d true ≠ some (d',false)
 | [],d,d',h => by simp [tosM] at h
 | t :: ts,d,d',h => by
   unfold tosM at h
   split at h
   · cases h
   · split at h
     · split at h
       · exact tosM_true h
       · cases h
     · exact tosM_true h
theorem tosM_still {n : Nat} {behind : Int} : ∀ {ts d d' : List Int},tosM n behind ts d false = some (d',false) → d' = d ∧ ∀ t ∈ ts,t < (n : Int) ∧ d.getD t.toNat 0 = behind
 | [],d,d',h => by
   simp only [tosM,Option.some.injEq,Prod.mk.injEq] at h
   exact ⟨h.1.symm,fun t ht => by cases ht⟩
 | t :: ts,d,d',h => by
   unfold tosM at h
   split at h
   · cases h
   · rename_i hn
     split at h
     · split at h
       · rename_i he
         obtain ⟨h1,h2⟩ := tosM_still h
         refine ⟨h1,fun u hu => ?_⟩
         rcases List.mem_cons.1 hu with rfl | hu
         · exact ⟨by omega,he⟩
         · exact h2 u hu
       · cases h
     · exact absurd h tosM_true
theorem scanM_true {p : List Fnc} {n : Nat} : ∀ {xs : List Ins} {i : Nat} {d d' : List Int},scanM p n xs i d true ≠ .inr (d',false)
 | [],i,d,d',h => by simp [scanM] at h
 | x :: r,i,d,d',h => by
   unfold scanM at h
   split at h
   · exact scanM_true h
   · split at h
     · cases h
     · split at h
       · cases h
       · rename_i d1 f1 ht
         cases f1 with
         | true => exact scanM_true h
         | false => exact tosM_true ht
def Steady (p : List Fnc) (n : Nat) (d : List Int) (j : Nat) (x : Ins) : Prop :=
 0 ≤ d.getD j 0 → popsM p x.op x.a ≤ d.getD j 0 ∧ d.getD j 0 - popsM p x.op x.a + pushesI x.op ≤ 8 ∧ ∀ t ∈ nextM j x.op x.a,t < (n : Int) ∧ d.getD t.toNat 0 = d.getD j 0 - popsM p x.op x.a + pushesI x.op
theorem scanM_still {p : List Fnc} {n : Nat} : ∀ {xs : List Ins} {i : Nat} {d d' : List Int},scanM p n xs i d false = .inr (d',false) → d' = d ∧ ∀ j x,xs[j]? = some x → Steady p n d (i + j) x
 | [],i,d,d',h => by
   simp only [scanM,Sum.inr.injEq,Prod.mk.injEq] at h
   exact ⟨h.1.symm,fun j x hx => by simp at hx⟩
 | y :: r,i,d,d',h => by
   unfold scanM at h
   split at h
   · rename_i hneg
     obtain ⟨h1,h2⟩ := scanM_still h
     refine ⟨h1,fun j x hx => ?_⟩
     cases j with
     | zero => intro h0; rw [Nat.add_zero] at h0; omega
     | succ j => have := h2 j x (by simpa using hx); rwa [show i + 1 + j = i + (j + 1) by omega] at this
   · rename_i hneg
     split at h
     · cases h
     · rename_i hok
       split at h
       · cases h
       · rename_i d1 f1 ht
         cases f1 with
         | true => exact absurd h scanM_true
         | false =>
           obtain ⟨rfl,h3⟩ := tosM_still ht
           obtain ⟨h1,h2⟩ := scanM_still h
           refine ⟨h1,fun j x hx => ?_⟩
           cases j with
           | zero =>
             simp at hx
             subst hx
             rw [Nat.add_zero]
             exact fun _ => ⟨by omega,by omega,h3⟩
           | succ j => have := h2 j x (by simpa using hx); rwa [show i + 1 + j = i + (j + 1) by omega] at this
theorem fixM_still {p : List Fnc} {xs : List Ins} (hfew : Few p) (hjmp : ∀ x ∈ xs,x.op = 15 ∨ x.op = 16 → 0 ≤ x.a) : ∀ {k : Nat} {d d' : List Int},negs d < k → DOk xs.length d → fixM p xs k d = .inr d' →
   (∀ j x,xs[j]? = some x → Steady p xs.length d' j x) ∧ (∀ i,0 ≤ d.getD i 0 → d'.getD i 0 = d.getD i 0)
 | 0,d,d',hk,_,_ => by omega
 | k + 1,d,d',hk,hd,h => by
   unfold fixM at h
   split at h
   · cases h
   · rename_i d1 hs
     obtain ⟨h1,h2,h3,h4⟩ := scanM_ok hfew hd hjmp hs
     have hlt : negs d1 < negs d := by
       rcases h3 rfl with h | h
       · cases h
       · exact h
     obtain ⟨g1,g2⟩ := fixM_still hfew hjmp (by omega) h1 h
     exact ⟨g1,fun i hi => by rw [g2 i (by rw [h4 i hi]; exact hi),h4 i hi]⟩
   · rename_i d1 hs
     cases h
     obtain ⟨rfl,h2⟩ := scanM_still hs
     exact ⟨fun j x hx => by have := h2 j x hx; rwa [Nat.zero_add] at this,fun _ _ => rfl⟩
theorem depths_still {p : List Fnc} {xs : List Ins} {d : List Int} (hfew : Few p) (hjmp : ∀ x ∈ xs,x.op = 15 ∨ x.op = 16 → 0 ≤ x.a) (h : depthsM p xs = .inr d) : (∀ j x,xs[j]? = some x → Steady p xs.length d j x) ∧ DOk xs.length d ∧ (1 ≤ xs.length → d.getD 0 0 = 0) := by
 unfold depthsM at h
 have hneg : negs (start xs.length) < xs.length + 1 := by have := negs_le (start xs.length); rw [(start_ok xs.length).1] at this; omega
 obtain ⟨h1,h2⟩ := fixM_still hfew hjmp hneg (start_ok _) h
 refine ⟨h1,fixM_len hfew hjmp (start_ok _) h,fun hl => ?_⟩
 have h0 : (start xs.length).getD 0 0 = 0 := by
   have : (start xs.length)[0]? = some 0 := by
     unfold start initM
     rw [List.getElem?_map,List.getElem?_range (by omega)]
     rfl
   rw [List.getD,this]; rfl
 rw [h2 0 (by rw [h0]; omega),h0]
end Go.Proofs.YtidcpndlloppdaaGreat
