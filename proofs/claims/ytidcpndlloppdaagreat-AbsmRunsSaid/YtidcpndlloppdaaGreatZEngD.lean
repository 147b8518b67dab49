import Derived.Test.YtidcpndlloppdaaGreatZEngC
import Derived.Below
import Derived.Laws.AppendOwn
import Derived.Laws.MakeOwn
import Derived.Lib.AppendZerosOnto
import Derived.Laws.OwnMore
/-
 Nothing of the program stands here: rules for conditions that the engine makes: returns,calls,what memory says.
 Conditions: none.
-/
set_option linter.unusedVariables false
set_option linter.unusedSimpArgs false
namespace Go.Proofs.YtidcpndlloppdaaGreat
open Go.RowKit
theorem Ext.below {B : Nat} {w w1 : World} (h : Ext B w w1) : Below B w w1 := ⟨h.os,h.tape,h.output,h.size,h.low⟩
theorem Ext.after {B : Nat} {w0 w w1 : World} (h : Ext B w w1) (h0 : Below B w0 w) : Below B w0 w1 := h0.trans h.below
theorem below_ext {B : Nat} {w w' : World} (h : Below w.heap.size w w') (hB : B ≤ w.heap.size) : Ext B w w' :=
 ⟨h.os,h.tape,h.output,h.size,fun k c t f hk => by rw [h.block k (lt_of_some hk)]; exact hk,fun k hk => h.block k (Nat.lt_of_lt_of_le hk hB)⟩
theorem masked {B : Nat} {bs : List Nat} {w w1 w2 w' : World} (h : Ext B w w1) (hx : ∀ x,x ∈ bs → x < w1.heap.size ∧ NC w x ∧ B ≤ x) (hB : B ≤ w1.heap.size) (h2 : Below w1.heap.size w1 w2) (hm : Msk bs w2 w') : Ext B w w' := by
 have h12 := h.trans (below_ext h2 hB)
 refine ⟨hm.os.trans h12.os,hm.tape.trans h12.tape,hm.output.trans h12.output,by rw [hm.size]; exact h12.size,fun k c t f hk => ?_,fun k hk => ?_⟩
 · rw [hm.block k (fun hkb => (hx k hkb).2.1 c t f hk)]
   exact h12.row k c t f hk
 · rw [hm.block k (fun hkb => by have := (hx k hkb).2.2; omega)]
   exact h12.low k hk
def Gives (P : Program) (f : Nat) (args : List Value) (w : World) (v : Value) : Prop :=
 Calls P f ⟨args⟩ w fun e w' => e = .returned v ∧ Below w.heap.size w w'
def Yields (P : Program) (f : Nat) (args : List Value) (w : World) (Q : Value → World → Prop) : Prop :=
 Calls P f ⟨args⟩ w fun e w' => ∃ v,e = .returned v ∧ Q v w' ∧ Below w.heap.size w w'
def IsV (w0 : World) (v : Value) : Value → World → Prop := fun u w' => u = v ∧ Below w0.heap.size w0 w'
def IsQ (w0 : World) (Q : Value → World → Prop) : Value → World → Prop := fun u w' => Q u w' ∧ Below w0.heap.size w0 w'
theorem gives_of {P : Program} {f : Nat} {args : List Value} {w : World} {v : Value} (h : Calls P f ⟨args⟩ w fun e w' => ∃ u,e = .returned u ∧ IsV w v u w') : Gives P f args w v :=
 Calls.mono h fun e w' ⟨u,he,hu,hb⟩ => ⟨by rw [he,hu],hb⟩
theorem yields_of {P : Program} {f : Nat} {args : List Value} {w : World} {Q : Value → World → Prop} (h : Calls P f ⟨args⟩ w fun e w' => ∃ u,e = .returned u ∧ IsQ w Q u w') : Yields P f args w Q :=
 Calls.mono h fun e w' ⟨u,he,hq,hb⟩ => ⟨u,he,hq,hb⟩
theorem ret_is {w0 w : World} {u v : Value} (h : Below w0.heap.size w0 w) (hu : u = v) : Ret w0.heap.size w (IsV w0 v u) := fun _ he => ⟨hu,he.after h⟩
theorem ret_q {w0 w : World} {u : Value} {Q : Value → World → Prop} (h : Below w0.heap.size w0 w) (hq : ∀ w1,Ext w0.heap.size w w1 → Q u w1) : Ret w0.heap.size w (IsQ w0 Q u) := fun w1 he => ⟨hq w1 he,he.after h⟩
theorem call_gives {P : Program} {f : Nat} {args : List Value} {w0 w : World} {bs : List Nat} {v : Value} {K : Value → World → Prop} (h0 : Below w0.heap.size w0 w)
   (hc : ∀ w1,Ext w0.heap.size w w1 → Below w0.heap.size w0 w1 → Gives P f args w1 v) (hk : ∀ w',Ext w0.heap.size w w' → Below w0.heap.size w0 w' → K v w') : CallK P f args w0.heap.size w bs K := by
 intro w1 h1 hx
 refine Calls.mono (hc w1 h1 (h1.after h0)) fun e w2 ⟨he,hb⟩ => ⟨v,he,⟨hb.size,fun x hxb => hb.block x (hx x hxb).1⟩, ?_⟩
 have hB : w0.heap.size ≤ w1.heap.size := Nat.le_trans h0.size h1.size
 cases bs with
 | nil =>
   have := masked (bs := []) h1 (fun x hx => by cases hx) hB hb (mask_msk [] w2)
   exact hk w2 this (this.after h0)
 | cons b r =>
   intro w' hm
   have := masked h1 hx hB hb hm
   exact hk w' this (this.after h0)
theorem call_yields {P : Program} {f : Nat} {args : List Value} {w0 w : World} {bs : List Nat} {Q : World → Value → World → Prop} {K : Value → World → Prop} (h0 : Below w0.heap.size w0 w)
   (hc : ∀ w1,Ext w0.heap.size w w1 → Below w0.heap.size w0 w1 → Yields P f args w1 (Q w1))
   (hk : ∀ w1 v w2 w',w.heap.size ≤ w1.heap.size → Below w1.heap.size w1 w2 → Q w1 v w2 → (∀ k,(w.heap.size ≤ k → w1.heap.size ≤ k ∨ k ∉ bs) → k ∉ bs → w'.heap[k]? = w2.heap[k]?) → (∀ k,w1.heap.size ≤ k → w'.heap[k]? = w2.heap[k]?) → Ext w0.heap.size w w' → Below w0.heap.size w0 w' → K v w') : CallK P f args w0.heap.size w bs K := by
 intro w1 h1 hx
 refine Calls.mono (hc w1 h1 (h1.after h0)) fun e w2 ⟨v,he,hQ,hb⟩ => ⟨v,he,⟨hb.size,fun x hxb => hb.block x (hx x hxb).1⟩, ?_⟩
 have hB : w0.heap.size ≤ w1.heap.size := Nat.le_trans h0.size h1.size
 cases bs with
 | nil =>
   have := masked (bs := []) h1 (fun x hx => by cases hx) hB hb (mask_msk [] w2)
   exact hk w1 v w2 w2 h1.size hb hQ (fun _ _ _ => rfl) (fun _ _ => rfl) this (this.after h0)
 | cons b r =>
   intro w' hm
   have := masked h1 hx hB hb hm
   exact hk w1 v w2 w' h1.size hb hQ (fun k _ hk => hm.block k hk) (fun k hk => hm.block k (fun hkb => by have := (hx k hkb).1; omega)) this (this.after h0)
section
variable {α : Type}
structure RowAt (E : World → Addr → α → Prop) (sz : Nat) (w : World) (A : Option Addr) (l : Nat) (xs : List α) : Prop where
 len : xs.length = l
 small : l ≤ maxLen
 get : ∀ i x,xs[i]? = some x → ∃ p,A = some p ∧ E w (p.add (i * sz)) x
def Kept1 (E : World → Addr → α → Prop) : Prop := ∀ (w w' : World) a x,(∀ q v,w.cell? q = some v → w'.cell? q = some v) → E w a x → E w' a x
theorem RowAt.keep {E : World → Addr → α → Prop} (hE : Kept1 E) {sz : Nat} {w w' : World} {A : Option Addr} {l : Nat} {xs : List α} (h : RowAt E sz w A l xs) (hw : ∀ q v,w.cell? q = some v → w'.cell? q = some v) : RowAt E sz w' A l xs :=
 ⟨h.len,h.small,fun i x hi => by obtain ⟨p,hp,hx⟩ := h.get i x hi; exact ⟨p,hp,hE _ _ _ _ hw hx⟩⟩
theorem below_keeps {w w' : World} (h : Below w.heap.size w w') (q : Addr) (v : Value) (hq : w.cell? q = some v) : w'.cell? q = some v := (h.cell (cell_lt hq)).trans hq
theorem ext_keeps {B : Nat} {w w' : World} (h : Ext B w w') (q : Addr) (v : Value) (hq : w.cell? q = some v) : w'.cell? q = some v := h.cell hq
theorem RowAt.at {E : World → Addr → α → Prop} {sz : Nat} {w : World} {A : Option Addr} {l : Nat} {xs : List α} (h : RowAt E sz w A l xs) {i : Nat} (hi : i < l) : ∃ x p,xs[i]? = some x ∧ A = some p ∧ E w (p.add (i * sz)) x := by
 have hx : xs[i]? = some (xs[i]'(by rw [h.len]; exact hi)) := List.getElem?_eq_getElem _
 obtain ⟨p,hp,he⟩ := h.get i _ hx
 exact ⟨_,p,hx,hp,he⟩
end
def NumE (k : IntKind) : World → Addr → Int → Prop := fun w a n => w.cell? a = some (.int k n)
theorem NumE.kept (k : IntKind) : Kept1 (NumE k) := fun _ _ _ _ hw h => hw _ _ h
abbrev Nums (k : IntKind) (w : World) (A : Option Addr) (l : Nat) (xs : List Int) : Prop := RowAt (NumE k) 1 w A l xs
theorem Nums.at {k : IntKind} {w : World} {A : Option Addr} {l : Nat} {xs : List Int} (h : Nums k w A l xs) {i : Nat} (hi : i < l) : ∃ n p,xs[i]? = some n ∧ A = some p ∧ w.cell? (p.add i) = some (.int k n) := by
 obtain ⟨x,p,hx,hp,he⟩ := RowAt.at h hi
 exact ⟨x,p,hx,hp,by simpa [NumE] using he⟩
theorem nums_nil (k : IntKind) (w : World) : Nums k w none 0 [] := ⟨rfl,Nat.zero_le _,fun i x h => by simp at h⟩
theorem wrap_id {n : Int} (h0 : -9223372036854775808 ≤ n) (h1 : n ≤ 9223372036854775807) : IntKind.wrap .i64 n = n := by rw [IntKind.wrap_i64]; omega
theorem wrap_succ {i l : Nat} (h : i < l) (hl : l ≤ maxLen) : IntKind.wrap .i64 ((i : Int) + 1) = ((i + 1 : Nat) : Int) := by
 simp only [maxLen] at hl
 have h3 : IntKind.wrap .i64 ((i : Int) + 1) = (i : Int) + 1 := wrap_id (by omega) (by omega)
 rw [h3]; rfl
end Go.Proofs.YtidcpndlloppdaaGreat
set_option linter.unusedVariables false
set_option linter.unusedSimpArgs false
namespace Go.Proofs.YtidcpndlloppdaaGreat
open Go.RowKit
structure ExtS (B : Nat) (S : Nat → Prop) (w w' : World) : Prop where
 os : w'.os = w.os
 tape : w'.tape = w.tape
 output : w'.output = w.output
 size : w.heap.size ≤ w'.heap.size
 row : ∀ (k : Nat) (c : Array Value) (t : TypeId) (f : Nat × Nat),¬ S k → w.heap[k]? = some (Obj.cells c t f) → w'.heap[k]? = some (Obj.cells c t f)
 low : ∀ k,k < B → ¬ S k → w'.heap[k]? = w.heap[k]?
theorem Ext.toS {B : Nat} {S : Nat → Prop} {w w' : World} (h : Ext B w w') : ExtS B S w w' := ⟨h.os,h.tape,h.output,h.size,fun k c t f _ hk => h.row k c t f hk,fun k hk _ => h.low k hk⟩
theorem ExtS.below {B : Nat} {S : Nat → Prop} {w w1 : World} (h : ExtS B S w w1) (hS : ∀ k,S k → B ≤ k) : Below B w w1 := ⟨h.os,h.tape,h.output,h.size,fun k hk => h.low k hk (fun e => by have := hS k e; omega)⟩
theorem ExtS.after {B : Nat} {S : Nat → Prop} {w0 w w1 : World} (h : ExtS B S w w1) (hS : ∀ k,S k → B ≤ k) (h0 : Below B w0 w) : Below B w0 w1 := h0.trans (h.below hS)
theorem ExtS.chg {S T : Nat → Prop} {w0 w w1 : World} (h : ExtS w0.heap.size T w w1) (h0 : Chg S w0 w) (hT : ∀ k,k < w0.heap.size → T k → S k) : Chg S w0 w1 :=
 ⟨h.os.trans h0.os,h.tape.trans h0.tape,h.output.trans h0.output,Nat.le_trans h0.size h.size,fun k hk hS => (h.low k hk (fun e => hS (hT k hk e))).trans (h0.block k hk hS)⟩
theorem ExtS.cell {B : Nat} {S : Nat → Prop} {w w' : World} (h : ExtS B S w w') {a : Addr} {v : Value} (hc : w.cell? a = some v) (hS : ¬ S a.block) : w'.cell? a = some v := by
 obtain ⟨c,t,f,hb⟩ := cell_block hc
 exact (cell_same (by rw [hb,h.row _ _ _ _ hS hb])).trans hc
theorem ExtS.owns {B base : Nat} {S : Nat → Prop} {w w' : World} (h : ExtS B S w w') {e : TypeId} {size : Nat} {v : Value} {n : Nat} {xs : List Value} (ho : w.ownsRow base e size v n xs) (hS : ∀ g,v.ownBlock = some g → ¬ S g) : w'.ownsRow base e size v n xs := by
 refine ⟨ho.1, ?_⟩
 rcases ho.2 with hn | ⟨g,cap,cur,rfl,hb,hgg,rest⟩
 · exact .inl hn
 · exact .inr ⟨g,cap,cur,rfl,hb,h.row _ _ _ _ (hS g rfl) hgg,rest⟩
theorem Ext.owns {B base : Nat} {w w' : World} (h : Ext B w w') {e : TypeId} {size : Nat} {v : Value} {n : Nat} {xs : List Value} (ho : w.ownsRow base e size v n xs) : w'.ownsRow base e size v n xs :=
 (h.toS (S := fun _ => False)).owns ho (fun _ _ h => h)
theorem maskedS {B : Nat} {S : Nat → Prop} {bs : List Nat} {row : Option Nat} {w w1 w2 w' : World} (h : Ext B w w1) (hx : ∀ x,x ∈ bs → x < w1.heap.size ∧ NC w x ∧ B ≤ x) (h2 : w1.grownBy w2 row) (hr : ∀ k,row = some k → S k)
   (hm : Msk bs w2 w') (hB : B ≤ w1.heap.size) : ExtS B S w w' := by
 refine ⟨hm.os.trans (h2.os.trans h.os),hm.tape.trans (h2.tape.trans h.tape),hm.output.trans (h2.output.trans h.output),by rw [hm.size]; exact Nat.le_trans h.size h2.size,fun k c t f hS hk => ?_,fun k hk hS => ?_⟩
 · have h1 := h.row k c t f hk
   rw [hm.block k (fun hkb => (hx k hkb).2.1 c t f hk),h2.block k (lt_of_some h1) (fun e => hS (hr k e.symm))]
   exact h1
 · rw [hm.block k (fun hkb => by have := (hx k hkb).2.2; omega),h2.block k (by omega) (fun e => hS (hr k e.symm))]
   exact h.low k hk
theorem maskedO {bs : List Nat} {w1 w2 w' : World} {k : Nat} {o : Obj} (hx : ∀ x,x ∈ bs → x < w1.heap.size) (hk : w1.heap.size ≤ k) (ho : w2.heap[k]? = some o) (hm : Msk bs w2 w') : w'.heap[k]? = some o := by
 rw [hm.block k (fun hkb => by have := hx k hkb; omega)]; exact ho
theorem hide_any {bs : List Nat} {w : World} {K : World → Prop} (h : ∀ w',Msk bs w w' → K w') : Hide bs w K := by
 cases bs with
 | nil => exact h w (mask_msk [] w)
 | cons b r => exact h
theorem grown_alloc (w : World) (o : Obj) : w.grownBy (w.alloc o) none := World.grownBy_alloc w o none
theorem ExtS.none {B : Nat} {w w' : World} (h : ExtS B (fun _ => False) w w') : Ext B w w' := ⟨h.os,h.tape,h.output,h.size,fun k c t f hk => h.row k c t f (fun h => h) hk,fun k hk => h.low k hk (fun h => h)⟩
theorem expo_alloc {B : Nat} {w : World} {bs : List Nat} {o : Obj} {F : World → World → Prop} (hB : B ≤ w.heap.size)
   (hk : ∀ w1 w',w.heap.size ≤ w1.heap.size → Ext B w w' → w1.heap.size < w'.heap.size → w'.heap[w1.heap.size]? = some o → F w1 w') : Expo B w bs fun w1 => Hide bs (w1.alloc o) fun w2 => F w1 w2 := by
 intro w1 h1 hx
 refine hide_any fun w' hm => ?_
 have hB1 : B ≤ w1.heap.size := Nat.le_trans hB h1.size
 exact hk w1 w' h1.size (maskedS h1 hx (grown_alloc w1 o) (fun k h => by cases h) hm hB1).none (by rw [hm.size]; simp) (maskedO (fun x hxb => (hx x hxb).1) (Nat.le_refl _) (alloc_new w1 o) hm)
theorem make_own {P : Program} {B : Nat} {w : World} {bs : List Nat} {t e : TypeId} {i : TypeInfo} {z : Value} {size : Nat} {n : Nat} {K : Value → World → Prop} (ht : P.underlying t = some (.slice e)) (hi : P.info? e = some i) (hz : i.zero = some z) (hs : i.size = size)
   (hbytes : i.bytes * n ≤ 281474976710656) (hn : n ≤ maxLen) (hB : B ≤ w.heap.size)
   (hk : ∀ g w',w.heap.size ≤ g → Ext B w w' → w'.heap[g]? = some (.cells (madeCells z.cells (n * size)) e) → K (.slice (some ⟨g,0,none⟩) n n) w') :
   RunK P (Instr.makeSlice t (.int .i64 (n : Int)) (.int .i64 (n : Int))) B w bs K := by
 intro w1 h1 hx
 have hn' : (n : Int) ≤ 9223372036854775807 := by simp only [maxLen] at hn; omega
 have hb' : (i.bytes : Int) * (n : Int) ≤ 281474976710656 := by rw [← Int.natCast_mul]; omega
 have hr := run_make (P := P) w1 t e i z ht hi hz .i64 .i64 n n (by omega) (by omega) hb' hn'
 simp only [Int.toNat_natCast,hs] at hr
 refine ⟨_,_,hr,⟨by simp,fun x hxb => alloc_old w1 _ (hx x hxb).1⟩,hide_any fun w' hm => ?_⟩
 have hB1 : B ≤ w1.heap.size := Nat.le_trans hB h1.size
 exact hk _ w' h1.size (maskedS h1 hx (grown_alloc w1 _) (fun k h => by cases h) hm hB1).none (maskedO (fun x hxb => (hx x hxb).1) (Nat.le_refl _) (alloc_new w1 _) hm)
theorem append_own {P : Program} {B b0 : Nat} {w : World} {bs : List Nat} {t ty e : TypeId} {i : TypeInfo} {z : Value} {size bytes : Nat} {K : Value → World → Prop} (ht : P.underlying t = some (.slice e)) (hi : P.info? e = some i) (hz : i.zero = some z)
   (hsize : i.size = size) (hby : i.bytes = bytes) (hzs : z.cells.size = size) (hsz : 0 < size) {v : Value} {n : Nat} {xs : List Value} (hown : w.ownsRow b0 e size v n xs)
   {a : Addr} {m c : Nat} {news : List Value} (hl : news.length = m * size) (hnews : ∀ j u,news[j]? = some u → w.cell? (a.add j) = some u) (h1 : ∀ u ∈ news,u.oneCell' = true)
   (h63 : n + m ≤ maxLen) (hbytes : (n + m) * bytes ≤ 140737488355328) (hB : B ≤ w.heap.size) (hb0 : b0 ≤ w.heap.size)
   (hk : ∀ v' w',ExtS B (fun k => v.ownBlock = some k) w w' → w'.ownsRow b0 e size v' (n + m) (xs ++ news) → (∀ g,v'.ownBlock = some g → v.ownBlock = some g ∨ w.heap.size ≤ g) → K v' w') :
   RunK P (Builtin.append_ #[t,t] ty ⟨[v,.slice (some a) m c]⟩) B w bs K := by
 intro w1 he hx
 have hB1 : B ≤ w1.heap.size := Nat.le_trans hB he.size
 have hb1 : b0 ≤ w1.heap.size := Nat.le_trans hb0 he.size
 have hown1 := he.owns hown
 have hnews1 : ∀ j u,news[j]? = some u → w1.cell? (a.add j) = some u := fun j u hj => he.cell (hnews j u hj)
 have hlt : ∀ k,v.ownBlock = some k → b0 ≤ k ∧ k < w.heap.size ∧ k ∉ bs := fun k hkv => by
   refine ⟨(hown.lt k hkv).1,(hown.lt k hkv).2,fun hkb => ?_⟩
   rcases hown.2 with ⟨rfl,_⟩ | ⟨g,cap,cur,rfl,hb,hg,_⟩
   · cases hkv
   · cases hkv; exact (hx g hkb).2.1 _ _ _ hg
 -- what is new,or where it was
 obtain ⟨v',w2,hr,ho,hg,hnew⟩ : ∃ v' w2,(Builtin.append_ #[t,t] ty #[v,.slice (some a) m c]).run P w1 = .ok v' w2 ∧ w2.ownsRow b0 e size v' (n + m) (xs ++ news) ∧ w1.grownBy w2 v.ownBlock ∧
     (∀ g,v'.ownBlock = some g → v.ownBlock = some g ∨ w1.heap.size ≤ g) := by
   by_cases hcase : ∃ g cap,v = .slice (some ⟨g,0,none⟩) n cap ∧ n + m ≤ cap
   · obtain ⟨v',w2,hr,ho,hg,_⟩ := run_append_own (P := P) w1 b0 t ty e i z size bytes ht hi hz hsize hby hzs hsz v n xs hown1 a m c news hl hnews1 h1 h63 hbytes hb1
     refine ⟨v',w2,hr,ho,hg,fun g hgv => .inl ?_⟩
     obtain ⟨g0,cap,rfl,hcap⟩ := hcase
     -- it is done in place
     have hin : v' = .slice (some ⟨g0,0,none⟩) (n + m) cap := by
       rcases hown1.2 with ⟨hn,_⟩ | ⟨g',cap',cur,hv,_,hgg,_,_,hcs,_⟩
       · cases hn
       · cases hv
         subst hsize
         have hfit : n * i.size + news.length ≤ cur.size := by rw [hl,hcs, ← Nat.add_mul]; exact Nat.mul_le_mul_right _ hcap
         have := run_append_room (P := P) w1 t ty e i ht hi g0 n cap cur hgg a m c news hl hnews1 h1 hcap hfit
         rw [this] at hr
         cases hr; rfl
     rw [hin] at hgv
     exact hgv
   · obtain ⟨v',w2,hr,ho,hg,hnil⟩ := run_append_own (P := P) w1 w1.heap.size t ty e i z size bytes ht hi hz hsize hby hzs hsz (.slice none 0 0) 0 [] (World.ownsRow_nil _ _ _ _) a m c news hl hnews1 h1 (by omega) (by have := Nat.mul_le_mul_right bytes (show m ≤ n + m by omega); simpa using Nat.le_trans this hbytes) (Nat.le_refl _)
     rcases hown1.2 with ⟨rfl,rfl⟩ | ⟨g',cap',cur,rfl,hb,hgg,hnc,hcm,hcs,htake⟩
     · have hx0 : xs = [] := List.eq_nil_of_length_eq_zero (by simpa using hown1.1)
       subst hx0
       refine ⟨v',w2,hr, ?_,hg,fun g hgv => .inr (ho.lt g hgv).1⟩
       refine ⟨ho.1, ?_⟩
       rcases ho.2 with h | ⟨g,cap,cur,hv,hb,rest⟩
       · exact .inl h
       · exact .inr ⟨g,cap,cur,hv,Nat.le_trans hb1 hb,rest⟩
     · subst hsize
       subst hby
       have hbig : cap' < n + m := by
         by_cases hle : n + m ≤ cap'
         · exact absurd ⟨g',cap',rfl,hle⟩ hcase
         · omega
       have holds : ∀ j u,xs[j]? = some u → w1.cell? ((⟨g',0,none⟩ : Addr).add j) = some u := hown1.cells (g := g') rfl
       obtain ⟨v3,w3,hr3,ho3,hg3,_⟩ := run_append_own (P := P) w1 b0 t ty e i z i.size i.bytes ht hi hz rfl rfl hzs hsz _ n xs hown1 a m c news hl hnews1 h1 h63 hbytes hb1
       have hfits : Builtin.nextslicecap (n + m) cap' * i.bytes ≤ 281474976710656 := growslice_fits (by omega) hbytes
       have hrun := run_append_grow (P := P) w1 t ty e i z ht hi hz ⟨g',0,none⟩ n cap' xs hown1.1 holds a m c news hl hnews1 (by omega) (by simp only [maxLen] at h63; omega) hfits
       rw [hrun] at hr3
       cases hr3
       exact ⟨_,_,hrun,ho3,hg3,fun g hgv => .inr (by cases hgv; exact Nat.le_refl _)⟩
 refine ⟨v',w2,hr,⟨hg.size,fun x hxb => hg.block x (hx x hxb).1 (fun e => (hlt x e.symm).2.2 hxb)⟩,hide_any fun w' hm => ?_⟩
 refine hk v' w' (maskedS he hx hg (fun k hkv => hkv) hm hB1) ?_ (fun g hgv => (hnew g hgv).imp id (fun h => Nat.le_trans he.size h))
 refine ⟨ho.1, ?_⟩
 rcases ho.2 with hn | ⟨g,cap,cur,rfl,hb,hgg,rest⟩
 · exact .inl hn
 · refine .inr ⟨g,cap,cur,rfl,hb, ?_,rest⟩
   rw [hm.block g (fun hgb => ?_)]
   · exact hgg
   · rcases hnew g rfl with h | h
     · exact (hlt g h).2.2 hgb
     · have := (hx g hgb).1; omega
def OwnI (w : World) (g : Nat) (k : IntKind) (e : TypeId) (xs : List Int) : Prop := w.heap[g]? = some (.cells (xs.map (.int k)).toArray e (0,0))
theorem own_add (g i : Nat) : ((⟨g,0,none⟩ : Addr).add i) = ⟨g,i,none⟩ := by rw [bx_add,Nat.zero_add]
theorem OwnI.cell {w : World} {g : Nat} {k : IntKind} {e : TypeId} {xs : List Int} (h : OwnI w g k e xs) {i : Nat} {n : Int} (hn : xs[i]? = some n) : w.cell? ((⟨g,0,none⟩ : Addr).add i) = some (.int k n) := by
 rw [own_add]
 simp [World.cell?,show w.heap[g]? = _ from h,hn]
theorem OwnI.frozen {w : World} {g : Nat} {k : IntKind} {e : TypeId} {xs : List Int} (h : OwnI w g k e xs) (i : Nat) : w.frozen? (((⟨g,0,none⟩ : Addr).add i).add 0) = false := by
 rw [own_add,bx_add]
 simp [World.frozen?,show w.heap[g]? = _ from h]
theorem OwnI.set {w : World} {g : Nat} {k : IntKind} {e : TypeId} {xs : List Int} (h : OwnI w g k e xs) (i : Nat) (n : Int) : OwnI (w.setCell (((⟨g,0,none⟩ : Addr).add i).add 0) (.int k n)) g k e (xs.set i n) := by
 rw [own_add,bx_add]
 unfold OwnI
 have := set_row (cells := xs.map (.int k)) h (i + 0) (.int k n)
 rw [this,Nat.add_zero,List.map_set]
theorem OwnI.ext {B : Nat} {w w' : World} {g : Nat} {k : IntKind} {e : TypeId} {xs : List Int} (h : OwnI w g k e xs) (he : Ext B w w') : OwnI w' g k e xs := he.row _ _ _ _ h
theorem OwnI.lt {w : World} {g : Nat} {k : IntKind} {e : TypeId} {xs : List Int} (h : OwnI w g k e xs) : g < w.heap.size := lt_of_some h
theorem OwnI.nums {w : World} {g : Nat} {k : IntKind} {e : TypeId} {xs : List Int} (h : OwnI w g k e xs) (hl : xs.length ≤ maxLen) : Nums k w (some ⟨g,0,none⟩) xs.length xs :=
 ⟨rfl,hl,fun i x hx => ⟨_,rfl,by rw [Nat.mul_one]; exact h.cell hx⟩⟩
theorem below_set {B g i : Nat} {w0 w : World} (h : Below B w0 w) (hg : B ≤ g) (v : Value) : Below B w0 (w.setCell (((⟨g,0,none⟩ : Addr).add i).add 0) v) := h.setCell (by rw [add_block,add_block]; exact hg) v
theorem set_other {g i : Nat} {w : World} {v : Value} {k : Nat} (h : k ≠ g) : (w.setCell (((⟨g,0,none⟩ : Addr).add i).add 0) v).heap[k]? = w.heap[k]? := setCell_heap w _ v k (by rw [add_block,add_block]; exact h)
theorem nums_block {k : IntKind} {w w' : World} {A : Option Addr} {l : Nat} {xs : List Int} (h : Nums k w A l xs) (hw : ∀ p,A = some p → w'.heap[p.block]? = w.heap[p.block]?) : Nums k w' A l xs :=
 ⟨h.len,h.small,fun i x hx => by
   obtain ⟨p,hp,he⟩ := h.get i x hx
   refine ⟨p,hp, ?_⟩
   have : ((p.add (i * 1)).block) = p.block := add_block _ _
   exact (cell_same (by rw [this]; exact hw p hp)).trans he⟩
end Go.Proofs.YtidcpndlloppdaaGreat
set_option linter.unusedVariables false
set_option linter.unusedSimpArgs false
namespace Go.Proofs.YtidcpndlloppdaaGreat
open Go.RowKit
def Turns (P : Program) (f : Nat) (args : List Value) (w : World) (S : Nat → Prop) (Q : Value → World → Prop) : Prop :=
 Calls P f ⟨args⟩ w fun e w' => ∃ v,e = .returned v ∧ Q v w' ∧ Chg S w w'
def IsT (w0 : World) (S : Nat → Prop) (Q : Value → World → Prop) : Value → World → Prop := fun u w' => Q u w' ∧ Chg S w0 w'
theorem turns_of {P : Program} {f : Nat} {args : List Value} {w : World} {S : Nat → Prop} {Q : Value → World → Prop} (h : Calls P f ⟨args⟩ w fun e w' => ∃ u,e = .returned u ∧ IsT w S Q u w') : Turns P f args w S Q :=
 Calls.mono h fun e w' ⟨u,he,hq,hb⟩ => ⟨u,he,hq,hb⟩
theorem ext_chg {w0 w w1 : World} {S : Nat → Prop} (h : Chg S w0 w) (he : Ext w0.heap.size w w1) : Chg S w0 w1 :=
 ⟨he.os.trans h.os,he.tape.trans h.tape,he.output.trans h.output,Nat.le_trans h.size he.size,fun k hk hS => (he.low k hk).trans (h.block k hk hS)⟩
theorem ret_t {w0 w : World} {u : Value} {S : Nat → Prop} {Q : Value → World → Prop} (h : Chg S w0 w) (hq : ∀ w1,Ext w0.heap.size w w1 → Q u w1) : Ret w0.heap.size w (IsT w0 S Q u) := fun w1 he => ⟨hq w1 he,ext_chg h he⟩
theorem call_turns {P : Program} {f : Nat} {args : List Value} {B : Nat} {w : World} {bs : List Nat} {S : Nat → Prop} {Q : World → Value → World → Prop} {K : Value → World → Prop} (hB : B ≤ w.heap.size)
   (hS : ∀ k,S k → ∃ c t f,w.heap[k]? = some (Obj.cells c t f))
   (hc : ∀ w1,Ext B w w1 → Turns P f args w1 S (Q w1))
   (hk : ∀ w1 v w2 w',w.heap.size ≤ w1.heap.size → Ext B w w1 → Chg S w1 w2 → Q w1 v w2 → (∀ k,S k → w'.heap[k]? = w2.heap[k]?) → (∀ k,w1.heap.size ≤ k → w'.heap[k]? = w2.heap[k]?) → (∀ k c t f,¬ S k → w.heap[k]? = some (Obj.cells c t f) → w'.heap[k]? = some (Obj.cells c t f)) →
     (∀ k,k < B → ¬ S k → w'.heap[k]? = w.heap[k]?) → w'.os = w.os → w'.tape = w.tape → w'.output = w.output → w1.heap.size ≤ w'.heap.size → K v w') : CallK P f args B w bs K := by
 intro w1 h1 hx
 have hnb : ∀ k,S k → k ∉ bs := fun k hk hkb => by obtain ⟨c,t,f,h⟩ := hS k hk; exact (hx k hkb).2.1 c t f h
 refine Calls.mono (hc w1 h1) fun e w2 ⟨v,he,hQ,hb⟩ => ⟨v,he,⟨hb.size,fun x hxb => hb.block x (hx x hxb).1 (fun hs => hnb x hs hxb)⟩, ?_⟩
 refine hide_any fun w' hm => ?_
 have hB1 : B ≤ w1.heap.size := Nat.le_trans hB h1.size
 refine hk w1 v w2 w' h1.size h1 hb hQ (fun k hk => hm.block k (hnb k hk)) (fun k hk => hm.block k (fun hkb => by have := (hx k hkb).1; omega)) (fun k c t f hnS hk => ?_) (fun k hkB hnS => ?_)
   (hm.os.trans (hb.os.trans h1.os)) (hm.tape.trans (hb.tape.trans h1.tape)) (hm.output.trans (hb.output.trans h1.output)) (by rw [hm.size]; exact hb.size)
 · have h2 := h1.row k c t f hk
   rw [hm.block k (fun hkb => (hx k hkb).2.1 c t f hk),hb.block k (lt_of_some h2) hnS]
   exact h2
 · rw [hm.block k (fun hkb => by have := (hx k hkb).2.2; omega),hb.block k (by omega) hnS]
   exact h1.low k hkB
theorem at_cell {w : World} {g : Nat} {L : List Value} {t : TypeId} {fr : Nat × Nat} (h : w.heap[g]? = some (.cells ⟨L⟩ t fr)) {i : Nat} {v : Value} (hv : L[i]? = some v) : w.cell? ⟨g,i,none⟩ = some v := by
 simp [World.cell?,h,hv]
theorem at_frozen {w : World} {g : Nat} {L : Array Value} {t : TypeId} (h : w.heap[g]? = some (.cells L t (0,0))) (i : Nat) : w.frozen? ⟨g,i,none⟩ = false := by
 simp [World.frozen?,h]
theorem at_set {w : World} {g : Nat} {L : List Value} {t : TypeId} (h : w.heap[g]? = some (.cells ⟨L⟩ t (0,0))) (i : Nat) (v : Value) : (w.setCell ⟨g,i,none⟩ v).heap[g]? = some (.cells ⟨L.set i v⟩ t (0,0)) :=
 set_row (cells := L) h i v
theorem at_other {w : World} {g i k : Nat} {v : Value} (h : k ≠ g) : (w.setCell ⟨g,i,none⟩ v).heap[k]? = w.heap[k]? := setCell_heap w _ v k h
theorem owns_some {w : World} {B : Nat} {e : TypeId} {size : Nat} {v : Value} {n : Nat} {xs : List Value} (h : w.ownsRow B e size v n xs) (hn : 0 < n) : ∃ g cap,v = .slice (some ⟨g,0,none⟩) n cap ∧ v.ownBlock = some g ∧ B ≤ g := by
 rcases h.2 with ⟨_,h0⟩ | ⟨g,cap,cur,rfl,hb,_⟩
 · omega
 · exact ⟨g,cap,rfl,rfl,hb⟩
theorem owns_cell {w : World} {B : Nat} {e : TypeId} {size : Nat} {n g cap : Nat} {xs : List Value} (h : w.ownsRow B e size (.slice (some ⟨g,0,none⟩) n cap) n xs) {i : Nat} {u : Value} (hu : xs[i]? = some u) : w.cell? ⟨g,i,none⟩ = some u := by
 have := h.cells (g := g) rfl i u hu
 rwa [own_add] at this
theorem owns_frozen {w : World} {B : Nat} {e : TypeId} {size : Nat} {n g cap : Nat} {xs : List Value} (h : w.ownsRow B e size (.slice (some ⟨g,0,none⟩) n cap) n xs) (i : Nat) : w.frozen? ⟨g,i,none⟩ = false := by
 rcases h.2 with ⟨hv,_⟩ | ⟨g',cap',cur,hv,_,hg,_⟩
 · cases hv
 · cases hv; exact at_frozen hg i
theorem owns_set {w : World} {B : Nat} {e : TypeId} {size : Nat} {n g cap : Nat} {xs : List Value} (h : w.ownsRow B e size (.slice (some ⟨g,0,none⟩) n cap) n xs) (i : Nat) (u : Value) (hi : i < n * size) :
   (w.setCell ⟨g,i,none⟩ u).ownsRow B e size (.slice (some ⟨g,0,none⟩) n cap) n (xs.set i u) := by
 refine ⟨by simpa using h.1,.inr ?_⟩
 rcases h.2 with ⟨hv,_⟩ | ⟨g',cap',cur,hv,hb,hg,hc,hm,hs,ht⟩
 · cases hv
 · cases hv
   refine ⟨g,cap,_,rfl,hb,at_set (L := cur.toList) hg i u,hc,hm,by simpa using hs, ?_⟩
   rw [← ht]
   simp only
   rw [List.take_set]
theorem owns_other {w w' : World} {B : Nat} {e : TypeId} {size : Nat} {v : Value} {n : Nat} {xs : List Value} (h : w.ownsRow B e size v n xs) (hw : ∀ g,v.ownBlock = some g → w'.heap[g]? = w.heap[g]?) : w'.ownsRow B e size v n xs := by
 refine ⟨h.1, ?_⟩
 rcases h.2 with hn | ⟨g,cap,cur,rfl,hb,hg,rest⟩
 · exact .inl hn
 · exact .inr ⟨g,cap,cur,rfl,hb,by rw [hw g rfl]; exact hg,rest⟩
end Go.Proofs.YtidcpndlloppdaaGreat
set_option linter.unusedVariables false
set_option linter.unusedSimpArgs false
namespace Go.Proofs.YtidcpndlloppdaaGreat
open Go.RowKit
theorem adr_add (a : Addr) (m n : Nat) : (a.add m).add n = a.add (m + n) := by
 unfold Addr.add
 by_cases hm : m = 0 <;> by_cases hn : n = 0 <;> simp [hm,hn,Nat.add_assoc]
theorem call_turnsS {P : Program} {f : Nat} {args : List Value} {B : Nat} {w : World} {bs : List Nat} {S : Nat → Prop} {Q : World → Value → World → Prop} {K : Value → World → Prop} (hB : B ≤ w.heap.size)
   (hS : ∀ k,S k → ∃ c t f,w.heap[k]? = some (Obj.cells c t f)) (hc : ∀ w1,Ext B w w1 → Turns P f args w1 S (Q w1))
   (hk : ∀ w1 v w2 w',w.heap.size ≤ w1.heap.size → Q w1 v w2 → (∀ k,S k ∨ w1.heap.size ≤ k → w'.heap[k]? = w2.heap[k]?) → ExtS B S w w' → K v w') : CallK P f args B w bs K := by
 refine call_turns hB hS hc fun w1 v w2 w' hs he hch hQ hSS hnew hrow hlow hos ht ho hsz => ?_
 exact hk w1 v w2 w' hs hQ (fun k h => h.elim (hSS k) (hnew k)) ⟨hos,ht,ho,Nat.le_trans hs hsz,hrow,hlow⟩
theorem call_yieldsX {P : Program} {f : Nat} {args : List Value} {B : Nat} {w : World} {bs : List Nat} {Q : World → Value → World → Prop} {K : Value → World → Prop} (hB : B ≤ w.heap.size)
   (hc : ∀ w1,Ext B w w1 → Yields P f args w1 (Q w1)) (hk : ∀ w1 v w2 w',w.heap.size ≤ w1.heap.size → Q w1 v w2 → (∀ k,w1.heap.size ≤ k → w'.heap[k]? = w2.heap[k]?) → Ext B w w' → K v w') : CallK P f args B w bs K := by
 refine call_turnsS (S := fun _ => False) (Q := Q) hB (fun k h => h.elim) (fun w1 e1 => ?_) fun w1 v w2 w' hs hQ hsame he => hk w1 v w2 w' hs hQ (fun k h => hsame k (.inr h)) he.none
 exact Calls.mono (hc w1 e1) fun e w' ⟨v,he,hq,hb⟩ => ⟨v,he,hq,hb.os,hb.tape,hb.output,hb.size,fun k hk _ => hb.block k hk⟩
theorem call_givesX {P : Program} {f : Nat} {args : List Value} {B : Nat} {w : World} {bs : List Nat} {v : Value} {K : Value → World → Prop} (hB : B ≤ w.heap.size)
   (hc : ∀ w1,Ext B w w1 → Gives P f args w1 v) (hk : ∀ w',Ext B w w' → K v w') : CallK P f args B w bs K :=
 call_yieldsX (Q := fun _ u _ => u = v) hB (fun w1 e1 => Calls.mono (hc w1 e1) fun e w' ⟨he,hb⟩ => ⟨v,he,rfl,hb⟩) fun w1 u w2 w' _ hQ _ he => by subst hQ; exact hk w' he
def off (g : Nat) (w : World) : World := mask1 w g
def newW (B : Nat) (w : World) : World := mask w (List.range B)
theorem newW_cell {B : Nat} {w : World} {q : Addr} {v : Value} : (newW B w).cell? q = some v ↔ w.cell? q = some v ∧ B ≤ q.block := by
 have hm := mask_msk (List.range B) w
 by_cases h : B ≤ q.block
 · have : (newW B w).cell? q = w.cell? q := cell_same (hm.block q.block (fun hk => by have := List.mem_range.1 hk; omega))
   rw [this]
   exact ⟨fun hc => ⟨hc,h⟩,fun hc => hc.1⟩
 · constructor
   · intro hc
     obtain ⟨c,t,f,hb⟩ := cell_block hc
     exact absurd hb (hm.hid q.block (List.mem_range.2 (by omega)) c t f)
   · intro hc; exact absurd hc.2 h
theorem newW_keep {B B' : Nat} {w w' : World} (hB : B' ≤ B) (h : ∀ q v,w.cell? q = some v → w'.cell? q = some v) : ∀ q v,(newW B w).cell? q = some v → (newW B' w').cell? q = some v := fun q v hq => by
 obtain ⟨h1,h2⟩ := newW_cell.1 hq
 exact newW_cell.2 ⟨h q v h1,Nat.le_trans hB h2⟩
theorem owns_empty {w : World} {B g size : Nat} {e : TypeId} (hg : w.heap[g]? = some (.cells ⟨[]⟩ e (0,0))) (hb : B ≤ g) : w.ownsRow B e size (.slice (some ⟨g,0,none⟩) 0 0) 0 [] :=
 ⟨by simp,.inr ⟨g,0,⟨[]⟩,rfl,hb,hg,Nat.le_refl _,Nat.zero_le _,by simp,by simp⟩⟩
theorem alloc1 {B : Nat} {w w1 : World} (o : Obj) (h1 : Ext B w w1) (hB : B ≤ w.heap.size) : Ext B w (w1.alloc o) ∧ (w1.alloc o).heap[w1.heap.size]? = some o :=
 ⟨h1.alloc hB o,alloc_new w1 o⟩
theorem owns_slice0 {w : World} {B : Nat} {e : TypeId} {size : Nat} {v : Value} {n : Nat} {xs : List Value} (h : w.ownsRow B e size v n xs) : ∃ A c,v = .slice A n c := by
 rcases h.2 with ⟨rfl,rfl⟩ | ⟨g,cap,cur,rfl,_⟩
 · exact ⟨none,0,rfl⟩
 · exact ⟨_,cap,rfl⟩
theorem nums_cells {k : IntKind} {w : World} {a : Addr} {l : Nat} {xs : List Int} (h : Nums k w (some a) l xs) (j : Nat) (u : Value) (hj : (xs.map (.int k))[j]? = some u) : w.cell? (a.add j) = some u := by
 rw [List.getElem?_map] at hj
 obtain ⟨n,hn,rfl⟩ := Option.map_eq_some_iff.1 hj
 obtain ⟨p,hp,he⟩ := h.get j n hn
 cases hp
 simpa [NumE] using he
theorem append_nums {P : Program} {B b0 : Nat} {w : World} {bs : List Nat} {t ty e : TypeId} {i : TypeInfo} {k : IntKind} {bytes : Nat} {K : Value → World → Prop} (ht : P.underlying t = some (.slice e)) (hi : P.info? e = some i) (hz : i.zero = some (.int k 0))
   (hsize : i.size = 1) (hby : i.bytes = bytes) (hb8 : bytes ≤ 8) {v : Value} {n : Nat} {xs : List Int} (hown : w.ownsRow b0 e 1 v n (xs.map (.int k)))
   {a : Addr} {m c : Nat} {ys : List Int} (hy : Nums k w (some a) m ys) (hnm : n + m ≤ 17592186044416) (hB : B ≤ w.heap.size) (hb0 : b0 ≤ w.heap.size)
   (hk : ∀ v' w',ExtS B (fun k => v.ownBlock = some k) w w' → w'.ownsRow b0 e 1 v' (n + m) ((xs ++ ys).map (.int k)) → (∀ g,v'.ownBlock = some g → v.ownBlock = some g ∨ w.heap.size ≤ g) → K v' w') :
   RunK P (Builtin.append_ #[t,t] ty ⟨[v,.slice (some a) m c]⟩) B w bs K := by
 refine append_own (z := .int k 0) (size := 1) (bytes := bytes) ht hi hz hsize hby rfl (by omega) hown (news := ys.map (.int k)) (by simp [hy.len]) (nums_cells hy) (fun u hu => ?_) (by simp only [maxLen]; omega) ?_ hB hb0 fun v' w' he ho hn => ?_
 · obtain ⟨x,_,rfl⟩ := List.mem_map.1 hu; rfl
 · exact Nat.le_trans (Nat.mul_le_mul_left _ hb8) (by omega)
 · rw [← List.map_append] at ho
   exact hk v' w' he ho hn
structure BytesAt (w : World) (A : Option Addr) (l c : Nat) (ns : List Int) : Prop where
 nums : Nums .u8 w A l ns
 byte : ∀ n ∈ ns,0 ≤ n ∧ n < 256
 cap : l ≤ c
theorem BytesAt.keep {w w' : World} {A : Option Addr} {l c : Nat} {ns : List Int} (h : BytesAt w A l c ns) (hw : ∀ q v,w.cell? q = some v → w'.cell? q = some v) : BytesAt w' A l c ns := ⟨RowAt.keep (NumE.kept _) h.nums hw,h.byte,h.cap⟩
end Go.Proofs.YtidcpndlloppdaaGreat
set_option linter.unusedVariables false
set_option linter.unusedSimpArgs false
namespace Go.Proofs.YtidcpndlloppdaaGreat
open Go.RowKit
end Go.Proofs.YtidcpndlloppdaaGreat
