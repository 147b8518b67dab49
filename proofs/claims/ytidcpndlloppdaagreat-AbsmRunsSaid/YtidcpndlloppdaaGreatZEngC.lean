import Derived.Orders
import Derived.Scope
import Derived.KernelRfl
import Derived.Laws.World
import Derived.Laws.StructEq
import Derived.Laws.Externs
/-
 Nothing of the program stands here: a predicate transformer over the loaded code of any Go function (wpf),and its proof against Calls (wpf_sound).
 Conditions: none.
-/
set_option linter.unusedVariables false
set_option linter.unusedSimpArgs false
namespace Go.Proofs.YtidcpndlloppdaaGreat
structure Chg (S : Nat → Prop) (w w' : World) : Prop where
 os : w'.os = w.os
 tape : w'.tape = w.tape
 output : w'.output = w.output
 size : w.heap.size ≤ w'.heap.size
 block : ∀ k,k < w.heap.size → ¬ S k → w'.heap[k]? = w.heap[k]?
theorem Chg.refl (S : Nat → Prop) (w : World) : Chg S w w := ⟨rfl,rfl,rfl,Nat.le_refl _,fun _ _ _ => rfl⟩
theorem Chg.trans {S T : Nat → Prop} {a b c : World} (h : Chg S a b) (k : Chg T b c) (hT : ∀ i,i < a.heap.size → T i → S i) : Chg S a c :=
 ⟨k.os.trans h.os,k.tape.trans h.tape,k.output.trans h.output,Nat.le_trans h.size k.size,
  fun i hi hS => (k.block i (Nat.lt_of_lt_of_le hi h.size) (fun ht => hS (hT i hi ht))).trans (h.block i hi hS)⟩
theorem lt_of_some {w : World} {k : Nat} {o : Obj} (h : w.heap[k]? = some o) : k < w.heap.size := (Array.getElem?_eq_some_iff.1 h).1
theorem cell_lt {w : World} {a : Addr} {v : Value} (h : w.cell? a = some v) : a.block < w.heap.size := by
 unfold World.cell? at h
 split at h
 · rename_i hb; exact lt_of_some hb
 · cases h
theorem cell_same {w w' : World} {a : Addr} (h : w'.heap[a.block]? = w.heap[a.block]?) : w'.cell? a = w.cell? a := by
 unfold World.cell?; rw [h]
theorem frozen_same {w w' : World} {a : Addr} (h : w'.heap[a.block]? = w.heap[a.block]?) : w'.frozen? a = w.frozen? a := by
 unfold World.frozen?; rw [h]
theorem setCell_heap (w : World) (a : Addr) (v : Value) (k : Nat) (h : k ≠ a.block) : (w.setCell a v).heap[k]? = w.heap[k]? := by
 simp only [World.setCell,Array.getElem?_modify]
 rw [if_neg (by omega)]
theorem setCell_heap_congr {w w' : World} (a : Addr) (v : Value) (k : Nat) (h : w'.heap[k]? = w.heap[k]?) : (w'.setCell a v).heap[k]? = (w.setCell a v).heap[k]? := by
 simp only [World.setCell,Array.getElem?_modify]
 split
 · rw [h]
 · exact h
theorem Chg.setCell {S : Nat → Prop} {w w' : World} (h : Chg S w w') {a : Addr} (v : Value) (hS : a.block < w.heap.size → S a.block) : Chg S w (w'.setCell a v) :=
 ⟨h.os,h.tape,h.output,by simpa using h.size,fun k hk hn => (setCell_heap w' a v k (fun e => by subst e; exact hn (hS hk))).trans (h.block k hk hn)⟩
structure Ext (B : Nat) (w w' : World) : Prop where
 os : w'.os = w.os
 tape : w'.tape = w.tape
 output : w'.output = w.output
 size : w.heap.size ≤ w'.heap.size
 row : ∀ (k : Nat) (c : Array Value) (t : TypeId) (f : Nat × Nat),w.heap[k]? = some (Obj.cells c t f) → w'.heap[k]? = some (Obj.cells c t f)
 low : ∀ k,k < B → w'.heap[k]? = w.heap[k]?
theorem Ext.refl (B : Nat) (w : World) : Ext B w w := ⟨rfl,rfl,rfl,Nat.le_refl _,fun _ _ _ _ h => h,fun _ _ => rfl⟩
theorem Ext.trans {B : Nat} {a b c : World} (h : Ext B a b) (k : Ext B b c) : Ext B a c :=
 ⟨k.os.trans h.os,k.tape.trans h.tape,k.output.trans h.output,Nat.le_trans h.size k.size,fun i x t f hi => k.row i x t f (h.row i x t f hi),fun i hi => (k.low i hi).trans (h.low i hi)⟩
theorem cell_block {w : World} {a : Addr} {v : Value} (h : w.cell? a = some v) : ∃ c t f,w.heap[a.block]? = some (.cells c t f) := by
 unfold World.cell? at h
 split at h
 · rename_i c t f hb; exact ⟨c,t,f,hb⟩
 · cases h
theorem Ext.same {B : Nat} {w w' : World} (h : Ext B w w') {a : Addr} {v : Value} (hc : w.cell? a = some v) : w'.heap[a.block]? = w.heap[a.block]? := by
 obtain ⟨c,t,f,hb⟩ := cell_block hc
 rw [hb,h.row _ _ _ _ hb]
theorem Ext.cell {B : Nat} {w w' : World} (h : Ext B w w') {a : Addr} {v : Value} (hc : w.cell? a = some v) : w'.cell? a = some v := (cell_same (h.same hc)).trans hc
theorem Ext.alloc {B : Nat} {w w' : World} (h : Ext B w w') (hB : B ≤ w.heap.size) (o : Obj) : Ext B w (w'.alloc o) :=
 ⟨h.os,h.tape,h.output,by simp; exact Nat.le_succ_of_le h.size,fun k c t f hk => by
   rw [← h.row k c t f hk]; show (w'.heap.push o)[k]? = _
   rw [Array.getElem?_push,if_neg (by have := lt_of_some hk; have := h.size; omega)],fun k hk => by
   rw [← h.low k hk]; show (w'.heap.push o)[k]? = _
   rw [Array.getElem?_push,if_neg (by have := h.size; omega)]⟩
theorem Ext.setCell {B : Nat} {w w' : World} (h : Ext B w w') {a : Addr} {u : Value} (hc : w.cell? a = some u) (v : Value) : Ext B (w.setCell a v) (w'.setCell a v) := by
 refine ⟨h.os,h.tape,h.output,by simpa using h.size,fun k c t f hk => ?_,fun k hk => setCell_heap_congr a v k (h.low k hk)⟩
 by_cases hka : k = a.block
 · subst hka
   rw [setCell_heap_congr a v _ (h.same hc)]
   exact hk
 · rw [setCell_heap _ _ _ _ hka] at hk ⊢
   exact h.row k c t f hk
def NC (w : World) (k : Nat) : Prop := ∀ (c : Array Value) (t : TypeId) (f : Nat × Nat),w.heap[k]? ≠ some (Obj.cells c t f)
theorem NC.ne {w : World} {k i : Nat} {c : Array Value} {t : TypeId} {f : Nat × Nat} (h : NC w k) (hi : w.heap[i]? = some (.cells c t f)) : i ≠ k := fun e => by
 subst e; exact h _ _ _ hi
inductive SV where
 | v (x : Value)
 | bx (k : Nat) (off : Nat)
structure Bx where
 blk : Nat
 ty : TypeId
 cells : List Value
abbrev Env := List (Nat × SV)
abbrev Bxs := List (Nat × Bx)
def look {α : Type} : List (Nat × α) → Nat → Option α
 | [],_ => none
 | (j,x) :: r,i => match Nat.beq i j with
   | true => some x
   | false => look r i
theorem look_cons {α : Type} (j : Nat) (x : α) (r : List (Nat × α)) (i : Nat) : look ((j,x) :: r) i = if i = j then some x else look r i := by
 show (match Nat.beq i j with | true => some x | false => look r i) = _
 cases h : Nat.beq i j
 · rw [if_neg (Nat.ne_of_beq_eq_false h)]
 · rw [if_pos (Nat.eq_of_beq_eq_true h)]
def den (b : Bxs) : SV → Option Value
 | .v x => some x
 | .bx k off => (look b k).map fun x => .pointer (some ⟨x.blk,off,none⟩)
structure Fr where
 n : Nat
 B : Nat
structure Rep (n : Fr) (e : Env) (b : Bxs) (w : World) (a : Act) (W : World) : Prop where
 size : a.tmps.size = n.n
 nodef : a.defers = []
 slots : ∀ i sv,look e i = some sv → den b sv = some (a.tmps.getD i undef)
 pad : Ext n.B w W
 base : n.B ≤ w.heap.size
 lo : ∀ k x,look b k = some x → n.B ≤ x.blk
 boxes : ∀ k x,look b k = some x → W.heap[x.blk]? = some (.cells x.cells.toArray x.ty (0,0))
 hid : ∀ k x,look b k = some x → NC w x.blk
 keys : (b.map Prod.fst).Nodup
 apart : ∀ k x k' x',look b k = some x → look b k' = some x' → k ≠ k' → x.blk ≠ x'.blk
abbrev Kont := Env → Bxs → World → Prop
def ev (e : Env) : Operand → Option SV
 | .tmp t => look e t
 | .const v => some (.v v)
 | .global g => some (.v (.pointer (some ⟨g,0,none⟩)))
 | .func f => some (.v (.func (.func f) #[] #[]))
theorem ev_den {n : Fr} {e : Env} {b : Bxs} {w W : World} {a : Act} (h : Rep n e b w a W) {x : Operand} {sv : SV} (hx : ev e x = some sv) : den b sv = some (a.eval x) := by
 cases x with
 | tmp t => exact h.slots t sv hx
 | const v => cases hx; rfl
 | global g => cases hx; rfl
 | func f => cases hx; rfl
theorem ev_val {n : Fr} {e : Env} {b : Bxs} {w W : World} {a : Act} (h : Rep n e b w a W) {x : Operand} {v : Value} (hx : ev e x = some (.v v)) : a.eval x = v := by
 have := ev_den h hx
 simpa [den] using this.symm
def putK (n : Fr) (d : Option Nat) (sv : SV) (e : Env) (K : Env → Prop) : Prop :=
 match d with
 | none => K e
 | some t => match Nat.blt t n.n with
   | true => K ((t,sv) :: e)
   | false => False
theorem Rep.put {n : Fr} {e : Env} {b : Bxs} {w W : World} {a : Act} (h : Rep n e b w a W) {t : Nat} (ht : t < n.n) {sv : SV} {v : Value} (hv : den b sv = some v) : Rep n ((t,sv) :: e) b w (a.put (some t) v) W := by
 refine ⟨by simpa [Act.put] using h.size,h.nodef, ?_,h.pad,h.base,h.lo,h.boxes,h.hid,h.keys,h.apart⟩
 intro i sv' hi
 rw [look_cons] at hi
 by_cases hit : i = t
 · subst hit
   rw [if_pos rfl] at hi
   cases hi
   have : (a.tmps.setIfInBounds i v).getD i undef = v := by
     have hlt : i < a.tmps.size := by rw [h.size]; exact ht
     simp [hlt]
   simp only [Act.put,this]
   exact hv
 · rw [if_neg hit] at hi
   have : (a.tmps.setIfInBounds t v).getD i undef = a.tmps.getD i undef := by
     simp [Array.getElem?_setIfInBounds_ne (Ne.symm hit)]
   simp only [Act.put,this]
   exact h.slots i sv' hi
theorem Rep.putK {n : Fr} {e : Env} {b : Bxs} {w W : World} {a : Act} (h : Rep n e b w a W) {d : Option Nat} {sv : SV} {v : Value} (hv : den b sv = some v) {K : Env → Prop} (hk : putK n d sv e K) :
   ∃ e',K e' ∧ Rep n e' b w (a.put d v) W := by
 cases d with
 | none => exact ⟨e,hk,h⟩
 | some t =>
   simp only [YtidcpndlloppdaaGreat.putK] at hk
   cases ht : Nat.blt t n.n with
   | false => rw [ht] at hk; exact hk.elim
   | true =>
     rw [ht] at hk
     exact ⟨_,hk,h.put (Nat.le_of_ble_eq_true ht) hv⟩
def still {α : Type} (P : Program) : Sem α → Option α
 | .pure a => some a
 | .program k => still P (k P)
 | _ => none
theorem still_run {α : Type} {P : Program} {s : Sem α} {x : α} (h : still P s = some x) (w : World) : s.run P w = .ok x w := by
 induction s with
 | pure a => cases h; rfl
 | program k ih => exact ih P h
 | _ => cases h
def forceL : List Value → (List Value → Prop) → Prop
 | [],K => K []
 | x :: r,K => forceL r fun l => K (x :: l)
theorem forceL_iff (l : List Value) (K : List Value → Prop) : forceL l K ↔ K l := by
 induction l generalizing K with
 | nil => exact Iff.rfl
 | cons x r ih => exact ih _
def force : Value → (Value → Prop) → Prop
 | .agg ⟨l⟩,K => forceL l fun l => K (.agg ⟨l⟩)
 | .tuple ⟨l⟩,K => forceL l fun l => K (.tuple ⟨l⟩)
 | .int k n,K => K (.int k n)
 | .bool b,K => K (.bool b)
 | .slice a l c,K => K (.slice a l c)
 | .pointer none,K => K (.pointer none)
 | .pointer (some a),K => K (.pointer (some a))
 | .string s,K => K (.string s)
 | .float k n,K => K (.float k n)
 | .func f x y,K => K (.func f x y)
 | .iface t v,K => K (.iface t v)
 | .nilIface,K => K .nilIface
 | .nilFunc,K => K .nilFunc
 | .complex k a b,K => K (.complex k a b)
 | .map r,K => K (.map r)
 | .chan r,K => K (.chan r)
theorem force_iff (v : Value) (K : Value → Prop) : force v K ↔ K v := by
 cases v with
 | agg cs => obtain ⟨l⟩ := cs; exact forceL_iff l _
 | tuple cs => obtain ⟨l⟩ := cs; exact forceL_iff l _
 | pointer p => cases p <;> exact Iff.rfl
 | _ => exact Iff.rfl
def rho (e : Env) (x : Operand) : Value :=
 match ev e x with
 | some (.v v) => v
 | _ => undef
def known (e : Env) : List Operand → Bool
 | [] => true
 | x :: r => match ev e x with
   | some (.v _) => known e r
   | _ => false
theorem known_mem {e : Env} : ∀ {l : List Operand},known e l = true → ∀ x ∈ l,∃ v,ev e x = some (.v v)
 | [],_,x,hx => by cases hx
 | y :: r,h,x,hx => by
   unfold known at h
   split at h
   · rename_i v hv
     rcases List.mem_cons.1 hx with rfl | hx
     · exact ⟨v,hv⟩
     · exact known_mem h x hx
   · cases h
theorem rho_eval {n : Fr} {e : Env} {b : Bxs} {w W : World} {a : Act} (h : Rep n e b w a W) {l : List Operand} (hk : known e l = true) : ∀ x ∈ l,a.eval x = rho e x := fun x hx => by
 obtain ⟨v,hv⟩ := known_mem hk x hx
 rw [ev_val h hv,rho,hv]
def Does (P : Program) (o : Oper) (a : Act) (W : World) (n : Fr) (K : Kont) : Prop :=
 ∀ (Q : Exit → Act → World → Prop) (next : Act → World → Prop),(∀ e b w a' W',K e b w → Rep n e b w a' W' → next a' W') → o.wp P a W next Q
theorem does_value {P : Program} {o : Oper} {a : Act} {W W' : World} {n : Fr} {K : Kont} {v : Value} (hr : (execOp a.eval o).run P W = .ok (.value v) W')
   (h : ∃ e b w,K e b w ∧ Rep n e b w (a.put o.dst v) W') : Does P o a W n K := by
 intro Q next hn
 obtain ⟨e,b,w,hK,hR⟩ := h
 simp only [Oper.wp,hr,Oper.upon]
 exact hn e b w _ _ hK hR
theorem does_skip {P : Program} {o : Oper} {a : Act} {W W' : World} {n : Fr} {K : Kont} (hr : (execOp a.eval o).run P W = .ok .skip W')
   (h : ∃ e b w,K e b w ∧ Rep n e b w (a.put o.dst undef) W') : Does P o a W n K := by
 intro Q next hn
 obtain ⟨e,b,w,hK,hR⟩ := h
 simp only [Oper.wp,hr,Oper.upon]
 exact hn e b w _ _ hK hR
def blks (b : Bxs) : List Nat := b.map fun x => x.2.blk
theorem look_mem {α : Type} {l : List (Nat × α)} {i : Nat} {x : α} (h : look l i = some x) : (i,x) ∈ l := by
 induction l with
 | nil => cases h
 | cons y r ih =>
   obtain ⟨j,z⟩ := y
   rw [look_cons] at h
   split at h
   · rename_i hij; cases h; subst hij; exact List.mem_cons_self
   · exact List.mem_cons_of_mem _ (ih h)
theorem look_blks {b : Bxs} {k : Nat} {x : Bx} (h : look b k = some x) : x.blk ∈ blks b := List.mem_map.2 ⟨_,look_mem h,rfl⟩
def Expo (B : Nat) (w : World) (bs : List Nat) (F : World → Prop) : Prop := ∀ w1,Ext B w w1 → (∀ x,x ∈ bs → x < w1.heap.size ∧ NC w x ∧ B ≤ x) → F w1
structure Kept (bs : List Nat) (w w' : World) : Prop where
 size : w.heap.size ≤ w'.heap.size
 block : ∀ x,x ∈ bs → w'.heap[x]? = w.heap[x]?
structure Msk (bs : List Nat) (w w' : World) : Prop where
 os : w'.os = w.os
 tape : w'.tape = w.tape
 output : w'.output = w.output
 size : w'.heap.size = w.heap.size
 block : ∀ k,k ∉ bs → w'.heap[k]? = w.heap[k]?
 hid : ∀ k,k ∈ bs → NC w' k
def Hide (bs : List Nat) (w : World) (K : World → Prop) : Prop :=
 match bs with
 | [] => K w
 | _ :: _ => ∀ w',Msk bs w w' → K w'
def mask1 (w : World) (k : Nat) : World := { w with heap := w.heap.setIfInBounds k (.map #[] 0) }
def mask (w : World) : List Nat → World
 | [] => w
 | k :: r => mask (mask1 w k) r
theorem mask1_ne (w : World) {k i : Nat} (h : i ≠ k) : (mask1 w k).heap[i]? = w.heap[i]? := by simp [mask1,Array.getElem?_setIfInBounds_ne (Ne.symm h)]
theorem mask1_nc (w : World) (k : Nat) : NC (mask1 w k) k := by
 intro c t f h
 simp only [mask1,Array.getElem?_setIfInBounds_self] at h
 split at h <;> cases h
theorem mask1_keeps {w : World} {k i : Nat} (h : NC w i) : NC (mask1 w k) i := by
 by_cases hik : i = k
 · subst hik; exact mask1_nc w i
 · intro c t f; rw [mask1_ne w hik]; exact h c t f
theorem mask_keeps {i : Nat} : ∀ (bs : List Nat) {w : World},NC w i → NC (mask w bs) i
 | [],w,h => h
 | k :: r,w,h => mask_keeps r (mask1_keeps h)
theorem mask_msk : ∀ (bs : List Nat) (w : World),Msk bs w (mask w bs)
 | [],w => ⟨rfl,rfl,rfl,rfl,fun _ _ => rfl,fun k hk => by cases hk⟩
 | b :: r,w => by
   have h := mask_msk r (mask1 w b)
   refine ⟨h.os,h.tape,h.output,h.size.trans (by simp [mask1]),fun k hk => ?_,fun k hk => ?_⟩
   · rw [List.mem_cons,not_or] at hk
     exact (h.block k hk.2).trans (mask1_ne w hk.1)
   · rcases List.mem_cons.1 hk with rfl | hk
     · exact mask_keeps r (mask1_nc w k)
     · exact h.hid k hk
theorem Msk.ext {B : Nat} {bs : List Nat} {w w' : World} (h : Msk bs w w') (hB : ∀ x ∈ bs,B ≤ x) : Ext B w' w :=
 ⟨h.os.symm,h.tape.symm,h.output.symm,Nat.le_of_eq h.size,fun k c t f hk => by
   by_cases hb : k ∈ bs
   · exact absurd hk (h.hid k hb c t f)
   · rw [← h.block k hb]; exact hk,fun k hk => (h.block k (fun hb => by have := hB k hb; omega)).symm⟩
theorem hide_spec {bs : List Nat} {w : World} {K : World → Prop} (h : Hide bs w K) : ∃ w',Msk bs w w' ∧ K w' := by
 cases bs with
 | nil => exact ⟨w,mask_msk [] w,h⟩
 | cons b r => exact ⟨_,mask_msk _ w,h _ (mask_msk _ w)⟩
def CallK (P : Program) (f : Nat) (args : List Value) (B : Nat) (w : World) (bs : List Nat) (K : Value → World → Prop) : Prop :=
 Expo B w bs fun w1 => Calls P f ⟨args⟩ w1 fun e w2 => ∃ v,e = .returned v ∧ Kept bs w1 w2 ∧ Hide bs w2 (K v)
def RunK {α : Type} (P : Program) (s : Sem α) (B : Nat) (w : World) (bs : List Nat) (K : α → World → Prop) : Prop :=
 Expo B w bs fun w1 => ∃ v w2,s.run P w1 = .ok v w2 ∧ Kept bs w1 w2 ∧ Hide bs w2 (K v)
inductive Sc where
 | int (k : IntKind)
 | bool
 | str
 | ptr
 | slice
 | float (k : FloatKind)
 | any
inductive Sh where
 | one (s : Sc)
 | agg (l : List Sc)
def caseP (p : Option Addr) (X : Prop) (Y : Addr → Prop) : Prop :=
 match p with
 | none => X
 | some a => Y a
def exS (s : Sc) (o : Option Value) (K : Value → Prop) : Prop :=
 match s with
 | .int k => ∃ n : Int,o = some (.int k n) ∧ K (.int k n)
 | .bool => ∃ x : Bool,o = some (.bool x) ∧ K (.bool x)
 | .str => ∃ x : ByteArray,o = some (.string x) ∧ K (.string x)
 | .ptr => ∃ p : Option Addr,o = some (.pointer p) ∧ caseP p (K (.pointer none)) fun a => K (.pointer (some a))
 | .slice => ∃ (A : Option Addr) (l c : Nat),o = some (.slice A l c) ∧ K (.slice A l c)
 | .float k => ∃ n : Nat,o = some (.float k n) ∧ K (.float k n)
 | .any => ∃ v : Value,o = some v ∧ K v
theorem exS_spec {s : Sc} {o : Option Value} {K : Value → Prop} (h : exS s o K) : ∃ v,o = some v ∧ K v := by
 cases s with
 | ptr =>
   obtain ⟨p,hp,hk⟩ := h
   cases p with
   | none => exact ⟨_,hp,hk⟩
   | some a => exact ⟨_,hp,hk⟩
 | slice =>
   obtain ⟨A,l,c,hp,hk⟩ := h
   exact ⟨_,hp,hk⟩
 | _ =>
   obtain ⟨n,hp,hk⟩ := h
   exact ⟨_,hp,hk⟩
def exV (s : Sc) (K : Value → Prop) : Prop :=
 match s with
 | .int k => ∃ n : Int,K (.int k n)
 | .bool => ∃ x : Bool,K (.bool x)
 | .str => ∃ x : ByteArray,K (.string x)
 | .ptr => ∃ p : Option Addr,K (.pointer p)
 | .slice => ∃ (A : Option Addr) (l c : Nat),K (.slice A l c)
 | .float k => ∃ n : Nat,K (.float k n)
 | .any => ∃ v : Value,K v
theorem exV_spec {s : Sc} {K : Value → Prop} (h : exV s K) : ∃ v,K v := by
 cases s with
 | slice => obtain ⟨A,l,c,hk⟩ := h; exact ⟨_,hk⟩
 | _ => obtain ⟨n,hk⟩ := h; exact ⟨_,hk⟩
def exL : List Sc → (List Value → Prop) → Prop
 | [],K => K []
 | s :: r,K => exV s fun v => exL r fun l => K (v :: l)
theorem exL_spec : ∀ {l : List Sc} {K : List Value → Prop},exL l K → ∃ vs,K vs
 | [],K,h => ⟨[],h⟩
 | s :: r,K,h => by
   obtain ⟨v,hv⟩ := exV_spec h
   obtain ⟨vs,hvs⟩ := exL_spec hv
   exact ⟨_,hvs⟩
def partV (v : Value) (K : Value → Prop) : Prop :=
 match v with
 | .pointer p => caseP p (K (.pointer none)) fun a => K (.pointer (some a))
 | v => K v
theorem partV_spec {v : Value} {K : Value → Prop} (h : partV v K) : K v := by
 cases v with
 | pointer p => cases p <;> exact h
 | _ => exact h
def partL : List Value → (List Value → Prop) → Prop
 | [],K => K []
 | v :: r,K => partV v fun v => partL r fun l => K (v :: l)
theorem partL_spec : ∀ {l : List Value} {K : List Value → Prop},partL l K → K l
 | [],K,h => h
 | v :: r,K,h => partL_spec (l := r) (partV_spec h)
def flat : List Sh → List Sc
 | [] => []
 | .one s :: r => s :: flat r
 | .agg l :: r => l ++ flat r
def gather : List Sh → List Value → List Value
 | [],_ => []
 | .one _ :: r,v :: vs => v :: gather r vs
 | .one _ :: _,[] => []
 | .agg l :: r,vs => takeK l.length vs fun c d => .agg ⟨c⟩ :: gather r d
where
 takeK {α : Type} : Nat → List Value → (List Value → List Value → α) → α
   | 0,vs,K => K [] vs
   | _ + 1,[],K => K [] []
   | n + 1,v :: vs,K => takeK n vs fun c d => K (v :: c) d
def results1 : List Value → Value
 | [v] => v
 | l => .tuple ⟨l⟩
def resK (shs : List Sh) (v : Value) (K : Value → Prop) : Prop :=
 exL (flat shs) fun cs => v = results1 (gather shs cs) ∧ partL cs fun cs => K (results1 (gather shs cs))
theorem resK_spec {shs : List Sh} {v : Value} {K : Value → Prop} (h : resK shs v K) : K v := by
 obtain ⟨cs,rfl,hk⟩ := exL_spec h
 exact partL_spec hk
def scOf (P : Program) (t : TypeId) : Option Sc :=
 match P.underlying t with
 | some (.int k) => some (.int k)
 | some .bool => some .bool
 | some .string => some .str
 | some (.pointer _) => some .ptr
 | some (.slice _) => some .slice
 | some (.float k) => some (.float k)
 | some (.func _ _ _) => some .any
 | some (.interface _) => some .any
 | some (.map _ _) => some .any
 | _ => none
def rep {α : Type} : Nat → List α → List α
 | 0,_ => []
 | n + 1,l => l ++ rep n l
def fieldsF (g : TypeId → Option (List Sc)) : List Field → Option (List Sc)
 | [] => some []
 | f :: r => match g f.type with
   | some l => (fieldsF g r).map (l ++ ·)
   | none => none
def scsOf (P : Program) : Nat → TypeId → Option (List Sc)
 | 0,_ => none
 | d + 1,t => match P.underlying t with
   | some (.struct fs) => fieldsF (scsOf P d) fs.toList
   | some (.array n e) => (scsOf P d e).map (rep n)
   | _ => (scOf P t).map fun s => [s]
def shOf (P : Program) (t : TypeId) : Option Sh :=
 match P.underlying t with
 | some (.struct _) => (scsOf P 8 t).map .agg
 | some (.array _ _) => (scsOf P 8 t).map .agg
 | _ => (scOf P t).map .one
def shsOf (P : Program) : List TypeId → Option (List Sh)
 | [] => some []
 | t :: r => match shOf P t with
   | some s => (shsOf P r).map (s :: ·)
   | none => none
def isAggB (P : Program) (t : TypeId) : Option Bool :=
 match P.underlying t with
 | some (.struct _) => some true
 | some (.array _ _) => some true
 | some _ => some false
 | none => none
theorem underlying_still {P : Program} {t : TypeId} {d : TypeDesc} (h : P.underlying t = some d) : still P (underlying t) = some d := by
 simp [underlying,program,bind,Sem.bind,still,h,pure]
theorem bind_still {α β : Type} {P : Program} {s : Sem α} {f : α → Sem β} {x : α} (h : still P s = some x) : still P (s >>= f) = still P (f x) := by
 show still P (s.bind f) = _
 induction s with
 | pure a => cases h; rfl
 | program k ih => exact ih P h
 | _ => cases h
theorem isAgg_run {P : Program} {t : TypeId} {x : Bool} (h : isAggB P t = some x) (w : World) : (isAgg t).run P w = .ok x w := by
 refine still_run ?_ w
 unfold isAggB at h
 cases hu : P.underlying t with
 | none => rw [hu] at h; cases h
 | some d =>
   rw [hu] at h
   unfold isAgg
   rw [bind_still (underlying_still hu)]
   cases d <;> cases h <;> rfl
def loadK (w : World) (a : Addr) : List Sc → Nat → (List Value → Prop) → Prop
 | [],_,K => K []
 | s :: r,i,K => exS s (w.cell? (a.add i)) fun v => loadK w a r (i + 1) fun l => K (v :: l)
theorem add_block (a : Addr) (i : Nat) : (a.add i).block = a.block := by unfold Addr.add; split <;> rfl
def isCell : Value → Bool
 | .agg _ => false
 | .tuple _ => false
 | _ => true
def storeK (w : World) (a : Addr) : List Value → Nat → (World → Prop) → Prop
 | [],_,K => K w
 | v :: r,i,K => match isCell v with
   | true => (∃ u,w.cell? (a.add i) = some u) ∧ w.frozen? (a.add i) = false ∧ storeK (w.setCell (a.add i) v) a r (i + 1) K
   | false => False
theorem run_store {P : Program} {W : World} {a : Addr} {v u : Value} {k : Sem Unit} (hv : isCell v = true) (hc : W.cell? a = some u) (hf : W.frozen? a = false) :
   (Sem.store .plain a v k).run P W = k.run P (W.setCell a v) := by
 cases v with
 | agg c => cases hv
 | tuple c => cases hv
 | _ => simp [Sem.run,hc,hf]
theorem storeK_spec {P : Program} {n : Fr} {e : Env} {b : Bxs} {act : Act} {a : Addr} : ∀ {l : List Value} {i : Nat} {w W : World} {K : World → Prop},Rep n e b w act W → storeK w a l i K →
   ∃ w' W',(storeCells a l i).run P W = .ok () W' ∧ K w' ∧ Rep n e b w' act W'
 | [],i,w,W,K,hR,h => ⟨w,W,by simp [storeCells,pure,Sem.run],h,hR⟩
 | v :: r,i,w,W,K,hR,h => by
   unfold storeK at h
   split at h
   · rename_i hv
     obtain ⟨⟨u,hc⟩,hf,hk⟩ := h
     obtain ⟨cs,ty,fr,hcb⟩ := cell_block hc
     have hC := Ext.cell hR.pad hc
     have hF : W.frozen? (a.add i) = false := (frozen_same (hR.pad.same hc)).trans hf
     have hR' : Rep n e b (w.setCell (a.add i) v) act (W.setCell (a.add i) v) := by
       refine ⟨hR.size,hR.nodef,hR.slots,hR.pad.setCell hc _,by simpa using hR.base,hR.lo, ?_, ?_,hR.keys,hR.apart⟩
       · intro k x hx
         rw [setCell_heap _ _ _ _ (NC.ne (hR.hid k x hx) hcb).symm]
         exact hR.boxes k x hx
       · intro k x hx c t f
         rw [setCell_heap _ _ _ _ (NC.ne (hR.hid k x hx) hcb).symm]
         exact hR.hid k x hx c t f
     obtain ⟨w',W',hr,hK,hR''⟩ := storeK_spec hR' hk
     refine ⟨w',W', ?_,hK,hR''⟩
     simp only [storeCells,store,bind,Sem.bind]
     rw [run_store hv hC hF]
     exact hr
   · exact h.elim
def cellsOfV : Value → List Value
 | .agg ⟨l⟩ => l
 | v => [v]
theorem cellsOfV_eq (v : Value) : cellsOfV v = v.cells.toList := by cases v <;> rfl
def takeAt (off m : Nat) (l : List Value) (K : List Value → Prop) : Prop := forceL ((l.drop off).take m) K
def splice : Nat → List Value → List Value → List Value
 | _,[],l => l
 | _,_ :: _,[] => []
 | 0,v :: vs,_ :: l => v :: splice 0 vs l
 | off + 1,vs,x :: l => x :: splice off vs l
structure Cfg where
 P : Program
 n : Fr
 real : List Nat
 calls : Nat → Bool
 eqs : Nat → Bool
 exts : Nat → Option (List Value → Sem Value)
def hasN : List Nat → Nat → Bool
 | [],_ => false
 | x :: r,i => match Nat.beq i x with
   | true => true
   | false => hasN r i
def fieldOff (P : Program) (t : TypeId) (f : Nat) : Option Nat :=
 match P.underlying t with
 | some (.struct fs) => match fs[f]? with
   | some fd => match P.info? fd.type with
     | some i => match Nat.beq i.size 0 with
       | true => none
       | false => some fd.offset
     | none => none
   | none => none
 | _ => none
def pureK (c : Cfg) (o : Oper) (e : Env) (K : Env → Prop) : Prop :=
 match known e o.op.operands.toList with
 | true => match still c.P (execOp (rho e) o) with
   | some (.value v) => force v fun v => putK c.n o.dst (.v v) e K
   | _ => False
 | false => False
def withV (e : Env) (x : Operand) (K : Value → Prop) : Prop :=
 match ev e x with
 | some (.v v) => K v
 | _ => False
def withVs (e : Env) : List Operand → (List Value → Prop) → Prop
 | [],K => K []
 | x :: r,K => withV e x fun v => withVs e r fun l => K (v :: l)
def sameK : IntKind → IntKind → Bool
 | .i8,.i8 => true
 | .i16,.i16 => true
 | .i32,.i32 => true
 | .i64,.i64 => true
 | .u8,.u8 => true
 | .u16,.u16 => true
 | .u32,.u32 => true
 | .u64,.u64 => true
 | _,_ => false
theorem sameK_eq {a b : IntKind} (h : sameK a b = true) : a = b := by cases a <;> cases b <;> first | rfl | cases h
def binK (c : Cfg) (o : Oper) (op : BinOp) (x y : Operand) (e : Env) (K : Env → Prop) : Prop :=
 match op with
 | .quo => withV e x fun vx => withV e y fun vy => match vx,vy with
   | .int k a,.int k' d => match sameK k k' with
     | true => d ≠ 0 ∧ putK c.n o.dst (.v (.int k (k.wrap (a.tdiv d)))) e K
     | false => False
   | _,_ => False
 | .rem => withV e x fun vx => withV e y fun vy => match vx,vy with
   | .int k a,.int k' d => match sameK k k' with
     | true => d ≠ 0 ∧ putK c.n o.dst (.v (.int k (a.tmod d))) e K
     | false => False
   | _,_ => False
 | .shl => withV e x fun vx => withV e y fun vy => match vx,vy with
   | .int k a,.int _ d => 0 ≤ d ∧ putK c.n o.dst (.v (.int k (k.wrap (a * 2 ^ min d.toNat k.bits)))) e K
   | _,_ => False
 | .shr => withV e x fun vx => withV e y fun vy => match vx,vy with
   | .int k a,.int _ d => 0 ≤ d ∧ putK c.n o.dst (.v (.int k (a.fdiv (2 ^ min d.toNat k.bits)))) e K
   | _,_ => False
 | .add => withV e x fun vx => withV e y fun vy => match vx,vy with
   | .string s,.string t => s.size + t.size ≤ 9223372036854775807 ∧ putK c.n o.dst (.v (.string (s ++ t))) e K
   | _,_ => pureK c o e K
 | _ => pureK c o e K
def fArith (P : Program) (t : TypeId) (op : BinOp) : Bool :=
 match op with
 | .add => fl
 | .sub => fl
 | .mul => fl
 | .quo => fl
 | _ => false
where
 fl : Bool := match P.underlying t with
   | some (.float _) => true
   | _ => false
def ValP (P : Program) (o : Oper) (a : Act) (W : World) (n : Fr) (b : Bxs) (w : World) (K : Kont) : Prop :=
 ∃ v e,(∀ W',(execOp a.eval o).run P W' = .ok (.value v) W') ∧ K e b w ∧ Rep n e b w (a.put o.dst v) W
theorem ValP.does {P : Program} {o : Oper} {a : Act} {W : World} {n : Fr} {b : Bxs} {w : World} {K : Kont} (h : ValP P o a W n b w K) : Does P o a W n K := by
 obtain ⟨v,e,hr,hK,hR⟩ := h
 exact does_value (hr W) ⟨e,b,w,hK,hR⟩
theorem val_mk {c : Cfg} {o : Oper} {e : Env} {b : Bxs} {w W : World} {a : Act} {K : Kont} {v : Value} (hR : Rep c.n e b w a W) (hr : ∀ W',(execOp a.eval o).run c.P W' = .ok (.value v) W')
   (h : putK c.n o.dst (.v v) e fun e => K e b w) : ValP c.P o a W c.n b w K := by
 obtain ⟨e',hK,hR'⟩ := hR.putK (sv := .v v) rfl h
 exact ⟨v,e',hr,hK,hR'⟩
theorem pureK_val {c : Cfg} {o : Oper} {e : Env} {b : Bxs} {w W : World} {a : Act} {K : Kont} (hR : Rep c.n e b w a W) (h : pureK c o e fun e => K e b w) (hs : ∀ cs x,o.op ≠ .select cs x) : ValP c.P o a W c.n b w K := by
 unfold pureK at h
 split at h
 · rename_i hk
   split at h
   · rename_i v hv
     rw [force_iff] at h
     obtain ⟨e',hK,hR'⟩ := hR.putK (sv := .v v) rfl h
     refine ⟨v,e',fun W' => ?_,hK,hR'⟩
     rw [execOp_congr o hs (fun x hx => rho_eval hR hk x (by simpa using hx))]
     exact still_run hv W' 
   · exact h.elim
 · exact h.elim
theorem withV_spec {n : Fr} {e : Env} {b : Bxs} {w W : World} {a : Act} (hR : Rep n e b w a W) {x : Operand} {K : Value → Prop} (h : withV e x K) : K (a.eval x) := by
 unfold withV at h
 split at h
 · rename_i v hv
   rw [ev_val hR hv]
   exact h
 · exact h.elim
theorem withVs_spec {n : Fr} {e : Env} {b : Bxs} {w W : World} {a : Act} (hR : Rep n e b w a W) : ∀ {l : List Operand} {K : List Value → Prop},withVs e l K → K (l.map a.eval)
 | [],K,h => h
 | x :: r,K,h => withVs_spec hR (l := r) (withV_spec hR h)
theorem binK_val {c : Cfg} {o : Oper} {op : BinOp} {t u : TypeId} {x y : Operand} {e : Env} {b : Bxs} {w W : World} {a : Act} {K : Kont} (ho : o.op = .binOp op t x y u) (hR : Rep c.n e b w a W)
   (h : binK c o op x y e fun e => K e b w) : ValP c.P o a W c.n b w K := by
 have hs : ∀ cs x,o.op ≠ .select cs x := fun cs x => by rw [ho]; simp
 unfold binK at h
 split at h
 all_goals first | exact pureK_val hR h hs | skip
 · replace h := withV_spec hR (withV_spec hR h)
   split at h
   · rename_i k p k' d hx hy
     split at h
     · rename_i hk
       obtain ⟨hd,h⟩ := h
       cases sameK_eq hk
       refine val_mk hR (fun W' => ?_) h
       simp [execOp,ho,hx,hy,eqGuard,binOp,Op.intDiv,hd]
     · exact h.elim
   · exact h.elim
 · replace h := withV_spec hR (withV_spec hR h)
   split at h
   · rename_i k p k' d hx hy
     split at h
     · rename_i hk
       obtain ⟨hd,h⟩ := h
       cases sameK_eq hk
       refine val_mk hR (fun W' => ?_) h
       simp [execOp,ho,hx,hy,eqGuard,binOp,Op.intDiv,hd]
     · exact h.elim
   · exact h.elim
 · replace h := withV_spec hR (withV_spec hR h)
   split at h
   · rename_i k p k' d hx hy
     obtain ⟨hd,h⟩ := h
     refine val_mk hR (fun W' => ?_) h
     simp [execOp,ho,hx,hy,eqGuard,binOp,Op.shift,Int.not_lt.2 hd]
   · exact h.elim
 · replace h := withV_spec hR (withV_spec hR h)
   split at h
   · rename_i k p k' d hx hy
     obtain ⟨hd,h⟩ := h
     refine val_mk hR (fun W' => ?_) h
     simp [execOp,ho,hx,hy,eqGuard,binOp,Op.shift,Int.not_lt.2 hd]
   · exact h.elim
 · replace h := withV_spec hR (withV_spec hR h)
   split at h
   · rename_i s t' hx hy
     obtain ⟨hd,h⟩ := h
     refine val_mk hR (fun W' => ?_) h
     have : ¬ ((s.size + t'.size : Nat) : Int) > IntKind.i64.max := by
       have : IntKind.i64.max = 9223372036854775807 := rfl
       omega
     simp only [execOp,ho,hx,hy,eqGuard,binOp,Op.stringOp]
     have h2 : ¬ (9223372036854775807 : Int) < (s.size : Int) + (t'.size : Int) := by omega
     simp [show IntKind.i64.max = 9223372036854775807 from rfl,h2]
   · exact pureK_val hR h hs
def moveK (c : Cfg) (o : Oper) (x : Operand) (e : Env) (K : Env → Prop) : Prop :=
 match ev e x with
 | some sv => putK c.n o.dst sv e K
 | none => False
theorem moveK_val {c : Cfg} {o : Oper} {x : Operand} {e : Env} {b : Bxs} {w W : World} {a : Act} {K : Kont} (hr : ∀ W',(execOp a.eval o).run c.P W' = .ok (.value (a.eval x)) W') (hR : Rep c.n e b w a W)
   (h : moveK c o x e fun e => K e b w) : ValP c.P o a W c.n b w K := by
 unfold moveK at h
 split at h
 · rename_i sv hv
   obtain ⟨e',hK,hR'⟩ := hR.putK (ev_den hR hv) h
   exact ⟨_,e',hr,hK,hR'⟩
 · exact h.elim
def nilK (c : Cfg) (o : Oper) (x : Operand) (e : Env) (K : Env → Prop) : Prop :=
 match ev e x with
 | some (.bx k f) => putK c.n o.dst (.bx k f) e K
 | some (.v (.pointer (some p))) => putK c.n o.dst (.v (.pointer (some p))) e K
 | _ => pureK c o e K
theorem nilK_val {c : Cfg} {o : Oper} {x : Operand} {e : Env} {b : Bxs} {w W : World} {a : Act} {K : Kont} (ho : o.op = .nilCheck x) (hR : Rep c.n e b w a W)
   (h : nilK c o x e fun e => K e b w) : ValP c.P o a W c.n b w K := by
 unfold nilK at h
 split at h
 · rename_i k f hv
   have hd := ev_den hR hv
   obtain ⟨e',hK,hR'⟩ := hR.putK hd h
   refine ⟨a.eval x,e',fun W' => ?_,hK,hR'⟩
   simp only [den,Option.map_eq_some_iff] at hd
   obtain ⟨y,_,hy⟩ := hd
   simp [execOp,ho, ← hy]
 · rename_i p hv
   refine val_mk hR (fun W' => ?_) h
   simp [execOp,ho,ev_val hR hv]
 · exact pureK_val hR h (fun cs x => by rw [ho]; simp)
def fieldK (c : Cfg) (o : Oper) (t : TypeId) (x : Operand) (f : Nat) (e : Env) (K : Env → Prop) : Prop :=
 match fieldOff c.P t f with
 | some off => match ev e x with
   | some (.bx k f) => putK c.n o.dst (.bx k (f + off)) e K
   | some (.v (.pointer (some p))) => putK c.n o.dst (.v (.pointer (some (p.add off)))) e K
   | _ => False
 | none => False
theorem fieldAt_run {P : Program} {t : TypeId} {f off : Nat} (h : fieldOff P t f = some off) (p : Addr) (W : World) : (Instr.fieldAt t (.pointer (some p)) f).run P W = .ok (.pointer (some (p.add off))) W := by
 unfold fieldOff at h
 split at h
 · rename_i fs hu
   split at h
   · rename_i fd hf
     split at h
     · rename_i i hi
       split at h
       · cases h
       · rename_i hz
         cases h
         have hz' : i.size ≠ 0 := Nat.ne_of_beq_eq_false hz
         simp [Instr.fieldAt,underlying,hu,hf,Instr.sureAddr,fieldPlace,sizeOf,typeInfo,hi,hz']
     · cases h
   · cases h
 · cases h
theorem bx_add (g f off : Nat) : (⟨g,f,none⟩ : Addr).add off = ⟨g,f + off,none⟩ := by
 unfold Addr.add
 split
 · rename_i h; subst h; rfl
 · rfl
theorem fieldK_val {c : Cfg} {o : Oper} {t : TypeId} {x : Operand} {f : Nat} {e : Env} {b : Bxs} {w W : World} {a : Act} {K : Kont} (ho : o.op = .fieldAddr t x f) (hR : Rep c.n e b w a W)
   (h : fieldK c o t x f e fun e => K e b w) : ValP c.P o a W c.n b w K := by
 unfold fieldK at h
 split at h
 · rename_i off hoff
   split at h
   · rename_i k f' hv
     have hd := ev_den hR hv
     simp only [den,Option.map_eq_some_iff] at hd
     obtain ⟨y,hl,hy⟩ := hd
     obtain ⟨e',hK,hR'⟩ := hR.putK (v := .pointer (some ⟨y.blk,f' + off,none⟩)) (by simp [den,hl]) h
     refine ⟨_,e',fun W' => ?_,hK,hR'⟩
     simp only [execOp,ho, ← hy,Sem.run_bind,fieldAt_run hoff,Result.andThen_ok,Sem.run_pure,bx_add]
   · rename_i p hv
     refine val_mk hR (fun W' => ?_) h
     simp only [execOp,ho,ev_val hR hv,Sem.run_bind,fieldAt_run hoff,Result.andThen_ok,Sem.run_pure]
   · exact h.elim
 · exact h.elim
def zipA (p : Addr) : Nat → List Value → List (Addr × Value)
 | _,[] => []
 | i,v :: r => (p.add i,v) :: zipA p (i + 1) r
def ldG (c : Cfg) (t : TypeId) (x : Operand) (e : Env) (b : Bxs) (w : World) (K : Value → List (Addr × Value) → Option Nat → Prop) : Prop :=
 match isAggB c.P t with
 | some true => match c.P.info? t with
   | some i => match ev e x with
     | some (.bx k off) => match look b k with
       | some bx => match Nat.ble (off + i.size) bx.cells.length with
         | true => takeAt off i.size bx.cells fun l => K (.agg ⟨l⟩) [] (some k)
         | false => False
       | none => False
     | some (.v (.pointer (some p))) => match scsOf c.P 8 t with
       | some l => match Nat.beq l.length i.size with
         | true => loadK w p l 0 fun vs => K (.agg ⟨vs⟩) (zipA p 0 vs) none
         | false => False
       | none => False
     | _ => False
   | none => False
 | some false => match ev e x with
   | some (.bx k off) => match look b k with
     | some bx => match bx.cells[off]? with
       | some v => force v fun v => K v [] (some k)
       | none => False
     | none => False
   | some (.v (.pointer (some p))) => match scOf c.P t with
     | some s => exS s (w.cell? p) fun v => K v [(p,v)] none
     | none => False
   | _ => False
 | none => False
def ldK (c : Cfg) (o : Oper) (t : TypeId) (x : Operand) (e : Env) (b : Bxs) (w : World) (K : Env → Prop) : Prop :=
 ldG c t x e b w fun v _ _ => putK c.n o.dst (.v v) e K
theorem drop_cons_get {l : List Value} {i : Nat} (h : i < l.length) : l.drop i = l[i] :: l.drop (i + 1) := List.drop_eq_getElem_cons h
theorem row_load {P : Program} {W : World} {g : Nat} {t : TypeId} {cells : List Value} (hb : W.heap[g]? = some (.cells cells.toArray t (0,0))) (off : Nat) : ∀ (m i : Nat) (acc : Array Value),off + i + m ≤ cells.length →
   (loadCellsFrom ⟨g,off,none⟩ i m acc).run P W = .ok (acc ++ ((cells.drop (off + i)).take m).toArray) W
 | 0,i,acc,h => by simp [loadCellsFrom]
 | m + 1,i,acc,h => by
   have hlt : off + i < cells.length := by omega
   have hc : W.cell? ((⟨g,off,none⟩ : Addr).add i) = some cells[off + i] := by
     rw [bx_add]
     simp [World.cell?,hb,hlt]
   have : acc ++ ((cells.drop (off + i)).take (m + 1)).toArray = acc.push cells[off + i] ++ ((cells.drop (off + (i + 1))).take m).toArray := by
     rw [drop_cons_get hlt]
     apply Array.toList_inj.1
     simp [Nat.add_assoc]
   rw [this, ← row_load (P := P) hb off m (i + 1) _ (by omega)]
   simp [loadCellsFrom,hc]
theorem loadCells_at {P : Program} {W : World} {a : Addr} : ∀ (vs : List Value) (i : Nat) (acc : Array Value),(∀ q u,(q,u) ∈ zipA a i vs → W.cell? q = some u) → (loadCellsFrom a i vs.length acc).run P W = .ok (acc ++ vs.toArray) W
 | [],i,acc,h => by simp [loadCellsFrom]
 | v :: r,i,acc,h => by
   have hc := h _ _ List.mem_cons_self
   have ih := loadCells_at (P := P) (W := W) (a := a) r (i + 1) (acc.push v) (fun q u hm => h q u (List.mem_cons_of_mem _ hm))
   have : acc ++ (v :: r).toArray = acc.push v ++ r.toArray := by
     apply Array.toList_inj.1
     simp
   rw [this, ← ih]
   simp only [List.length_cons,loadCellsFrom,load,bind,Sem.bind,Sem.run,hc]
theorem loadK_zip {w : World} {a : Addr} : ∀ {l : List Sc} {i : Nat} {K : List Value → Prop},loadK w a l i K → ∃ vs,vs.length = l.length ∧ (∀ q u,(q,u) ∈ zipA a i vs → w.cell? q = some u) ∧ K vs
 | [],i,K,h => ⟨[],rfl,fun q u hm => (by cases hm),h⟩
 | s :: r,i,K,h => by
   obtain ⟨v,hv,hk⟩ := exS_spec h
   obtain ⟨vs,hl,hz,hK⟩ := loadK_zip hk
   refine ⟨v :: vs,by simp [hl],fun q u hm => ?_,hK⟩
   rcases List.mem_cons.1 hm with hm | hm
   · cases hm; exact hv
   · exact hz q u hm
def Holds (pm : List (Addr × Value)) (pb : Option (Nat × Bx)) (W : World) : Prop :=
 (∀ q u,(q,u) ∈ pm → W.cell? q = some u) ∧ ∀ k x,pb = some (k,x) → W.heap[x.blk]? = some (.cells x.cells.toArray x.ty (0,0))
theorem ldG_spec {c : Cfg} {o : Oper} {t : TypeId} {x : Operand} {e : Env} {b : Bxs} {w W : World} {a : Act} {K : Value → List (Addr × Value) → Option Nat → Prop} (ho : o.op = .load t x) (hR : Rep c.n e b w a W)
   (h : ldG c t x e b w K) : ∃ v pm pb,K v pm (pb.map Prod.fst) ∧ (∀ q u,(q,u) ∈ pm → w.cell? q = some u) ∧ (∀ k y,pb = some (k,y) → look b k = some y) ∧
     ∀ W',Holds pm pb W' → (execOp a.eval o).run c.P W' = .ok (.value v) W' := by
 unfold ldG at h
 split at h
 · rename_i hA
   split at h
   · rename_i i hi
     split at h
     · rename_i k off hv
       split at h
       · rename_i bx hl
         split at h
         · rename_i hle
           unfold takeAt at h
           rw [forceL_iff] at h
           have hd := ev_den hR hv
           simp only [den,hl,Option.map_some,Option.some.injEq] at hd
           refine ⟨_,[],some (k,bx),h,fun q u hm => by (cases hm),fun k' y hy => by (cases hy; exact hl),fun W' hW => ?_⟩
           have := row_load (P := c.P) (hW.2 k bx rfl) off i.size 0 #[] (by have := Nat.le_of_ble_eq_true hle; omega)
           simp only [execOp,ho, ← hd,Instr.loadAt,Instr.sureAddr,pure_bind,loadVar,Sem.run_bind,isAgg_run hA,Result.andThen_ok,if_true,loadCells,sizeOf,typeInfo,run_program,hi,Sem.run_pure,this]
           simp
         · exact h.elim
       · exact h.elim
     · rename_i p hv
       split at h
       · rename_i l hl
         split at h
         · rename_i hn
           obtain ⟨vs,hlen,hz,hK⟩ := loadK_zip h
           refine ⟨_,zipA p 0 vs,none,hK,hz,fun k y hy => by (cases hy),fun W' hW => ?_⟩
           have hr := loadCells_at (P := c.P) (W := W') (a := p) vs 0 #[] (fun q u hm => hW.1 q u hm)
           rw [hlen,Nat.eq_of_beq_eq_true hn] at hr
           simp only [execOp,ho,ev_val hR hv,Instr.loadAt,Instr.sureAddr,pure_bind,loadVar,Sem.run_bind,isAgg_run hA,Result.andThen_ok,if_true,loadCells,sizeOf,typeInfo,run_program,hi,Sem.run_pure,hr]
           simp
         · exact h.elim
       · exact h.elim
     · exact h.elim
   · exact h.elim
 · rename_i hA
   split at h
   · rename_i k off hv
     split at h
     · rename_i bx hl
       split at h
       · rename_i v hg
         rw [force_iff] at h
         have hd := ev_den hR hv
         simp only [den,hl,Option.map_some,Option.some.injEq] at hd
         refine ⟨_,[],some (k,bx),h,fun q u hm => by (cases hm),fun k' y hy => by (cases hy; exact hl),fun W' hW => ?_⟩
         have hc : W'.cell? ⟨bx.blk,off,none⟩ = some v := by simp [World.cell?,hW.2 k bx rfl,hg]
         simp only [execOp,ho, ← hd,Instr.loadAt,Instr.sureAddr,pure_bind,loadVar,Sem.run_bind,isAgg_run hA,Result.andThen_ok,Bool.false_eq_true,if_false,run_load,hc,Sem.run_pure]
       · exact h.elim
     · exact h.elim
   · rename_i p hv
     split at h
     · rename_i s hs
       obtain ⟨v,hv',hK⟩ := exS_spec h
       refine ⟨_,[(p,v)],none,hK,fun q u hm => (by simp only [List.mem_singleton,Prod.mk.injEq] at hm; rw [hm.1,hm.2]; exact hv'),fun k y hy => by (cases hy),fun W' hW => ?_⟩
       simp only [execOp,ho,ev_val hR hv,Instr.loadAt,Instr.sureAddr,pure_bind,loadVar,Sem.run_bind,isAgg_run hA,Result.andThen_ok,Bool.false_eq_true,if_false,run_load,hW.1 p v List.mem_cons_self,Sem.run_pure]
     · exact h.elim
   · exact h.elim
 · exact h.elim
theorem holds_now {n : Fr} {e : Env} {b : Bxs} {w W : World} {a : Act} (hR : Rep n e b w a W) {pm : List (Addr × Value)} {pb : Option (Nat × Bx)} (h1 : ∀ q u,(q,u) ∈ pm → w.cell? q = some u) (h2 : ∀ k y,pb = some (k,y) → look b k = some y) : Holds pm pb W :=
 ⟨fun q u hm => hR.pad.cell (h1 q u hm),fun k x hx => hR.boxes k x (h2 k x hx)⟩
theorem ldK_does {c : Cfg} {o : Oper} {t : TypeId} {x : Operand} {e : Env} {b : Bxs} {w W : World} {a : Act} {K : Kont} (ho : o.op = .load t x) (hR : Rep c.n e b w a W)
   (h : ldK c o t x e b w fun e => K e b w) : Does c.P o a W c.n K := by
 obtain ⟨v,pm,pb,hK,h1,h2,hr⟩ := ldG_spec ho hR h
 obtain ⟨e',hK,hR'⟩ := hR.putK (sv := .v v) rfl hK
 exact does_value (hr W (holds_now hR h1 h2)) ⟨e',b,w,hK,hR'⟩
def setB : Bxs → Nat → List Value → Bxs
 | [],_,_ => []
 | (j,x) :: r,k,cells => match Nat.beq k j with
   | true => (j,⟨x.blk,x.ty,cells⟩) :: r
   | false => (j,x) :: setB r k cells
theorem look_setB (b : Bxs) (k : Nat) (cells : List Value) (i : Nat) : look (setB b k cells) i = (look b i).map fun x => if i = k then ⟨x.blk,x.ty,cells⟩ else x := by
 induction b with
 | nil => rfl
 | cons y r ih =>
   obtain ⟨j,x⟩ := y
   show look (match Nat.beq k j with | true => (j,_) :: r | false => (j,x) :: setB r k cells) i = _
   cases hkj : Nat.beq k j with
   | true =>
     have hkj' := Nat.eq_of_beq_eq_true hkj
     subst hkj'
     simp only [look_cons]
     by_cases hik : i = k
     · subst hik; simp
     · rw [if_neg hik,if_neg hik]; simp [hik]
   | false =>
     have hkj' : k ≠ j := Nat.ne_of_beq_eq_false hkj
     simp only [look_cons,ih]
     by_cases hij : i = j
     · subst hij; simp [Ne.symm hkj']
     · rw [if_neg hij,if_neg hij]
theorem setB_keys (b : Bxs) (k : Nat) (cells : List Value) : (setB b k cells).map Prod.fst = b.map Prod.fst := by
 induction b with
 | nil => rfl
 | cons y r ih =>
   obtain ⟨j,x⟩ := y
   show (match Nat.beq k j with | true => (j,_) :: r | false => (j,x) :: setB r k cells).map Prod.fst = _
   cases Nat.beq k j <;> simp [ih]
def stK (c : Cfg) (o : Oper) (t : TypeId) (x y : Operand) (e : Env) (b : Bxs) (w : World) (K : Kont) : Prop :=
 match o.dst with
 | none => match c.P.info? t with
   | some i => withV e y fun v => match Nat.beq (cellsOfV v).length i.size with
     | true => match ev e x with
       | some (.bx k off) => match look b k with
         | some bx => match Nat.ble (off + i.size) bx.cells.length with
           | true => match (cellsOfV v).all isCell with
             | true => forceL (splice off (cellsOfV v) bx.cells) fun l => K e (setB b k l) w
             | false => False
           | false => False
         | none => False
       | some (.v (.pointer (some p))) => storeK w p (cellsOfV v) 0 fun w => K e b w
       | _ => False
     | false => False
   | none => False
 | some _ => False
theorem splice_nil (off : Nat) (l : List Value) : splice off [] l = l := by cases off <;> cases l <;> rfl
theorem splice_cons : ∀ (off : Nat) (v : Value) (vs l : List Value),off + (vs.length + 1) ≤ l.length → splice off (v :: vs) l = splice (off + 1) vs (l.set off v)
 | 0,v,[],x :: l,h => by simp [splice,splice_nil]
 | 0,v,u :: vs,x :: l,h => by simp [splice]
 | 0,v,vs,[],h => by simp at h
 | off + 1,v,vs,[],h => by simp at h
 | off + 1,v,[],x :: l,h => by simp [splice,splice_cons off v [] l (by simp at h ⊢; omega),splice_nil]
 | off + 1,v,u :: vs,x :: l,h => by simp [splice,splice_cons off v (u :: vs) l (by simp at h ⊢; omega)]
theorem set_row {W : World} {g : Nat} {t : TypeId} {cells : List Value} (hb : W.heap[g]? = some (.cells cells.toArray t (0,0))) (i : Nat) (v : Value) :
   (W.setCell ⟨g,i,none⟩ v).heap[g]? = some (.cells (cells.set i v).toArray t (0,0)) := by
 simp [World.setCell,Array.getElem?_modify,hb]
theorem row_store {P : Program} {g : Nat} {t : TypeId} (off : Nat) : ∀ {vs cells : List Value} {W : World} (i : Nat),W.heap[g]? = some (.cells cells.toArray t (0,0)) → off + i + vs.length ≤ cells.length → vs.all isCell = true →
   ∃ W',(storeCells ⟨g,off,none⟩ vs i).run P W = .ok () W' ∧ W'.heap[g]? = some (.cells (splice (off + i) vs cells).toArray t (0,0)) ∧ (∀ k,k ≠ g → W'.heap[k]? = W.heap[k]?) ∧ Chg (fun k => k = g) W W'
 | [],cells,W,i,hb,hl,hc => ⟨W,by simp [storeCells],by rw [splice_nil]; exact hb,fun _ _ => rfl,Chg.refl _ _⟩
 | v :: vs,cells,W,i,hb,hl,hc => by
   simp only [List.all_cons,Bool.and_eq_true] at hc
   have hlt : off + i < cells.length := by simp at hl; omega
   have hcell : W.cell? ⟨g,off + i,none⟩ = some cells[off + i] := by simp [World.cell?,hb,hlt]
   have hfr : W.frozen? ⟨g,off + i,none⟩ = false := by simp [World.frozen?,hb]
   have hb' := set_row hb (off + i) v
   obtain ⟨W',hr,hW,hk,hC⟩ := row_store (P := P) off (i + 1) hb' (by simp at hl ⊢; omega) hc.2
   refine ⟨W', ?_, ?_, ?_, ?_⟩
   · simp only [storeCells,store,bind,Sem.bind,bx_add]
     rw [run_store hc.1 hcell hfr]
     exact hr
   · rw [splice_cons _ _ _ _ (by simp at hl; omega)]
     exact hW
   · intro k hk'
     rw [hk k hk',setCell_heap _ _ _ _ hk']
   · exact ((Chg.refl (fun k => k = g) W).setCell (a := ⟨g,off + i,none⟩) v (fun _ => rfl)).trans hC (fun _ _ h => h)
theorem stK_does {c : Cfg} {o : Oper} {t : TypeId} {x y : Operand} {e : Env} {b : Bxs} {w W : World} {a : Act} {K : Kont} (ho : o.op = .store t x y) (hR : Rep c.n e b w a W)
   (h : stK c o t x y e b w K) : Does c.P o a W c.n K := by
 unfold stK at h
 split at h
 · rename_i hdst
   split at h
   · rename_i i hi
     replace h := withV_spec hR h
     split at h
     · rename_i hlen
       have hlen' := Nat.eq_of_beq_eq_true hlen
       have hsz : (a.eval y).cells.size = i.size := by rw [← hlen',cellsOfV_eq,Array.length_toList]
       split at h
       · rename_i k off hv
         split at h
         · rename_i bx hl
           split at h
           · rename_i hle
             split at h
             · rename_i hall
               rw [forceL_iff] at h
               have hd := ev_den hR hv
               simp only [den,hl,Option.map_some,Option.some.injEq] at hd
               have hB := hR.boxes k bx hl
               have hle' := Nat.le_of_ble_eq_true hle
               obtain ⟨W',hr,hW,hk,hC⟩ := row_store (P := c.P) off 0 hB (by rw [hlen']; omega) hall
               refine does_skip (W' := W') ?_ ⟨e,setB b k (splice off (cellsOfV (a.eval y)) bx.cells),w,h, ?_⟩
               · rw [cellsOfV_eq] at hr
                 simp only [execOp,ho, ← hd,Instr.storeAt,Instr.sureAddr,pure_bind,storeVar,Sem.run_bind,sizeOf,typeInfo,run_program,Result.andThen_ok,hi,Sem.run_pure,hsz,ne_eq,not_true_eq_false,if_false,hr]
               · have hlt := lt_of_some hB
                 refine ⟨?_, ?_, ?_, ?_,hR.base, ?_, ?_, ?_,by rw [setB_keys]; exact hR.keys, ?_⟩
                 · rw [hdst]; exact hR.size
                 · rw [hdst]; exact hR.nodef
                 · intro j sv hj
                   have := hR.slots j sv hj
                   rw [hdst]
                   show den _ sv = some (a.tmps.getD j undef)
                   rw [← this]
                   cases sv with
                   | v x => rfl
                   | bx k' o' =>
                     simp only [den,look_setB,Option.map_map]
                     congr 1
                     funext z
                     simp only [Function.comp]
                     split <;> rfl
                 · refine ⟨hC.os.trans hR.pad.os,hC.tape.trans hR.pad.tape,hC.output.trans hR.pad.output,Nat.le_trans hR.pad.size hC.size,fun i cs ty fr hi => ?_,fun i hi => (hk i (fun he => by have := hR.lo k bx hl; omega)).trans (hR.pad.low i hi)⟩
                   rw [hk i (NC.ne (hR.hid k bx hl) hi)]
                   exact hR.pad.row i cs ty fr hi
                 · intro j z hz
                   rw [look_setB] at hz
                   obtain ⟨z',hz',rfl⟩ := Option.map_eq_some_iff.1 hz
                   have := hR.lo j z' hz'
                   split <;> exact this
                 · intro j z hz
                   rw [look_setB] at hz
                   obtain ⟨z',hz',rfl⟩ := Option.map_eq_some_iff.1 hz
                   by_cases hjk : j = k
                   · subst hjk
                     rw [hl] at hz'
                     cases hz'
                     simpa using hW
                   · rw [if_neg hjk,hk _ (hR.apart j z' k bx hz' hl hjk)]
                     exact hR.boxes j z' hz'
                 · intro j z hz
                   rw [look_setB] at hz
                   obtain ⟨z',hz',rfl⟩ := Option.map_eq_some_iff.1 hz
                   have := hR.hid j z' hz'
                   split <;> exact this
                 · intro j z j' z' hz hz' hne
                   rw [look_setB] at hz hz'
                   obtain ⟨u,hu,rfl⟩ := Option.map_eq_some_iff.1 hz
                   obtain ⟨u',hu',rfl⟩ := Option.map_eq_some_iff.1 hz'
                   have := hR.apart j u j' u' hu hu' hne
                   split <;> split <;> exact this
             · exact h.elim
           · exact h.elim
         · exact h.elim
       · rename_i p hv
         obtain ⟨w',W',hr,hK,hR'⟩ := storeK_spec (P := c.P) hR h
         refine does_skip (W' := W') ?_ ⟨e,b,w',hK,by rw [hdst]; exact hR'⟩
         rw [cellsOfV_eq] at hr
         simp only [execOp,ho,ev_val hR hv,Instr.storeAt,Instr.sureAddr,pure_bind,storeVar,Sem.run_bind,sizeOf,typeInfo,run_program,Result.andThen_ok,hi,Sem.run_pure,hsz,ne_eq,not_true_eq_false,if_false,hr]
       · exact h.elim
     · exact h.elim
   · exact h.elim
 · exact h.elim
def newK (c : Cfg) (o : Oper) (t : TypeId) (cells : List Value) (e : Env) (b : Bxs) (w : World) (K : Kont) : Prop :=
 match o.dst with
 | some d => match hasN c.real d with
   | true => forceL cells fun cells => Expo c.n.B w (blks b) fun w1 => Hide (blks b) (w1.alloc (.cells ⟨cells⟩ t)) fun w2 => putK c.n o.dst (.v (.pointer (some ⟨w1.heap.size,0,none⟩))) e fun e => K e b w2
   | false => match look b d with
     | none => forceL cells fun cells => ∀ q,w.heap.size ≤ q → putK c.n o.dst (.bx d 0) e fun e => K e ((d,⟨q,t,cells⟩) :: b) w
     | some _ => False
 | none => False
theorem alloc_old (W : World) (o : Obj) {k : Nat} (h : k < W.heap.size) : (W.alloc o).heap[k]? = W.heap[k]? := by
 show (W.heap.push o)[k]? = _
 rw [Array.getElem?_push,if_neg (by omega)]
theorem alloc_new (W : World) (o : Obj) : (W.alloc o).heap[W.heap.size]? = some o := by
 show (W.heap.push o)[W.heap.size]? = _
 simp
theorem mem_look {α : Type} {l : List (Nat × α)} {k : Nat} {x : α} (hn : (l.map Prod.fst).Nodup) (h : (k,x) ∈ l) : look l k = some x := by
 induction l with
 | nil => cases h
 | cons y r ih =>
   obtain ⟨j,z⟩ := y
   rw [List.map_cons,List.nodup_cons] at hn
   rw [look_cons]
   rcases List.mem_cons.1 h with h | h
   · cases h; rw [if_pos rfl]
   · have hm : k ∈ r.map Prod.fst := List.mem_map.2 ⟨(k,x),h,rfl⟩
     rw [if_neg (fun he : k = j => hn.1 (he ▸ hm))]
     exact ih hn.2 h
theorem blks_look {n : Fr} {e : Env} {b : Bxs} {w W : World} {a : Act} (hR : Rep n e b w a W) {q : Nat} (h : q ∈ blks b) : ∃ k x,look b k = some x ∧ x.blk = q := by
 obtain ⟨⟨k,x⟩,hm,rfl⟩ := List.mem_map.1 h
 exact ⟨k,x,mem_look hR.keys hm,rfl⟩
theorem expo_spec {n : Fr} {e : Env} {b : Bxs} {w W : World} {a : Act} (hR : Rep n e b w a W) {F : World → Prop} (h : Expo n.B w (blks b) F) : F W :=
 h W hR.pad fun q hq => by
   obtain ⟨k,x,hl,rfl⟩ := blks_look hR hq
   exact ⟨lt_of_some (hR.boxes k x hl),hR.hid k x hl,hR.lo k x hl⟩
theorem rep_hide {n : Fr} {e : Env} {b : Bxs} {w W W2 w2 : World} {a : Act} (hR : Rep n e b w a W) (hk : Kept (blks b) W W2) (hm : Msk (blks b) W2 w2) : Rep n e b w2 a W2 :=
 ⟨hR.size,hR.nodef,hR.slots,hm.ext (fun q hq => by obtain ⟨k,x,hl,rfl⟩ := blks_look hR hq; exact hR.lo k x hl),by have := hR.base; have := hR.pad.size; have := hm.size; have := hk.size; omega,hR.lo,fun k x hx => (hk.block _ (look_blks hx)).trans (hR.boxes k x hx),fun k x hx => hm.hid _ (look_blks hx),hR.keys,hR.apart⟩
theorem newK_does {c : Cfg} {o : Oper} {t : TypeId} {cells : List Value} {e : Env} {b : Bxs} {w W : World} {a : Act} {K : Kont} (hR : Rep c.n e b w a W)
   (hr : (execOp a.eval o).run c.P W = .ok (.value (.pointer (some ⟨W.heap.size,0,none⟩))) (W.alloc (.cells ⟨cells⟩ t)))
   (h : newK c o t cells e b w K) : Does c.P o a W c.n K := by
 unfold newK at h
 split at h
 · rename_i d hd
   split at h
   · rw [forceL_iff] at h
     obtain ⟨w2,hm,h⟩ := hide_spec (expo_spec hR h)
     have hk : Kept (blks b) W (W.alloc (.cells ⟨cells⟩ t)) := ⟨by simp,fun q hq => by
       obtain ⟨k,x,hl,rfl⟩ := blks_look hR hq
       exact alloc_old W _ (lt_of_some (hR.boxes k x hl))⟩
     obtain ⟨e',hK,hR'⟩ := (rep_hide hR hk hm).putK (sv := .v _) rfl h
     exact does_value hr ⟨e',b,w2,hK,hR'⟩
   · split at h
     · rename_i hl
       rw [forceL_iff] at h
       replace h := h W.heap.size hR.pad.size
       have hR1 : Rep c.n e ((d,⟨W.heap.size,t,cells⟩) :: b) w a (W.alloc (.cells ⟨cells⟩ t)) := by
         have hne : ∀ k x,look b k = some x → k ≠ d := fun k x hx he => by subst he; rw [hl] at hx; cases hx
         refine ⟨hR.size,hR.nodef, ?_,hR.pad.alloc hR.base _,hR.base, ?_, ?_, ?_, ?_, ?_⟩
         · intro i sv hi
           have := hR.slots i sv hi
           cases sv with
           | v x => exact this
           | bx k off =>
             simp only [den,look_cons] at this ⊢
             cases hx : look b k with
             | none => rw [hx] at this; cases this
             | some x => rw [hx] at this; rw [if_neg (hne k x hx)]; exact this
         · intro k x hx
           rw [look_cons] at hx
           split at hx
           · cases hx; exact Nat.le_trans hR.base hR.pad.size
           · exact hR.lo k x hx
         · intro k x hx
           rw [look_cons] at hx
           split at hx
           · cases hx; exact alloc_new W _
           · rw [alloc_old W _ (lt_of_some (hR.boxes k x hx))]
             exact hR.boxes k x hx
         · intro k x hx
           rw [look_cons] at hx
           split at hx
           · cases hx
             intro cs ty f hq
             have := lt_of_some hq
             have := hR.pad.size
             simp at *
             omega
           · exact hR.hid k x hx
         · rw [List.map_cons,List.nodup_cons]
           refine ⟨fun hm => ?_,hR.keys⟩
           obtain ⟨⟨k,x⟩,hm2,hkd⟩ := List.mem_map.1 hm
           have := mem_look hR.keys hm2
           simp only at hkd
           rw [hkd,hl] at this
           cases this
         · intro k x k' x' hx hx' hkk
           rw [look_cons] at hx hx'
           split at hx <;> split at hx'
           · rename_i h1 h2; exact absurd (h1.trans h2.symm) hkk
           · cases hx
             have := lt_of_some (hR.boxes k' x' hx')
             simp; omega
           · cases hx'
             have := lt_of_some (hR.boxes k x hx)
             simp; omega
           · exact hR.apart k x k' x' hx hx' hkk
       obtain ⟨e',hK,hR'⟩ := hR1.putK (v := .pointer (some ⟨W.heap.size,0,none⟩)) (by simp [den,look_cons]) h
       exact does_value hr ⟨e',_,w,hK,hR'⟩
     · exact h.elim
 · exact h.elim
def zeroK (P : Program) (t : TypeId) (K : List Value → Prop) : Prop :=
 match P.info? t with
 | some i => match i.zero with
   | some v => K (cellsOfV v)
   | none => False
 | none => False
theorem row_eq (v : Value) : (⟨cellsOfV v⟩ : Array Value) = v.cells := by rw [cellsOfV_eq]
theorem allocK_does {c : Cfg} {o : Oper} {t : TypeId} {e : Env} {b : Bxs} {w W : World} {a : Act} {K : Kont} (ho : o.op = .alloc t) (hR : Rep c.n e b w a W)
   (h : zeroK c.P t fun l => newK c o t l e b w K) : Does c.P o a W c.n K := by
 unfold zeroK at h
 split at h
 · rename_i i hi
   split at h
   · rename_i v hv
     refine newK_does hR ?_ h
     simp [execOp,ho,Instr.alloc,zeroValue,typeInfo,hi,hv,newVar,newRow,row_eq]
   · exact h.elim
 · exact h.elim
theorem boxK_does {c : Cfg} {o : Oper} {t : TypeId} {x : Operand} {e : Env} {b : Bxs} {w W : World} {a : Act} {K : Kont} (ho : o.op = .box t x) (hR : Rep c.n e b w a W)
   (h : withV e x fun v => newK c o t (cellsOfV v) e b w K) : Does c.P o a W c.n K := by
 replace h := withV_spec hR h
 refine newK_does hR ?_ h
 simp [execOp,ho,Instr.box,newVar,newRow,row_eq]
def rowOf (P : Program) (t : TypeId) (len : Nat) (parts : List (Nat × Value)) : Option (TypeId × Array Value) :=
 match P.underlying t with
 | some (.slice elem) => match P.info? elem with
   | some i => if len * i.size > 2 ^ 24 then none else match i.zero with
     | some z => match Instr.fill (fun j => some (j * i.size,i.size)) ((Array.range (len * i.size)).map ((if len * i.size = 0 then #[] else z.cells)[· % (if len * i.size = 0 then #[] else z.cells).size]!)) parts with
       | some cells => some (elem,cells)
       | none => none
     | none => none
   | none => none
 | _ => none
def withPs (e : Env) : List (Nat × Operand) → (List (Nat × Value) → Prop) → Prop
 | [],K => K []
 | (i,x) :: r,K => withV e x fun v => withPs e r fun l => K ((i,v) :: l)
theorem withPs_spec {n : Fr} {e : Env} {b : Bxs} {w W : World} {a : Act} (hR : Rep n e b w a W) : ∀ {l : List (Nat × Operand)} {K : List (Nat × Value) → Prop},withPs e l K → K (l.map fun x => (x.1,a.eval x.2))
 | [],K,h => h
 | (i,x) :: r,K,h => withPs_spec hR (l := r) (withV_spec hR h)
def rowK (c : Cfg) (o : Oper) (t : TypeId) (len : Nat) (parts : Array (Nat × Operand)) (e : Env) (b : Bxs) (w : World) (K : Kont) : Prop :=
 withPs e parts.toList fun ps => match rowOf c.P t len ps with
   | some (elem,cells) => forceL cells.toList fun l => Expo c.n.B w (blks b) fun w1 => Hide (blks b) (w1.alloc (.cells ⟨l⟩ elem)) fun w2 =>
       putK c.n o.dst (.v (.slice (some ⟨w1.heap.size,0,none⟩) len len)) e fun e => K e b w2
   | none => False
theorem rowOf_run {P : Program} {t : TypeId} {len : Nat} {parts : Array (Nat × Value)} {elem : TypeId} {cells : Array Value} (h : rowOf P t len parts.toList = some (elem,cells)) (W : World) :
   (Instr.buildSlice t len parts).run P W = .ok (.slice (some ⟨W.heap.size,0,none⟩) len len) (W.alloc (.cells cells elem)) := by
 unfold rowOf at h
 split at h
 · rename_i el hu
   split at h
   · rename_i i hi
     split at h
     · cases h
     · rename_i hbig
       split at h
       · rename_i z hz
         split at h
         · rename_i cs hf
           cases h
           by_cases h0 : len * i.size = 0
           · have hz0 : ∀ f : Nat → Value,(Array.range 0).map f = #[] := fun f => Array.eq_empty_of_size_eq_zero (by simp)
             simp only [h0,if_true,hz0] at hf
             simp [Instr.buildSlice,underlying,hu,sizeOf,typeInfo,hi,h0,newRow,hz0,hf]
           · simp only [h0,if_false] at hf
             simp [Instr.buildSlice,underlying,hu,sizeOf,typeInfo,hi,h0,newRow,hbig,zeroValue,hz]
             rw [hf]
             simp
         · cases h
       · cases h
   · cases h
 · cases h
theorem rowK_does {c : Cfg} {o : Oper} {t : TypeId} {len : Nat} {parts : Array (Nat × Operand)} {e : Env} {b : Bxs} {w W : World} {a : Act} {K : Kont} (ho : o.op = .buildSlice t len parts) (hR : Rep c.n e b w a W)
   (h : rowK c o t len parts e b w K) : Does c.P o a W c.n K := by
 replace h := withPs_spec hR h
 split at h
 · rename_i elem cells hrow
   rw [forceL_iff] at h
   obtain ⟨w2,hm,h⟩ := hide_spec (expo_spec hR h)
   have hk : Kept (blks b) W (W.alloc (.cells ⟨cells.toList⟩ elem)) := ⟨by simp,fun q hq => by
     obtain ⟨k,x,hl,rfl⟩ := blks_look hR hq
     exact alloc_old W _ (lt_of_some (hR.boxes k x hl))⟩
   obtain ⟨e',hK,hR'⟩ := (rep_hide hR hk hm).putK (sv := .v _) rfl h
   refine does_value ?_ ⟨e',b,w2,hK,hR'⟩
   have h2 : rowOf c.P t len (parts.map fun (i,x) => (i,a.eval x)).toList = some (elem,cells) := by
     rw [Array.toList_map]; exact hrow
   have := rowOf_run h2 W
   simp only [execOp,ho,Sem.run_bind,this,Result.andThen_ok,Sem.run_pure]
 · exact h.elim
theorem runK_does {c : Cfg} {o : Oper} {e : Env} {b : Bxs} {w W : World} {a : Act} {K : Kont} {s : Sem Value} {shs : List Sh} (hR : Rep c.n e b w a W)
   (hs : execOp a.eval o = (do pure (Next.value (← s))))
   (h : RunK c.P s c.n.B w (blks b) fun v w2 => resK shs v fun v => putK c.n o.dst (.v v) e fun e => K e b w2) : Does c.P o a W c.n K := by
 obtain ⟨v,W2,hr,hk,h⟩ := expo_spec hR h
 obtain ⟨w2,hm,h⟩ := hide_spec h
 obtain ⟨e',hK,hR'⟩ := (rep_hide hR hk hm).putK (sv := .v v) rfl (resK_spec h)
 refine does_value (W' := W2) ?_ ⟨e',b,w2,hK,hR'⟩
 rw [hs,Sem.run_bind,hr]
 rfl
def sizeB (P : Program) (t : TypeId) : Option Nat := (P.info? t).map (·.size)
theorem sizeOf_run {P : Program} {t : TypeId} {n : Nat} (h : sizeB P t = some n) (W : World) : (sizeOf t).run P W = .ok n W := by
 unfold sizeB at h
 obtain ⟨i,hi,rfl⟩ := Option.map_eq_some_iff.1 h
 simp [sizeOf,typeInfo,hi]
def scale (n sz : Nat) : Nat :=
 match Nat.beq sz 1 with
 | true => n
 | false => n * sz
theorem scale_eq (n sz : Nat) : scale n sz = n * sz := by
 unfold scale
 split
 · rename_i h; rw [Nat.eq_of_beq_eq_true h,Nat.mul_one]
 · rfl
def idxK (c : Cfg) (o : Oper) (t : TypeId) (x i : Operand) (e : Env) (K : Env → Prop) : Prop :=
 match c.P.underlying t with
 | some (.slice el) => match sizeB c.P el with
   | some sz => withV e x fun vx => withV e i fun vi => match vx,vi with
     | .slice A l _,.int _ n => ∃ p,A = some p ∧ 0 ≤ n ∧ n < (l : Int) ∧ putK c.n o.dst (.v (.pointer (some (p.add (scale n.toNat sz))))) e K
     | _,_ => False
   | none => False
 | some (.array len el) => match sizeB c.P el with
   | some sz => withV e i fun vi => match vi with
     | .int _ n => match ev e x with
       | some (.bx k off) => match decide (0 ≤ n ∧ n < (len : Int)) with
         | true => putK c.n o.dst (.bx k (off + scale n.toNat sz)) e K
         | false => False
       | some (.v (.pointer (some p))) => 0 ≤ n ∧ n < (len : Int) ∧ putK c.n o.dst (.v (.pointer (some (p.add (scale n.toNat sz))))) e K
       | _ => False
     | _ => False
   | none => False
 | _ => False
theorem idxK_val {c : Cfg} {o : Oper} {t : TypeId} {x i : Operand} {e : Env} {b : Bxs} {w W : World} {a : Act} {K : Kont} (ho : o.op = .indexAddr t x i) (hR : Rep c.n e b w a W)
   (h : idxK c o t x i e fun e => K e b w) : ValP c.P o a W c.n b w K := by
 unfold idxK at h
 split at h
 · rename_i el hu
   split at h
   · rename_i sz hsz
     replace h := withV_spec hR (withV_spec hR h)
     split at h
     · rename_i A l cc k n hx hi
       obtain ⟨p,rfl,h0,h1,h⟩ := h
       rw [scale_eq] at h
       refine val_mk hR (fun W' => ?_) h
       simp [execOp,ho,hx,hi,Instr.indexAt,asIntOf,underlying,hu,h0,h1,sizeOf_run hsz]
     · exact h.elim
   · exact h.elim
 · rename_i len el hu
   split at h
   · rename_i sz hsz
     replace h := withV_spec hR h
     split at h
     · rename_i k n hi
       split at h
       · rename_i key off hv
         split at h
         · rename_i hb
           have hb := of_decide_eq_true hb
           rw [scale_eq] at h
           have hd := ev_den hR hv
           simp only [den,Option.map_eq_some_iff] at hd
           obtain ⟨y,hl,hy⟩ := hd
           obtain ⟨e',hK,hR'⟩ := hR.putK (v := .pointer (some ⟨y.blk,off + n.toNat * sz,none⟩)) (by simp [den,hl]) h
           refine ⟨_,e',fun W' => ?_,hK,hR'⟩
           simp [execOp,ho, ← hy,hi,Instr.indexAt,asIntOf,underlying,hu,Instr.sureAddr,hb.1,hb.2,sizeOf_run hsz,bx_add]
         · exact h.elim
       · rename_i p hv
         obtain ⟨h0,h1,h⟩ := h
         rw [scale_eq] at h
         refine val_mk hR (fun W' => ?_) h
         simp [execOp,ho,ev_val hR hv,hi,Instr.indexAt,asIntOf,underlying,hu,Instr.sureAddr,h0,h1,sizeOf_run hsz]
       · exact h.elim
     · exact h.elim
   · exact h.elim
 · exact h.elim
theorem part_run {P : Program} {t : TypeId} {cs : Array Value} {off : Nat} {v : Value} (hA : isAggB P t = some false) (h : cs[off]? = some v) (W : World) : (part t cs off).run P W = .ok v W := by
 simp [part,isAgg_run hA,h]
def intsOf (k : IntKind) : List Value → Option (List Int)
 | [] => some []
 | .int k' n :: r => match sameK k k' with
   | true => match intsOf k r with
     | some l => some (n :: l)
     | none => none
   | false => none
 | _ => none
theorem intsOf_spec {k : IntKind} : ∀ {cs : List Value} {l : List Int},intsOf k cs = some l → cs = l.map (.int k)
 | [],l,h => by cases h; rfl
 | v :: r,l,h => by
   cases v with
   | int k' n =>
     simp only [intsOf] at h
     split at h
     · rename_i hk
       cases sameK_eq hk
       split at h
       · rename_i l' hl
         cases h
         rw [intsOf_spec hl]
         rfl
       · cases h
     · cases h
   | _ => cases h
def fltsOf : List Value → Option (List Nat)
 | [] => some []
 | .float .f64 n :: r => match fltsOf r with
   | some l => some (n :: l)
   | none => none
 | _ => none
theorem fltsOf_spec : ∀ {cs : List Value} {l : List Nat},fltsOf cs = some l → cs = l.map (.float .f64)
 | [],l,h => by cases h; rfl
 | v :: r,l,h => by
   cases v with
   | float k n =>
     cases k with
     | f64 =>
       simp only [fltsOf] at h
       split at h
       · rename_i l' hl
         cases h
         rw [fltsOf_spec hl]
         rfl
       · cases h
     | f32 => cases h
   | _ => cases h
def ixK (c : Cfg) (o : Oper) (t : TypeId) (x i : Operand) (e : Env) (K : Env → Prop) : Prop :=
 match c.P.underlying t with
 | some .string => withV e x fun vx => withV e i fun vi => match vx,vi with
   | .string s,.int _ n => ∃ u : UInt8,0 ≤ n ∧ s[n.toNat]? = some u ∧ putK c.n o.dst (.v (.int .u8 u.toNat)) e K
   | _,_ => False
 | some (.array len el) => match sizeB c.P el with
   | some 1 => match isAggB c.P el with
     | some false => match c.P.underlying el with
       | some (.int k) => withV e x fun vx => withV e i fun vi => match vx,vi with
         | .agg ⟨cs⟩,.int _ n => match intsOf k cs with
           | some l => match Nat.beq l.length len with
             | true => 0 ≤ n ∧ n < (len : Int) ∧ putK c.n o.dst (.v (.int k (l.getD n.toNat 0))) e K
             | false => False
           | none => False
         | _,_ => False
       | some (.float .f64) => withV e x fun vx => withV e i fun vi => match vx,vi with
         | .agg ⟨cs⟩,.int _ n => match fltsOf cs with
           | some l => match Nat.beq l.length len with
             | true => 0 ≤ n ∧ n < (len : Int) ∧ putK c.n o.dst (.v (.float .f64 (l.getD n.toNat 0))) e K
             | false => False
           | none => False
         | _,_ => False
       | _ => False
     | _ => False
   | _ => False
 | _ => pureK c o e K
theorem ixK_val {c : Cfg} {o : Oper} {t : TypeId} {x i : Operand} {e : Env} {b : Bxs} {w W : World} {a : Act} {K : Kont} (ho : o.op = .index t x i) (hR : Rep c.n e b w a W)
   (h : ixK c o t x i e fun e => K e b w) : ValP c.P o a W c.n b w K := by
 unfold ixK at h
 split at h
 · rename_i hu
   replace h := withV_spec hR (withV_spec hR h)
   split at h
   · rename_i s k n hx hi
     obtain ⟨u,h0,h1,h⟩ := h
     refine val_mk hR (fun W' => ?_) h
     simp [execOp,ho,hx,hi,Instr.index,asIntOf,underlying,hu,h0,h1]
   · exact h.elim
 · rename_i len el hu
   split at h
   · rename_i hsz
     split at h
     · rename_i hA
       split at h
       · rename_i k hk
         replace h := withV_spec hR (withV_spec hR h)
         split at h
         · rename_i cs k' n hx hi
           split at h
           · rename_i l hl
             split at h
             · rename_i hlen
               obtain ⟨h0,h1,h⟩ := h
               refine val_mk hR (fun W' => ?_) h
               have hlen := Nat.eq_of_beq_eq_true hlen
               have hlt : n.toNat < l.length := by omega
               have hcs := intsOf_spec hl
               have hp : (part el (⟨cs⟩ : Array Value) n.toNat).run c.P W' = .ok (.int k (l.getD n.toNat 0)) W' := part_run hA (by simp [hcs,hlt]) W'
               simp [execOp,ho,hx,hi,Instr.index,asIntOf,underlying,hu,h0,h1,sizeOf_run hsz,hp]
             · exact h.elim
           · exact h.elim
         · exact h.elim
       · rename_i hk
         replace h := withV_spec hR (withV_spec hR h)
         split at h
         · rename_i cs k' n hx hi
           split at h
           · rename_i l hl
             split at h
             · rename_i hlen
               obtain ⟨h0,h1,h⟩ := h
               refine val_mk hR (fun W' => ?_) h
               have hlen := Nat.eq_of_beq_eq_true hlen
               have hlt : n.toNat < l.length := by omega
               have hcs := fltsOf_spec hl
               have hp : (part el (⟨cs⟩ : Array Value) n.toNat).run c.P W' = .ok (.float .f64 (l.getD n.toNat 0)) W' := part_run hA (by simp [hcs,hlt]) W'
               simp [execOp,ho,hx,hi,Instr.index,asIntOf,underlying,hu,h0,h1,sizeOf_run hsz,hp]
             · exact h.elim
           · exact h.elim
         · exact h.elim
       · exact h.elim
     · exact h.elim
   · exact h.elim
 · exact pureK_val hR h (fun cs x => by rw [ho]; simp)
def boundK (e : Env) (x : Option Operand) (d y : Nat) (K : Nat → Prop) : Prop :=
 match x with
 | none => K d
 | some x => withV e x fun v => match v with
   | .int _ n => 0 ≤ n ∧ n ≤ (y : Int) ∧ K n.toNat
   | _ => False
theorem boundK_spec {P : Program} {n : Fr} {e : Env} {b : Bxs} {w W : World} {a : Act} (hR : Rep n e b w a W) {x : Option Operand} {d y : Nat} {K : Nat → Prop} (h : boundK e x d y K) :
   ∃ m,K m ∧ ∀ code W',((match x.map a.eval with | some v => Instr.sliceBound v y code | none => pure d) : Sem Nat).run P W' = .ok m W' := by
 cases x with
 | none => exact ⟨d,h,fun _ _ => rfl⟩
 | some x =>
   replace h := withV_spec hR h
   split at h
   · rename_i k n hv
     obtain ⟨h0,h1,h⟩ := h
     refine ⟨n.toNat,h,fun code W' => ?_⟩
     simp [hv,Instr.sliceBound,asIntOf,h0,h1]
   · exact h.elim
def slcK (c : Cfg) (o : Oper) (t : TypeId) (x : Operand) (lo hi mx : Option Operand) (e : Env) (K : Env → Prop) : Prop :=
 match mx with
 | some _ => False
 | none => match c.P.underlying t with
   | some (.slice el) => match sizeB c.P el with
     | some sz => withV e x fun vx => match vx with
       | .slice A l cp => boundK e hi l cp fun h => boundK e lo 0 h fun q => putK c.n o.dst (.v (.slice (if cp = q then A else A.map (·.add (scale q sz))) (h - q) (cp - q))) e K
       | _ => False
     | none => False
   | some .string => withV e x fun vx => match vx with
     | .string s => boundK e hi s.size s.size fun h => boundK e lo 0 h fun q => putK c.n o.dst (.v (.string (s.extract q h))) e K
     | _ => False
   | some (.array n el) => match sizeB c.P el with
     | some sz => withV e x fun vx => match vx with
       | .pointer (some A) => boundK e hi n n fun h => boundK e lo 0 h fun q => putK c.n o.dst (.v (.slice (some (if n = q then A else A.add (scale q sz))) (h - q) (n - q))) e K
       | _ => False
     | none => False
   | _ => False
theorem slcK_val {c : Cfg} {o : Oper} {t : TypeId} {x : Operand} {lo hi mx : Option Operand} {e : Env} {b : Bxs} {w W : World} {a : Act} {K : Kont} (ho : o.op = .slice t x lo hi mx) (hR : Rep c.n e b w a W)
   (h : slcK c o t x lo hi mx e fun e => K e b w) : ValP c.P o a W c.n b w K := by
 unfold slcK at h
 split at h
 · exact h.elim
 · split at h
   · rename_i el hu
     split at h
     · rename_i sz hsz
       replace h := withV_spec hR h
       split at h
       · rename_i A l cp hx
         obtain ⟨hh,h,hr1⟩ := boundK_spec (P := c.P) hR h
         obtain ⟨q,h,hr2⟩ := boundK_spec (P := c.P) hR h
         rw [scale_eq] at h
         refine val_mk hR (fun W' => ?_) h
         have hr1 := hr1 .sliceAcap
         have hr2 := hr2 .sliceB
         simp only [execOp,ho,hx,Instr.sliceAt,underlying,Sem.run_bind,run_program,Result.andThen_ok,hu,Sem.run_pure,Instr.slice,Instr.sliceBounds,Option.map_none]
         cases hi <;> cases lo <;> simp_all [sizeOf_run hsz]
       · exact h.elim
     · exact h.elim
   · rename_i hu
     replace h := withV_spec hR h
     split at h
     · rename_i s hx
       obtain ⟨hh,h,hr1⟩ := boundK_spec (P := c.P) hR h
       obtain ⟨q,h,hr2⟩ := boundK_spec (P := c.P) hR h
       refine val_mk hR (fun W' => ?_) h
       have hr1 := hr1 .sliceAlen
       have hr2 := hr2 .sliceB
       simp only [execOp,ho,hx,Instr.sliceAt,underlying,Sem.run_bind,run_program,Result.andThen_ok,hu,Sem.run_pure,Instr.slice,Instr.sliceBounds,Option.map_none]
       cases hi <;> cases lo <;> simp_all
     · exact h.elim
   · rename_i n el hu
     split at h
     · rename_i sz hsz
       replace h := withV_spec hR h
       split at h
       · rename_i A hx
         obtain ⟨hh,h,hr1⟩ := boundK_spec (P := c.P) hR h
         obtain ⟨q,h,hr2⟩ := boundK_spec (P := c.P) hR h
         rw [scale_eq] at h
         refine val_mk hR (fun W' => ?_) h
         have hr1 := hr1 .sliceAlen
         have hr2 := hr2 .sliceB
         simp only [execOp,ho,hx,Instr.sliceAt,Instr.sureAddr,underlying,Sem.run_bind,run_program,Result.andThen_ok,hu,Sem.run_pure,Instr.sliceBounds,Option.map_none]
         cases hi <;> cases lo <;> simp_all [sizeOf_run hsz]
       · exact h.elim
     · exact h.elim
   · exact h.elim
structure EqOk (P : Program) (t : TypeId) : Prop where
 stood : P.stoodInHeld t = false
 guard : P.eqGuardType P.depth t = false
 names : ∀ fs, P.underlying t = some (.struct fs) → ∀ f ∈ fs.toList, (f.name == "_") = false
def eqOkB (P : Program) (t : TypeId) : Bool :=
 !P.stoodInHeld t && !P.eqGuardType P.depth t && (match P.underlying t with
   | some (.struct fs) => fs.toList.all fun f => !(f.name == "_")
   | _ => true)
theorem eqOk_of {P : Program} {t : TypeId} (h : eqOkB P t = true) : EqOk P t := by
 unfold eqOkB at h
 simp only [Bool.and_eq_true,Bool.not_eq_true'] at h
 refine ⟨h.1.1,h.1.2,fun fs hf f hm => ?_⟩
 rw [hf] at h
 simpa using List.all_eq_true.1 h.2 f hm
def andL : List Bool → Bool
 | [] => true
 | [x] => x
 | x :: y :: r => x && andL (y :: r)
theorem andL_cons (x : Bool) (r : List Bool) : andL (x :: r) = (x && andL r) := by cases r <;> simp [andL]
def eqFs (P : Program) (xs ys : List Value) : List Field → (List Bool → Prop) → Prop
 | [],K => K []
 | f :: r,K => match P.underlying f.type with
   | some (.int _) => match xs[f.offset]?,ys[f.offset]? with
     | some (.int k a),some (.int k' b) => match sameK k k' with
       | true => eqFs P xs ys r fun l => K ((a == b) :: l)
       | false => False
     | _,_ => False
   | some .bool => match xs[f.offset]?,ys[f.offset]? with
     | some (.bool a),some (.bool b) => eqFs P xs ys r fun l => K ((a == b) :: l)
     | _,_ => False
   | some .string => match xs[f.offset]?,ys[f.offset]? with
     | some (.string a),some (.string b) => eqFs P xs ys r fun l => K ((a.toList == b.toList) :: l)
     | _,_ => False
   | _ => False
theorem eqFs_spec {P : Program} {xs ys : List Value} {d : Nat} : ∀ {fs : List Field} {K : List Bool → Prop}, (∀ f ∈ fs, (f.name == "_") = false) → eqFs P xs ys fs K →
   ∃ l,K l ∧ ∀ W,(Op.eqFields (d + 1) ⟨xs⟩ ⟨ys⟩ fs).run P W = .ok (andL l) W
 | [],K,hn,h => ⟨[],h,fun W => by simp [Op.eqFields,andL]⟩
 | f :: r,K,hn,h => by
   have hnf : f.name ≠ "_" := by simpa using hn f List.mem_cons_self
   have step : ∀ (v u : Value) (x : Bool),isAggB P f.type = some false → xs[f.offset]? = some v → ys[f.offset]? = some u → (∀ W,(Op.equalIn (d + 1) f.type v u).run P W = .ok x W) → eqFs P xs ys r (fun l => K (x :: l)) →
       ∃ l,K l ∧ ∀ W,(Op.eqFields (d + 1) ⟨xs⟩ ⟨ys⟩ (f :: r)).run P W = .ok (andL l) W := by
     intro v u x hA hv hu he hr
     obtain ⟨l,hK,hl⟩ := eqFs_spec (fun g hg => hn g (List.mem_cons_of_mem _ hg)) hr
     refine ⟨x :: l,hK,fun W => ?_⟩
     rw [andL_cons]
     simp only [Op.eqFields,if_pos hnf,Sem.run_bind,part_run hA (cs := ⟨xs⟩) (by simpa using hv),part_run hA (cs := ⟨ys⟩) (by simpa using hu),Result.andThen_ok,he]
     cases x
     · simp
     · simpa using hl W
   unfold eqFs at h
   split at h
   · rename_i k0 hu
     split at h
     · rename_i k a k' b hx hy
       split at h
       · rename_i hk
         cases sameK_eq hk
         exact step _ _ _ (by simp [isAggB,hu]) hx hy (fun W => run_equalIn_int W d f.type k _ a b hu) h
       · exact h.elim
     · exact h.elim
   · rename_i hu
     split at h
     · rename_i a b hx hy
       exact step _ _ _ (by simp [isAggB,hu]) hx hy (fun W => run_equalIn_bool' W d f.type a b hu) h
     · exact h.elim
   · rename_i hu
     split at h
     · rename_i a b hx hy
       exact step _ _ _ (by simp [isAggB,hu]) hx hy (fun W => run_equalIn_string W d f.type a b hu) h
     · exact h.elim
   · exact h.elim
def eqlK (c : Cfg) (o : Oper) (neq : Bool) (t : TypeId) (x y : Operand) (e : Env) (K : Env → Prop) : Prop :=
 match c.P.underlying t with
 | some (.struct fs) => match c.eqs t with
   | true => withV e x fun vx => withV e y fun vy => match vx,vy with
     | .agg ⟨xs⟩,.agg ⟨ys⟩ => eqFs c.P xs ys fs.toList fun l => match neq with
       | false => putK c.n o.dst (.v (.bool (andL l))) e K
       | true => putK c.n o.dst (.v (.bool (!andL l))) e K
     | _,_ => False
   | false => False
 | some (.slice _) => withV e x fun vx => withV e y fun vy => match vx,vy with
   | .slice A _ _,.slice none _ _ => match neq with
     | false => putK c.n o.dst (.v (.bool A.isNone)) e K
     | true => putK c.n o.dst (.v (.bool (!A.isNone))) e K
   | _,_ => False
 | _ => pureK c o e K
theorem eqlK_val {c : Cfg} {o : Oper} {neq : Bool} {t u : TypeId} {x y : Operand} {e : Env} {b : Bxs} {w W : World} {a : Act} {K : Kont} (hE : ∀ t,c.eqs t = true → EqOk c.P t)
   (ho : o.op = .binOp (match neq with | true => .neq | false => .eql) t x y u) (hR : Rep c.n e b w a W) (h : eqlK c o neq t x y e fun e => K e b w) : ValP c.P o a W c.n b w K := by
 unfold eqlK at h
 split at h
 · rename_i fs hu
   split at h
   · rename_i he
     have hE := hE t he
     replace h := withV_spec hR (withV_spec hR h)
     split at h
     · rename_i xs ys hx hy
       obtain ⟨l,hK,hl⟩ := eqFs_spec (d := 9998) (hE.names fs hu) h
       have hf : c.P.fieldsOf t = fs := by simp [Program.fieldsOf,hu]
       have hrun : ∀ W',(Op.equalIn 10000 t (.agg ⟨xs⟩) (.agg ⟨ys⟩)).run c.P W' = .ok (andL l) W' := fun W' => by
         rw [run_equalIn_struct W' 9999 t _ _ (by rw [hf]; exact hu) hE.stood,hf]
         exact hl W' 
       cases neq
       · refine val_mk hR (fun W' => ?_) hK
         simp only [execOp,ho,hx,hy,Sem.run_bind,run_eqGuard_agg W' _ t x y _ _ hE.guard,Result.andThen_ok,run_eql_struct,hrun,Sem.run_pure]
       · refine val_mk hR (fun W' => ?_) hK
         simp only [execOp,ho,hx,hy,Sem.run_bind,run_eqGuard_agg W' _ t x y _ _ hE.guard,Result.andThen_ok,run_neq_struct,hrun,Sem.run_pure]
     · exact h.elim
   · exact h.elim
 · rename_i el hu
   replace h := withV_spec hR (withV_spec hR h)
   split at h
   · rename_i A l1 c1 l2 c2 hx hy
     have hrun : ∀ W',(Op.equal t (.slice A l1 c1) (.slice none l2 c2)).run c.P W' = .ok A.isNone W' := fun W' => by
       have hd : ∀ (d : Nat) (A : Option Addr),(Op.equalIn (d + 1) t (.slice A l1 c1) (.slice none l2 c2)).run c.P W' = .ok A.isNone W' := fun d A => by cases A <;> simp [Op.equalIn,underlying,hu]
       exact hd 9999 A
     cases neq
     · refine val_mk hR (fun W' => ?_) h
       simp [execOp,ho,hx,hy,eqGuard,binOp,hrun]
     · refine val_mk hR (fun W' => ?_) h
       simp [execOp,ho,hx,hy,eqGuard,binOp,hrun]
   · exact h.elim
 · exact pureK_val hR h (fun cs x => by rw [ho]; simp)
def resF (P : Program) (f : Nat) (v : Value) (K : Value → Prop) : Prop :=
 match P.funcs[f]? with
 | some fn => match shsOf P fn.resultTypes.toList with
   | some shs => resK shs v K
   | none => False
 | none => False
theorem resF_spec {P : Program} {f : Nat} {v : Value} {K : Value → Prop} (h : resF P f v K) : K v := by
 unfold resF at h
 split at h
 · split at h
   · exact resK_spec h
   · exact h.elim
 · exact h.elim
def CallOk (P : Program) (f : Nat) : Prop := ∀ (args : Array Value) (W : World),(callFunc f args).run P W = .ok (.enter f args) W
def callOkB (P : Program) (f : Nat) : Bool :=
 match P.funcs[f]? with
 | some fn => !(fn.name == "runtime.NumGoroutine") && !fn.body.isNone
 | none => false
theorem callOk_of {P : Program} {f : Nat} (h : callOkB P f = true) : CallOk P f := by
 unfold callOkB at h
 split at h
 · rename_i fn hf
   simp only [Bool.and_eq_true,Bool.not_eq_true'] at h
   intro args W
   simp only [callFunc,Sem.run_bind,run_program,Result.andThen_ok,hf,h.1,h.2,Bool.false_eq_true,if_false,Sem.run_pure]
 · cases h
def ExtOk (P : Program) (f : Nat) (s : List Value → Sem Value) : Prop := ∀ (args : List Value) (W : World),(callFunc f ⟨args⟩).run P W = ((s args).run P W).andThen fun v w' => .ok (.value v) w'
theorem extOk_of {P : Program} {f : Nat} {fn : Func} {e : Array Value → Sem Value} (hf : P.funcs[f]? = some fn) (hname : (fn.name == "runtime.NumGoroutine") = false)
   (hb : fn.body.isNone = true) (hn : Extern.findNext fn = none) (he : Extern.find fn = some e) : ExtOk P f fun l => e ⟨l⟩ := fun args W => run_callFunc_extern hf hname hb hn he ⟨args⟩ W
theorem extK_does {P : Program} {n : Fr} {o : Oper} {e : Env} {b : Bxs} {w W : World} {a : Act} {K : Kont} {s : Sem Value} {F : Value → (Value → Prop) → Prop} (hR : Rep n e b w a W)
   (hF : ∀ v K,F v K → K v) (hs : (execOp a.eval o).run P W = (s.run P W).andThen fun v w' => .ok (.value v) w')
   (h : RunK P s n.B w (blks b) fun v w2 => F v fun v => putK n o.dst (.v v) e fun e => K e b w2) : Does P o a W n K := by
 obtain ⟨v,W2,hr,hk,h⟩ := expo_spec hR h
 obtain ⟨w2,hm,h⟩ := hide_spec h
 obtain ⟨e',hK,hR'⟩ := (rep_hide hR hk hm).putK (sv := .v v) rfl (hF _ _ h)
 refine does_value (W' := W2) ?_ ⟨e',b,w2,hK,hR'⟩
 rw [hs,hr]
 rfl
def clK (c : Cfg) (o : Oper) (f : Operand) (args : List Operand) (e : Env) (b : Bxs) (w : World) (K : Kont) : Prop :=
 withV e f fun vf => withVs e args fun vs => match vf with
   | .func (.func g) ⟨first⟩ ⟨captured⟩ => match c.calls g with
     | true => CallK c.P g (first ++ (vs ++ captured)) c.n.B w (blks b) fun v w2 => resF c.P g v fun v => putK c.n o.dst (.v v) e fun e => K e b w2
     | false => match c.exts g with
       | some s => RunK c.P (s (first ++ (vs ++ captured))) c.n.B w (blks b) fun v w2 => resF c.P g v fun v => putK c.n o.dst (.v v) e fun e => K e b w2
       | none => False
   | _ => False
theorem clK_does {c : Cfg} {o : Oper} {f : Operand} {args ats : _} {e : Env} {b : Bxs} {w W : World} {a : Act} {K : Kont} (hC : ∀ f,c.calls f = true → CallOk c.P f) (hE : ∀ f s,c.exts f = some s → ExtOk c.P f s)
   (ho : o.op = .call { callee := .value f,args := args,argTypes := ats }) (hR : Rep c.n e b w a W) (h : clK c o f args.toList e b w K) : Does c.P o a W c.n K := by
 replace h := withVs_spec hR (withV_spec hR h)
 split at h
 · rename_i g first captured hf
   have hpre : (execOp a.eval o).run c.P W = (callFunc g ⟨first ++ (args.toList.map a.eval ++ captured)⟩).run c.P W := by
     have : (⟨first⟩ ++ args.map a.eval ++ ⟨captured⟩ : Array Value) = ⟨first ++ (args.toList.map a.eval ++ captured)⟩ := by
       apply Array.toList_inj.1
       simp
     simp only [execOp,ho,resolve,hf,Deferred.ofValue,pure_bind,invoke]
     rw [this]
   split at h
   · rename_i hg
     have hcall := hC g hg
     have h := expo_spec hR h
     intro Q next hn
     have hrun : (execOp a.eval o).run c.P W = .ok (.enter g ⟨first ++ (args.toList.map a.eval ++ captured)⟩) W := hpre.trans (hcall _ W)
     simp only [Oper.wp,hrun,Oper.upon]
     refine Calls.mono h fun ed W2 hq => ?_
     obtain ⟨v,rfl,hk,hh⟩ := hq
     obtain ⟨w2,hm,hh⟩ := hide_spec hh
     obtain ⟨e',hK,hR'⟩ := (rep_hide hR hk hm).putK (sv := .v v) rfl (resF_spec hh)
     exact hn e' b w2 _ _ hK hR'
   · split at h
     · rename_i s hs
       exact extK_does (F := resF c.P g) hR (fun v K h => resF_spec h) (hpre.trans (hE g s hs _ W)) h
     · exact h.elim
 · exact h.elim
def memK (c : Cfg) (o : Oper) (xs : List Operand) (s : List Value → Sem Value) (sh : List Sh) (e : Env) (b : Bxs) (w : World) (K : Kont) : Prop :=
 withVs e xs fun vs => RunK c.P (s vs) c.n.B w (blks b) fun v w2 => resK sh v fun v => putK c.n o.dst (.v v) e fun e => K e b w2
def opK (c : Cfg) (o : Oper) (e : Env) (b : Bxs) (w : World) (K : Kont) : Prop :=
 match o.op with
 | .move x => moveK c o x e fun e => K e b w
 | .assign x => moveK c o x e fun e => K e b w
 | .nilCheck x => nilK c o x e fun e => K e b w
 | .fieldAddr t x f => fieldK c o t x f e fun e => K e b w
 | .load t x => ldK c o t x e b w fun e => K e b w
 | .store t x y => stK c o t x y e b w K
 | .alloc t => zeroK c.P t fun l => newK c o t l e b w K
 | .box t x => withV e x fun v => newK c o t (cellsOfV v) e b w K
 | .buildSlice t len ps => rowK c o t len ps e b w K
 | .indexAddr t x i => idxK c o t x i e fun e => K e b w
 | .index t x i => ixK c o t x i e fun e => K e b w
 | .slice t x lo hi mx => slcK c o t x lo hi mx e fun e => K e b w
 | .binOp op t x y _ => match op with
   | .eql => eqlK c o false t x y e fun e => K e b w
   | .neq => eqlK c o true t x y e fun e => K e b w
   | op => match fArith c.P t op with
     | true => memK c o [x,y] (fun l => Go.binOp op t (l.getD 0 undef) (l.getD 1 undef)) [.one (.float .f64)] e b w K
     | false => binK c o op x y e fun e => K e b w
 | .makeSlice t x y => memK c o [x,y] (fun l => Instr.makeSlice t (l.getD 0 undef) (l.getD 1 undef)) [.one .slice] e b w K
 | .convert src dst x => match c.P.underlying src,c.P.underlying dst with
   | some (.slice _),some .string => memK c o [x] (fun l => convert src dst (l.getD 0 undef)) [.one .str] e b w K
   | some .string,some (.slice _) => memK c o [x] (fun l => convert src dst (l.getD 0 undef)) [.one .slice] e b w K
   | some (.float _),some (.int k) => memK c o [x] (fun l => convert src dst (l.getD 0 undef)) [.one (.int k)] e b w K
   | _,_ => pureK c o e fun e => K e b w
 | .call d => match d.callee with
   | .value f => clK c o f d.args.toList e b w K
   | .builtin .append => memK c o d.args.toList (fun l => Builtin.append_ d.argTypes o.type ⟨l⟩) [.one .slice] e b w K
   | .builtin .copy => memK c o d.args.toList (fun l => Builtin.copy_ d.argTypes o.type ⟨l⟩) [.one (.int .i64)] e b w K
   | .builtin .len => pureK c o e fun e => K e b w
   | .builtin .cap => pureK c o e fun e => K e b w
   | .builtin .min => pureK c o e fun e => K e b w
   | .builtin .max => pureK c o e fun e => K e b w
   | _ => False
 | .pick _ _ _ => pureK c o e fun e => K e b w
 | .build _ _ => pureK c o e fun e => K e b w
 | .unOp _ _ _ => pureK c o e fun e => K e b w
 | .extract _ _ => pureK c o e fun e => K e b w
 | .field _ _ _ => pureK c o e fun e => K e b w
 | .makeFunc _ _ _ => pureK c o e fun e => K e b w
 | _ => False
structure CfgOk (c : Cfg) : Prop where
 calls : ∀ f,c.calls f = true → CallOk c.P f
 eqs : ∀ t,c.eqs t = true → EqOk c.P t
 exts : ∀ f s,c.exts f = some s → ExtOk c.P f s
theorem memK_does {c : Cfg} {o : Oper} {xs : List Operand} {s : List Value → Sem Value} {sh : List Sh} {e : Env} {b : Bxs} {w W : World} {a : Act} {K : Kont} (hR : Rep c.n e b w a W)
   (hs : execOp a.eval o = (do pure (Next.value (← s (xs.map a.eval))))) (h : memK c o xs s sh e b w K) : Does c.P o a W c.n K :=
 runK_does hR hs (withVs_spec hR h)
theorem opK_does {c : Cfg} (hc : CfgOk c) {o : Oper} {e : Env} {b : Bxs} {w W : World} {a : Act} {K : Kont} (hR : Rep c.n e b w a W) (h : opK c o e b w K) : Does c.P o a W c.n K := by
 have pk : (∀ cs x,o.op ≠ .select cs x) → pureK c o e (fun e => K e b w) → Does c.P o a W c.n K := fun hs h => (pureK_val hR h hs).does
 unfold opK at h
 split at h
 · rename_i x ho
   exact (moveK_val (fun W' => by simp [execOp,ho]) hR h).does
 · rename_i x ho
   exact (moveK_val (fun W' => by simp [execOp,ho]) hR h).does
 · rename_i x ho
   exact (nilK_val ho hR h).does
 · rename_i t x f ho
   exact (fieldK_val ho hR h).does
 · rename_i t x ho
   exact ldK_does ho hR h
 · rename_i t x y ho
   exact stK_does ho hR h
 · rename_i t ho
   exact allocK_does ho hR h
 · rename_i t x ho
   exact boxK_does ho hR h
 · rename_i t len ps ho
   exact rowK_does ho hR h
 · rename_i t x i ho
   exact (idxK_val ho hR h).does
 · rename_i t x i ho
   exact (ixK_val ho hR h).does
 · rename_i t x lo hi mx ho
   exact (slcK_val ho hR h).does
 · rename_i op t x y u ho
   split at h
   · exact (eqlK_val (neq := false) hc.eqs ho hR h).does
   · exact (eqlK_val (neq := true) hc.eqs ho hR h).does
   · rename_i h1 h2
     split at h
     · refine memK_does hR ?_ h
       simp only [execOp,ho,List.map,List.getD_cons_zero,List.getD_cons_succ]
       cases op <;> first | (exact absurd rfl h1) | (exact absurd rfl h2) | rfl
     · exact (binK_val ho hR h).does
 · rename_i t x y ho
   exact memK_does hR (by simp only [execOp,ho,List.map,List.getD_cons_zero,List.getD_cons_succ]) h
 · rename_i src dst x ho
   split at h
   · exact memK_does hR (by simp only [execOp,ho,List.map,List.getD_cons_zero]) h
   · exact memK_does hR (by simp only [execOp,ho,List.map,List.getD_cons_zero]) h
   · exact memK_does hR (by simp only [execOp,ho,List.map,List.getD_cons_zero]) h
   · exact pk (fun cs x => by rw [ho]; simp) h
 · rename_i d ho
   obtain ⟨callee,args,ats⟩ := d
   have hne : ∀ cs x,o.op ≠ .select cs x := fun cs x => by rw [ho]; simp
   have harr : (⟨args.toList.map a.eval⟩ : Array Value) = args.map a.eval := by apply Array.toList_inj.1; simp
   simp only at h
   split at h
   · exact clK_does hc.calls hc.exts ho hR h
   · exact memK_does hR (by simp only [execOp,ho,resolve,pure_bind,invoke,builtin,harr]) h
   · exact memK_does hR (by simp only [execOp,ho,resolve,pure_bind,invoke,builtin,harr]) h
   · exact pk hne h
   · exact pk hne h
   · exact pk hne h
   · exact pk hne h
   · exact h.elim
 · rename_i ho; exact pk (fun cs x => by rw [ho]; simp) h
 · rename_i ho; exact pk (fun cs x => by rw [ho]; simp) h
 · rename_i ho; exact pk (fun cs x => by rw [ho]; simp) h
 · rename_i ho; exact pk (fun cs x => by rw [ho]; simp) h
 · rename_i ho; exact pk (fun cs x => by rw [ho]; simp) h
 · rename_i ho; exact pk (fun cs x => by rw [ho]; simp) h
 · exact h.elim
def guardSlot (ops : Array Oper) (j : Nat) : Option Nat :=
 match ops[j]? with
 | some o => o.dst
 | none => none
def gdK (c : Cfg) (ops : Array Oper) (o : Oper) (e : Env) (b : Bxs) (w : World) (K : Kont) : Prop :=
 match o.guard with
 | none => opK c o e b w K
 | some (j,want) => match guardSlot ops j with
   | some t => match look e t with
     | some (.v (.bool g)) => if g = want then opK c o ((t,.v (.bool want)) :: e) b w K else putK c.n o.dst (.v undef) ((t,.v (.bool (!want))) :: e) fun e => K e b w
     | some (.v (.tuple ⟨[]⟩)) => putK c.n o.dst (.v undef) e fun e => K e b w
     | _ => False
   | none => False
def opsK (c : Cfg) (ops : Array Oper) : List Oper → Env → Bxs → World → Kont → Prop
 | [],e,b,w,K => K e b w
 | o :: r,e,b,w,K => gdK c ops o e b w fun e b w => opsK c ops r e b w K
theorem yielded_slot {ops : Array Oper} {j t : Nat} {tmps : Array Value} {g : Bool} (h : guardSlot ops j = some t) (hg : tmps.getD t undef = .bool g) : yielded ops tmps j = some g := by
 unfold guardSlot at h
 split at h
 · rename_i o ho
   unfold yielded
   simp only [ho,Option.bind_some,h]
   cases ht : tmps[t]? with
   | none => simp [ht,undef] at hg
   | some v =>
     simp [ht] at hg
     subst hg
     rfl
 · cases h
theorem yielded_none {ops : Array Oper} {j t : Nat} {tmps : Array Value} (h : guardSlot ops j = some t) (hg : tmps.getD t undef = .tuple ⟨[]⟩) : yielded ops tmps j = none := by
 unfold guardSlot at h
 split at h
 · rename_i o ho
   unfold yielded
   simp only [ho,Option.bind_some,h]
   cases ht : tmps[t]? with
   | none => rfl
   | some v =>
     simp [ht] at hg
     subst hg
     rfl
 · cases h
theorem gdK_op {c : Cfg} (hc : CfgOk c) {ops : Array Oper} {i : Nat} {o : Oper} (ho : ops[i]? = some o) {e : Env} {b : Bxs} {w W : World} {a : Act} {K : Kont} (hR : Rep c.n e b w a W) (h : gdK c ops o e b w K)
   {Q : Exit → Act → World → Prop} {next : Act → World → Prop} (hn : ∀ e b w a' W',K e b w → Rep c.n e b w a' W' → next a' W') : wpOp c.P ops Q i next a W := by
 unfold wpOp
 simp only [ho]
 unfold gdK at h
 split at h
 · rename_i hg
   have hw : Region.wanted o (yielded ops a.tmps) = true := by unfold Region.wanted; rw [hg]
   rw [if_pos hw]
   exact .inl (opK_does hc hR h Q next hn)
 · rename_i j want hg
   split at h
   · rename_i t ht
     split at h
     · rename_i g hl
       have hv : a.tmps.getD t undef = .bool g := by
         have := hR.slots t _ hl
         simpa [den] using this.symm
       have hy := yielded_slot ht hv
       have hR2 : Rep c.n ((t,.v (.bool g)) :: e) b w a W := by
         refine ⟨hR.size,hR.nodef,fun i sv hi => ?_,hR.pad,hR.base,hR.lo,hR.boxes,hR.hid,hR.keys,hR.apart⟩
         rw [look_cons] at hi
         split at hi
         · rename_i hit; cases hi; subst hit; simp [den, ← hv]
         · exact hR.slots i sv hi
       split at h
       · rename_i hgw
         subst hgw
         have hw : Region.wanted o (yielded ops a.tmps) = true := by unfold Region.wanted; rw [hg]; simp [hy]
         rw [if_pos hw]
         exact .inl (opK_does hc hR2 h Q next hn)
       · rename_i hgw
         have hgw' : g = !want := by cases g <;> cases want <;> simp_all
         have hw : ¬ Region.wanted o (yielded ops a.tmps) = true := by unfold Region.wanted; rw [hg]; simp [hy,hgw]
         rw [if_neg hw]
         rw [← hgw'] at h
         obtain ⟨e',hK,hR'⟩ := hR2.putK (sv := .v undef) rfl h
         exact hn e' b w _ _ hK hR'
     · rename_i hl
       have hv : a.tmps.getD t undef = .tuple ⟨[]⟩ := by
         have := hR.slots t _ hl
         simpa [den] using this.symm
       have hy := yielded_none ht hv
       have hw : ¬ Region.wanted o (yielded ops a.tmps) = true := by unfold Region.wanted; rw [hg]; simp [hy]
       rw [if_neg hw]
       obtain ⟨e',hK,hR'⟩ := hR.putK (sv := .v undef) rfl h
       exact hn e' b w _ _ hK hR'
     · exact h.elim
   · exact h.elim
theorem opsK_ops {c : Cfg} (hc : CfgOk c) {ops : Array Oper} {Q : Exit → Act → World → Prop} {K : Kont} (hn : ∀ e b w a' W',K e b w → Rep c.n e b w a' W' → Q .normal a' W') :
   ∀ (l : List Oper) (i : Nat) (e : Env) (b : Bxs) (w W : World) (a : Act),ops.toList.drop i = l → Rep c.n e b w a W → opsK c ops l e b w K → wpOps c.P ops Q (List.range' i l.length) a W
 | [],i,e,b,w,W,a,hl,hR,h => hn e b w a W h hR
 | o :: r,i,e,b,w,W,a,hl,hR,h => by
   have ho : ops[i]? = some o := by
     have := congrArg (fun l => l[0]?) hl
     simpa using this
   have hl' : ops.toList.drop (i + 1) = r := by
     have := congrArg List.tail hl
     simpa using this
   rw [List.length_cons,List.range'_succ,wpOps_cons]
   exact gdK_op hc ho hR h fun e b w a' W' hK hR' => opsK_ops hc hn r (i + 1) e b w W' a' hl' hR' hK
theorem region_text {c : Cfg} (hc : CfgOk c) {id : Nat} {ops : Array Oper} {Q : Exit → Act → World → Prop} {K : Kont} (hn : ∀ e b w a' W',K e b w → Rep c.n e b w a' W' → Q .normal a' W')
   {e : Env} {b : Bxs} {w W : World} {a : Act} (hR : Rep c.n e b w a W) (h : opsK c ops ops.toList e b w K) : (Code.region id ops false).wp c.P Q a W := by
 refine wp_region ?_
 have := opsK_ops hc hn ops.toList 0 e b w W a (by simp) hR h
 rw [List.range_eq_range']
 simpa using this
def allS (s : Sc) (F : Value → Prop) : Prop :=
 match s with
 | .int k => ∀ n : Int,F (.int k n)
 | .bool => ∀ x : Bool,F (.bool x)
 | .str => ∀ x : ByteArray,F (.string x)
 | .ptr => ∀ p : Addr,F (.pointer (some p))
 | .slice => ∀ (A : Option Addr) (l c : Nat),F (.slice A l c)
 | .float k => ∀ n : Nat,F (.float k n)
 | .any => ∀ v : Value,F v
def asS (s : Sc) (v : Value) (K : Value → Prop) : Prop :=
 match s,v with
 | .int k,.int k' n => match sameK k k' with
   | true => K (.int k n)
   | false => False
 | .bool,.bool x => K (.bool x)
 | .str,.string x => K (.string x)
 | .ptr,.pointer (some p) => K (.pointer (some p))
 | .slice,.slice A l c => K (.slice A l c)
 | .float .f64,.float .f64 n => K (.float .f64 n)
 | .any,v => K v
 | _,_ => False
def Fits (s : Sc) (v : Value) : Prop := ∀ F : Value → Prop,allS s F → F v
theorem asS_spec {s : Sc} {v : Value} {K : Value → Prop} (h : asS s v K) : Fits s v ∧ K v := by
 unfold asS at h
 split at h
 · split at h
   · rename_i hk; cases sameK_eq hk; exact ⟨fun F hF => hF _,h⟩
   · exact h.elim
 · exact ⟨fun F hF => hF _,h⟩
 · exact ⟨fun F hF => hF _,h⟩
 · exact ⟨fun F hF => hF _,h⟩
 · exact ⟨fun F hF => hF _ _ _,h⟩
 · exact ⟨fun F hF => hF _,h⟩
 · exact ⟨fun F hF => hF _,h⟩
 · exact h.elim
def allL : List Sc → (List Value → Prop) → Prop
 | [],F => F []
 | s :: r,F => allS s fun v => allL r fun l => F (v :: l)
def asL : List Sc → List Value → (List Value → Prop) → Prop
 | [],[],K => K []
 | s :: r,v :: vs,K => asS s v fun v => asL r vs fun l => K (v :: l)
 | _,_,_ => False
theorem asL_spec : ∀ {l : List Sc} {vs : List Value} {K : List Value → Prop},asL l vs K → (∀ F,allL l F → F vs) ∧ K vs
 | [],[],K,h => ⟨fun F hF => hF,h⟩
 | s :: r,v :: vs,K,h => by
   obtain ⟨h1,h2⟩ := asS_spec h
   obtain ⟨h3,h4⟩ := asL_spec h2
   exact ⟨fun F hF => h3 (fun l => F (v :: l)) (h1 (fun v => allL r fun l => F (v :: l)) hF),h4⟩
 | [],_ :: _,K,h => h.elim
 | _ :: _,[],K,h => h.elim
def allH (s : Sh) (F : Value → Prop) : Prop :=
 match s with
 | .one s => allS s F
 | .agg l => allL l fun vs => F (.agg ⟨vs⟩)
def asH (s : Sh) (v : Value) (K : Value → Prop) : Prop :=
 match s with
 | .one s => asS s v K
 | .agg l => match v with
   | .agg ⟨vs⟩ => asL l vs fun vs => K (.agg ⟨vs⟩)
   | _ => False
theorem asH_spec {s : Sh} {v : Value} {K : Value → Prop} (h : asH s v K) : (∀ F,allH s F → F v) ∧ K v := by
 cases s with
 | one s => exact asS_spec h
 | agg l =>
   simp only [asH] at h
   split at h
   · rename_i vs
     obtain ⟨h1,h2⟩ := asL_spec h
     exact ⟨fun F hF => h1 _ hF,h2⟩
   · exact h.elim
/- What is live where ways meet: slots with their forms; local variables' own blocks with their types and cells' forms. K: what is asked there,by the rounds that are left of the loops around. -/
def nodup : List Nat → Bool
 | [] => true
 | k :: r => match hasN r k with
   | true => false
   | false => nodup r
structure Cut where
 slots : List (Nat × Sh)
 keys : List (Nat × Nat × List Sc)
 K : List Nat → List Value → List Bx → World → Prop
def rdS (e : Env) : List (Nat × Sh) → (List Value → Prop) → Prop
 | [],K => K []
 | (i,s) :: r,K => match look e i with
   | some (.v v) => asH s v fun v => rdS e r fun l => K (v :: l)
   | _ => False
def rdB (e : Env) (b : Bxs) : List (Nat × Nat × List Sc) → (List Bx → Prop) → Prop
 | [],K => K []
 | (k,t,l) :: r,K => match look e k with
   | some (.bx k' 0) => match Nat.beq k' k with
     | true => match look b k with
       | some x => match Nat.beq x.ty t with
         | true => asL l x.cells fun cells => rdB e b r fun bs => K (⟨x.blk,t,cells⟩ :: bs)
         | false => False
       | none => False
     | false => False
   | _ => False
def Cut.read (C : Cut) (F : List Value → List Bx → World → Prop) (e : Env) (b : Bxs) (w : World) : Prop :=
 match nodup (C.keys.map Prod.fst) with
 | true => rdS e C.slots fun vs => rdB e b C.keys fun bs => F vs bs w
 | false => False
def allVs : List (Nat × Sh) → (List Value → Prop) → Prop
 | [],F => F []
 | (_,s) :: r,F => allH s fun v => allVs r fun l => F (v :: l)
def allBs : List (Nat × Nat × List Sc) → (List Bx → Prop) → Prop
 | [],F => F []
 | (_,t,l) :: r,F => ∀ q : Nat,allL l fun cells => allBs r fun bs => F (⟨q,t,cells⟩ :: bs)
def mkE : List (Nat × Sh) → List Value → Env → Env
 | (i,_) :: r,v :: vs,e => (i,.v v) :: mkE r vs e
 | _,_,e => e
def mkP : List (Nat × Nat × List Sc) → Env
 | [] => []
 | (k,_,_) :: r => (k,.bx k 0) :: mkP r
def mkB : List (Nat × Nat × List Sc) → List Bx → Bxs
 | (k,_,_) :: r,x :: bs => (k,x) :: mkB r bs
 | _,_ => []
def Cut.all (C : Cut) (F : List Value → List Bx → World → Prop) : Prop := allVs C.slots fun vs => allBs C.keys fun bs => ∀ w,F vs bs w
theorem rdS_spec {e : Env} : ∀ {l : List (Nat × Sh)} {K : List Value → Prop},rdS e l K →
   ∃ vs,(∀ F,allVs l F → F vs) ∧ K vs ∧ ∀ (e0 : Env) i sv,look (mkE l vs e0) i = some sv → (∃ v,sv = .v v ∧ look e i = some sv) ∨ look e0 i = some sv
 | [],K,h => ⟨[],fun F hF => hF,h,fun e0 i sv hi => .inr hi⟩
 | (j,s) :: r,K,h => by
   unfold rdS at h
   split at h
   · rename_i v hv
     obtain ⟨h1,h2⟩ := asH_spec h
     obtain ⟨vs,h3,h4,h5⟩ := rdS_spec h2
     refine ⟨v :: vs,fun F hF => h3 (fun l => F (v :: l)) (h1 (fun v => allVs r fun l => F (v :: l)) hF),h4,fun e0 i sv hi => ?_⟩
     simp only [mkE,look_cons] at hi
     split at hi
     · rename_i hij; subst hij; cases hi; exact .inl ⟨_,rfl,hv⟩
     · exact h5 e0 i sv hi
   · exact h.elim
theorem rdB_spec {e : Env} {b : Bxs} : ∀ {l : List (Nat × Nat × List Sc)} {K : List Bx → Prop},rdB e b l K →
   ∃ bs,(∀ F,allBs l F → F bs) ∧ K bs ∧ (∀ i sv,look (mkP l) i = some sv → look e i = some sv ∧ sv = .bx i 0 ∧ ∃ x,look (mkB l bs) i = some x) ∧ (∀ k x,look (mkB l bs) k = some x → look b k = some x) ∧ (mkB l bs).map Prod.fst = l.map Prod.fst
 | [],K,h => ⟨[],fun F hF => hF,h,fun i sv hi => by simp [mkP,look] at hi,fun k x hx => by simp [mkB,look] at hx,rfl⟩
 | (k,t,l) :: r,K,h => by
   unfold rdB at h
   split at h
   · rename_i k' hv
     split at h
     · rename_i hk
       have hk := Nat.eq_of_beq_eq_true hk
       subst hk
       split at h
       · rename_i x hx
         split at h
         · rename_i ht
           have ht := Nat.eq_of_beq_eq_true ht
           obtain ⟨h1,h2⟩ := asL_spec h
           obtain ⟨bs,h3,h4,h5,h6,h7⟩ := rdB_spec h2
           have hxe : (⟨x.blk,t,x.cells⟩ : Bx) = x := by cases x; simp at ht; subst ht; rfl
           refine ⟨⟨x.blk,t,x.cells⟩ :: bs,fun F hF => h3 (fun bs => F (⟨x.blk,t,x.cells⟩ :: bs)) (h1 (fun cells => allBs r fun bs => F (⟨x.blk,t,cells⟩ :: bs)) (hF x.blk)),h4,fun i sv hi => ?_,fun i y hy => ?_, ?_⟩
           · simp only [mkP,look_cons] at hi
             simp only [mkB,look_cons]
             split at hi
             · rename_i hij; subst hij; cases hi; exact ⟨hv,rfl,_,by rw [if_pos rfl]⟩
             · rename_i hij
               obtain ⟨h8,h9,z,h10⟩ := h5 i sv hi
               exact ⟨h8,h9,z,by rw [if_neg hij]; exact h10⟩
           · simp only [mkB,look_cons] at hy
             split at hy
             · rename_i hij; subst hij; cases hy; rw [hx,hxe]
             · exact h6 i y hy
           · simp only [mkB,List.map_cons,h7]
         · exact h.elim
       · exact h.elim
     · exact h.elim
   · exact h.elim
theorem nodup_spec : ∀ {l : List Nat},nodup l = true → l.Nodup
 | [],_ => List.nodup_nil
 | k :: r,h => by
   unfold nodup at h
   split at h
   · cases h
   · rename_i hk
     refine List.nodup_cons.2 ⟨fun hm => ?_,nodup_spec h⟩
     have : ∀ {l : List Nat},k ∈ l → hasN l k = true := by
       intro l
       induction l with
       | nil => intro hm; cases hm
       | cons x r ih =>
         intro hm
         show (match Nat.beq k x with | true => true | false => hasN r k) = true
         cases hb : Nat.beq k x with
         | true => rfl
         | false =>
           rcases List.mem_cons.1 hm with rfl | hm
           · rw [Nat.beq_refl] at hb; cases hb
           · exact ih hm
     rw [this hm] at hk
     cases hk
theorem read_spec {C : Cut} {F : List Value → List Bx → World → Prop} {n : Fr} {e : Env} {b : Bxs} {w W : World} {a : Act} (h : C.read F e b w) (hR : Rep n e b w a W) :
   ∃ vs bs,F vs bs w ∧ (∀ G : List Value → List Bx → World → Prop,C.all G → G vs bs w) ∧ Rep n (mkE C.slots vs (mkP C.keys)) (mkB C.keys bs) w a W := by
 unfold Cut.read at h
 split at h
 · rename_i hnd
   obtain ⟨vs,h1,h2,h3⟩ := rdS_spec h
   obtain ⟨bs,h4,h5,h6,h7,h8⟩ := rdB_spec h2
   refine ⟨vs,bs,h5,fun G hG => ?_,hR.size,hR.nodef,fun i sv hi => ?_,hR.pad,hR.base,fun k x hx => hR.lo k x (h7 k x hx),fun k x hx => hR.boxes k x (h7 k x hx),fun k x hx => hR.hid k x (h7 k x hx),by rw [h8]; exact nodup_spec hnd,fun k x k' x' hx hx' => hR.apart k x k' x' (h7 k x hx) (h7 k' x' hx')⟩
   · exact h4 (fun bs => ∀ w,G vs bs w) (h1 (fun vs => allBs C.keys fun bs => ∀ w,G vs bs w) hG) w
   · rcases h3 (mkP C.keys) i sv hi with ⟨v,rfl,hv⟩ | hp
     · exact hR.slots i _ hv
     · obtain ⟨h9,rfl,x,hx⟩ := h6 i sv hp
       have hd := hR.slots i _ h9
       simp only [den,h7 i x hx] at hd
       simp only [den,hx]
       exact hd
 · exact h.elim
def kindOf (c : Cfg) (o : Oper) : Nat :=
 match o.op with
 | .load _ _ => 1
 | .move _ => 0
 | .assign _ => 0
 | .nilCheck _ => 0
 | .fieldAddr _ _ _ => 0
 | .indexAddr _ _ _ => 0
 | .index _ _ _ => 0
 | .slice _ _ _ _ _ => 0
 | .binOp op t _ _ _ => match fArith c.P t op with
   | true => 2
   | false => 0
 | .pick _ _ _ => 0
 | .build _ _ => 0
 | .unOp _ _ _ => 0
 | .extract _ _ => 0
 | .field _ _ _ => 0
 | .makeFunc _ _ _ => 0
 | .convert src dst _ => match c.P.underlying src,c.P.underlying dst with
   | some (.slice _),some .string => 2
   | some .string,some (.slice _) => 2
   | some (.float _),some (.int _) => 2
   | _,_ => 0
 | .call d => match d.callee with
   | .builtin .len => 0
   | .builtin .cap => 0
   | .builtin .min => 0
   | .builtin .max => 0
   | _ => 2
 | _ => 2
theorem opK_val {c : Cfg} (hc : CfgOk c) {o : Oper} {e : Env} {b : Bxs} {w W : World} {a : Act} {K : Kont} (hk : kindOf c o = 0) (hR : Rep c.n e b w a W) (h : opK c o e b w K) : ValP c.P o a W c.n b w K := by
 have pk : (∀ cs x,o.op ≠ .select cs x) → pureK c o e (fun e => K e b w) → ValP c.P o a W c.n b w K := fun hs h => pureK_val hR h hs
 unfold kindOf at hk
 unfold opK at h
 split at h
 · rename_i x ho
   exact moveK_val (fun W' => by simp [execOp,ho]) hR h
 · rename_i x ho
   exact moveK_val (fun W' => by simp [execOp,ho]) hR h
 · rename_i x ho
   exact nilK_val ho hR h
 · rename_i t x f ho
   exact fieldK_val ho hR h
 · rename_i t x ho
   simp [ho] at hk
 · rename_i t x y ho
   simp [ho] at hk
 · rename_i t ho
   simp [ho] at hk
 · rename_i t x ho
   simp [ho] at hk
 · rename_i t len ps ho
   simp [ho] at hk
 · rename_i t x i ho
   exact idxK_val ho hR h
 · rename_i t x i ho
   exact ixK_val ho hR h
 · rename_i t x lo hi mx ho
   exact slcK_val ho hR h
 · rename_i op t x y u ho
   split at h
   · exact eqlK_val (neq := false) hc.eqs ho hR h
   · exact eqlK_val (neq := true) hc.eqs ho hR h
   · split at h
     · rename_i hf; simp [ho,hf] at hk
     · exact binK_val ho hR h
 · rename_i t x y ho
   simp [ho] at hk
 · rename_i src dst x ho
   simp only [ho] at hk
   split at h
   · rename_i h1 h2; simp [h1,h2] at hk
   · rename_i h1 h2; simp [h1,h2] at hk
   · rename_i h1 h2; simp [h1,h2] at hk
   · exact pk (fun cs x => by rw [ho]; simp) h
 · rename_i d ho
   obtain ⟨callee,args,ats⟩ := d
   have hne : ∀ cs x,o.op ≠ .select cs x := fun cs x => by rw [ho]; simp
   simp only [ho] at hk
   simp only at h
   split at h
   · simp at hk
   · simp at hk
   · simp at hk
   · exact pk hne h
   · exact pk hne h
   · exact pk hne h
   · exact pk hne h
   · exact h.elim
 · rename_i ho; exact pk (fun cs x => by rw [ho]; simp) h
 · rename_i ho; exact pk (fun cs x => by rw [ho]; simp) h
 · rename_i ho; exact pk (fun cs x => by rw [ho]; simp) h
 · rename_i ho; exact pk (fun cs x => by rw [ho]; simp) h
 · rename_i ho; exact pk (fun cs x => by rw [ho]; simp) h
 · rename_i ho; exact pk (fun cs x => by rw [ho]; simp) h
 · exact h.elim
def Keeps (b b' : Bxs) : Prop := ∀ k x,look b k = some x → look b' k = some x
theorem opK_fix {c : Cfg} {o : Oper} {e : Env} {b : Bxs} {w : World} {K : Kont} (h1 : ∀ t x y,o.op ≠ .store t x y) (h2 : ∀ t,o.op ≠ .alloc t) (h3 : ∀ t x,o.op ≠ .box t x) (h : opK c o e b w K) :
   opK c o e b w fun e b' w => Keeps b b' ∧ K e b' w := by
 have e1 : opK c o e b w K = opK c o e b w fun e _ w => K e b w := by
   unfold opK
   split <;> first | rfl | skip
   · rename_i ho; exact absurd ho (h1 _ _ _)
   · rename_i ho; exact absurd ho (h2 _)
   · rename_i ho; exact absurd ho (h3 _ _)
 have e2 : (opK c o e b w fun e b' w => Keeps b b' ∧ K e b' w) = opK c o e b w fun e _ w => Keeps b b ∧ K e b w := by
   unfold opK
   split <;> first | rfl | skip
   · rename_i ho; exact absurd ho (h1 _ _ _)
   · rename_i ho; exact absurd ho (h2 _)
   · rename_i ho; exact absurd ho (h3 _ _)
 have e3 : (fun (e : Env) (_ : Bxs) (w : World) => Keeps b b ∧ K e b w) = fun e _ w => K e b w := by
   funext e b' w
   simp only [eq_iff_iff,and_iff_right_iff_imp]
   exact fun _ k x hx => hx
 rw [e2,e3, ← e1]
 exact h
theorem putK_mono {n : Fr} {d : Option Nat} {sv : SV} {e : Env} {K K' : Env → Prop} (hk : ∀ e,K e → K' e) (h : putK n d sv e K) : putK n d sv e K' := by
 unfold putK at *
 split at h
 · exact hk _ h
 · split at h
   · exact hk _ h
   · exact h.elim
theorem hide_mono {bs : List Nat} {w : World} {K K' : World → Prop} (hk : ∀ w,K w → K' w) (h : Hide bs w K) : Hide bs w K' := by
 cases bs with
 | nil => exact hk _ h
 | cons x r => exact fun w' hm => hk _ (h w' hm)
theorem newK_fix {c : Cfg} {o : Oper} {t : TypeId} {l : List Value} {e : Env} {b : Bxs} {w : World} {K : Kont} (h : newK c o t l e b w K) : newK c o t l e b w fun e b' w => Keeps b b' ∧ K e b' w := by
 unfold newK at *
 cases hd : o.dst with
 | none => rw [hd] at h; exact h.elim
 | some d =>
   rw [hd] at h
   cases hr : hasN c.real d with
   | true =>
     simp only [hr,forceL_iff] at h ⊢
     intro w1 h1 h2
     have h3 := h w1 h1 h2
     exact hide_mono (fun w2 h3 => putK_mono (fun e hK => ⟨fun k x hx => hx,hK⟩) h3) h3
   | false =>
     cases hl : look b d with
     | none =>
       simp only [hr,hl,forceL_iff] at h ⊢
       refine fun q hq => putK_mono (fun e hK => ⟨fun k x hx => ?_,hK⟩) (h q hq)
       rw [look_cons,if_neg (fun he : k = d => by rw [he,hl] at hx; cases hx)]
       exact hx
     | some z => simp only [hr,hl] at h
end Go.Proofs.YtidcpndlloppdaaGreat
set_option linter.unusedVariables false
set_option linter.unusedSimpArgs false
namespace Go.Proofs.YtidcpndlloppdaaGreat
def depsOf (o : Oper) : List Nat := (o.after.toList.filter fun e => Region.binds .any e).map fun e => e.on
def maskOf (ms : List (Nat × Nat)) (i : Nat) : Nat :=
 match look ms i with
 | some m => m
 | none => 0
def orAll (ms : List (Nat × Nat)) : List Nat → Option Nat
 | [] => some 0
 | d :: r => match look ms d with
   | some m => (orAll ms r).map fun x => (2 ^ d ||| m) ||| x
   | none => none
def mkMasks (ops : Array Oper) : List Nat → List (Nat × Nat) → Option (List (Nat × Nat))
 | [],ms => some ms
 | i :: r,ms => match look ms i with
   | some _ => none
   | none => match ops[i]? with
     | none => none
     | some o => match orAll ms (depsOf o) with
       | some m => mkMasks ops r ((i,m) :: ms)
       | none => none
def pairsB (c : Cfg) (ops : Array Oper) (ms : List (Nat × Nat)) : List Nat → Option Nat → Bool
 | [],_ => true
 | i :: r,last => match ops[i]? with
   | none => false
   | some o => match Nat.beq (kindOf c o) 2 with
     | true => pairsB c ops ms r (some i)
     | false => (match last with
         | some l => (maskOf ms i).testBit l
         | none => true) && (r.all fun j => (maskOf ms j).testBit i || (match ops[j]? with
           | some oj => o.apart ops oj
           | none => false)) && pairsB c ops ms r last
def noSelB (ops : Array Oper) : Bool := ops.toList.all fun o => match o.op with
 | .select _ _ => false
 | _ => true
def orderB (c : Cfg) (ops : Array Oper) (ord : List Nat) : Bool :=
 match mkMasks ops ord [] with
 | some ms => ((List.range ops.size).all fun i => ord.contains i) && Nat.beq ord.length ops.size && pairsB c ops ms ord none && noSelB ops
 | none => false
def impB (c : Cfg) (ops : Array Oper) (i : Nat) : Bool :=
 match ops[i]? with
 | some o => Nat.beq (kindOf c o) 2
 | none => false
def exts (ms : List (Nat × Nat)) : Nat → List Nat → List (List Nat)
 | 0,_ => [[]]
 | n + 1,S => match S with
   | [] => [[]]
   | _ :: _ => (S.filter fun i => S.all fun j => !(maskOf ms i).testBit j).flatMap fun i => (exts ms n (S.filter fun j => !Nat.beq j i)).map (i :: ·)
def coverB (c : Cfg) (ops : Array Oper) (L : List (List Nat)) : Bool :=
 match L with
 | [] => false
 | ord :: _ => match mkMasks ops ord [] with
   | some ms => (exts ms ord.length (ord.filter (impB c ops))).all fun p => L.any fun o => (o.filter (impB c ops)) == p
   | none => false
abbrev PM := List (Nat × List (Addr × Value))
abbrev PB := List (Nat × Nat)
def dropP {α : Type} (m : Nat) : List (Nat × α) → List (Nat × α)
 | [] => []
 | (i,x) :: r => match m.testBit i with
   | true => dropP m r
   | false => (i,x) :: dropP m r
def againL : List (Addr × Value) → World → Prop → Prop
 | [],_,K => K
 | (q,u) :: r,w,K => w.cell? q = some u ∧ againL r w K
def againP : PM → World → Prop → Prop
 | [],_,K => K
 | (_,l) :: r,w,K => againL l w (againP r w K)
def keyIn : PB → Nat → Bool
 | [],_ => false
 | (_,k) :: r,i => match Nat.beq i k with
   | true => true
   | false => keyIn r i
def freeB (o : Oper) (e : Env) (pb : PB) : Bool :=
 match o.op with
 | .store _ x _ => match ev e x with
   | some (.bx k _) => !keyIn pb k
   | _ => true
 | _ => true
def gdL (c : Cfg) (ops : Array Oper) (o : Oper) (e : Env) (b : Bxs) (w : World) (KL : Env → Value → List (Addr × Value) → Option Nat → Prop) (KS : Env → Prop) : Prop :=
 match o.op with
 | .load t x => match o.guard with
   | none => ldG c t x e b w (KL e)
   | some (j,want) => match guardSlot ops j with
     | some s => match look e s with
       | some (.v (.bool g)) => if g = want then ldG c t x ((s,.v (.bool want)) :: e) b w (KL ((s,.v (.bool want)) :: e)) else KS ((s,.v (.bool (!want))) :: e)
       | some (.v (.tuple ⟨[]⟩)) => KS e
       | _ => False
     | none => False
 | _ => False
def addB (i : Nat) (pb : Option Nat) (l : PB) : PB :=
 match pb with
 | some k => (i,k) :: l
 | none => l
def drawK (c : Cfg) (ops : Array Oper) (ms : List (Nat × Nat)) : List Nat → PM → PB → Env → Bxs → World → Kont → Prop
 | [],_,_,e,b,w,K => K e b w
 | i :: r,pm,pb,e,b,w,K => match ops[i]? with
   | none => False
   | some o => match kindOf c o with
     | 0 => gdK c ops o e b w fun e b w => drawK c ops ms r pm pb e b w K
     | 1 => gdL c ops o e b w (fun e v m k => putK c.n o.dst (.v v) e fun e => drawK c ops ms r ((i,m) :: pm) (addB i k pb) e b w K)
         (fun e => putK c.n o.dst (.v undef) e fun e => drawK c ops ms r pm pb e b w K)
     | _ => match freeB o e (dropP (maskOf ms i) pb) with
       | true => gdK c ops o e b w fun e b w => againP (dropP (maskOf ms i) pm) w (drawK c ops ms r (dropP (maskOf ms i) pm) (dropP (maskOf ms i) pb) e b w K)
       | false => False
def drawL (c : Cfg) (ops : Array Oper) : List (List Nat) → Env → Bxs → World → Kont → Prop
 | [],_,_,_,_ => True
 | [ord],e,b,w,K => match mkMasks ops ord [] with
   | some ms => drawK c ops ms ord [] [] e b w K
   | none => False
 | ord :: o2 :: r,e,b,w,K => (match mkMasks ops ord [] with
   | some ms => drawK c ops ms ord [] [] e b w K
   | none => False) ∧ drawL c ops (o2 :: r) e b w K
def regionB (c : Cfg) (ops : Array Oper) (L : List (List Nat)) : Bool := L.all (orderB c ops) && coverB c ops L
inductive Before (ops : Array Oper) : Nat → Nat → Prop where
 | dep {i d : Nat} {o : Oper} : ops[i]? = some o → d ∈ depsOf o → Before ops d i
 | far {i d k : Nat} {o : Oper} : ops[i]? = some o → d ∈ depsOf o → Before ops k d → Before ops k i
theorem orAll_spec {ms : List (Nat × Nat)} : ∀ {l : List Nat} {m : Nat},orAll ms l = some m → (∀ d ∈ l,∃ md,look ms d = some md) ∧ ∀ k,m.testBit k = true → ∃ d ∈ l,k = d ∨ ∃ md,look ms d = some md ∧ md.testBit k = true
 | [],m,h => by
   cases h
   exact ⟨fun d hd => (by cases hd),fun k hk => by simp at hk⟩
 | d :: r,m,h => by
   unfold orAll at h
   split at h
   · rename_i md hd
     obtain ⟨x,hx,rfl⟩ := Option.map_eq_some_iff.1 h
     obtain ⟨h1,h2⟩ := orAll_spec hx
     refine ⟨fun d' hd' => ?_,fun k hk => ?_⟩
     · rcases List.mem_cons.1 hd' with rfl | hd'
       · exact ⟨md,hd⟩
       · exact h1 d' hd'
     · simp only [Nat.testBit_or,Bool.or_eq_true,Nat.testBit_two_pow] at hk
       rcases hk with (hk | hk) | hk
       · exact ⟨d,List.mem_cons_self,.inl (by simpa using (of_decide_eq_true hk).symm)⟩
       · exact ⟨d,List.mem_cons_self,.inr ⟨md,hd,hk⟩⟩
       · obtain ⟨d',hm,h3⟩ := h2 k hk
         exact ⟨d',List.mem_cons_of_mem _ hm,h3⟩
   · cases h
theorem mkMasks_spec {ops : Array Oper} : ∀ {r : List Nat} {ms0 ms : List (Nat × Nat)},mkMasks ops r ms0 = some ms → (∀ i m,look ms0 i = some m → ∀ k,m.testBit k = true → Before ops k i) →
   (∀ i m,look ms i = some m → ∀ k,m.testBit k = true → Before ops k i) ∧ r.Nodup ∧ (∀ i ∈ r,look ms0 i = none) ∧
   ∀ pre i post,r = pre ++ i :: post → ∃ o,ops[i]? = some o ∧ ∀ d ∈ depsOf o,d ∈ pre ∨ ∃ m,look ms0 d = some m
 | [],ms0,ms,h,h0 => by
   cases h
   exact ⟨h0,List.nodup_nil,fun i hi => (by cases hi),fun pre i post hp => by simp at hp⟩
 | i :: r,ms0,ms,h,h0 => by
   unfold mkMasks at h
   split at h
   · cases h
   · rename_i hi
     split at h
     · cases h
     · rename_i o ho
       split at h
       · rename_i m hm
         obtain ⟨h1,h2⟩ := orAll_spec hm
         obtain ⟨h3,h4,h5,h6⟩ := mkMasks_spec h (by
           intro j mj hj k hk
           rw [look_cons] at hj
           split at hj
           · rename_i hji
             cases hj
             subst hji
             obtain ⟨d,hd,hkd⟩ := h2 k hk
             rcases hkd with rfl | ⟨md,hmd,hb⟩
             · exact .dep ho hd
             · exact .far ho hd (h0 d md hmd k hb)
           · exact h0 j mj hj k hk)
         refine ⟨h3,List.nodup_cons.2 ⟨fun hm => ?_,h4⟩,fun j hj => ?_,fun pre j post hp => ?_⟩
         · have := h5 i hm
           rw [look_cons,if_pos rfl] at this
           cases this
         · rcases List.mem_cons.1 hj with rfl | hj
           · exact hi
           · have := h5 j hj
             rw [look_cons] at this
             split at this
             · cases this
             · exact this
         · cases pre with
           | nil =>
             simp only [List.nil_append,List.cons.injEq] at hp
             obtain ⟨rfl,rfl⟩ := hp
             exact ⟨o,ho,fun d hd => .inr (h1 d hd)⟩
           | cons x pre =>
             simp only [List.cons_append,List.cons.injEq] at hp
             obtain ⟨rfl,hp⟩ := hp
             obtain ⟨o',ho',h7⟩ := h6 pre j post hp
             refine ⟨o',ho',fun d hd => ?_⟩
             rcases h7 d hd with h8 | ⟨m',h8⟩
             · exact .inl (List.mem_cons_of_mem _ h8)
             · rw [look_cons] at h8
               split at h8
               · rename_i hdi; subst hdi; exact .inl List.mem_cons_self
               · exact .inr ⟨m',h8⟩
       · cases h
def lastImp (c : Cfg) (ops : Array Oper) : List Nat → Option Nat → Option Nat
 | [],l => l
 | i :: r,l => lastImp c ops r (if impB c ops i = true then some i else l)
theorem impB_of {c : Cfg} {ops : Array Oper} {i : Nat} {o : Oper} (ho : ops[i]? = some o) : impB c ops i = Nat.beq (kindOf c o) 2 := by unfold impB; rw [ho]
theorem pairsB_spec {c : Cfg} {ops : Array Oper} {ms : List (Nat × Nat)} : ∀ {l : List Nat} {last : Option Nat},pairsB c ops ms l last = true → ∀ pre i post,l = pre ++ i :: post → ∀ o,ops[i]? = some o → impB c ops i = false →
   (∀ j ∈ post,(maskOf ms j).testBit i = true ∨ ∃ oj,ops[j]? = some oj ∧ o.apart ops oj = true) ∧ ∀ x,lastImp c ops pre last = some x → (maskOf ms i).testBit x = true
 | [],last,h,pre,i,post,hp,o,ho,hi => by simp at hp
 | j :: r,last,h,pre,i,post,hp,o,ho,hi => by
   unfold pairsB at h
   split at h
   · cases h
   · rename_i oj hoj
     have hb := impB_of (c := c) hoj
     cases pre with
     | nil =>
       simp only [List.nil_append,List.cons.injEq] at hp
       obtain ⟨rfl,rfl⟩ := hp
       rw [ho] at hoj
       cases hoj
       rw [← hb,hi] at h
       simp only [Bool.and_eq_true,List.all_eq_true,Bool.or_eq_true] at h
       refine ⟨fun k hk => ?_,fun x hx => ?_⟩
       · rcases h.1.2 k hk with h1 | h1
         · exact .inl h1
         · split at h1
           · rename_i ok hok; exact .inr ⟨ok,hok,h1⟩
           · cases h1
       · have h2 := h.1.1
         simp only [lastImp] at hx
         rw [hx] at h2
         exact h2
     | cons x pre =>
       simp only [List.cons_append,List.cons.injEq] at hp
       obtain ⟨rfl,hp⟩ := hp
       rw [← hb] at h
       cases hj : impB c ops j with
       | true =>
         rw [hj] at h
         have := pairsB_spec h pre i post hp o ho hi
         simp only [lastImp,hj,if_true]
         exact this
       | false =>
         rw [hj] at h
         simp only [Bool.and_eq_true] at h
         have := pairsB_spec h.2 pre i post hp o ho hi
         simp only [lastImp,hj,Bool.false_eq_true,if_false]
         exact this
structure DE where
 i : Nat
 o : Oper
 v : Value
 m : List (Addr × Value)
 k : Option (Nat × Bx)
def Cert (P : Program) (ops : Array Oper) (d : DE) (a : Act) : Prop :=
 (Region.wanted d.o (yielded ops a.tmps) = true ∧ ∀ W',Holds d.m d.k W' → (execOp a.eval d.o).run P W' = .ok (.value d.v) W') ∨ (Region.wanted d.o (yielded ops a.tmps) = false ∧ d.v = undef)
inductive Chain (P : Program) (ops : Array Oper) : List DE → Act → Act → Prop where
 | nil (a : Act) : Chain P ops [] a a
 | cons {d : DE} {r : List DE} {a a' : Act} : Cert P ops d a → Chain P ops r (a.put d.o.dst d.v) a' → Chain P ops (d :: r) a a'
theorem noSel_of {ops : Array Oper} (h : noSelB ops = true) {i : Nat} {o : Oper} (ho : ops[i]? = some o) : ∀ cs x,o.op ≠ .select cs x := fun cs x he => by
 unfold noSelB at h
 have hm : o ∈ ops.toList := by
   obtain ⟨hlt,rfl⟩ := Array.getElem?_eq_some_iff.1 ho
   simp
 have := List.all_eq_true.1 h o hm
 rw [he] at this
 cases this
theorem cert_same {P : Program} {ops : Array Oper} {d : DE} {a a' : Act} (h : Cert P ops d a) (he : execOp a'.eval d.o = execOp a.eval d.o) (hw : Region.wanted d.o (yielded ops a'.tmps) = Region.wanted d.o (yielded ops a.tmps)) : Cert P ops d a' := by
 unfold Cert at *
 rw [he,hw]
 exact h
theorem cert_put {P : Program} {ops : Array Oper} {d : DE} {a : Act} {dst : Option Tmp} {v : Value} (hs : ∀ cs x,d.o.op ≠ .select cs x) (hd : ∀ t,dst = some t → t ∉ d.o.looksAt ops) : Cert P ops d (a.put dst v) ↔ Cert P ops d a := by
 unfold Cert
 rw [execOp_put d.o hs a dst v hd,wanted_put d.o a dst v hd]
theorem chain_snoc {P : Program} {ops : Array Oper} {d : DE} : ∀ {D : List DE} {a ac : Act},Chain P ops D a ac → Cert P ops d ac → Chain P ops (D ++ [d]) a (ac.put d.o.dst d.v)
 | [],a,ac,h,hc => by
   cases h
   exact .cons hc (.nil _)
 | x :: r,a,ac,h,hc => by
   cases h with
   | cons h1 h2 => exact .cons h1 (chain_snoc h2 hc)
theorem chain_take {P : Program} {ops : Array Oper} {d : DE} {D2 : List DE} (hsd : ∀ cs x,d.o.op ≠ .select cs x) : ∀ {D1 : List DE} {a ac : Act},Chain P ops (D1 ++ d :: D2) a ac → (∀ x ∈ D1,x.o.apart ops d.o = true ∧ ∀ cs z,x.o.op ≠ .select cs z) →
   Cert P ops d a ∧ Chain P ops (D1 ++ D2) (a.put d.o.dst d.v) ac
 | [],a,ac,h,ha => by
   cases h with
   | cons h1 h2 => exact ⟨h1,h2⟩
 | x :: r,a,ac,h,ha => by
   cases h with
   | cons h1 h2 =>
     obtain ⟨h3,h4⟩ := chain_take hsd h2 (fun y hy => ha y (List.mem_cons_of_mem _ hy))
     obtain ⟨hap,hsx⟩ := ha x List.mem_cons_self
     obtain ⟨q1,q2,q3⟩ := Oper.apart_spec hap
     refine ⟨(cert_put hsd q1).1 h3,.cons ((cert_put hsx q3).2 h1) ?_⟩
     rw [← Act.put_comm a _ _ q2]
     exact h4
theorem wpOp_put2 {P : Program} {ops : Array Oper} {Q : Exit → Act → World → Prop} {j : Nat} {d : DE} {oj : Oper} (hj : ops[j]? = some oj) (hap : d.o.apart ops oj = true) (hsi : ∀ cs b,d.o.op ≠ .select cs b) (hsj : ∀ cs b,oj.op ≠ .select cs b)
   (hQ : ∀ c a w,¬ Q (.panic c) a w) {K : Act → World → Prop} {a : Act} {w : World} (hy : Cert P ops d a) (h : wpOp P ops Q j K (a.put d.o.dst d.v) w) :
   wpOp P ops Q j (fun a' w' => Cert P ops d a' ∧ K (a'.put d.o.dst d.v) w') a w := by
 obtain ⟨h1,h2,h3⟩ := Oper.apart_spec hap
 have keep : ∀ (a : Act),Cert P ops d a → ∀ u,Cert P ops d (a.put oj.dst u) := fun a hy u => (cert_put hsi h3).2 hy
 have keepD : ∀ x,Cert P ops d { a with defers := x :: a.defers } := fun x => cert_same hy rfl rfl
 unfold wpOp at *
 simp only [hj] at *
 rw [wanted_put oj a d.o.dst d.v h1] at h
 split
 · rename_i hw
   simp only [hw,if_true] at h
   rcases h with h | ⟨hasks,hlets⟩
   case inr => exact .inr ⟨by unfold Oper.asks at *; rw [execOp_put oj hsj a d.o.dst d.v h1] at hasks; exact hasks,hlets⟩
   refine .inl ?_
   unfold Oper.wp at *
   rw [execOp_put oj hsj a d.o.dst d.v h1] at h
   generalize (execOp a.eval oj).run P w = r at *
   cases r with
   | ok n w' =>
     cases n <;> simp only [Oper.upon] at h ⊢
     case value u => exact ⟨keep a hy u,by rw [← Act.put_comm a d.v u h2]; exact h⟩
     case skip => exact ⟨keep a hy _,by rw [← Act.put_comm a d.v undef h2]; exact h⟩
     case defer x =>
       refine ⟨keep _ (keepD x) _, ?_⟩
       rw [← Act.put_comm _ d.v undef h2, ← Act.put_defers]
       exact h
     case enter f args =>
       refine Calls.mono h fun e w'' he => ?_
       cases e with
       | returned u => exact ⟨keep a hy u,by rw [← Act.put_comm a d.v u h2]; exact he⟩
       | panicked c => exact absurd he (hQ _ _ _)
       | outgrown => exact he
     case row row args => exact Rows.mono h fun u w'' he => ⟨keep a hy u,by rw [← Act.put_comm a d.v u h2]; exact he⟩
   | halt x w' =>
     cases x <;> simp only [Oper.upon] at h ⊢
     case panic u => exact absurd h (hQ _ _ _)
 · rename_i hw
   simp only [hw] at h
   exact ⟨keep a hy _,by rw [← Act.put_comm a d.v undef h2]; exact h⟩
theorem wpOp_chain {P : Program} {ops : Array Oper} {Q : Exit → Act → World → Prop} {j : Nat} {oj : Oper} (hj : ops[j]? = some oj) (hsj : ∀ cs b,oj.op ≠ .select cs b) (hQ : ∀ c a w,¬ Q (.panic c) a w) {w : World} :
   ∀ {D : List DE} {a ac : Act} {K : Act → World → Prop},Chain P ops D a ac → (∀ d ∈ D,d.o.apart ops oj = true ∧ ∀ cs b,d.o.op ≠ .select cs b) → wpOp P ops Q j K ac w → wpOp P ops Q j (fun a' w' => ∃ ac',Chain P ops D a' ac' ∧ K ac' w') a w
 | [],a,ac,K,hc,ha,h => by
   cases hc
   exact wpOp_mono (fun a w hk => ⟨a,.nil a,hk⟩) h
 | d :: r,a,ac,K,hc,ha,h => by
   cases hc with
   | cons h1 h2 =>
     have h3 := wpOp_chain hj hsj hQ h2 (fun x hx => ha x (List.mem_cons_of_mem _ hx)) h
     have h4 := wpOp_put2 hj (ha d List.mem_cons_self).1 (ha d List.mem_cons_self).2 hsj hQ h1 h3
     refine wpOp_mono (fun a' w' hk => ?_) h4
     obtain ⟨hC,ac',h5,h6⟩ := hk
     exact ⟨ac',.cons hC h5,h6⟩
def KeyFree (o : Oper) (e : Env) (k : Nat) : Prop := ∀ t x y,o.op = .store t x y → ∀ k0 off,ev e x = some (.bx k0 off) → k ≠ k0
def KeepF (o : Oper) (e : Env) (b b' : Bxs) : Prop := ∀ k z,look b k = some z → KeyFree o e k → look b' k = some z
theorem keepF_refl (o : Oper) (e : Env) (b : Bxs) : KeepF o e b b := fun _ _ h _ => h
theorem storeK_mono {a : Addr} : ∀ {l : List Value} {i : Nat} {w : World} {K K' : World → Prop},(∀ w,K w → K' w) → storeK w a l i K → storeK w a l i K'
 | [],i,w,K,K',hk,h => hk _ h
 | v :: r,i,w,K,K',hk,h => by
   unfold storeK at *
   cases hv : isCell v with
   | false => simp [hv] at h
   | true =>
     simp only [hv,if_true] at h ⊢
     exact ⟨h.1,h.2.1,storeK_mono hk h.2.2⟩
theorem withV_mono {e : Env} {x : Operand} {K K' : Value → Prop} (hk : ∀ v,ev e x = some (.v v) → K v → K' v) (h : withV e x K) : withV e x K' := by
 unfold withV at *
 cases hx : ev e x with
 | none => rw [hx] at h; exact h.elim
 | some sv =>
   cases sv with
   | v v => rw [hx] at h; exact hk v hx h
   | bx k off => rw [hx] at h; exact h.elim
theorem stK_fix {c : Cfg} {o : Oper} {t : TypeId} {x y : Operand} {e e0 : Env} {b : Bxs} {w : World} {K : Kont} (ho : o.op = .store t x y) (he : ∀ k off,ev e x = some (.bx k off) → ev e0 x = some (.bx k off)) (h : stK c o t x y e b w K) :
   stK c o t x y e b w fun e b' w => KeepF o e0 b b' ∧ K e b' w := by
 unfold stK at *
 cases hd : o.dst with
 | some d => rw [hd] at h; exact h.elim
 | none =>
   rw [hd] at h
   cases hi : c.P.info? t with
   | none => rw [hi] at h; exact h.elim
   | some i =>
     simp only [hi] at h ⊢
     refine withV_mono (fun v hv h => ?_) h
     cases hl : Nat.beq (cellsOfV v).length i.size with
     | false => simp only [hl] at h
     | true =>
       simp only [hl] at h ⊢
       cases hx : ev e x with
       | none => simp only [hx] at h
       | some sv =>
         simp only [hx] at h ⊢
         cases sv with
         | bx k off =>
           simp only at h ⊢
           cases hb : look b k with
           | none => simp only [hb] at h
           | some bx =>
             simp only [hb] at h ⊢
             cases hle : Nat.ble (off + i.size) bx.cells.length with
             | false => simp only [hle] at h
             | true =>
               simp only [hle] at h ⊢
               cases hall : (cellsOfV v).all isCell with
               | false => simp only [hall] at h
               | true =>
                 simp only [hall,forceL_iff] at h ⊢
                 refine ⟨fun k' z hz hf => ?_,h⟩
                 have hne : k' ≠ k := hf t x y ho k off (he k off hx)
                 rw [look_setB,hz]
                 simp [hne]
         | v u =>
           cases u with
           | pointer p =>
             cases p with
             | none => exact h.elim
             | some p => exact storeK_mono (fun w hK => ⟨keepF_refl o e0 b,hK⟩) h
           | _ => exact h.elim
theorem keeps_keepF {o : Oper} {e : Env} {b b' : Bxs} (h : Keeps b b') : KeepF o e b b' := fun k z hz _ => h k z hz
theorem opK_mono_keeps {c : Cfg} {o : Oper} {e e0 : Env} {b : Bxs} {w : World} {K : Kont} (he : ∀ x k off,ev e x = some (.bx k off) → ev e0 x = some (.bx k off)) (h : opK c o e b w K) : opK c o e b w fun e b' w => KeepF o e0 b b' ∧ K e b' w := by
 by_cases h1 : ∃ t x y,o.op = .store t x y
 · obtain ⟨t,x,y,ho⟩ := h1
   unfold opK at *
   rw [ho] at h ⊢
   exact stK_fix ho (he x) h
 · by_cases h2 : ∃ t,o.op = .alloc t
   · obtain ⟨t,ho⟩ := h2
     unfold opK at *
     rw [ho] at h ⊢
     simp only at h ⊢
     unfold zeroK at *
     cases hi : c.P.info? t with
     | none => simp only [hi] at h
     | some i =>
       cases hv : i.zero with
       | none => simp only [hi,hv] at h
       | some v =>
         simp only [hi,hv] at h ⊢
         have h3 := newK_fix h
         unfold newK at h3 ⊢
         cases hd : o.dst with
         | none => rw [hd] at h3; exact h3.elim
         | some d =>
           rw [hd] at h3
           cases hr : hasN c.real d with
           | true =>
             simp only [hr,forceL_iff] at h3 ⊢
             intro w1 q1 q2
             have h4 := h3 w1 q1 q2
             exact hide_mono (fun w2 h5 => putK_mono (fun e hK => ⟨keeps_keepF hK.1,hK.2⟩) h5) h4
           | false =>
             cases hl : look b d with
             | none =>
               simp only [hr,hl,forceL_iff] at h3 ⊢
               exact fun q hq => putK_mono (fun e hK => ⟨keeps_keepF hK.1,hK.2⟩) (h3 q hq)
             | some z => simp only [hr,hl] at h3
   · by_cases h3 : ∃ t x,o.op = .box t x
     · obtain ⟨t,x,ho⟩ := h3
       unfold opK at *
       rw [ho] at h ⊢
       simp only at h ⊢
       refine withV_mono (fun v hv h => ?_) h
       · have h3 := newK_fix h
         unfold newK at h3 ⊢
         cases hd : o.dst with
         | none => rw [hd] at h3; exact h3.elim
         | some d =>
           rw [hd] at h3
           cases hr : hasN c.real d with
           | true =>
             simp only [hr,forceL_iff] at h3 ⊢
             intro w1 q1 q2
             have h4 := h3 w1 q1 q2
             exact hide_mono (fun w2 h5 => putK_mono (fun e hK => ⟨keeps_keepF hK.1,hK.2⟩) h5) h4
           | false =>
             cases hl : look b d with
             | none =>
               simp only [hr,hl,forceL_iff] at h3 ⊢
               exact fun q hq => putK_mono (fun e hK => ⟨keeps_keepF hK.1,hK.2⟩) (h3 q hq)
             | some z => simp only [hr,hl] at h3
     · have h4 := opK_fix (fun t x y ho => h1 ⟨t,x,y,ho⟩) (fun t ho => h2 ⟨t,ho⟩) (fun t x ho => h3 ⟨t,x,ho⟩) h
       have e1 : ∀ K' : Kont,opK c o e b w K' = opK c o e b w fun e _ w => K' e b w := by
         intro K'
         unfold opK
         split <;> first | rfl | skip
         · rename_i ho; exact absurd ⟨_,_,_,ho⟩ h1
         · rename_i ho; exact absurd ⟨_,ho⟩ h2
         · rename_i ho; exact absurd ⟨_,_,ho⟩ h3
       rw [e1] at h ⊢
       have e3 : (fun (e : Env) (_ : Bxs) (w : World) => KeepF o e0 b b ∧ K e b w) = fun e _ w => K e b w := by
         funext e b' w
         simp only [eq_iff_iff,and_iff_right_iff_imp]
         exact fun _ => keepF_refl o e0 b
       rw [e3]
       exact h
theorem gdK_fix {c : Cfg} {ops : Array Oper} {o : Oper} {e : Env} {b : Bxs} {w : World} {K : Kont} (h : gdK c ops o e b w K) : gdK c ops o e b w fun e' b' w => KeepF o e b b' ∧ K e' b' w := by
 unfold gdK at *
 split at h
 · rename_i hg
   exact opK_mono_keeps (fun x k off h => h) h
 · rename_i j want hg
   cases ht : guardSlot ops j with
   | none => rw [ht] at h; exact h.elim
   | some t =>
     rw [ht] at h
     simp only at h ⊢
     cases hl : look e t with
     | none => rw [hl] at h; exact h.elim
     | some sv =>
       rw [hl] at h
       have hbool : (∃ g,sv = .v (.bool g)) ∨ sv = .v (.tuple ⟨[]⟩) := by
         cases sv with
         | bx k off => exact h.elim
         | v u => cases u with
           | bool g => exact .inl ⟨g,rfl⟩
           | tuple l => obtain ⟨l⟩ := l; cases l with
             | nil => exact .inr rfl
             | cons _ _ => exact h.elim
           | _ => exact h.elim
       rcases hbool with ⟨g,rfl⟩ | rfl
       case inr => exact putK_mono (fun e' hK => ⟨keepF_refl o e b,hK⟩) h
       simp only at h ⊢
       have he : ∀ (x : Operand) (k off : Nat) (u : Bool),ev ((t,.v (.bool u)) :: e) x = some (.bx k off) → ev e x = some (.bx k off) := by
         intro x k off u hx
         cases x with
         | tmp i =>
           simp only [ev,look_cons] at hx ⊢
           split at hx
           · cases hx
           · exact hx
         | _ => simp [ev] at hx
       split at h
       · rename_i hgw
         rw [if_pos hgw]
         exact opK_mono_keeps (fun x k off h => he x k off _ h) h
       · rename_i hgw
         rw [if_neg hgw]
         exact putK_mono (fun e' hK => ⟨keepF_refl o e b,hK⟩) h
def Live (d : DE) (b : Bxs) (w : World) (pm : PM) (pb : PB) : Prop :=
 (∀ q u,(q,u) ∈ d.m → w.cell? q = some u) ∧ (∀ k x,d.k = some (k,x) → look b k = some x ∧ (d.i,k) ∈ pb) ∧ (d.m = [] ∨ (d.i,d.m) ∈ pm)
structure Inv (c : Cfg) (ops : Array Oper) (ms : List (Nat × Nat)) (ord : List Nat) (K : Kont) (listed : Array Bool) (D : List DE) (cr : List Nat) (pm : PM) (pb : PB) (e : Env) (b : Bxs) (w : World) (a ac : Act) (W : World) : Prop where
 suf : ∃ pre,ord = pre ++ cr ∧ List.Sublist (D.map (·.i)) pre
 unl : ∀ i,listed.getD i true = false ↔ i ∈ D.map (·.i) ∨ i ∈ cr
 closed : ∀ i o,ops[i]? = some o → listed.getD i false = true → ∀ d ∈ depsOf o,listed.getD d false = true
 chain : Chain c.P ops D a ac
 rep : Rep c.n e b w ac W
 vc : drawK c ops ms cr pm pb e b w K
 live : ∀ d ∈ D,Live d b w pm pb
 dop : ∀ d ∈ D,ops[d.i]? = some d.o ∧ impB c ops d.i = false
 sz : listed.size = ops.size
structure OrdOk (c : Cfg) (ops : Array Oper) (ms : List (Nat × Nat)) (ord : List Nat) : Prop where
 masks : ∀ i k,(maskOf ms i).testBit k = true → Before ops k i
 nodup : ord.Nodup
 deps : ∀ pre i post,ord = pre ++ i :: post → ∃ o,ops[i]? = some o ∧ ∀ d ∈ depsOf o,d ∈ pre
 pairs : ∀ pre i post,ord = pre ++ i :: post → ∀ o,ops[i]? = some o → impB c ops i = false →
   (∀ j ∈ post,(maskOf ms j).testBit i = true ∨ ∃ oj,ops[j]? = some oj ∧ o.apart ops oj = true) ∧ ∀ x,lastImp c ops pre none = some x → (maskOf ms i).testBit x = true
 nosel : ∀ (i : Nat) (o : Oper),ops[i]? = some o → ∀ (cs : Array SelectCase) (x : Bool),o.op ≠ Op.select cs x
 all : ord.length = ops.size
 mem : ∀ i,i < ops.size → i ∈ ord
theorem ordOk_of {c : Cfg} {ops : Array Oper} {ord : List Nat} (h : orderB c ops ord = true) : ∃ ms,mkMasks ops ord [] = some ms ∧ OrdOk c ops ms ord := by
 unfold orderB at h
 cases hm : mkMasks ops ord [] with
 | none => rw [hm] at h; cases h
 | some ms =>
   rw [hm] at h
   simp only [Bool.and_eq_true] at h
   obtain ⟨h1,h2,h3,h4⟩ := mkMasks_spec hm (fun i m hi => by simp [look] at hi)
   refine ⟨ms,rfl,fun i k hk => ?_,h2,fun pre i post hp => ?_,fun pre i post hp o ho hi => pairsB_spec h.1.2 pre i post hp o ho hi,fun i o ho => noSel_of h.2 ho,Nat.eq_of_beq_eq_true h.1.1.2,fun i hi => by simpa using List.all_eq_true.1 h.1.1.1 i (List.mem_range.2 hi)⟩
   · unfold maskOf at hk
     cases hl : look ms i with
     | none => rw [hl] at hk; simp at hk
     | some m => rw [hl] at hk; exact h1 i m hl k hk
   · obtain ⟨o,ho,h5⟩ := h4 pre i post hp
     refine ⟨o,ho,fun d hd => ?_⟩
     rcases h5 d hd with h6 | ⟨m,h6⟩
     · exact h6
     · simp [look] at h6
theorem before_listed {ops : Array Oper} {listed : Array Bool} (hc : ∀ i o,ops[i]? = some o → listed.getD i false = true → ∀ d ∈ depsOf o,listed.getD d false = true) {k i : Nat} (h : Before ops k i)
   (hi : ∃ o,ops[i]? = some o ∧ ∀ d ∈ depsOf o,listed.getD d false = true) : listed.getD k false = true := by
 induction h with
 | dep ho hd =>
   obtain ⟨o,ho',h⟩ := hi
   rw [ho] at ho'
   cases ho'
   exact h _ hd
 | @far i d k o ho hd hb ih =>
   obtain ⟨o',ho',h⟩ := hi
   rw [ho] at ho'
   cases ho'
   have hd' := h _ hd
   cases hb with
   | dep ho2 hd2 => exact hc _ _ ho2 hd' _ hd2
   | far ho2 hd2 hb2 => exact ih ⟨_,ho2,fun x hx => hc _ _ ho2 hd' x hx⟩
theorem ready_deps {ops : Array Oper} {listed : Array Bool} {i : Nat} (h : i ∈ Region.ready .any ops listed) : listed.getD i true = false ∧ ∃ o,ops[i]? = some o ∧ ∀ d ∈ depsOf o,listed.getD d false = true := by
 obtain ⟨h0,o,ho,h1⟩ := mem_ready.1 h
 refine ⟨h0,o,ho,fun d hd => ?_⟩
 unfold depsOf at hd
 obtain ⟨e,he,rfl⟩ := List.mem_map.1 hd
 rw [List.mem_filter] at he
 exact h1 e (by simpa using he.1) he.2
theorem unl_not {listed : Array Bool} {i : Nat} (h : listed.getD i true = false) : ¬ listed.getD i false = true := by
 intro h2
 cases hx : listed[i]? with
 | none => simp [hx] at h
 | some x => simp [hx] at h h2; rw [h] at h2; cases h2
theorem inv_step {c : Cfg} (hc : CfgOk c) {ops : Array Oper} {ms : List (Nat × Nat)} {ord : List Nat} (hO : OrdOk c ops ms ord) {K : Kont} {listed : Array Bool} {D : List DE} {i : Nat} {r : List Nat} {pm : PM} {pb : PB} {e : Env} {b : Bxs} {w : World} {a ac : Act} {W : World}
   (h : Inv c ops ms ord K listed D (i :: r) pm pb e b w a ac W) (hi : impB c ops i = false) : ∃ d pm' pb' e' ac',d.i = i ∧ Inv c ops ms ord K listed (D ++ [d]) r pm' pb' e' b w a ac' W := by
 obtain ⟨pre,hpre,hsub⟩ := h.suf
 obtain ⟨o,ho,hdeps⟩ := hO.deps pre i r hpre
 have hvc := h.vc
 unfold drawK at hvc
 rw [ho] at hvc
 simp only at hvc
 have hk2 := impB_of (c := c) ho
 rw [hi] at hk2
 have mk : ∀ (d : DE) (pm' : PM) (pb' : PB) (e' : Env) (ac' : Act),d.i = i → d.o = o → Cert c.P ops d ac → ac' = ac.put d.o.dst d.v → Rep c.n e' b w ac' W → drawK c ops ms r pm' pb' e' b w K → (∀ x,x ∈ pm → x ∈ pm') → (∀ x,x ∈ pb → x ∈ pb') → Live d b w pm' pb' →
     Inv c ops ms ord K listed (D ++ [d]) r pm' pb' e' b w a ac' W := by
   intro d pm' pb' e' ac' hdi hdo hC hac hR hv hpm hpb hL
   subst hac
   refine ⟨⟨pre ++ [i],by rw [hpre]; simp, ?_⟩,fun j => ?_,h.closed,chain_snoc h.chain hC,hR,hv,fun x hx => ?_,fun x hx => ?_,h.sz⟩
   · rw [List.map_append,List.map_cons,List.map_nil,hdi]
     exact List.Sublist.append hsub (List.Sublist.refl _)
   · rw [h.unl j,List.map_append,List.map_cons,List.map_nil,hdi]
     simp only [List.mem_append,List.mem_cons,List.not_mem_nil,or_false]
     constructor
     · rintro (h1 | h1 | h1)
       · exact .inl (.inl h1)
       · exact .inl (.inr h1)
       · exact .inr h1
     · rintro ((h1 | h1) | h1)
       · exact .inl h1
       · exact .inr (.inl h1)
       · exact .inr (.inr h1)
   · rcases List.mem_append.1 hx with hx | hx
     · obtain ⟨q1,q2,q3⟩ := h.live x hx
       exact ⟨q1,fun k y hk => ⟨(q2 k y hk).1,hpb _ (q2 k y hk).2⟩,q3.imp id (hpm _)⟩
     · rw [List.mem_singleton] at hx; subst hx; exact hL
   · rcases List.mem_append.1 hx with hx | hx
     · exact h.dop x hx
     · rw [List.mem_singleton] at hx; subst hx; rw [hdi,hdo]; exact ⟨ho,hi⟩
 have wantedG : ∀ {j want s g},o.guard = some (j,want) → guardSlot ops j = some s → look e s = some (.v (.bool g)) → yielded ops ac.tmps j = some g := by
   intro j want s g hg hs hl
   have hv : ac.tmps.getD s undef = .bool g := by
     have := h.rep.slots s _ hl
     simpa [den] using this.symm
   exact yielded_slot hs hv
 have wantedN : ∀ {j want s},o.guard = some (j,want) → guardSlot ops j = some s → look e s = some (.v (.tuple ⟨[]⟩)) → Region.wanted o (yielded ops ac.tmps) = false := by
   intro j want s hg hs hl
   have hv : ac.tmps.getD s undef = .tuple ⟨[]⟩ := by
     have := h.rep.slots s _ hl
     simpa [den] using this.symm
   unfold Region.wanted
   rw [hg]
   simp [yielded_none hs hv]
 have repG : ∀ {s g},look e s = some (.v (.bool g)) → Rep c.n ((s,.v (.bool g)) :: e) b w ac W := by
   intro s g hl
   have hv : ac.tmps.getD s undef = .bool g := by
     have := h.rep.slots s _ hl
     simpa [den] using this.symm
   refine ⟨h.rep.size,h.rep.nodef,fun i sv hi => ?_,h.rep.pad,h.rep.base,h.rep.lo,h.rep.boxes,h.rep.hid,h.rep.keys,h.rep.apart⟩
   rw [look_cons] at hi
   split at hi
   · rename_i hit; cases hi; subst hit; simp [den, ← hv]
   · exact h.rep.slots i sv hi
 have skip : ∀ {e1 : Env} {F : Env → Prop},Rep c.n e1 b w ac W → Region.wanted o (yielded ops ac.tmps) = false → putK c.n o.dst (.v undef) e1 F → (∀ e',F e' → drawK c ops ms r pm pb e' b w K) →
     ∃ d pm' pb' e' ac',d.i = i ∧ Inv c ops ms ord K listed (D ++ [d]) r pm' pb' e' b w a ac' W := by
   intro e1 F hR hw hp hF
   obtain ⟨e',hK,hR'⟩ := hR.putK (sv := .v undef) rfl hp
   exact ⟨⟨i,o,undef,[],none⟩,pm,pb,e',ac.put o.dst undef,rfl,mk _ _ _ _ _ rfl rfl (.inr ⟨hw,rfl⟩) rfl hR' (hF e' hK) (fun _ h => h) (fun _ h => h) ⟨fun q u hm => (by cases hm),fun k x hk => (by cases hk),.inl rfl⟩⟩
 split at hvc
 · rename_i hk0
   have pureD : ∀ {e1 : Env} {G : Kont},Rep c.n e1 b w ac W → Region.wanted o (yielded ops ac.tmps) = true → opK c o e1 b w G → (∀ e',G e' b w → drawK c ops ms r pm pb e' b w K) →
       ∃ d pm' pb' e' ac',d.i = i ∧ Inv c ops ms ord K listed (D ++ [d]) r pm' pb' e' b w a ac' W := by
     intro e1 G hR hw hop hG
     obtain ⟨v,e',hr,hK,hR'⟩ := opK_val hc hk0 hR hop
     exact ⟨⟨i,o,v,[],none⟩,pm,pb,e',ac.put o.dst v,rfl,mk _ _ _ _ _ rfl rfl (.inl ⟨hw,fun W' _ => hr W'⟩) rfl hR' (hG e' hK) (fun _ h => h) (fun _ h => h) ⟨fun q u hm => (by cases hm),fun k x hk => (by cases hk),.inl rfl⟩⟩
   unfold gdK at hvc
   cases hg : o.guard with
   | none =>
     rw [hg] at hvc
     exact pureD h.rep (by unfold Region.wanted; rw [hg]) hvc (fun e' hK => hK)
   | some jw =>
     obtain ⟨j,want⟩ := jw
     rw [hg] at hvc
     simp only at hvc
     cases hs : guardSlot ops j with
     | none => rw [hs] at hvc; exact hvc.elim
     | some s =>
       rw [hs] at hvc
       simp only at hvc
       split at hvc
       · rename_i g hl
         have hy := wantedG hg hs hl
         split at hvc
         · rename_i hgw
           subst hgw
           exact pureD (repG hl) (by unfold Region.wanted; rw [hg]; simp [hy]) hvc (fun e' hK => hK)
         · rename_i hgw
           have hgw' : g = !want := by cases g <;> cases want <;> simp_all
           refine skip (e1 := (s,.v (.bool (!want))) :: e) (by rw [← hgw']; exact repG hl) (by unfold Region.wanted; rw [hg]; simpa [hy] using hgw) hvc (fun e' hK => hK)
       · rename_i hl
         exact skip h.rep (wantedN hg hs hl) hvc (fun e' hK => hK)
       · exact hvc.elim
 · rename_i hk1
   unfold gdL at hvc
   split at hvc
   · rename_i t x hop
     have loadD : ∀ {e1 : Env},Rep c.n e1 b w ac W → Region.wanted o (yielded ops ac.tmps) = true → ldG c t x e1 b w (fun v m k => putK c.n o.dst (.v v) e1 fun e => drawK c ops ms r ((i,m) :: pm) (addB i k pb) e b w K) →
         ∃ d pm' pb' e' ac',d.i = i ∧ Inv c ops ms ord K listed (D ++ [d]) r pm' pb' e' b w a ac' W := by
       intro e1 hR hw hld
       obtain ⟨v,m,k,hK,h1,h2,hr⟩ := ldG_spec hop hR hld
       obtain ⟨e',hK,hR'⟩ := hR.putK (sv := .v v) rfl hK
       refine ⟨⟨i,o,v,m,k⟩,_,_,e',ac.put o.dst v,rfl,mk _ _ _ _ _ rfl rfl (.inl ⟨hw,fun W' hW => hr W' hW⟩) rfl hR' hK (fun _ h => List.mem_cons_of_mem _ h) (fun _ h => ?_) ⟨h1,fun k' y hk => ⟨h2 k' y hk, ?_⟩,.inr List.mem_cons_self⟩⟩
       · unfold addB; split
         · exact List.mem_cons_of_mem _ h
         · exact h
       · simp only at hk
         subst hk
         exact List.mem_cons_self
     cases hg : o.guard with
     | none =>
       rw [hg] at hvc
       exact loadD h.rep (by unfold Region.wanted; rw [hg]) hvc
     | some jw =>
       obtain ⟨j,want⟩ := jw
       rw [hg] at hvc
       simp only at hvc
       cases hs : guardSlot ops j with
       | none => rw [hs] at hvc; exact hvc.elim
       | some s =>
         rw [hs] at hvc
         simp only at hvc
         split at hvc
         · rename_i g hl
           have hy := wantedG hg hs hl
           split at hvc
           · rename_i hgw
             subst hgw
             exact loadD (repG hl) (by unfold Region.wanted; rw [hg]; simp [hy]) hvc
           · rename_i hgw
             have hgw' : g = !want := by cases g <;> cases want <;> simp_all
             refine skip (e1 := (s,.v (.bool (!want))) :: e) (by rw [← hgw']; exact repG hl) (by unfold Region.wanted; rw [hg]; simpa [hy] using hgw) hvc (fun e' hK => hK)
         · rename_i hl
           exact skip h.rep (wantedN hg hs hl) hvc (fun e' hK => hK)
         · exact hvc.elim
   · exact hvc.elim
 · rename_i h0 h1
   exfalso
   have : kindOf c o = 0 ∨ kindOf c o = 1 ∨ kindOf c o = 2 := by
     unfold kindOf
     split <;> first | exact .inl rfl | exact .inr (.inl rfl) | exact .inr (.inr rfl) | skip
     · split <;> simp
     · split <;> simp
     · split <;> simp
   rcases this with h2 | h2 | h2
   · exact h0 h2
   · exact h1 h2
   · rw [h2] at hk2; cases hk2
theorem sub_split {x : Nat} {l : List Nat} : ∀ {ord : List Nat},List.Sublist (x :: l) ord → ∃ p q,ord = p ++ x :: q ∧ List.Sublist l q
 | [],h => by cases h
 | y :: r,h => by
   cases h with
   | cons _ h =>
     obtain ⟨p,q,rfl,h2⟩ := sub_split h
     exact ⟨y :: p,q,rfl,h2⟩
   | cons_cons _ h => exact ⟨[],r,rfl,h⟩
theorem apart_of {c : Cfg} {ops : Array Oper} {ms : List (Nat × Nat)} {ord : List Nat} (hO : OrdOk c ops ms ord) {listed : Array Bool} (hcl : ∀ i o,ops[i]? = some o → listed.getD i false = true → ∀ d ∈ depsOf o,listed.getD d false = true)
   {x : DE} (hx : ops[x.i]? = some x.o ∧ impB c ops x.i = false) (hu : listed.getD x.i true = false) {j : Nat} {oj : Oper} (hoj : ops[j]? = some oj) (hd : ∀ d ∈ depsOf oj,listed.getD d false = true) (hb : ∃ p q,ord = p ++ x.i :: q ∧ j ∈ q) : x.o.apart ops oj = true := by
 obtain ⟨p,q,hp,hj⟩ := hb
 rcases (hO.pairs p x.i q hp x.o hx.1 hx.2).1 j hj with h | ⟨oj',h1,h2⟩
 · exact absurd (before_listed hcl (hO.masks j x.i h) ⟨oj,hoj,hd⟩) (unl_not hu)
 · rw [hoj] at h1; cases h1; exact h2
theorem set_getD {listed : Array Bool} {i j : Nat} (hi : i < listed.size) : (listed.setIfInBounds i true).getD j true = false ↔ j ≠ i ∧ listed.getD j true = false := by
 by_cases hij : i = j
 · subst hij; simp [hi]
 · rw [getD_set_ne true hij]; simp [Ne.symm hij]
theorem closed_set {ops : Array Oper} {listed : Array Bool} {i : Nat} {oi : Oper} (hcl : ∀ i o,ops[i]? = some o → listed.getD i false = true → ∀ d ∈ depsOf o,listed.getD d false = true) (ho : ops[i]? = some oi) (hd : ∀ d ∈ depsOf oi,listed.getD d false = true) :
   ∀ j o,ops[j]? = some o → (listed.setIfInBounds i true).getD j false = true → ∀ d ∈ depsOf o,(listed.setIfInBounds i true).getD d false = true := by
 intro j o hj hl d hdm
 by_cases hij : i = j
 · subst hij
   rw [ho] at hj
   cases hj
   exact getD_set_true (hd d hdm)
 · rw [getD_set_ne false hij] at hl
   exact getD_set_true (hcl j o hj hl d hdm)
theorem unl_lt {listed : Array Bool} {i : Nat} (h : listed.getD i true = false) : i < listed.size := by
 rcases Nat.lt_or_ge i listed.size with h' | h'
 · exact h'
 · simp [Array.getElem?_eq_none h'] at h
theorem inv_nodup {c : Cfg} {ops : Array Oper} {ms : List (Nat × Nat)} {ord : List Nat} (hO : OrdOk c ops ms ord) {K : Kont} {listed : Array Bool} {D : List DE} {cr : List Nat} {pm : PM} {pb : PB} {e : Env} {b : Bxs} {w : World} {a ac : Act} {W : World}
   (h : Inv c ops ms ord K listed D cr pm pb e b w a ac W) : (D.map (·.i) ++ cr).Nodup := by
 obtain ⟨pre,hpre,hsub⟩ := h.suf
 have hn := hO.nodup
 rw [hpre] at hn
 exact List.Nodup.sublist (List.Sublist.append hsub (List.Sublist.refl _)) hn
theorem inv_pick {c : Cfg} {ops : Array Oper} {ms : List (Nat × Nat)} {ord : List Nat} (hO : OrdOk c ops ms ord) {K : Kont} {listed : Array Bool} {D1 D2 : List DE} {d : DE} {cr : List Nat} {pm : PM} {pb : PB} {e : Env} {b : Bxs} {w : World} {a ac : Act} {W : World}
   (h : Inv c ops ms ord K listed (D1 ++ d :: D2) cr pm pb e b w a ac W) (hr : d.i ∈ Region.ready .any ops listed) {Q : Exit → Act → World → Prop} {next : Act → World → Prop}
   (hn : Inv c ops ms ord K (listed.setIfInBounds d.i true) (D1 ++ D2) cr pm pb e b w (a.put d.o.dst d.v) ac W → next (a.put d.o.dst d.v) W) : wpOp c.P ops Q d.i next a W := by
 obtain ⟨hu,o,ho,hdeps⟩ := ready_deps hr
 have hdop := h.dop d (by simp)
 rw [hdop.1] at ho
 cases ho
 obtain ⟨pre,hpre,hsub⟩ := h.suf
 have hnd := inv_nodup hO h
 have hap : ∀ x ∈ D1,x.o.apart ops d.o = true ∧ ∀ cs z,x.o.op ≠ .select cs z := by
   intro x hx
   have hxD : x ∈ D1 ++ d :: D2 := List.mem_append_left _ hx
   refine ⟨apart_of hO h.closed (h.dop x hxD) ((h.unl x.i).2 (.inl (List.mem_map.2 ⟨x,hxD,rfl⟩))) hdop.1 hdeps ?_,fun cs z => hO.nosel x.i x.o (h.dop x hxD).1 cs z⟩
   obtain ⟨E1,E2,rfl⟩ := List.append_of_mem hx
   have hs2 : List.Sublist (x.i :: (E2.map (·.i) ++ d.i :: D2.map (·.i))) pre := by
     refine List.Sublist.trans ?_ hsub
     simp only [List.map_append,List.map_cons,List.append_assoc,List.cons_append]
     exact List.sublist_append_right _ _
   obtain ⟨p,q,rfl,hq⟩ := sub_split hs2
   exact ⟨p,q ++ cr,by rw [hpre]; simp,List.mem_append_left _ (hq.subset (by simp))⟩
 obtain ⟨hC,hch⟩ := chain_take (fun cs z => hO.nosel d.i d.o hdop.1 cs z) h.chain hap
 have hInv : Inv c ops ms ord K (listed.setIfInBounds d.i true) (D1 ++ D2) cr pm pb e b w (a.put d.o.dst d.v) ac W := by
   refine ⟨⟨pre,hpre, ?_⟩,fun j => ?_,closed_set h.closed hdop.1 hdeps,hch,h.rep,h.vc,fun x hx => h.live x ?_,fun x hx => h.dop x ?_,by simpa using h.sz⟩
   · refine List.Sublist.trans ?_ hsub
     simp only [List.map_append,List.map_cons]
     exact List.Sublist.append (List.Sublist.refl _) (List.sublist_cons_self _ _)
   · rw [set_getD (unl_lt hu),h.unl j]
     simp only [List.map_append,List.map_cons,List.mem_append,List.mem_cons] at hnd ⊢
     simp only [List.nodup_append,List.nodup_cons,List.mem_cons,List.mem_append] at hnd
     constructor
     · rintro ⟨h1,(h2 | h2 | h2) | h2⟩
       · exact .inl (.inl h2)
       · exact absurd h2 h1
       · exact .inl (.inr h2)
       · exact .inr h2
     · rintro ((h2 | h2) | h2)
       · exact ⟨fun he => hnd.1.2.2 j h2 d.i (.inl rfl) he,.inl (.inl h2)⟩
       · exact ⟨fun he => hnd.1.2.1.1 (he ▸ h2),.inl (.inr (.inr h2))⟩
       · exact ⟨fun he => hnd.2.2 d.i (.inr (.inl rfl)) j h2 he.symm,.inr h2⟩
   · rcases List.mem_append.1 hx with hx | hx
     · exact List.mem_append_left _ hx
     · exact List.mem_append_right _ (List.mem_cons_of_mem _ hx)
   · rcases List.mem_append.1 hx with hx | hx
     · exact List.mem_append_left _ hx
     · exact List.mem_append_right _ (List.mem_cons_of_mem _ hx)
 unfold wpOp
 rw [hdop.1]
 simp only
 rcases hC with ⟨hw,hrun⟩ | ⟨hw,hv⟩
 · rw [if_pos hw]
   refine .inl ?_
   have hl := h.live d (by simp)
   have := hrun W (holds_now h.rep hl.1 fun k y hk => (hl.2.1 k y hk).1)
   simp only [Oper.wp,this,Oper.upon]
   exact hn hInv
 · rw [if_neg (by rw [hw]; simp), ← hv]
   exact hn hInv
theorem againL_spec : ∀ {l : List (Addr × Value)} {w : World} {K : Prop},againL l w K → (∀ q u,(q,u) ∈ l → w.cell? q = some u) ∧ K
 | [],w,K,h => ⟨fun q u hm => (by cases hm),h⟩
 | (q,u) :: r,w,K,h => by
   obtain ⟨h1,h2⟩ := h
   obtain ⟨h3,h4⟩ := againL_spec h2
   refine ⟨fun q' u' hm => ?_,h4⟩
   rcases List.mem_cons.1 hm with hm | hm
   · cases hm; exact h1
   · exact h3 q' u' hm
theorem againP_spec : ∀ {l : PM} {w : World} {K : Prop},againP l w K → (∀ i m,(i,m) ∈ l → ∀ q u,(q,u) ∈ m → w.cell? q = some u) ∧ K
 | [],w,K,h => ⟨fun i m hm => (by cases hm),h⟩
 | (i,m) :: r,w,K,h => by
   obtain ⟨h1,h2⟩ := againL_spec h
   obtain ⟨h3,h4⟩ := againP_spec h2
   refine ⟨fun i' m' hm => ?_,h4⟩
   rcases List.mem_cons.1 hm with hm | hm
   · cases hm; exact h1
   · exact h3 i' m' hm
theorem dropP_mem {α : Type} {m : Nat} : ∀ {l : List (Nat × α)} {i : Nat} {x : α},(i,x) ∈ l → m.testBit i = false → (i,x) ∈ dropP m l
 | (j,y) :: r,i,x,h,ht => by
   unfold dropP
   rcases List.mem_cons.1 h with h | h
   · cases h
     rw [ht]
     exact List.mem_cons_self
   · have := dropP_mem h ht
     cases m.testBit j
     · exact List.mem_cons_of_mem _ this
     · exact this
theorem keyIn_mem {k : Nat} : ∀ {l : PB} {i : Nat},(i,k) ∈ l → keyIn l k = true
 | (j,y) :: r,i,h => by
   unfold keyIn
   rcases List.mem_cons.1 h with h | h
   · cases h; rw [Nat.beq_refl]
   · cases Nat.beq k y
     · exact keyIn_mem h
     · rfl
theorem inv_imp {c : Cfg} (hc : CfgOk c) {ops : Array Oper} {ms : List (Nat × Nat)} {ord : List Nat} (hO : OrdOk c ops ms ord) {K : Kont} {listed : Array Bool} {D : List DE} {i : Nat} {r : List Nat} {pm : PM} {pb : PB} {e : Env} {b : Bxs} {w : World} {a ac : Act} {W : World}
   (h : Inv c ops ms ord K listed D (i :: r) pm pb e b w a ac W) (hi : impB c ops i = true) (hr : i ∈ Region.ready .any ops listed) {Q : Exit → Act → World → Prop} (hQ : ∀ c a w,¬ Q (.panic c) a w) {next : Act → World → Prop}
   (hn : ∀ pm' pb' e' b' w' a' ac' W',Inv c ops ms ord K (listed.setIfInBounds i true) D r pm' pb' e' b' w' a' ac' W' → next a' W') : wpOp c.P ops Q i next a W := by
 obtain ⟨hu,o,ho,hdeps⟩ := ready_deps hr
 obtain ⟨pre,hpre,hsub⟩ := h.suf
 have hnd := inv_nodup hO h
 have hvc := h.vc
 unfold drawK at hvc
 rw [ho] at hvc
 have hk2 := impB_of (c := c) ho
 rw [hi] at hk2
 have hk2 := Nat.eq_of_beq_eq_true hk2.symm
 simp only [hk2] at hvc
 have hbit : ∀ d ∈ D,(maskOf ms i).testBit d.i = false := by
   intro d hd
   cases ht : (maskOf ms i).testBit d.i with
   | false => rfl
   | true => exact absurd (before_listed h.closed (hO.masks i d.i ht) ⟨o,ho,hdeps⟩) (unl_not ((h.unl d.i).2 (.inl (List.mem_map.2 ⟨d,hd,rfl⟩))))
 have hap : ∀ d ∈ D,d.o.apart ops o = true ∧ ∀ cs x,d.o.op ≠ .select cs x := by
   intro d hd
   refine ⟨apart_of hO h.closed (h.dop d hd) ((h.unl d.i).2 (.inl (List.mem_map.2 ⟨d,hd,rfl⟩))) ho hdeps ?_,fun cs x => hO.nosel d.i d.o (h.dop d hd).1 cs x⟩
   have hm : d.i ∈ pre := hsub.subset (List.mem_map.2 ⟨d,hd,rfl⟩)
   obtain ⟨p,q,rfl⟩ := List.append_of_mem hm
   exact ⟨p,q ++ i :: r,by rw [hpre]; simp,by simp⟩
 cases hf : freeB o e (dropP (maskOf ms i) pb) with
 | false => rw [hf] at hvc; exact hvc.elim
 | true =>
   rw [hf] at hvc
   simp only at hvc
   have hg := gdK_op hc ho h.rep (gdK_fix hvc) (Q := Q) (next := fun a2 W2 => ∃ e2 b2 w2,(KeepF o e b b2 ∧ againP (dropP (maskOf ms i) pm) w2 (drawK c ops ms r (dropP (maskOf ms i) pm) (dropP (maskOf ms i) pb) e2 b2 w2 K)) ∧ Rep c.n e2 b2 w2 a2 W2)
     (fun e2 b2 w2 a2 W2 h1 h2 => ⟨e2,b2,w2,h1,h2⟩)
   refine wpOp_mono (fun a2 W2 hk => ?_) (wpOp_chain ho (fun cs x => hO.nosel i o ho cs x) hQ h.chain hap hg)
   obtain ⟨ac2,hch,e2,b2,w2,⟨hkeep,hagain⟩,hR⟩ := hk
   obtain ⟨hcells,hv⟩ := againP_spec hagain
   refine hn _ _ e2 b2 w2 a2 ac2 W2 ⟨⟨pre ++ [i],by rw [hpre]; simp,hsub.trans (List.sublist_append_left _ _)⟩,fun j => ?_,closed_set h.closed ho hdeps,hch,hR,hv,fun d hd => ?_,h.dop,by simpa using h.sz⟩
   · rw [set_getD (unl_lt hu),h.unl j]
     simp only [List.mem_cons] at hnd ⊢
     simp only [List.nodup_append,List.nodup_cons,List.mem_cons] at hnd
     constructor
     · rintro ⟨h1,h2 | h2 | h2⟩
       · exact .inl h2
       · exact absurd h2 h1
       · exact .inr h2
     · rintro (h2 | h2)
       · exact ⟨fun he => hnd.2.2 j h2 i (.inl rfl) he,.inl h2⟩
       · exact ⟨fun he => hnd.2.1.1 (he ▸ h2),.inr (.inr h2)⟩
   · obtain ⟨q1,q2,q3⟩ := h.live d hd
     refine ⟨fun q u hm => ?_,fun k x hk => ?_, ?_⟩
     · rcases q3 with q3 | q3
       · rw [q3] at hm; cases hm
       · exact hcells d.i d.m (dropP_mem q3 (hbit d hd)) q u hm
     · obtain ⟨q4,q5⟩ := q2 k x hk
       have q6 := dropP_mem q5 (hbit d hd)
       refine ⟨hkeep k x q4 fun t x' y hop k0 off hev he => ?_,q6⟩
       subst he
       unfold freeB at hf
       simp only [hop,hev] at hf
       rw [keyIn_mem q6] at hf
       cases hf
     · rcases q3 with q3 | q3
       · exact .inl q3
       · exact .inr (dropP_mem q3 (hbit d hd))
theorem lastImp_append (c : Cfg) (ops : Array Oper) : ∀ (l1 l2 : List Nat) (x : Option Nat),lastImp c ops (l1 ++ l2) x = lastImp c ops l2 (lastImp c ops l1 x)
 | [],l2,x => rfl
 | i :: r,l2,x => lastImp_append c ops r l2 _
theorem lastImp_some {c : Cfg} {ops : Array Oper} : ∀ {l : List Nat} {x : Option Nat},(∃ y ∈ l,impB c ops y = true) → ∃ z ∈ l,lastImp c ops l x = some z
 | [],x,h => by obtain ⟨y,hy,_⟩ := h; cases hy
 | i :: r,x,h => by
   by_cases hr : ∃ y ∈ r,impB c ops y = true
   · obtain ⟨z,hz,h2⟩ := lastImp_some (x := if impB c ops i = true then some i else x) hr
     exact ⟨z,List.mem_cons_of_mem _ hz,h2⟩
   · obtain ⟨y,hy,hi⟩ := h
     have hyi : y = i := by
       rcases List.mem_cons.1 hy with h | h
       · exact h
       · exact absurd ⟨y,h,hi⟩ hr
     subst hyi
     refine ⟨y,List.mem_cons_self, ?_⟩
     simp only [lastImp,hi,if_true]
     have : ∀ {l : List Nat} {x : Option Nat},(¬ ∃ y ∈ l,impB c ops y = true) → lastImp c ops l x = x := by
       intro l
       induction l with
       | nil => intro x _; rfl
       | cons j l ih =>
         intro x hn
         have hj : impB c ops j = false := by
           cases hb : impB c ops j with
           | false => rfl
           | true => exact absurd ⟨j,List.mem_cons_self,hb⟩ hn
         simp only [lastImp,hj,Bool.false_eq_true,if_false]
         exact ih fun ⟨y,hy,hb⟩ => hn ⟨y,List.mem_cons_of_mem _ hy,hb⟩
     exact this hr
theorem inv_to {c : Cfg} (hc : CfgOk c) {ops : Array Oper} {ms : List (Nat × Nat)} {ord : List Nat} (hO : OrdOk c ops ms ord) {K : Kont} {listed : Array Bool} {r : List Nat} {a : Act} {b : Bxs} {w W : World} : ∀ {c1 : List Nat} {D : List DE} {pm : PM} {pb : PB} {e : Env} {ac : Act},
   Inv c ops ms ord K listed D (c1 ++ r) pm pb e b w a ac W → (∀ j ∈ c1,impB c ops j = false) → ∃ D' pm' pb' e' ac',(D ++ D').map (·.i) = D.map (·.i) ++ c1 ∧ Inv c ops ms ord K listed (D ++ D') r pm' pb' e' b w a ac' W
 | [],D,pm,pb,e,ac,h,hi => ⟨[],pm,pb,e,ac,by simp,by simpa using h⟩
 | j :: c1,D,pm,pb,e,ac,h,hi => by
   obtain ⟨d,pm1,pb1,e1,ac1,hd,h1⟩ := inv_step hc hO h (hi j List.mem_cons_self)
   obtain ⟨D',pm2,pb2,e2,ac2,h2,h3⟩ := inv_to hc hO h1 (fun x hx => hi x (List.mem_cons_of_mem _ hx))
   refine ⟨d :: D',pm2,pb2,e2,ac2, ?_,by simpa using h3⟩
   have : D ++ d :: D' = (D ++ [d]) ++ D' := by simp
   rw [this,h2]
   simp [hd]
theorem ready_nil {c : Cfg} {ops : Array Oper} {ms : List (Nat × Nat)} {ord : List Nat} (hO : OrdOk c ops ms ord) {listed : Array Bool} (hsz : listed.size = ops.size) (hnil : Region.ready .any ops listed = []) : ∀ j ∈ ord,listed.getD j true = true := by
 have hall : ∀ m,m ≤ ord.length → ∀ j ∈ ord.take m,listed.getD j true = true := by
   intro m
   induction m with
   | zero => intro _ j hj; simp at hj
   | succ m ihm =>
     intro hm j hj
     have h1 := ihm (by omega)
     rw [List.take_succ_eq_append_getElem (by omega)] at hj
     rcases List.mem_append.1 hj with hj | hj
     · exact h1 j hj
     · rw [List.mem_singleton] at hj
       obtain ⟨o,ho,hd⟩ := hO.deps (ord.take m) ord[m] (ord.drop (m + 1)) (by rw [List.getElem_cons_drop]; exact (List.take_append_drop m ord).symm)
       rw [← hj] at ho
       cases hjl : listed.getD j true with
       | true => rfl
       | false =>
         exfalso
         have : j ∈ Region.ready .any ops listed := by
           refine mem_ready.2 ⟨hjl,o,ho,fun ed hed hb => ?_⟩
           have hm2 : ed.on ∈ depsOf o := List.mem_map.2 ⟨ed,List.mem_filter.2 ⟨by simpa using hed,hb⟩,rfl⟩
           have h3 := hd _ hm2
           have h2 := h1 _ h3
           have hlt : ed.on < listed.size := by
             obtain ⟨p,q,hpq⟩ := List.append_of_mem (List.take_subset m ord h3)
             obtain ⟨o2,ho2,_⟩ := hO.deps p ed.on q hpq
             rw [hsz]
             exact (Array.getElem?_eq_some_iff.1 ho2).1
           simp [hlt] at h2 ⊢
           exact h2
         rw [hnil] at this
         cases this
 exact fun j hj => hall ord.length (Nat.le_refl _) j (by rw [List.take_length]; exact hj)
theorem draw_go {c : Cfg} (hc : CfgOk c) {ops : Array Oper} {ms : List (Nat × Nat)} {ord : List Nat} (hO : OrdOk c ops ms ord) {K : Kont} {Q : Exit → Act → World → Prop} (hQ : ∀ c a w,¬ Q (.panic c) a w)
   (hK : ∀ e b w a W,K e b w → Rep c.n e b w a W → Q .normal a W) : ∀ (fuel t : Nat) (listed : Array Bool) (D : List DE) (cr : List Nat) (pm : PM) (pb : PB) (e : Env) (b : Bxs) (w : World) (a ac : Act) (W : World),
     Inv c ops ms ord K listed D cr pm pb e b w a ac W → (Region.linearise.go .any ops fuel t listed []).filter (impB c ops) = cr.filter (impB c ops) → D.length + cr.length ≤ fuel →
     wpOps c.P ops Q (Region.linearise.go .any ops fuel t listed []) a W := by
 have done : ∀ {listed : Array Bool} {pm : PM} {pb : PB} {e : Env} {b : Bxs} {w : World} {a ac : Act} {W : World},Inv c ops ms ord K listed [] [] pm pb e b w a ac W → Q .normal a W := by
   intro listed pm pb e b w a ac W h
   have hch := h.chain
   cases hch
   exact hK e b w a W h.vc h.rep
 intro fuel
 induction fuel with
 | zero =>
   intro t listed D cr pm pb e b w a ac W h hp hl
   have hD : D = [] := List.eq_nil_of_length_eq_zero (by omega)
   have hcr : cr = [] := List.eq_nil_of_length_eq_zero (by omega)
   subst hD; subst hcr
   simp only [Region.linearise.go,List.reverse_nil,wpOps]
   exact done h
 | succ fuel ih =>
   intro t listed D cr pm pb e b w a ac W h hp hl
   simp only [Region.linearise.go] at hp ⊢
   change (match (Region.ready .any ops listed)[t % (Region.ready .any ops listed).length]? with
     | some i => Region.linearise.go .any ops fuel (t / (Region.ready .any ops listed).length) (listed.setIfInBounds i true) [i]
     | none => [].reverse).filter (impB c ops) = _ at hp
   change wpOps c.P ops Q (match (Region.ready .any ops listed)[t % (Region.ready .any ops listed).length]? with
     | some i => Region.linearise.go .any ops fuel (t / (Region.ready .any ops listed).length) (listed.setIfInBounds i true) [i]
     | none => [].reverse) a W
   cases hi : (Region.ready .any ops listed)[t % (Region.ready .any ops listed).length]? with
   | none =>
     have hnil : Region.ready .any ops listed = [] := by
       cases hr : Region.ready .any ops listed with
       | nil => rfl
       | cons x xs =>
         rw [hr] at hi
         have hlt : t % (x :: xs).length < (x :: xs).length := Nat.mod_lt _ (by simp)
         simp at hi
         simp at hlt
         omega
     have hall := ready_nil hO h.sz hnil
     have hno : ∀ j,j ∈ D.map (·.i) ∨ j ∈ cr → False := by
       intro j hj
       have hu := (h.unl j).2 hj
       obtain ⟨pre,hpre,hsub⟩ := h.suf
       have hm : j ∈ ord := by
         rw [hpre]
         rcases hj with hj | hj
         · exact List.mem_append_left _ (hsub.subset hj)
         · exact List.mem_append_right _ hj
       have := hall j hm
       rw [this] at hu
       cases hu
     have hD : D = [] := by
       cases D with
       | nil => rfl
       | cons d r => exact (hno d.i (.inl (by simp))).elim
     have hcr : cr = [] := by
       cases cr with
       | nil => rfl
       | cons d r => exact (hno d (.inr (by simp))).elim
     subst hD; subst hcr
     simp only [List.reverse_nil,wpOps]
     exact done h
   | some i =>
     rw [hi] at hp
     simp only at hp ⊢
     rw [linearise_go_acc,List.reverse_singleton,List.singleton_append] at hp ⊢
     rw [wpOps_cons]
     have hr : i ∈ Region.ready .any ops listed := List.mem_of_getElem? hi
     obtain ⟨hu,o,ho,hdeps⟩ := ready_deps hr
     have pick : ∀ {D : List DE} {cr : List Nat} {pm : PM} {pb : PB} {e : Env} {b : Bxs} {w : World} {ac : Act},Inv c ops ms ord K listed D cr pm pb e b w a ac W → i ∈ D.map (·.i) → impB c ops i = false →
         (i :: Region.linearise.go .any ops fuel (t / (Region.ready .any ops listed).length) (listed.setIfInBounds i true) []).filter (impB c ops) = cr.filter (impB c ops) → D.length + cr.length ≤ fuel + 1 →
         wpOp c.P ops Q i (wpOps c.P ops Q (Region.linearise.go .any ops fuel (t / (Region.ready .any ops listed).length) (listed.setIfInBounds i true) [])) a W := by
       intro D cr pm pb e b w ac h hm hib hp hl
       obtain ⟨d,hd,hdi⟩ := List.mem_map.1 hm
       obtain ⟨D1,D2,rfl⟩ := List.append_of_mem hd
       subst hdi
       refine inv_pick hO h hr fun hI => ih _ _ _ _ _ _ _ _ _ _ _ _ hI ?_ ?_
       · rw [List.filter_cons,hib] at hp
         simpa using hp
       · simp at hl ⊢; omega
     rcases (h.unl i).1 hu with hm | hm
     · have hib : impB c ops i = false := by
         obtain ⟨d,hd,hdi⟩ := List.mem_map.1 hm
         rw [← hdi]
         exact (h.dop d hd).2
       exact pick h hm hib hp hl
     · cases hib : impB c ops i with
       | false =>
         obtain ⟨c1,c2,rfl⟩ := List.append_of_mem hm
         obtain ⟨pre,hpre,hsub⟩ := h.suf
         have hc1 : ∀ j ∈ c1,impB c ops j = false := by
           intro j hj
           cases hjb : impB c ops j with
           | false => rfl
           | true =>
             exfalso
             obtain ⟨z,hz,hl2⟩ := lastImp_some (c := c) (ops := ops) (x := lastImp c ops pre none) ⟨j,hj,hjb⟩
             have hb := (hO.pairs (pre ++ c1) i c2 (by rw [hpre]; simp) o ho hib).2 z (by rw [lastImp_append]; exact hl2)
             exact unl_not ((h.unl z).2 (.inr (List.mem_append_left _ hz))) (before_listed h.closed (hO.masks i z hb) ⟨o,ho,hdeps⟩)
         have h' : Inv c ops ms ord K listed D ((c1 ++ [i]) ++ c2) pm pb e b w a ac W := by simpa using h
         obtain ⟨D',pm',pb',e',ac',hD',hI⟩ := inv_to hc hO h' (fun j hj => by
           rcases List.mem_append.1 hj with hj | hj
           · exact hc1 j hj
           · rw [List.mem_singleton] at hj; subst hj; exact hib)
         refine pick hI (by rw [hD']; simp) hib ?_ ?_
         · rw [hp,List.filter_append,List.filter_cons,hib]
           have : c1.filter (impB c ops) = [] := List.filter_eq_nil_iff.2 fun j hj => by rw [hc1 j hj]; simp
           simp [this]
         · have := congrArg List.length hD'
           simp at this hl ⊢
           omega
       | true =>
         rw [List.filter_cons,hib] at hp
         simp only [if_true] at hp
         -- the first of what is left that is not delayed is this one
         have hsplit : ∀ (l : List Nat) (rest : List Nat),i :: rest = l.filter (impB c ops) → ∃ c1 c2,l = c1 ++ i :: c2 ∧ (∀ j ∈ c1,impB c ops j = false) ∧ c2.filter (impB c ops) = rest := by
           intro l
           induction l with
           | nil => intro rest hx; simp at hx
           | cons y l ihl =>
             intro rest hx
             rw [List.filter_cons] at hx
             cases hy : impB c ops y with
             | true =>
               rw [hy] at hx
               simp only [if_true,List.cons.injEq] at hx
               obtain ⟨rfl,rfl⟩ := hx
               exact ⟨[],l,rfl,fun j hj => (by cases hj),rfl⟩
             | false =>
               rw [hy] at hx
               simp only [Bool.false_eq_true,if_false] at hx
               obtain ⟨c1,c2,rfl,h2,h3⟩ := ihl rest hx
               refine ⟨y :: c1,c2,rfl,fun j hj => ?_,h3⟩
               rcases List.mem_cons.1 hj with rfl | hj
               · exact hy
               · exact h2 j hj
         obtain ⟨c1,c2,rfl,hc1,hrest⟩ := hsplit cr _ hp
         obtain ⟨D',pm',pb',e',ac',hD',hI⟩ := inv_to hc hO h hc1
         refine inv_imp hc hO hI hib hr hQ fun pm2 pb2 e2 b2 w2 a2 ac2 W2 hI2 => ih _ _ _ _ _ _ _ _ _ _ _ _ hI2 hrest.symm ?_
         have := congrArg List.length hD'
         simp at this hl ⊢
         omega
theorem exts_go {c : Cfg} {ops : Array Oper} {ms : List (Nat × Nat)} {ord : List Nat} (hO : OrdOk c ops ms ord) : ∀ (fuel t : Nat) (listed : Array Bool) (n : Nat),listed.size = ops.size → (∀ i o,ops[i]? = some o → listed.getD i false = true → ∀ d ∈ depsOf o,listed.getD d false = true) →
   (ord.filter fun j => !listed.getD j true).length ≤ fuel → ((ord.filter (impB c ops)).filter fun j => !listed.getD j true).length ≤ n →
   (Region.linearise.go .any ops fuel t listed []).filter (impB c ops) ∈ exts ms n ((ord.filter (impB c ops)).filter fun j => !listed.getD j true) := by
 have nil_mem : ∀ n,([] : List Nat) ∈ exts ms n [] := fun n => by cases n <;> simp [exts]
 have all_nil : ∀ {listed : Array Bool},(∀ j ∈ ord,listed.getD j true = true) → ((ord.filter (impB c ops)).filter fun j => !listed.getD j true) = [] := fun h =>
   List.filter_eq_nil_iff.2 fun j hj => by rw [h j (List.mem_filter.1 hj).1]; simp
 intro fuel
 induction fuel with
 | zero =>
   intro t listed n hsz hcl hcount hn
   have h0 := List.eq_nil_of_length_eq_zero (Nat.le_zero.1 hcount)
   have : ∀ j ∈ ord,listed.getD j true = true := fun j hj => by simpa using (List.filter_eq_nil_iff.1 h0) j hj
   rw [all_nil this]
   simp only [Region.linearise.go,List.reverse_nil,List.filter_nil]
   exact nil_mem n
 | succ fuel ih =>
   intro t listed n hsz hcl hcount hn
   simp only [Region.linearise.go]
   change (match (Region.ready .any ops listed)[t % (Region.ready .any ops listed).length]? with
     | some i => Region.linearise.go .any ops fuel (t / (Region.ready .any ops listed).length) (listed.setIfInBounds i true) [i]
     | none => [].reverse).filter (impB c ops) ∈ _
   cases hi : (Region.ready .any ops listed)[t % (Region.ready .any ops listed).length]? with
   | none =>
     have hnil : Region.ready .any ops listed = [] := by
       cases hr : Region.ready .any ops listed with
       | nil => rfl
       | cons x xs =>
         rw [hr] at hi
         have hlt : t % (x :: xs).length < (x :: xs).length := Nat.mod_lt _ (by simp)
         simp at hi
         simp at hlt
         omega
     rw [all_nil (ready_nil hO hsz hnil)]
     simp only [List.reverse_nil,List.filter_nil]
     exact nil_mem n
   | some i =>
     simp only
     rw [linearise_go_acc,List.reverse_singleton,List.singleton_append]
     have hr : i ∈ Region.ready .any ops listed := List.mem_of_getElem? hi
     obtain ⟨hu,o,ho,hdeps⟩ := ready_deps hr
     have hlt := unl_lt hu
     have him : i ∈ ord := hO.mem i (by rw [← hsz]; exact hlt)
     have hset : ∀ j,(!(listed.setIfInBounds i true).getD j true) = (!listed.getD j true && !Nat.beq j i) := by
       intro j
       have := set_getD (j := j) hlt
       cases h1 : (listed.setIfInBounds i true).getD j true with
       | false =>
         obtain ⟨h2,h3⟩ := this.1 h1
         have : Nat.beq j i = false := by
           cases hb : Nat.beq j i with
           | false => rfl
           | true => exact absurd (Nat.eq_of_beq_eq_true hb) h2
         rw [h3,this]; rfl
       | true =>
         cases hb : Nat.beq j i with
         | true => simp
         | false =>
           cases h3 : listed.getD j true with
           | true => rfl
           | false =>
             have := this.2 ⟨Nat.ne_of_beq_eq_false hb,h3⟩
             rw [h1] at this
             cases this
     have hf : ∀ l : List Nat,(l.filter fun j => !(listed.setIfInBounds i true).getD j true) = (l.filter fun j => !listed.getD j true).filter fun j => !Nat.beq j i := by
       intro l
       rw [List.filter_filter]
       refine List.filter_congr fun j _ => ?_
       rw [hset j,Bool.and_comm]
     have hlen : ∀ l : List Nat,i ∈ l → (l.filter fun j => !Nat.beq j i).length < l.length := by
       intro l hl
       have := List.length_filter_lt_length_iff_exists (p := fun j => !Nat.beq j i) (l := l)
       exact this.2 ⟨i,hl,by simp [Nat.beq_refl]⟩
     have hcount' : (ord.filter fun j => !(listed.setIfInBounds i true).getD j true).length ≤ fuel := by
       rw [hf]
       have := hlen (ord.filter fun j => !listed.getD j true) (List.mem_filter.2 ⟨him,by rw [hu]; rfl⟩)
       omega
     cases hib : impB c ops i with
     | false =>
       rw [List.filter_cons,hib]
       simp only [Bool.false_eq_true,if_false]
       have hsame : ((ord.filter (impB c ops)).filter fun j => !(listed.setIfInBounds i true).getD j true) = (ord.filter (impB c ops)).filter fun j => !listed.getD j true := by
         rw [hf]
         refine List.filter_eq_self.2 fun j hj => ?_
         have hij : impB c ops j = true := (List.mem_filter.1 (List.mem_filter.1 hj).1).2
         have hne : j ≠ i := fun he => by subst he; rw [hib] at hij; cases hij
         cases hb : Nat.beq j i with
         | false => rfl
         | true => exact absurd (Nat.eq_of_beq_eq_true hb) hne
       have := ih (t / (Region.ready .any ops listed).length) (listed.setIfInBounds i true) n (by simpa using hsz) (closed_set hcl ho hdeps) hcount' (by rw [hsame]; exact hn)
       rw [hsame] at this
       exact this
     | true =>
       rw [List.filter_cons,hib]
       simp only [if_true]
       have hiS : i ∈ (ord.filter (impB c ops)).filter fun j => !listed.getD j true := List.mem_filter.2 ⟨List.mem_filter.2 ⟨him,hib⟩,by rw [hu]; rfl⟩
       have hlt2 := hlen _ hiS
       cases n with
       | zero => exfalso; omega
       | succ n =>
         have := ih (t / (Region.ready .any ops listed).length) (listed.setIfInBounds i true) n (by simpa using hsz) (closed_set hcl ho hdeps) hcount' (by rw [hf]; omega)
         rw [hf] at this
         generalize hS : ((ord.filter (impB c ops)).filter fun j => !listed.getD j true) = S at *
         cases S with
         | nil => cases hiS
         | cons x S =>
           simp only [exts]
           refine List.mem_flatMap.2 ⟨i,List.mem_filter.2 ⟨hiS, ?_⟩,List.mem_map.2 ⟨_,this,rfl⟩⟩
           refine List.all_eq_true.2 fun j hj => ?_
           rw [← hS] at hj
           have hju : listed.getD j true = false := by simpa using (List.mem_filter.1 hj).2
           cases hb : (maskOf ms i).testBit j with
           | false => rfl
           | true => exact absurd (before_listed hcl (hO.masks i j hb) ⟨o,ho,hdeps⟩) (unl_not hju)
theorem drawL_mem {c : Cfg} {ops : Array Oper} {e : Env} {b : Bxs} {w : World} {K : Kont} : ∀ {L : List (List Nat)},drawL c ops L e b w K → ∀ ord ∈ L,∃ ms,mkMasks ops ord [] = some ms ∧ drawK c ops ms ord [] [] e b w K
 | [ord],h,o,ho => by
   rw [List.mem_singleton] at ho
   subst ho
   unfold drawL at h
   cases hm : mkMasks ops o [] with
   | none => rw [hm] at h; exact h.elim
   | some ms => rw [hm] at h; exact ⟨ms,rfl,h⟩
 | ord :: o2 :: r,h,o,ho => by
   unfold drawL at h
   rcases List.mem_cons.1 ho with rfl | ho
   · cases hm : mkMasks ops o [] with
     | none => rw [hm] at h; exact h.1.elim
     | some ms => rw [hm] at h; exact ⟨ms,rfl,h.1⟩
   · exact drawL_mem h.2 o ho
theorem rep_drew {n : Fr} {e : Env} {b : Bxs} {w W : World} {a : Act} (h : Rep n e b w a W) : Rep n e b w a { W with drawn := W.drawn + 1 } :=
 ⟨h.size,h.nodef,h.slots,⟨h.pad.os,h.pad.tape,h.pad.output,h.pad.size,h.pad.row,h.pad.low⟩,h.base,h.lo,h.boxes,h.hid,h.keys,h.apart⟩
theorem region_draw {c : Cfg} (hc : CfgOk c) (hmix : c.P.follows .mixedOrders = true) {id : Nat} {ops : Array Oper} {L : List (List Nat)} (hL : regionB c ops L = true) {Q : Exit → Act → World → Prop} (hQ : ∀ c a w,¬ Q (.panic c) a w) {K : Kont}
   (hn : ∀ e b w a' W',K e b w → Rep c.n e b w a' W' → Q .normal a' W') {e : Env} {b : Bxs} {w W : World} {a : Act} (hR : Rep c.n e b w a W) (h : drawL c ops L e b w K) : (Code.region id ops true).wp c.P Q a W := by
 unfold regionB at hL
 simp only [Bool.and_eq_true] at hL
 obtain ⟨hord,hcov⟩ := hL
 refine wp_region_draw fun t => ?_
 simp only [Region.schedule,hmix,Bool.true_or,if_true]
 have hgo : Region.linearise .any ops t = Region.linearise.go .any ops ops.size t (Array.replicate ops.size false) [] := rfl
 rw [hgo]
 -- which of the orders
 cases L with
 | nil => cases hcov
 | cons ord0 L =>
   have h0 := List.all_eq_true.1 hord ord0 List.mem_cons_self
   obtain ⟨ms0,hms0,hO0⟩ := ordOk_of h0
   unfold coverB at hcov
   simp only [hms0] at hcov
   have hcl : ∀ i o,ops[i]? = some o → (Array.replicate ops.size false).getD i false = true → ∀ d ∈ depsOf o,(Array.replicate ops.size false).getD d false = true := by
     intro i o _ hl
     exfalso
     simp only [Array.getD_eq_getD_getElem?,Array.getElem?_replicate] at hl
     split at hl <;> simp at hl
   have hun : ∀ j,j < ops.size → (Array.replicate ops.size false).getD j true = false := by
     intro j hj
     simp [hj]
   have hlt : ∀ {ord : List Nat} {ms : List (Nat × Nat)},OrdOk c ops ms ord → ∀ j ∈ ord,j < ops.size := by
     intro ord ms hO j hj
     obtain ⟨p,q,hpq⟩ := List.append_of_mem hj
     obtain ⟨o,ho,_⟩ := hO.deps p j q hpq
     exact (Array.getElem?_eq_some_iff.1 ho).1
   have hS : ((ord0.filter (impB c ops)).filter fun j => !(Array.replicate ops.size false).getD j true) = ord0.filter (impB c ops) :=
     List.filter_eq_self.2 fun j hj => by rw [hun j (hlt hO0 j (List.mem_filter.1 hj).1)]; rfl
   have hex := exts_go hO0 ops.size t (Array.replicate ops.size false) ord0.length (by simp) hcl
     (by rw [← hO0.all]; exact List.length_filter_le _ _) (Nat.le_trans (List.length_filter_le _ _) (List.length_filter_le _ _))
   rw [hS] at hex
   have hany := List.all_eq_true.1 hcov _ hex
   obtain ⟨ord,hmem,hproj⟩ := List.any_eq_true.1 hany
   have hproj := beq_iff_eq.1 hproj
   obtain ⟨ms,hms,hO⟩ := ordOk_of (List.all_eq_true.1 hord ord hmem)
   obtain ⟨ms',hms',hvc⟩ := drawL_mem h ord hmem
   rw [hms] at hms'
   cases hms'
   refine draw_go hc hO hQ (fun e b w a W => hn e b w a W) ops.size t (Array.replicate ops.size false) [] ord [] [] e b w a a _ ⟨⟨[],rfl,List.Sublist.refl _⟩,fun i => ?_,hcl,.nil a,rep_drew hR,hvc,fun d hd => (by cases hd),fun d hd => (by cases hd),by simp⟩ hproj.symm (by simp [hO.all])
   constructor
   · intro hi
     have := unl_lt hi
     rw [Array.size_replicate] at this
     exact .inr (hO.mem i this)
   · rintro (hi | hi)
     · cases hi
     · exact hun i (hlt hO i hi)
structure Post where
 n : Kont
 x : Nat → Kont
 r : Kont
inductive H where
 | z
 | s (a b : H)
 | cut (i : Nat) (a b : H)
 | c (t e : H)
 | b (x : H)
 | l (i : Nat) (x : H)
 | r (L : List (List Nat))
def Post.block (Q : Post) (id : Nat) : Post :=
 { Q with x := fun j => match Nat.beq j id with
   | true => Q.n
   | false => Q.x j }
def wpf (c : Cfg) (Cs : Nat → Cut) : Code → H → List Nat → Post → Kont
 | .skip,_,_,Q => Q.n
 | .label _,_,_,Q => Q.n
 | .region _ ops false,_,_,Q => fun e b w => opsK c ops ops.toList e b w Q.n
 | .region _ ops true,.r L,_,Q => fun e b w => drawL c ops L e b w Q.n
 | .seq x y,.s hx hy,fs,Q => wpf c Cs x hx fs { Q with n := wpf c Cs y hy fs Q }
 | .seq x y,.cut i hx hy,fs,Q => wpf c Cs x hx fs { Q with n := (Cs i).read ((Cs i).K fs) }
 | .cond t x y,.c hx hy,fs,Q => fun e b w => match ev e t with
   | some (.v (.bool g)) => if g = true then wpf c Cs x hx fs Q e b w else wpf c Cs y hy fs Q e b w
   | _ => False
 | .block id x,.b hx,fs,Q => wpf c Cs x hx fs (Q.block id)
 | .scope x,.b hx,fs,Q => wpf c Cs x hx fs Q
 | .loop _,.l i _,fs,_ => fun e b w => ∃ k,(Cs i).read ((Cs i).K (k :: fs)) e b w
 | .exit id,_,_,Q => Q.x id
 | .ret,_,_,Q => Q.r
 | _,_,_,_ => fun _ _ _ => False
def obl (c : Cfg) (Cs : Nat → Cut) : Code → H → List Nat → Post → List Prop
 | .region _ ops true,.r L,_,_ => [regionB c ops L = true]
 | .seq x y,.s hx hy,fs,Q => obl c Cs x hx fs { Q with n := wpf c Cs y hy fs Q } ++ obl c Cs y hy fs Q
 | .seq x y,.cut i hx hy,fs,Q => obl c Cs x hx fs { Q with n := (Cs i).read ((Cs i).K fs) } ++
     ((Cs i).all fun vs bs w => (Cs i).K fs vs bs w → wpf c Cs y hy fs Q (mkE (Cs i).slots vs (mkP (Cs i).keys)) (mkB (Cs i).keys bs) w) :: obl c Cs y hy fs Q
 | .cond _ x y,.c hx hy,fs,Q => obl c Cs x hx fs Q ++ obl c Cs y hy fs Q
 | .block id x,.b hx,fs,Q => obl c Cs x hx fs (Q.block id)
 | .scope x,.b hx,fs,Q => obl c Cs x hx fs Q
 | .loop x,.l i hx,fs,Q => [(Cs i).all fun vs bs w => ¬ (Cs i).K (0 :: fs) vs bs w,
     ∀ k,(Cs i).all fun vs bs w => (Cs i).K ((k + 1) :: fs) vs bs w → wpf c Cs x hx (k :: fs) { Q with n := (Cs i).read ((Cs i).K (k :: fs)) } (mkE (Cs i).slots vs (mkP (Cs i).keys)) (mkB (Cs i).keys bs) w,
     ∀ k,∀ p ∈ obl c Cs x hx (k :: fs) { Q with n := (Cs i).read ((Cs i).K (k :: fs)) },p]
 | _,_,_,_ => []
def lift (n : Fr) (Q : Post) : Exit → Act → World → Prop
 | .normal,a,W => ∃ e b w,Q.n e b w ∧ Rep n e b w a W
 | .exit id,a,W => ∃ e b w,Q.x id e b w ∧ Rep n e b w a W
 | .ret,a,W => ∃ e b w,Q.r e b w ∧ Rep n e b w a W
 | _,_,_ => False
theorem wp_loop_fuel {P : Program} {c : Code} {Q : Exit → Act → World → Prop} (I : Nat → Act → World → Prop) (h0 : ∀ a w,¬ I 0 a w) (round : ∀ k a w,I (k + 1) a w → c.wp P (Exit.then (I k) Q) a w) {k : Nat} {a : Act} {w : World} (h : I k a w) : (Code.loop c).wp P Q a w := by
 intro b kk cs
 have key : ∀ k a w,I k a w → ∃ e a' w',Q e a' w' ∧ Arrives P (lone (b.at a (.code c :: .inLoop c :: kk)) cs w) b kk cs e a' w' := by
   intro k
   induction k with
   | zero => intro a w h; exact absurd h (h0 a w)
   | succ k ih =>
     intro a w h
     obtain ⟨e,a₁,w₁,hq,harr⟩ := round k a w h b (.inLoop c :: kk) cs
     cases e with
     | normal =>
       obtain ⟨e₂,a₂,w₂,hq₂,harr₂⟩ := ih a₁ w₁ hq
       exact ⟨e₂,a₂,w₂,hq₂,.of_steps (Steps.trans harr (.one step_inLoop)) harr₂⟩
     | exit id => exact ⟨_,a₁,w₁,hq,.pass (x := .inLoop c) rfl (fun _ _ => .inl (by simp)) harr⟩
     | goto l => exact ⟨_,a₁,w₁,hq,.pass (x := .inLoop c) rfl (fun _ _ => .inl (by simp)) harr⟩
     | ret => exact ⟨_,a₁,w₁,hq,.pass (x := .inLoop c) rfl (fun _ _ => .inl (by simp)) harr⟩
     | panic ch => exact ⟨_,a₁,w₁,hq,.pass (x := .inLoop c) rfl (fun _ _ => .inl (by simp)) harr⟩
     | outgrown => exact ⟨_,a₁,w₁,hq,.pass (x := .inLoop c) rfl (fun _ _ => .inl (by simp)) harr⟩
 obtain ⟨e,a',w',hq,harr⟩ := key _ a w h
 exact ⟨e,a',w',hq,.of_steps (.one step_loop) harr⟩
theorem wpf_sound {c : Cfg} (hc : CfgOk c) (hmix : c.P.follows .mixedOrders = true) (Cs : Nat → Cut) : ∀ (x : Code) (h : H) (fs : List Nat) (Q : Post),(∀ p ∈ obl c Cs x h fs Q,p) → ∀ (e : Env) (b : Bxs) (w W : World) (a : Act),Rep c.n e b w a W → wpf c Cs x h fs Q e b w → x.wp c.P (lift c.n Q) a W := by
 have read_to : ∀ {i : Nat} {F : List Value → List Bx → World → Prop} {y : Code} {hy : H} {fs : List Nat} {Q : Post},(∀ e b w W a,Rep c.n e b w a W → wpf c Cs y hy fs Q e b w → y.wp c.P (lift c.n Q) a W) →
     ((Cs i).all fun vs bs w => F vs bs w → wpf c Cs y hy fs Q (mkE (Cs i).slots vs (mkP (Cs i).keys)) (mkB (Cs i).keys bs) w) → ∀ e b w W a,Rep c.n e b w a W → (Cs i).read F e b w → y.wp c.P (lift c.n Q) a W := by
   intro i F y hy fs Q hyw hall e b w W a hR hr
   obtain ⟨vs,bs,hF,hG,hR'⟩ := read_spec hr hR
   exact hyw _ _ _ _ _ hR' (hG _ hall hF)
 intro x
 induction x with
 | skip => exact fun h fs Q _ e b w W a hR hw => wp_skip ⟨e,b,w,by simpa [wpf] using hw,hR⟩
 | label l => exact fun h fs Q _ e b w W a hR hw => wp_label ⟨e,b,w,by simpa [wpf] using hw,hR⟩
 | exit id => exact fun h fs Q _ e b w W a hR hw => wp_exit ⟨e,b,w,by simpa [wpf] using hw,hR⟩
 | ret => exact fun h fs Q _ e b w W a hR hw => wp_ret ⟨e,b,w,by simpa [wpf] using hw,hR⟩
 | region id ops draw =>
   intro h fs Q ho e b w W a hR hw
   cases draw with
   | false =>
     have hw : opsK c ops ops.toList e b w Q.n := by simpa [wpf] using hw
     exact region_text hc (fun e b w a W hK hR => ⟨e,b,w,hK,hR⟩) hR hw
   | true =>
     cases h with
     | r L =>
       have hw : drawL c ops L e b w Q.n := by simpa [wpf] using hw
       exact region_draw hc hmix (ho _ (by simp [obl])) (fun _ _ _ h => h) (fun e b w a W hK hR => ⟨e,b,w,hK,hR⟩) hR hw
     | _ => simp [wpf] at hw
 | seq x y ihx ihy =>
   intro h fs Q ho e b w W a hR hw
   cases h with
   | s hx hy =>
     simp only [wpf] at hw
     simp only [obl,List.mem_append] at ho
     refine wp_seq (wp_mono (ihx hx fs _ (fun p hp => ho p (.inl hp)) e b w W a hR hw) fun ex a' W' hq => ?_)
     cases ex with
     | normal =>
       obtain ⟨e',b',w',hn,hR'⟩ := hq
       exact ihy hy fs Q (fun p hp => ho p (.inr hp)) e' b' w' W' a' hR' hn
     | _ => exact hq
   | cut i hx hy =>
     simp only [wpf] at hw
     simp only [obl,List.mem_append,List.mem_cons] at ho
     refine wp_seq (wp_mono (ihx hx fs _ (fun p hp => ho p (.inl hp)) e b w W a hR hw) fun ex a' W' hq => ?_)
     cases ex with
     | normal =>
       obtain ⟨e',b',w',hn,hR'⟩ := hq
       exact read_to (fun e b w W a hR hw => ihy hy fs Q (fun p hp => ho p (.inr (.inr hp))) e b w W a hR hw) (ho _ (.inr (.inl rfl))) e' b' w' W' a' hR' hn
     | _ => exact hq
   | _ => simp [wpf] at hw
 | cond t x y ihx ihy =>
   intro h fs Q ho e b w W a hR hw
   cases h with
   | c hx hy =>
     simp only [wpf] at hw
     simp only [obl,List.mem_append] at ho
     split at hw
     · rename_i g hg
       have hv := ev_val hR hg
       split at hw
       · rename_i ht
         subst ht
         exact wp_cond_true hv (ihx hx fs Q (fun p hp => ho p (.inl hp)) e b w W a hR hw)
       · rename_i ht
         have ht : g = false := by simpa using ht
         subst ht
         exact wp_cond_false hv (ihy hy fs Q (fun p hp => ho p (.inr hp)) e b w W a hR hw)
     · exact hw.elim
   | _ => simp [wpf] at hw
 | block id x ih =>
   intro h fs Q ho e b w W a hR hw
   cases h with
   | b hx =>
     simp only [wpf] at hw
     simp only [obl] at ho
     refine wp_block (wp_mono (ih hx fs _ ho e b w W a hR hw) fun ex a' W' hq => ?_)
     cases ex with
     | exit j =>
       simp only [lift,Post.block] at hq
       simp only [Exit.inBlock]
       by_cases hj : j = id
       · subst hj
         rw [if_pos rfl]
         simp only [Nat.beq_refl] at hq
         exact hq
       · rw [if_neg hj]
         have : Nat.beq j id = false := by
           cases hb : Nat.beq j id with
           | false => rfl
           | true => exact absurd (Nat.eq_of_beq_eq_true hb) hj
         simp only [this] at hq
         exact hq
     | normal => exact hq
     | ret => exact hq
     | _ => exact hq.elim
   | _ => simp [wpf] at hw
 | scope x ih =>
   intro h fs Q ho e b w W a hR hw
   cases h with
   | b hx =>
     simp only [wpf] at hw
     simp only [obl] at ho
     refine wp_scope_straight (wp_mono (ih hx fs Q ho e b w W a hR hw) fun ex a' W' hq => ?_)
     cases ex with
     | goto l => exact hq.elim
     | normal => exact hq
     | ret => exact hq
     | exit j => exact hq
     | _ => exact hq.elim
   | _ => simp [wpf] at hw
 | loop x ih =>
   intro h fs Q ho e b w W a hR hw
   cases h with
   | l i hx =>
     simp only [wpf] at hw
     simp only [obl,List.mem_cons,List.not_mem_nil,or_false] at ho
     obtain ⟨k,hw⟩ := hw
     refine wp_loop_fuel (fun k a W => ∃ e b w,(Cs i).read ((Cs i).K (k :: fs)) e b w ∧ Rep c.n e b w a W) ?_ ?_ ⟨e,b,w,hw,hR⟩
     · rintro a W ⟨e,b,w,hr,hR⟩
       obtain ⟨vs,bs,hF,hG,_⟩ := read_spec hr hR
       exact hG _ (ho _ (.inl rfl)) hF
     · rintro k a W ⟨e,b,w,hr,hR⟩
       have := read_to (y := x) (hy := hx) (fs := k :: fs) (Q := { Q with n := (Cs i).read ((Cs i).K (k :: fs)) }) (fun e b w W a hR hw => ih hx (k :: fs) _ (fun p hp => ho _ (.inr (.inr rfl)) k p hp) e b w W a hR hw) (ho _ (.inr (.inl rfl)) k) e b w W a hR hr
       refine wp_mono this fun ex a' W' hq => ?_
       cases ex with
       | normal => exact hq
       | _ => exact hq
   | _ => simp [wpf] at hw
 | rangeFunc f ps as x ih1 ih2 => intro h fs Q ho e b w W a hR hw; simp [wpf] at hw
 | goto l => intro h fs Q ho e b w W a hR hw; simp [wpf] at hw
 | refuse why => intro h fs Q ho e b w W a hR hw; simp [wpf] at hw
def rvK (P : Program) (r : ResultVar) (e : Env) (b : Bxs) (K : Value → Prop) : Prop :=
 match r with
 | .tmp t => match look e t with
   | some (.v v) => K v
   | _ => False
 | .cell t ty => match look e t with
   | some (.bx k 0) => match look b k with
     | some x => match isAggB P ty with
       | some true => match P.info? ty with
         | some i => match Nat.beq i.size x.cells.length with
           | true => K (.agg ⟨x.cells⟩)
           | false => False
         | none => False
       | some false => match x.cells with
         | v :: _ => K v
         | [] => False
       | none => False
     | none => False
   | _ => False
def rvsK (P : Program) : List ResultVar → Env → Bxs → (List Value → Prop) → Prop
 | [],_,_,K => K []
 | r :: l,e,b,K => rvK P r e b fun v => rvsK P l e b fun vs => K (v :: vs)
def Ret (B : Nat) (w : World) (R : World → Prop) : Prop := ∀ w1,Ext B w w1 → R w1
def retK (P : Program) (B : Nat) (rs : List ResultVar) (R : Value → World → Prop) : Kont := fun e b w => rvsK P rs e b fun vs => Ret B w (R (results1 vs))
def postOf (P : Program) (B : Nat) (rs : List ResultVar) (R : Value → World → Prop) : Post := ⟨retK P B rs R,fun _ _ _ _ => False,retK P B rs R⟩
def argE : Nat → List Value → Env
 | _,[] => []
 | i,v :: r => (i,.v v) :: argE (i + 1) r
def resS (tmps : Array Value) : ResultVar → Sem Value
 | .tmp t => pure (tmps.getD t undef)
 | .cell x t => do loadVar t (← asAddr (tmps.getD x undef))
theorem rvK_spec {P : Program} {r : ResultVar} {n : Fr} {e : Env} {b : Bxs} {w W : World} {a : Act} {K : Value → Prop} (hR : Rep n e b w a W) (h : rvK P r e b K) :
   ∃ v,K v ∧ (resS a.tmps r).run P W = .ok v W := by
 cases r with
 | tmp t =>
   simp only [rvK] at h
   split at h
   · rename_i v hv
     have hd := hR.slots t _ hv
     simp only [den,Option.some.injEq] at hd
     exact ⟨v,h,by rw [hd]; rfl⟩
   · exact h.elim
 | cell t ty =>
   simp only [rvK] at h
   split at h
   · rename_i k hv
     split at h
     · rename_i x hx
       have hd := hR.slots t _ hv
       simp only [den,hx,Option.map_some,Option.some.injEq] at hd
       have hB := hR.boxes k x hx
       split at h
       · rename_i hA
         split at h
         · rename_i i hi
           split at h
           · rename_i hs
             have hs := Nat.eq_of_beq_eq_true hs
             refine ⟨_,h, ?_⟩
             have := row_load (P := P) hB 0 i.size 0 #[] (by omega)
             simp only [resS, ← hd,asAddr,pure_bind,loadVar,Sem.run_bind,isAgg_run hA,Result.andThen_ok,if_true,loadCells,sizeOf,typeInfo,run_program,hi,Sem.run_pure,this]
             simp [hs]
           · exact h.elim
         · exact h.elim
       · rename_i hA
         split at h
         · rename_i v r hc
           refine ⟨v,h, ?_⟩
           have hcell : W.cell? ⟨x.blk,0,none⟩ = some v := by simp [World.cell?,hB,hc]
           simp only [resS, ← hd,asAddr,pure_bind,loadVar,Sem.run_bind,isAgg_run hA,Result.andThen_ok,Bool.false_eq_true,if_false,run_load,hcell,Sem.run_pure]
         · exact h.elim
       · exact h.elim
     · exact h.elim
   · exact h.elim
theorem rvsK_spec {P : Program} {n : Fr} {e : Env} {b : Bxs} {w W : World} {a : Act} (hR : Rep n e b w a W) : ∀ {rs : List ResultVar} {K : List Value → Prop},rvsK P rs e b K →
   ∃ vs,K vs ∧ (rs.mapM (resS a.tmps)).run P W = .ok vs W
 | [],K,h => ⟨[],h,by simp⟩
 | r :: l,K,h => by
   obtain ⟨v,h1,hr⟩ := rvK_spec hR h
   obtain ⟨vs,h2,hrs⟩ := rvsK_spec hR h1
   refine ⟨v :: vs,h2, ?_⟩
   rw [List.mapM_cons]
   simp only [Sem.run_bind,hr,Result.andThen_ok,hrs,Sem.run_pure]
theorem results_run {P : Program} {fn : Func} {n : Fr} {e : Env} {b : Bxs} {w W : World} {a : Act} {K : List Value → Prop} (hR : Rep n e b w a W) (h : rvsK P fn.results.toList e b K) :
   ∃ vs,K vs ∧ (results fn a.tmps).run P W = .ok (results1 vs) W := by
 obtain ⟨vs,hK,hr⟩ := rvsK_spec hR h
 refine ⟨vs,hK, ?_⟩
 show (do let vs ← fn.results.mapM (resS a.tmps); pure (if h : vs.size = 1 then vs[0] else .tuple vs) : Sem Value).run P W = _
 rw [Array.mapM_eq_mapM_toList]
 simp only [Sem.run_bind,Sem.run_map,hr,Result.andThen_ok]
 match vs with
 | [] => simp [results1]
 | [v] => simp [results1]
 | v :: u :: r => simp [results1]
theorem argE_look : ∀ (l : List Value) (i j : Nat) (sv : SV),look (argE i l) j = some sv → i ≤ j ∧ ∃ v,l[j - i]? = some v ∧ sv = .v v
 | [],i,j,sv,h => by simp [argE,look] at h
 | v :: r,i,j,sv,h => by
   simp only [argE,look_cons] at h
   split at h
   · rename_i hj; subst hj; cases h; exact ⟨Nat.le_refl _,v,by simp,rfl⟩
   · rename_i hj
     obtain ⟨h1,u,h2,h3⟩ := argE_look r (i + 1) j sv h
     refine ⟨by omega,u, ?_,h3⟩
     have : j - i = (j - (i + 1)) + 1 := by omega
     rw [this,List.getElem?_cons_succ]
     exact h2
theorem calls_wpf {c : Cfg} {f : Nat} {fn : Func} {x : Code} {args : List Value} {w : World} {R : Value → World → Prop} (Cs : Nat → Cut) (h : H) (hc : CfgOk c) (hmix : c.P.follows .mixedOrders = true)
   (hf : c.P.funcs[f]? = some fn) (hb : fn.body = some x) (hn : c.n.n = fn.ntmps) (hl : args.length ≤ fn.ntmps) (hB : c.n.B = w.heap.size)
   (ho : ∀ p ∈ obl c Cs x h [] (postOf c.P c.n.B fn.results.toList R),p) (hw : wpf c Cs x h [] (postOf c.P c.n.B fn.results.toList R) (argE 0 args) [] w) :
   Calls c.P f ⟨args⟩ w fun e w' => ∃ v,e = .returned v ∧ R v w' := by
 refine calls_of_wp hf hb ?_
 have hR : Rep c.n (argE 0 args) [] w { tmps := ⟨args⟩ ++ Array.replicate (fn.ntmps - (⟨args⟩ : Array Value).size) undef,defers := [] } w := by
   refine ⟨by simp [hn]; omega,rfl,fun i sv hi => ?_,Ext.refl _ _,Nat.le_of_eq hB,fun k x h => by (simp [look] at h),fun k x h => by (simp [look] at h),fun k x h => by (simp [look] at h),by simp,fun k x k' x' h => by (simp [look] at h)⟩
   obtain ⟨_,v,h1,rfl⟩ := argE_look args 0 i sv hi
   simp only [Nat.sub_zero] at h1
   have hlt := (List.getElem?_eq_some_iff.1 h1).1
   simp only [den,Option.some.injEq]
   rw [Array.getD_eq_getD_getElem?,Array.getElem?_append_left (by simpa using hlt)]
   simp [h1]
 have hdone : ∀ (e : Env) (b : Bxs) (w1 W1 : World) (a : Act),retK c.P c.n.B fn.results.toList R e b w1 → Rep c.n e b w1 a W1 → a.defers = [] ∧ ∃ v,(results fn a.tmps).run c.P W1 = .ok v W1 ∧ ∃ u,Ending.returned v = .returned u ∧ R u W1 := by
   intro e b w1 W1 a hr hR
   obtain ⟨vs,hK,hrun⟩ := results_run hR hr
   exact ⟨hR.nodef,_,hrun,_,rfl,hK _ hR.pad⟩
 refine wp_mono (wpf_sound hc hmix Cs x h [] _ ho _ _ _ _ _ hR hw) fun ex a W1 hq => ?_
 cases ex with
 | normal =>
   obtain ⟨e,b,w1,hr,hR⟩ := hq
   exact hdone e b w1 W1 a hr hR
 | ret =>
   obtain ⟨e,b,w1,hr,hR⟩ := hq
   exact hdone e b w1 W1 a hr hR
 | exit j =>
   obtain ⟨e,b,w1,hr,hR⟩ := hq
   exact hr.elim
 | _ => exact hq.elim
end Go.Proofs.YtidcpndlloppdaaGreat
set_option linter.unusedVariables false
set_option linter.unusedSimpArgs false
namespace Go.Proofs.YtidcpndlloppdaaGreat
def nthV : List Value → Nat → Value
 | [],_ => undef
 | v :: _,0 => v
 | _ :: r,n + 1 => nthV r n
def nthB : List Bx → Nat → Bx
 | [],_ => ⟨0,0,[]⟩
 | v :: _,0 => v
 | _ :: r,n + 1 => nthB r n
def nthN : List Nat → Nat → Nat
 | [],_ => 0
 | v :: _,0 => v
 | _ :: r,n + 1 => nthN r n
def nthC : List Cut → Nat → Cut
 | [],_ => ⟨[],[],fun _ _ _ _ => False⟩
 | v :: _,0 => v
 | _ :: r,n + 1 => nthC r n
def iV : Value → Int
 | .int _ n => n
 | _ => 0
def bV : Value → Bool
 | .bool x => x
 | _ => false
def pV : Value → Addr
 | .pointer (some p) => p
 | _ => ⟨0,0,none⟩
def slA : Value → Option Addr
 | .slice A _ _ => A
 | _ => none
def slL : Value → Nat
 | .slice _ l _ => l
 | _ => 0
def slC : Value → Nat
 | .slice _ _ c => c
 | _ => 0
def oblP (c : Cfg) (Cs : Nat → Cut) : Code → H → List Nat → Post → Prop
 | .region _ ops true,.r L,_,_ => regionB c ops L = true
 | .seq x y,.s hx hy,fs,Q => oblP c Cs x hx fs { Q with n := wpf c Cs y hy fs Q } ∧ oblP c Cs y hy fs Q
 | .seq x y,.cut i hx hy,fs,Q => oblP c Cs x hx fs { Q with n := (Cs i).read ((Cs i).K fs) } ∧
     ((Cs i).all fun vs bs w => (Cs i).K fs vs bs w → wpf c Cs y hy fs Q (mkE (Cs i).slots vs (mkP (Cs i).keys)) (mkB (Cs i).keys bs) w) ∧ oblP c Cs y hy fs Q
 | .cond _ x y,.c hx hy,fs,Q => oblP c Cs x hx fs Q ∧ oblP c Cs y hy fs Q
 | .block id x,.b hx,fs,Q => oblP c Cs x hx fs (Q.block id)
 | .scope x,.b hx,fs,Q => oblP c Cs x hx fs Q
 | .loop x,.l i hx,fs,Q => ((Cs i).all fun vs bs w => ¬ (Cs i).K (0 :: fs) vs bs w) ∧
     (∀ k,(Cs i).all fun vs bs w => (Cs i).K ((k + 1) :: fs) vs bs w → wpf c Cs x hx (k :: fs) { Q with n := (Cs i).read ((Cs i).K (k :: fs)) } (mkE (Cs i).slots vs (mkP (Cs i).keys)) (mkB (Cs i).keys bs) w) ∧
     ∀ k,oblP c Cs x hx (k :: fs) { Q with n := (Cs i).read ((Cs i).K (k :: fs)) }
 | _,_,_,_ => True
theorem oblP_obl {c : Cfg} {Cs : Nat → Cut} : ∀ (x : Code) (h : H) (fs : List Nat) (Q : Post),oblP c Cs x h fs Q → ∀ p ∈ obl c Cs x h fs Q,p := by
 intro x
 induction x with
 | region id ops draw =>
   intro h fs Q ho p hp
   cases draw with
   | false => simp [obl] at hp
   | true => cases h <;> simp [obl] at hp; exact hp.2 ho
 | seq x y ihx ihy =>
   intro h fs Q ho p hp
   cases h <;> simp [obl] at hp
   · rcases hp with hp | hp
     · exact ihx _ _ _ ho.1 p hp
     · exact ihy _ _ _ ho.2 p hp
   · rcases hp with hp | hp | hp
     · exact ihx _ _ _ ho.1 p hp
     · exact hp.2 ho.2.1
     · exact ihy _ _ _ ho.2.2 p hp
 | cond t x y ihx ihy =>
   intro h fs Q ho p hp
   cases h <;> simp [obl] at hp
   rcases hp with hp | hp
   · exact ihx _ _ _ ho.1 p hp
   · exact ihy _ _ _ ho.2 p hp
 | block id x ih =>
   intro h fs Q ho p hp
   cases h <;> simp [obl] at hp
   exact ih _ _ _ ho p hp
 | scope x ih =>
   intro h fs Q ho p hp
   cases h <;> simp [obl] at hp
   exact ih _ _ _ ho p hp
 | loop x ih =>
   intro h fs Q ho p hp
   cases h <;> simp [obl] at hp
   rcases hp with hp | hp | hp
   · exact hp.2 ho.1
   · exact hp.2 ho.2.1
   · exact hp.2 fun k p hp => ih _ _ _ (ho.2.2 k) p hp
 | _ => intro h fs Q ho p hp; simp [obl] at hp
def allN (f : Nat → Bool) : List Nat → Bool
 | [] => true
 | x :: r => match f x with
   | true => allN f r
   | false => false
theorem allN_mem {f : Nat → Bool} : ∀ {l : List Nat},allN f l = true → ∀ i,hasN l i = true → f i = true
 | [],_,i,h => by cases h
 | x :: r,hl,i,h => by
   unfold allN at hl
   split at hl
   · rename_i hx
     unfold hasN at h
     split at h
     · rename_i hb; rw [Nat.eq_of_beq_eq_true hb]; exact hx
     · exact allN_mem hl i h
   · cases hl
theorem extNil {P : Program} : ∀ f s,look ([] : List (Nat × (List Value → Sem Value))) f = some s → ExtOk P f s := fun f s h => by cases h
theorem extCons {P : Program} {g : Nat} {e : List Value → Sem Value} {l : List (Nat × (List Value → Sem Value))} (h : ExtOk P g e) (hl : ∀ f s,look l f = some s → ExtOk P f s) : ∀ f s,look ((g,e) :: l) f = some s → ExtOk P f s := fun f s hf => by
 rw [look_cons] at hf
 split at hf
 · rename_i e1; cases hf; rw [e1]; exact h
 · exact hl f s hf
theorem cfgOk_of {P : Program} {n : Fr} {real calls eqs : List Nat} {exts : List (Nat × (List Value → Sem Value))} (h1 : allN (callOkB P) calls = true) (h2 : allN (eqOkB P) eqs = true) (h3 : ∀ f s,look exts f = some s → ExtOk P f s) : CfgOk ⟨P,n,real,hasN calls,hasN eqs,look exts⟩ :=
 ⟨fun f hf => callOk_of (allN_mem h1 f hf),fun t ht => eqOk_of (allN_mem h2 t ht),h3⟩
theorem calls_wpfP {c : Cfg} {f : Nat} {fn : Func} {x : Code} {args : List Value} {w : World} {R : Value → World → Prop} (Cs : Nat → Cut) (h : H) (hc : CfgOk c) (hmix : c.P.follows .mixedOrders = true)
   (hf : c.P.funcs[f]? = some fn) (hb : fn.body = some x) (hn : c.n.n = fn.ntmps) (hl : Nat.ble args.length fn.ntmps = true) (hB : c.n.B = w.heap.size)
   (ho : oblP c Cs x h [] (postOf c.P c.n.B fn.results.toList R)) (hw : wpf c Cs x h [] (postOf c.P c.n.B fn.results.toList R) (argE 0 args) [] w) :
   Calls c.P f ⟨args⟩ w fun e w' => ∃ v,e = .returned v ∧ R v w' :=
 calls_wpf Cs h hc hmix hf hb hn (Nat.le_of_ble_eq_true hl) hB (oblP_obl _ _ _ _ ho) hw
end Go.Proofs.YtidcpndlloppdaaGreat
