import Derived.Test.YtidcpndlloppdaaGreatZN21
import Derived.Test.YtidcpndlloppdaaGreatZC2b
import Derived.Test.YtidcpndlloppdaaGreatZME
/-
 Layers 21,29: the document's machine in memory: frames in a row,its own block; calls that turn it.
 Conditions: none.
-/
set_option linter.unusedVariables false
set_option linter.unusedSimpArgs false
set_option maxRecDepth 20000
namespace Go.Proofs.YtidcpndlloppdaaGreat
open Go.RowKit
theorem own_capR {w : World} {B n c : Nat} {A : Option Addr} {e : TypeId} {sz : Nat} {xs : List Value} (h : w.ownsRow B e sz (.slice A n c) n xs) : n ≤ c ∧ (A = none → c = 0) := by
 rcases h.2 with ⟨hv,h0⟩ | ⟨g,cap,cur,hv,hb,hg,hnc,_⟩
 · cases hv; exact ⟨by omega,fun _ => rfl⟩
 · cases hv; exact ⟨hnc,fun h => by cases h⟩
theorem marks_blockR {w : World} {g : Nat} {ms : List Mk} (h : w.heap[g]? = some (.cells ⟨mcs ms⟩ 57 (0,0))) (hl : ms.length ≤ 1000000) : Marks w (some ⟨g,0,none⟩) ms.length ms := by
 refine ⟨rfl,by simp only [maxLen]; omega,fun i m hm => ⟨_,rfl, ?_⟩⟩
 obtain ⟨k1,k2⟩ := mcs_get hm
 exact ⟨by simp only [own_add,bx_add,Nat.zero_add,Nat.add_zero]; exact at_cell h k1,by simp only [own_add,bx_add,Nat.zero_add]; exact at_cell h k2⟩
theorem append_anyR {P : Program} {B b0 : Nat} {w : World} {bs : List Nat} {t ty e : TypeId} {i : TypeInfo} {z : Value} {size bytes : Nat} {K : Value → World → Prop} (ht : P.underlying t = some (.slice e)) (hi : P.info? e = some i) (hz : i.zero = some z)
   (hsize : i.size = size) (hby : i.bytes = bytes) (hzs : z.cells.size = size) (hsz : 0 < size) {v : Value} {n : Nat} {xs : List Value} (hown : w.ownsRow b0 e size v n xs)
   {A : Option Addr} {m c : Nat} {news : List Value} (hl : news.length = m * size) (hA : A = none → c = 0) (hnews : ∀ j u,news[j]? = some u → ∃ a,A = some a ∧ w.cell? (a.add j) = some u) (h1 : ∀ u ∈ news,u.oneCell' = true)
   (h63 : n + m ≤ maxLen) (hbytes : (n + m) * bytes ≤ 140737488355328) (hB : B ≤ w.heap.size) (hb0 : b0 ≤ w.heap.size)
   (hk : ∀ v' w',ExtS B (fun k => v.ownBlock = some k) w w' → w'.ownsRow b0 e size v' (n + m) (xs ++ news) → (∀ g,v'.ownBlock = some g → v.ownBlock = some g ∨ w.heap.size ≤ g) → K v' w') :
   RunK P (Builtin.append_ #[t,t] ty ⟨[v,.slice A m c]⟩) B w bs K := by
 cases A with
 | none =>
   have hm : m = 0 := by
     cases m with
     | zero => rfl
     | succ m =>
       have : 0 < news.length := by rw [hl]; exact Nat.mul_pos (by omega) hsz
       obtain ⟨a,ha,_⟩ := hnews 0 _ (List.getElem?_eq_getElem this)
       cases ha
   subst hm
   obtain rfl := hA rfl
   have hn : news = [] := List.eq_nil_of_length_eq_zero (by rw [hl]; simp)
   subst hn
   intro w1 he hxx
   have hr := run_append_owned_none (P := P) (w := w1) b0 t ty e i size ht hi v n _ (he.owns hown)
   refine ⟨_,w1,hr,⟨Nat.le_refl _,fun _ _ => rfl⟩,hide_any fun w' hm => ?_⟩
   have h1 := masked he hxx (Nat.le_trans hB he.size) (Below.refl _ _) hm
   refine hk _ w' h1.toS ?_ fun g hg => .inl hg
   rw [List.append_nil]
   exact h1.owns hown
 | some a => exact append_own ht hi hz hsize hby hzs hsz hown hl (fun j u hj => by obtain ⟨a',ha,hc⟩ := hnews j u hj; cases ha; exact hc) h1 h63 hbytes hB hb0 hk
def SmallFR (x : Frm) : Prop := x.locals.length ≤ 1000 ∧ x.ops.length ≤ 1000 ∧ x.dfs.length ≤ 1000 ∧ ∀ d ∈ x.dfs,d.args.length ≤ 1000
def frU (q : Frm × Sls) : List Value := [.int .i64 q.1.f,.int .i64 q.1.pc,.int .i64 q.1.mode,.bool q.1.dfd,.int .u64 q.1.value,.slice q.2.D q.1.dfs.length q.2.dc,.slice q.2.L q.1.locals.length q.2.lc,.slice q.2.O q.1.ops.length q.2.oc]
def frsC : List (Frm × Sls) → List Value
 | [] => []
 | q :: r => frU q ++ frsC r
theorem frsC_len : ∀ qs : List (Frm × Sls),(frsC qs).length = qs.length * 8
 | [] => rfl
 | q :: r => by
   show (frU q ++ frsC r).length = _
   rw [List.length_append,frsC_len r,List.length_cons]; show 8 + _ = _; omega
theorem frsC_app : ∀ a b : List (Frm × Sls),frsC (a ++ b) = frsC a ++ frsC b
 | [],b => rfl
 | q :: a,b => by
   show frU q ++ frsC (a ++ b) = _
   rw [frsC_app a b, ← List.append_assoc]; rfl
theorem frsC_get : ∀ {qs : List (Frm × Sls)} {i r : Nat} {q : Frm × Sls} {u : Value},qs[i]? = some q → (frU q)[r]? = some u → (frsC qs)[i * 8 + r]? = some u
 | q' :: t,0,r,q,u,hq,hu => by
   simp at hq; subst hq
   show (frU q' ++ frsC t)[0 * 8 + r]? = _
   rw [Nat.zero_mul,Nat.zero_add,List.getElem?_append_left (List.getElem?_eq_some_iff.1 hu).1]; exact hu
 | q' :: t,i + 1,r,q,u,hq,hu => by
   have := frsC_get (qs := t) (i := i) (r := r) (by simpa using hq) hu
   show (frU q' ++ frsC t)[(i + 1) * 8 + r]? = _
   rw [List.getElem?_append_right (by show 8 ≤ _; omega),show (i + 1) * 8 + r - (frU q').length = i * 8 + r by show (i + 1) * 8 + r - 8 = _; omega]
   exact this
 | [],i,r,q,u,hq,hu => by simp at hq
theorem frsC_inv : ∀ {qs : List (Frm × Sls)} {j : Nat} {u : Value},(frsC qs)[j]? = some u → ∃ i r q,j = i * 8 + r ∧ qs[i]? = some q ∧ (frU q)[r]? = some u
 | [],j,u,h => by simp [frsC] at h
 | q :: t,j,u,h => by
   replace h : (frU q ++ frsC t)[j]? = some u := h
   by_cases hj : j < 8
   · rw [List.getElem?_append_left (by exact hj)] at h
     exact ⟨0,j,q,by omega,rfl,h⟩
   · rw [List.getElem?_append_right (by show 8 ≤ j; omega)] at h
     obtain ⟨i,r,q',e,h1,h2⟩ := frsC_inv h
     refine ⟨i + 1,r,q', ?_,by simpa using h1,h2⟩
     have : (frU q).length = 8 := rfl
     omega
theorem frsC_set : ∀ {qs : List (Frm × Sls)} {i r : Nat} {q q' : Frm × Sls} {u : Value},qs[i]? = some q → r < 8 → (frU q).set r u = frU q' → (frsC qs).set (i * 8 + r) u = frsC (qs.set i q')
 | x :: t,0,r,q,q',u,hq,hr,hu => by
   simp at hq; subst hq
   show (frU x ++ frsC t).set (0 * 8 + r) u = frU q' ++ frsC t
   rw [Nat.zero_mul,Nat.zero_add,List.set_append_left _ _ (by exact hr),hu]
 | x :: t,i + 1,r,q,q',u,hq,hr,hu => by
   have := frsC_set (qs := t) (i := i) (r := r) (by simpa using hq) hr hu
   show (frU x ++ frsC t).set ((i + 1) * 8 + r) u = frU x ++ frsC (t.set i q')
   rw [List.set_append_right _ _ (by show 8 ≤ _; omega),show (i + 1) * 8 + r - (frU x).length = i * 8 + r by show (i + 1) * 8 + r - 8 = _; omega,this]
 | [],i,r,q,q',u,hq,_,_ => by simp at hq
theorem frsC_one {qs : List (Frm × Sls)} : ∀ u ∈ frsC qs,u.oneCell' = true := fun u hu => by
 obtain ⟨j,hj⟩ := List.getElem?_of_mem hu
 obtain ⟨i,r,q,_,_,h⟩ := frsC_inv hj
 have := List.mem_of_getElem? h
 simp only [frU,List.mem_cons,List.not_mem_nil,or_false] at this
 rcases this with rfl | rfl | rfl | rfl | rfl | rfl | rfl | rfl <;> rfl
def NilOk (s : Sls) : Prop := (s.D = none → s.dc = 0) ∧ (s.L = none → s.lc = 0) ∧ (s.O = none → s.oc = 0)
structure FrsAt (w : World) (A : Option Addr) (qs : List (Frm × Sls)) : Prop where
 cell : ∀ j u,(frsC qs)[j]? = some u → ∃ a,A = some a ∧ w.cell? (a.add j) = some u
 each : ∀ q ∈ qs,FrmAt w q.1 q.2
 nil : ∀ q ∈ qs,NilOk q.2
theorem frs_kept (A : Option Addr) (qs : List (Frm × Sls)) : KeptP fun w => FrsAt w A qs := fun w w' hw h => ⟨fun j u hj => by obtain ⟨a,ha,hc⟩ := h.cell j u hj; exact ⟨a,ha,hw _ _ hc⟩,fun q hq => (h.each q hq).keep hw,h.nil⟩
theorem FrsAt.get {w : World} {A : Option Addr} {qs : List (Frm × Sls)} (h : FrsAt w A qs) {i : Nat} {q : Frm × Sls} (hq : qs[i]? = some q) : ∃ a,A = some a ∧ ∀ r u,(frU q)[r]? = some u → w.cell? ((a.add (i * 8)).add r) = some u := by
 obtain ⟨a,ha,_⟩ := h.cell _ _ (frsC_get hq (r := 0) rfl)
 refine ⟨a,ha,fun r u hu => ?_⟩
 obtain ⟨a',ha',hc⟩ := h.cell _ _ (frsC_get hq hu)
 rw [ha] at ha'; cases ha'
 rwa [adr_add]
theorem frs_own {w : World} {b0 : Nat} {v : Value} {n : Nat} {qs : List (Frm × Sls)} (h : w.ownsRow b0 99 8 v n (frsC qs)) (he : ∀ q ∈ qs,FrmAt w q.1 q.2) (hni : ∀ q ∈ qs,NilOk q.2) : ∃ A c,v = .slice A n c ∧ n = qs.length ∧ n ≤ c ∧ (A = none → c = 0) ∧ FrsAt w A qs := by
 have hl := h.1
 rw [frsC_len] at hl
 have hn : n = qs.length := by omega
 obtain ⟨A,c,hv⟩ := owns_slice0 h
 subst hv
 obtain ⟨hc,h0⟩ := own_capR h
 refine ⟨A,c,rfl,hn,hc,h0,fun j u hj => ?_,he,hni⟩
 have hj' := (List.getElem?_eq_some_iff.1 hj).1
 rw [frsC_len] at hj'
 obtain ⟨g,cap,hv,_,_⟩ := owns_some h (by omega)
 cases hv
 exact ⟨_,rfl,by rw [own_add]; exact owns_cell h hj⟩
noncomputable def onlyW (Z : Nat → Prop) (w : World) : World := mask w (@List.filter Nat (fun k => @decide (¬ Z k) (Classical.propDecidable _)) (List.range w.heap.size))
theorem only_cell {Z : Nat → Prop} {w : World} {q : Addr} {v : Value} : (onlyW Z w).cell? q = some v ↔ w.cell? q = some v ∧ Z q.block := by
 have hm := mask_msk (@List.filter Nat (fun k => @decide (¬ Z k) (Classical.propDecidable _)) (List.range w.heap.size)) w
 by_cases h : Z q.block
 · have : (onlyW Z w).cell? q = w.cell? q := cell_same (hm.block q.block (fun hk => by
     have := (List.mem_filter.1 hk).2
     simp at this
     exact this h))
   rw [this]
   exact ⟨fun hc => ⟨hc,h⟩,fun hc => hc.1⟩
 · constructor
   · intro hc
     exfalso
     have hlt : q.block < w.heap.size := by
       have := cell_lt hc
       have e : (onlyW Z w).heap.size = w.heap.size := hm.size
       omega
     have hin : q.block ∈ @List.filter Nat (fun k => @decide (¬ Z k) (Classical.propDecidable _)) (List.range w.heap.size) := List.mem_filter.2 ⟨List.mem_range.2 hlt,by simpa using h⟩
     obtain ⟨c,t,f,hb⟩ := cell_block hc
     exact hm.hid _ hin c t f hb
   · intro hc
     exact absurd hc.2 h
theorem only_keep {Z Z' : Nat → Prop} {w w' : World} (h : ∀ k c t f,Z k → w.heap[k]? = some (.cells c t f) → w'.heap[k]? = some (.cells c t f) ∧ Z' k) : ∀ q v,(onlyW Z w).cell? q = some v → (onlyW Z' w').cell? q = some v := fun q v hq => by
 obtain ⟨h1,h2⟩ := only_cell.1 hq
 obtain ⟨c,t,f,hb⟩ := cell_block h1
 obtain ⟨h3,h4⟩ := h _ _ _ _ h2 hb
 exact only_cell.2 ⟨(cell_same (by rw [hb,h3])).trans h1,h4⟩
def headR (P F T : Value) (m : Mach) : List Value := [P,.int .i64 m.first,.bool m.begun,.bool m.ended,.bool m.parked,.int .i64 m.refs,F,T]
def MutR (g : Nat) (T : Value) (k : Nat) : Prop := k = g ∨ T.ownBlock = some k
structure RefAt (w : World) (B g : Nat) (P : Option Addr) (pc : Nat) (p : List Fnc) (m : Mach) (A : Option Addr) (c : Nat) (T : Value) (qs : List (Frm × Sls)) (Z : Nat → Prop) : Prop where
 base : B ≤ g
 head : w.heap[g]? = some (.cells ⟨headR (.slice P p.length pc) (.slice A qs.length c) T m⟩ 85 (0,0))
 trace : OwnMs w B T m.trace
 zt : ∀ k,Z k → ¬ MutR g T k ∧ ∃ c e f,w.heap[k]? = some (.cells c e f)
 side : ProgAt (onlyW Z w) P p.length p ∧ FrsAt (onlyW Z w) A qs
 frames : qs.map Prod.fst = m.frames.reverse
 cap : qs.length ≤ c ∧ (A = none → c = 0)
section
variable {w w' : World} {B g : Nat} {P : Option Addr} {pc : Nat} {p : List Fnc} {m : Mach} {A : Option Addr} {c : Nat} {T : Value} {qs : List (Frm × Sls)} {Z : Nat → Prop}
theorem RefAt.prog (h : RefAt w B g P pc p m A c T qs Z) : ProgAt w P p.length p := RowAt.keep FncE.kept h.side.1 fun q v hq => (only_cell.1 hq).1
theorem RefAt.frs (h : RefAt w B g P pc p m A c T qs Z) : FrsAt w A qs := frs_kept A qs _ _ (fun q v hq => (only_cell.1 hq).1) h.side.2
theorem RefAt.cell (h : RefAt w B g P pc p m A c T qs Z) {i : Nat} {v : Value} (hv : (headR (.slice P p.length pc) (.slice A qs.length c) T m)[i]? = some v) : w.cell? ⟨g,i,none⟩ = some v := at_cell h.head hv
theorem RefAt.fz (h : RefAt w B g P pc p m A c T qs Z) (i : Nat) : w.frozen? ⟨g,i,none⟩ = false := at_frozen h.head i
theorem RefAt.ty (h : RefAt w B g P pc p m A c T qs Z) {k : Nat} (hk : MutR g T k) : B ≤ k ∧ k < w.heap.size ∧ ∃ c e f,w.heap[k]? = some (.cells c e f) := by
 rcases hk with rfl | hk
 · exact ⟨h.base,lt_of_some h.head,_,_,_,h.head⟩
 · obtain ⟨a,c,f,b⟩ := owns_ty h.trace hk; exact ⟨a,lt_of_some b,_,_,_,b⟩
theorem RefAt.same (h : RefAt w B g P pc p m A c T qs Z) (hs : ∀ k c e f,MutR g T k ∨ Z k → w.heap[k]? = some (.cells c e f) → w'.heap[k]? = some (.cells c e f)) : RefAt w' B g P pc p m A c T qs Z := by
 have hz : ∀ q v,(onlyW Z w).cell? q = some v → (onlyW Z w').cell? q = some v := only_keep fun k c t f hk hb => ⟨hs _ _ _ _ (.inr hk) hb,hk⟩
 refine ⟨h.base,hs _ _ _ _ (.inl (.inl rfl)) h.head,owns_other h.trace fun k hk => ?_,fun k hk => ?_,⟨RowAt.keep FncE.kept h.side.1 hz,frs_kept A qs _ _ hz h.side.2⟩,h.frames,h.cap⟩
 · obtain ⟨_,c,f,hb⟩ := owns_ty h.trace hk
   rw [hb]; exact hs _ _ _ _ (.inl (.inr hk)) hb
 · obtain ⟨h1,c,e,f,hb⟩ := h.zt k hk
   exact ⟨h1,c,e,f,hs _ _ _ _ (.inr hk) hb⟩
theorem RefAt.ext {B' : Nat} (h : RefAt w B g P pc p m A c T qs Z) (he : Ext B' w w') : RefAt w' B g P pc p m A c T qs Z := h.same fun k c e f _ hb => he.row _ _ _ _ hb
theorem RefAt.len (h : RefAt w B g P pc p m A c T qs Z) : qs.length = m.frames.length := by have := congrArg List.length h.frames; simpa using this
def RefQ (w : World) (B g : Nat) (P : Option Addr) (pc : Nat) (p : List Fnc) (T : Value) (Z : Nat → Prop) (m' : Mach) (w' : World) : Prop :=
 ∃ A' c' T' qs' Z',RefAt w' B g P pc p m' A' c' T' qs' Z' ∧ (∀ k,T'.ownBlock = some k → T.ownBlock = some k ∨ w.heap.size ≤ k) ∧ ∀ k,Z' k → Z k ∨ w.heap.size ≤ k
def RefT (f : Nat) (args : List Value) (w : World) (B g : Nat) (P : Option Addr) (pc : Nat) (p : List Fnc) (T : Value) (Z : Nat → Prop) (v : Value) (m' : Mach) : Prop :=
 Turns Tryz.prog f args w (MutR g T) fun u w' => u = v ∧ RefQ w B g P pc p T Z m' w'
theorem mutR_sub {T' : Value} {n : Nat} (hT : ∀ k,T'.ownBlock = some k → T.ownBlock = some k ∨ n ≤ k) (k : Nat) (hk : MutR g T' k) : MutR g T k ∨ n ≤ k := by
 rcases hk with hk | hk
 · exact .inl (.inl hk)
 · exact (hT k hk).imp .inr id
theorem call_ref {f : Nat} {args : List Value} {B0 : Nat} {bs : List Nat} {v : Value} {m' : Mach} {K : Value → World → Prop} (hB : B0 ≤ w.heap.size) (h : RefAt w B g P pc p m A c T qs Z)
   (hc : ∀ w1,Ext B0 w w1 → RefAt w1 B g P pc p m A c T qs Z → RefT f args w1 B g P pc p T Z v m')
   (hk : ∀ w' A' c' T' qs' Z',RefAt w' B g P pc p m' A' c' T' qs' Z' → ExtS B0 (MutR g T) w w' → (∀ k,T'.ownBlock = some k → T.ownBlock = some k ∨ w.heap.size ≤ k) → (∀ k,Z' k → Z k ∨ w.heap.size ≤ k) → K v w') : CallK Tryz.prog f args B0 w bs K := by
 refine call_turnsS (Q := fun w1 u w' => (u = v ∧ RefQ w1 B g P pc p T Z m' w') ∧ Ext B0 w w1 ∧ ∀ k,k < w1.heap.size → ¬ MutR g T k → w'.heap[k]? = w1.heap[k]?) hB (fun k hk => (h.ty hk).2.2) (fun w1 e1 => ?_) fun w1 u w2 w' hs hQ hsame he => ?_
 · exact Calls.mono (hc w1 e1 (h.ext e1)) fun e w' ⟨u,he,hq,h1,h2,h3,h4,h5⟩ => ⟨u,he,⟨hq,e1,h5⟩,h1,h2,h3,h4,h5⟩
 obtain ⟨⟨rfl,A',c',T',qs',Z',hm,hT,hZ⟩,e1,hold⟩ := hQ
 refine hk w' A' c' T' qs' Z' (hm.same fun k cs e f hkk hb => ?_) he (fun k hk => (hT k hk).imp id fun h => Nat.le_trans hs h) fun k hk => (hZ k hk).imp id fun h => Nat.le_trans hs h
 have new : w1.heap.size ≤ k ∨ MutR g T k → w'.heap[k]? = some (.cells cs e f) := fun hn => by
   rw [hsame k hn.symm]; exact hb
 rcases hkk with hkk | hkk
 · rcases mutR_sub hT k hkk with h1 | h1
   · exact new (.inr h1)
   · exact new (.inl h1)
 · rcases hZ k hkk with h1 | h1
   · obtain ⟨hnm,cs',e',f',hb'⟩ := h.zt k h1
     have hw1 := e1.row _ _ _ _ hb'
     have hw2 := hold k (lt_of_some hw1) hnm
     rw [hw1,hb] at hw2
     cases hw2
     exact he.row _ _ _ _ hnm hb'
   · exact new (.inl h1)
theorem ref_ret {w0 : World} {v : Value} {m' : Mach} {T0 : Value} {Z0 : Nat → Prop} (hc : Chg (MutR g T0) w0 w) (h : RefAt w B g P pc p m' A c T qs Z) (hT : ∀ k,T.ownBlock = some k → T0.ownBlock = some k ∨ w0.heap.size ≤ k) (hZ : ∀ k,Z k → Z0 k ∨ w0.heap.size ≤ k) :
   Ret w0.heap.size w (IsT w0 (MutR g T0) (fun u w' => u = v ∧ RefQ w0 B g P pc p T0 Z0 m' w') v) :=
 ret_t hc fun w1 e1 => ⟨rfl,A,c,T,qs,Z,h.ext e1,hT,hZ⟩
theorem RefAt.setHead (h : RefAt w B g P pc p m A c T qs Z) {i : Nat} {v : Value} {m' : Mach} (hH : (headR (.slice P p.length pc) (.slice A qs.length c) T m).set i v = headR (.slice P p.length pc) (.slice A qs.length c) T m') (hfr : m'.frames = m.frames) (htr : m'.trace = m.trace) : RefAt (w.setCell ⟨g,i,none⟩ v) B g P pc p m' A c T qs Z := by
 have hne : ∀ k,k ≠ g → (w.setCell ⟨g,i,none⟩ v).heap[k]? = w.heap[k]? := fun k hk => at_other hk
 have hz : ∀ q v',(onlyW Z w).cell? q = some v' → (onlyW Z (w.setCell ⟨g,i,none⟩ v)).cell? q = some v' := only_keep fun k c t f hk hb => ⟨by rw [hne k (fun e => (h.zt k hk).1 (.inl e))]; exact hb,hk⟩
 have hTg : ∀ k,T.ownBlock = some k → k ≠ g := fun k hk e => by
   subst e
   obtain ⟨_,cc,f,hb⟩ := owns_ty h.trace hk
   rw [h.head] at hb; cases hb
 refine ⟨h.base,by rw [← hH]; exact at_set h.head i v,by rw [htr]; exact owns_other h.trace fun k hk => hne k (hTg k hk),fun k hk => ?_,⟨RowAt.keep FncE.kept h.side.1 hz,frs_kept A qs _ _ hz h.side.2⟩,by rw [hfr]; exact h.frames,h.cap⟩
 obtain ⟨h1,c',e,f,hb⟩ := h.zt k hk
 exact ⟨h1,c',e,f,by rw [hne k (fun e => h1 (.inl e))]; exact hb⟩
end
end Go.Proofs.YtidcpndlloppdaaGreat
