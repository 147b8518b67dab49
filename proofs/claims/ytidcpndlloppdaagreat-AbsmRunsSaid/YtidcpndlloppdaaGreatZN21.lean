import Derived.Test.YtidcpndlloppdaaGreatZM21n
import Derived.Test.YtidcpndlloppdaaGreatZMC
/-
 Layer 21: New,Trace; marks held against others; the document's example.
 Conditions: the program is right.
-/
set_option linter.unusedVariables false
set_option linter.unusedSimpArgs false
set_option maxRecDepth 20000
namespace Go.Proofs.YtidcpndlloppdaaGreat
open Go.RowKit
abbrev N0 : Value := .slice none 0 0
theorem newM_at {w : World} {B g c n0 : Nat} {C : Option Addr} {p : List Fnc} {f : Int} (hg : w.heap[g]? = some (.cells ⟨headC (.slice C p.length c) N0 N0 (newM f)⟩ 130 (0,0))) (hb : B ≤ g) (ha : Aside (fun w => ProgAt w C p.length p) (fun k => k < n0 ∨ k = g) w) : MachAt w B g C c p (newM f) N0 N0 [] :=
 ⟨hb,hg,⟨World.ownsRow_nil _ _ _ _,World.ownsRow_nil _ _ _ _,trivial,trivial⟩,(ha.mono fun k hk => by
   rcases hk with hk | hk | hk | ⟨s,hs,_⟩
   · exact .inr hk
   · cases hk
   · cases hk
   · cases hs).poff⟩
def NewMQ (p : List Fnc) (f : Int) (w : World) : Value → World → Prop := fun v w' => ∃ g C c,v = .pointer (some ⟨g,0,none⟩) ∧ w.heap.size ≤ g ∧ w'.heap[g]? = some (.cells ⟨headC (.slice C p.length c) N0 N0 (newM f)⟩ 130 (0,0)) ∧
 Aside (fun w => ProgAt w C p.length p) (fun k => k < w.heap.size ∨ k = g) w'
theorem yields37 {w : World} {P : Option Addr} {cap : Nat} {p : List Fnc} (hp : ProgAt w P p.length p) (hr : Rt p) {f : Int} {fn : Fnc} (hf : fnAt p f = some fn) (h0 : fn.params = 0) : Yields Tryz.prog 37 [.agg ⟨[.slice P p.length cap]⟩,.int .i64 f] w (NewMQ p f w) := by
 refine yields_of (V37.sound ?_)
 intro q1 _
 obtain ⟨hfm,hf0,hpf,hfl⟩ := fnAt_mem hf
 refine call_gives (Below.refl _ _) (fun w1 _ hb => gives67 (hp.keep hb)) fun w1 e1 hw1 => ⟨_,_,_,rfl, ?_⟩
 rw [if_pos (by rw [hr.check]; rfl),if_pos (by simp; omega),if_pos (by simp; omega)]
 obtain ⟨f',a,C,c,hf',ha,c0,c1,c2,c3,hc⟩ := prog_at (hp.keep hw1) (i := f.toNat) (by omega)
 rw [hpf] at hf'; cases hf'
 refine ⟨a,ha,by omega,by omega,fn.params,c0, ?_⟩
 rw [if_neg (by simp [h0])]
 refine call_clone hw1.size (hp.keep hw1) hr.sized ⟨hr.few.1,by have := hr.few.2; omega⟩ fun C' c' w2 e2 hc2 => ⟨_,_,_,rfl, ?_⟩
 have hs1 := hw1.size
 have hs2 := e2.size
 refine expo_alloc (Nat.le_trans hs1 hs2) fun w3 w4 hs3 e4 hlt ho => ?_
 refine ret_q (e4.after (e2.after hw1)) fun w5 e5 => ⟨_,C',c',rfl,by omega,e5.row _ _ _ _ ho,newW w1.heap.size w2,hc2,fun q v hq => ?_⟩
 obtain ⟨k1,k2⟩ := newW_cell.1 hq
 have := cell_lt k1
 exact ⟨(e4.trans e5).cell k1,fun hs => by rcases hs with h | h <;> omega⟩
theorem call_newM {w0 w : World} {bs : List Nat} {P : Option Addr} {cap : Nat} {p : List Fnc} {f : Int} {fn : Fnc} {K : Value → World → Prop} (hB : w0.heap.size ≤ w.heap.size) (hp : ProgAt w P p.length p) (hr : Rt p) (hf : fnAt p f = some fn) (h0 : fn.params = 0)
   (hk : ∀ g C c w',w.heap.size ≤ g → MachAt w' w0.heap.size g C c p (newM f) N0 N0 [] → Aside (fun w => ProgAt w C p.length p) (fun k => k < w.heap.size ∨ k = g) w' → Ext w0.heap.size w w' → K (.pointer (some ⟨g,0,none⟩)) w') :
   CallK Tryz.prog 37 [.agg ⟨[.slice P p.length cap]⟩,.int .i64 f] w0.heap.size w bs K := by
 refine call_yieldsX (Q := NewMQ p f) hB (fun w1 e1 => yields37 (RowAt.keep FncE.kept hp (ext_keeps e1)) hr hf h0) fun w1 v w2 w' hs hQ hnew he => ?_
 obtain ⟨g,C,c,rfl,hg,hcell,w3,h3,h4⟩ := hQ
 have hA : Aside (fun w => ProgAt w C p.length p) (fun k => k < w.heap.size ∨ k = g) w' := ⟨w3,h3,fun q v hq => by
   obtain ⟨k1,k2⟩ := h4 q v hq
   have hq' : w1.heap.size ≤ q.block := Nat.le_of_not_lt fun h => k2 (.inl h)
   exact ⟨(cell_same (hnew _ hq')).trans k1,fun hs' => by
     rcases hs' with h | h
     · omega
     · exact k2 (.inr h)⟩⟩
 exact hk g C c w' (by omega) (newM_at (by rw [hnew g hg]; exact hcell) (by omega) hA) hA he
theorem yields55 {w : World} {A : Option Addr} {l c : Nat} {xs : List Mk} (hx : Marks w A l xs) (hl : l ≤ 100000) : Yields Tryz.prog 55 [.slice A l c] w (fun v w' => OwnMs w' w.heap.size v xs) := by
 refine yields_of (V55.sound ?_)
 unfold V55.vc
 cases A with
 | none =>
   rw [if_pos (show (Option.isNone (none : Option Addr)) = true from rfl)]
   have hn : xs = [] := by
     cases xs with
     | nil => rfl
     | cons x r => obtain ⟨q,hq,_⟩ := hx.get 0 x rfl; cases hq
   subst hn
   exact ret_q (Below.refl _ _) fun w1 _ => OwnMs.nil _ _
 | some a =>
   rw [if_neg (by simp)]
   intro w2 e2 _
   obtain ⟨e3,ho3⟩ := alloc1 (.cells ⟨[]⟩ 57) e2 (Nat.le_refl _)
   have hs2 := e2.size
   have hl3 := lt_of_some ho3
   generalize w2.alloc (.cells ⟨[]⟩ 57) = w3 at *
   obtain rfl := hx.len
   refine append_marks (xs := []) (ys := xs) (b0 := w2.heap.size) (owns_empty ho3 (Nat.le_refl _)) (RowAt.keep MarkE.kept hx (ext_keeps e3)) (by simp; omega) e3.size (Nat.le_of_lt hl3) fun v w4 he ho' hn => ?_
   rw [List.nil_append] at ho'
   obtain ⟨A',c',hv⟩ := owns_slice0 ho'
   subst hv
   refine ⟨A',_,c',rfl, ?_⟩
   exact ret_q (he.after (fun j hj => by cases hj; exact hs2) (e3.after (Below.refl _ _))) fun w5 e5 => owns_down (e5.owns ho') hs2
section
variable {w : World} {B g : Nat} {C : Option Addr} {c : Nat} {p : List Fnc} {m : Mach} {F T : Value} {ss : List Sl}
theorem marks_of {w : World} {B : Nat} {A : Option Addr} {n cap : Nat} {xs : List Mk} (h : OwnMs w B (.slice A n cap) xs) (hl : xs.length ≤ 100000) : n = xs.length ∧ Marks (newW B w) A n xs ∧ n ≤ cap := by
 obtain ⟨A',c',hv,hm⟩ := h.marks (by omega)
 cases hv
 exact ⟨rfl,hm,(owns_cut h (Nat.le_refl _)).2⟩
theorem marks_own {w : World} {B : Nat} {A : Option Addr} {n cap : Nat} {xs : List Mk} (h : OwnMs w B (.slice A n cap) xs) (hl : xs.length ≤ 100000) : Marks w A n xs := RowAt.keep MarkE.kept (marks_of h hl).2.1 fun q v hq => (newW_cell.1 hq).1
theorem yields41 (h : MachAt w B g C c p m F T ss) (hl : m.trace.length ≤ 100000) : Yields Tryz.prog 41 [.pointer (some ⟨g,0,none⟩)] w (fun v w' => OwnMs w' w.heap.size v m.trace) := by
 refine yields_of (V41.sound ?_)
 unfold V41.vc
 obtain ⟨A,cap,hT⟩ := owns_slice0 h.pcs.trace
 subst hT
 have hm := marks_own h.pcs.trace hl
 simp only [own_add]
 refine ⟨A,_,cap,h.cell (i := 7) rfl, ?_⟩
 refine call_yieldsX (Q := fun w1 v w2 => OwnMs w2 w1.heap.size v m.trace) (Nat.le_refl _) (fun w1 e1 => yields55 (RowAt.keep MarkE.kept hm (ext_keeps e1)) hl) fun w1 v w2 w' hs hQ hnew he => ?_
 obtain ⟨A',c',hv⟩ := owns_slice0 hQ
 subst hv
 refine ⟨A',_,c',rfl,ret_q (he.after (Below.refl _ _)) fun w3 e3 => ?_⟩
 exact e3.owns (owns_down (owns_other hQ fun j hj => hnew j (hQ.lt j hj).1) hs)
theorem call_trace {B0 : Nat} {bs : List Nat} {K : Value → World → Prop} (hB : B0 ≤ w.heap.size) (h : MachAt w B g C c p m F T ss) (hl : m.trace.length ≤ 100000)
   (hk : ∀ A c' w',Ext B0 w w' → Marks (newW w.heap.size w') A m.trace.length m.trace → m.trace.length ≤ c' → K (.slice A m.trace.length c') w') : CallK Tryz.prog 41 [.pointer (some ⟨g,0,none⟩)] B0 w bs K := by
 refine call_yieldsX (Q := fun w1 v w2 => OwnMs w2 w1.heap.size v m.trace) hB (fun w1 e1 => yields41 (h.ext e1) hl) fun w1 v w2 w' hs hQ hnew he => ?_
 have ho : OwnMs w' w.heap.size v m.trace := owns_down (owns_other hQ fun j hj => hnew j (hQ.lt j hj).1) hs
 obtain ⟨A',c',hv⟩ := owns_slice0 ho
 subst hv
 obtain ⟨_,h2,h3⟩ := marks_of ho hl
 exact hk A' c' w' he h2 h3
end
section
variable {w0 : World} {A A' : Option Addr} {l c l' c' : Nat} {xs ys : List Mk} (hx : Marks w0 A l xs) (hy : Marks w0 A' l' ys)
include hx hy
theorem l0_21 (hle : l ≤ l') (w : World) (hw : Below w0.heap.size w0 w) :
   ∀ (k i : Nat),l < i + k → i ≤ l → (∀ j,j < i → xs[j]? = ys[j]?) → V21.l0 w0.heap.size (IsV w0 (.bool (eqMs xs (ys.take l)))) k A l c A' l' c' (i : Int) w
 | 0,i,hk,hi,_ => by omega
 | k + 1,i,hk,hi,hall => by
   dsimp -zeta only [V21.l0]
   by_cases h : i < l
   · rw [if_pos (by simpa using h)]
     obtain ⟨m,p,hm,hp,c0,c1⟩ := Marks.cells (RowAt.keep MarkE.kept hx (below_keeps hw)) h
     obtain ⟨n,q,hn,hq,d0,d1⟩ := Marks.cells (RowAt.keep MarkE.kept hy (below_keeps hw)) (show i < l' by omega)
     refine ⟨p,hp,by omega,by omega,_,c0,_,c1,q,hq,by omega,by omega,_,d0,_,d1, ?_⟩
     by_cases hnm : m = n
     · subst hnm
       rw [if_neg (by simp),wrap_succ h hx.small]
       refine l0_21 hle w hw k (i + 1) (by omega) (by omega) fun j hj => ?_
       rcases Nat.lt_succ_iff_lt_or_eq.1 hj with h1 | h1
       · exact hall j h1
       · subst h1; rw [hm,hn]
     · have hb : ((m.k == n.k) && ((m.w : Int) == (n.w : Int))) = false := by
         cases hq : ((m.k == n.k) && ((m.w : Int) == (n.w : Int))) with
         | false => rfl
         | true =>
           simp at hq
           obtain ⟨q1,q2⟩ := hq
           exact absurd (by cases m; cases n; simp only [Mk.mk.injEq] at *; exact ⟨q1,by omega⟩) hnm
       rw [hb,if_pos (by decide)]
       refine ret_is hw ?_
       have : xs ≠ ys.take l := fun e => by
         rw [e,List.getElem?_take,if_pos h,hn] at hm; cases hm; exact hnm rfl
       cases he : eqMs xs (ys.take l) with
       | false => rfl
       | true => exact absurd ((eqMs_iff _ _).1 he) this
   · rw [if_neg (by simpa using h)]
     refine ret_is hw ?_
     have : xs = ys.take l := by
       apply List.ext_getElem?
       intro j
       rw [List.getElem?_take]
       by_cases hj : j < i
       · rw [if_pos (by omega)]; exact hall j hj
       · rw [if_neg (by omega),List.getElem?_eq_none (by have := hx.len; omega)]
     rw [(eqMs_iff _ _).2 this]
theorem gives21 : Gives Tryz.prog 21 [.slice A l c,.slice A' l' c'] w0 (.bool (begM xs ys)) := by
 refine gives_of (V21.sound ?_)
 unfold V21.vc begM
 rw [hx.len,hy.len]
 by_cases h : l ≤ l'
 · rw [if_neg (by simp; omega),decide_eq_true h,Bool.true_and]
   exact ⟨l + 1,l0_21 hx hy h w0 (Below.refl _ _) (l + 1) 0 (by omega) (by omega) fun j hj => by omega⟩
 · rw [if_pos (by simp; omega),decide_eq_false h]
   exact ret_is (Below.refl _ _) rfl
theorem gives18 : Gives Tryz.prog 18 [.slice A l c,.slice A' l' c'] w0 (.bool (eqMs xs ys)) := by
 refine gives_of (V18.sound ?_)
 unfold V18.vc
 by_cases h : l = l'
 · subst h
   rw [if_pos (by simp)]
   refine call_gives (Below.refl _ _) (fun w1 e1 _ => gives21 (RowAt.keep MarkE.kept hx (ext_keeps e1)) (RowAt.keep MarkE.kept hy (ext_keeps e1))) fun w1 _ h1 => ⟨_,rfl,ret_is h1 ?_⟩
   unfold begM
   rw [hx.len,hy.len,decide_eq_true (Nat.le_refl _),Bool.true_and, ← hy.len,List.take_length]
 · rw [if_neg (by simp; omega)]
   refine ret_is (Below.refl _ _) ?_
   cases he : eqMs xs ys with
   | false => rfl
   | true => exact absurd (by rw [← hx.len, ← hy.len,(eqMs_iff _ _).1 he]) h
theorem gives27 : Gives Tryz.prog 27 [.slice A l c,.slice A' l' c'] w0 (.bool (eqMs xs ys)) := by
 refine gives_of (V27.sound ?_)
 unfold V27.vc
 exact call_gives (Below.refl _ _) (fun w1 e1 _ => gives18 (RowAt.keep MarkE.kept hx (ext_keeps e1)) (RowAt.keep MarkE.kept hy (ext_keeps e1))) fun w1 _ h1 => ⟨_,rfl,ret_is h1 rfl⟩
end
def OutsQ (a b : Int) (w : World) : Value → World → Prop := fun v w' => ∃ C c,v = .agg ⟨[.slice C (outsP a b).length c]⟩ ∧ ProgAt (newW w.heap.size w') C (outsP a b).length (outsP a b)
theorem yields38 {w : World} (a b : Int) : Yields Tryz.prog 38 [.int .i64 a,.int .i64 b] w (OutsQ a b w) := by
 refine yields_of (V38.sound ?_)
 intro d _
 refine expo_alloc (Nat.le_refl _) fun w1 w2 hs1 e1 hlt1 ho1 => ?_
 refine expo_alloc e1.size fun w3 w4 hs3 e3 hlt3 ho3 => ?_
 refine ret_q (e3.after (e1.after (Below.refl _ _))) fun w5 e5 => ⟨_,1,rfl,rfl,by show 1 ≤ maxLen; decide,fun i x hx => ⟨_,rfl, ?_⟩⟩
 have up : ∀ {b i : Nat} {v : Value},w.heap.size ≤ b → w5.cell? ⟨b,i,none⟩ = some v → (newW w.heap.size w5).cell? ⟨b,i,none⟩ = some v := fun hb hc => newW_cell.2 ⟨hc,hb⟩
 have hs3' : w.heap.size ≤ w3.heap.size := Nat.le_trans e1.size hs3
 have h5 := e5.row _ _ _ _ ho3
 have h1 := (e3.trans e5).row _ _ _ _ ho1
 match i,hx with
 | 0,hx =>
   cases hx
   refine ⟨?_, ?_, ?_,some ⟨w1.heap.size,0,none⟩,4,4, ?_,rfl,by decide,fun j y hy => ⟨_,rfl, ?_⟩⟩
   · exact up hs3' (at_cell (i := 0) h5 rfl)
   · exact up hs3' (at_cell (i := 1) h5 rfl)
   · exact up hs3' (at_cell (i := 2) h5 rfl)
   · exact up hs3' (at_cell (i := 3) h5 rfl)
   · match j,hy with
     | 0,hy => cases hy; exact ⟨up hs1 (at_cell (i := 0) h1 rfl),up hs1 (at_cell (i := 1) h1 rfl),up hs1 (at_cell (i := 2) h1 rfl)⟩
     | 1,hy => cases hy; exact ⟨up hs1 (at_cell (i := 3) h1 rfl),up hs1 (at_cell (i := 4) h1 rfl),up hs1 (at_cell (i := 5) h1 rfl)⟩
     | 2,hy => cases hy; exact ⟨up hs1 (at_cell (i := 6) h1 rfl),up hs1 (at_cell (i := 7) h1 rfl),up hs1 (at_cell (i := 8) h1 rfl)⟩
     | 3,hy => cases hy; exact ⟨up hs1 (at_cell (i := 9) h1 rfl),up hs1 (at_cell (i := 10) h1 rfl),up hs1 (at_cell (i := 11) h1 rfl)⟩
     | j + 4,hy => simp at hy
 | i + 1,hx => simp [outsP] at hx
theorem outs_rt : Rt (outsP 1 2) := rt_of (by rw [outs_check])
theorem outs_ok (n : Nat) (hn : n < 1000) : MOk (outsP 1 2) (goN (outsP 1 2) (newM 0) n) ∧ Lim (goN (outsP 1 2) (newM 0) n) n := by
 have := go_ok outs_rt (newM_ok outs_first rfl) (newM_lim 0) n (by omega)
 rwa [Nat.zero_add] at this
theorem b0_11 {w0 : World} : ∀ (k i : Nat) (w : World) (g : Nat) (C : Option Addr) (c : Nat) (F T : Value) (ss : List Sl),6 < i + k → i ≤ 6 → Below w0.heap.size w0 w → MachAt w w0.heap.size g C c (outsP 1 2) (goN (outsP 1 2) (newM 0) i) F T ss →
   V11.l1 w0.heap.size (IsV w0 (.bool true)) k ⟨g,0,none⟩ (i : Int) w
 | 0,i,w,g,C,c,F,T,ss,hk,hi,_,_ => by omega
 | k + 1,i,w,g,C,c,F,T,ss,hk,hi,hw,h => by
   dsimp -zeta only [V11.l1]
   obtain ⟨ho,hl⟩ := outs_ok i (by omega)
   by_cases h6 : i < 6
   · rw [if_pos (by simp; omega)]
     refine call_step hw.size outs_rt h ho hl (by omega) fun w1 F1 T1 ss1 h1 e1 hf1 => ⟨_,rfl, ?_⟩
     rw [if_neg (by rw [show (stepM (outsP 1 2) (goN (outsP 1 2) (newM 0) i)).2 = 0 from outs_codes ⟨i,h6⟩]; simp),wrap_id (by omega) (by omega)]
     exact b0_11 k (i + 1) w1 g C c F1 T1 ss1 (by omega) (by omega) (e1.after (fun j hj => (h.ty hj).1) hw) h1
   · have h6 : i = 6 := by omega
     subst h6
     rw [if_neg (by simp)]
     refine call_gives hw (fun w1 e1 _ => gives40 (h.ext e1)) fun w1 e1 hw1 => ⟨_,rfl, ?_⟩
     rw [if_pos outs_end.1]
     have h1 := h.ext e1
     refine call_step hw1.size outs_rt h1 ho hl (by omega) fun w2 F2 T2 ss2 h2 e2 hf2 => ⟨_,rfl, ?_⟩
     rw [if_pos (by rw [outs_over]; rfl)]
     have hw2 := e2.after (fun j hj => (h1.ty hj).1) hw1
     have htr : (stepM (outsP 1 2) (goN (outsP 1 2) (newM 0) 6)).1.trace = [⟨1,nw 1⟩,⟨3,nw 2⟩] := by rw [step_over outs_end.1]; exact outs_end.2
     refine call_trace hw2.size h2 (by rw [htr]; simp) fun A c3 w3 e3 hm3 hc3 => ⟨_,_,_,rfl, ?_⟩
     have hw3 := e3.after hw2
     refine call_gives hw3 (fun _ _ _ => gives42 1) fun w4 e4 hw4 => ⟨_,rfl, ?_⟩
     refine call_gives hw4 (fun _ _ _ => gives42 2) fun w5 e5 hw5 => ⟨_,rfl, ?_⟩
     intro w6 e6 _
     obtain ⟨e7,ho7⟩ := alloc1 (.cells ⟨[.int .i64 1,.int .u64 (nw 1 : Nat),.int .i64 3,.int .u64 (nw 2 : Nat)]⟩ 57) e6 hw5.size
     simp only
     generalize w6.alloc (.cells ⟨[.int .i64 1,.int .u64 (nw 1 : Nat),.int .i64 3,.int .u64 (nw 2 : Nat)]⟩ 57) = w7 at *
     have hw7 := e7.after hw5
     have hm7 : Marks w7 A (stepM (outsP 1 2) (goN (outsP 1 2) (newM 0) 6)).1.trace.length (stepM (outsP 1 2) (goN (outsP 1 2) (newM 0) 6)).1.trace := RowAt.keep MarkE.kept hm3 fun q v hq => ((e4.trans e5).trans e7).cell (newW_cell.1 hq).1
     have hm7' : Marks w7 (some ⟨w6.heap.size,0,none⟩) 2 [⟨1,nw 1⟩,⟨3,nw 2⟩] := ⟨rfl,by decide,fun j y hy => ⟨_,rfl,by
       match j,hy with
       | 0,hy => cases hy; exact ⟨at_cell (i := 0) ho7 rfl,at_cell (i := 1) ho7 rfl⟩
       | 1,hy => cases hy; exact ⟨at_cell (i := 2) ho7 rfl,at_cell (i := 3) ho7 rfl⟩
       | j + 2,hy => simp at hy⟩⟩
     refine call_gives hw7 (fun w8 e8 _ => gives27 (RowAt.keep MarkE.kept hm7 (ext_keeps e8)) (RowAt.keep MarkE.kept hm7' (ext_keeps e8))) fun w8 e8 hw8 => ⟨_,rfl,ret_is hw8 ?_⟩
     rw [htr,(eqMs_iff _ _).2 rfl]
theorem gives11 {w : World} : Gives Tryz.prog 11 [] w (.bool true) := by
 refine gives_of (V11.sound ?_)
 unfold V11.vc
 refine call_yieldsX (Q := fun w1 => OutsQ 1 2 w1) (Nat.le_refl _) (fun w1 e1 => yields38 1 2) fun w1 v w2 w' hs hQ hnew he => ?_
 obtain ⟨C,c,rfl,hp⟩ := hQ
 have hp' : ProgAt w' C (outsP 1 2).length (outsP 1 2) := RowAt.keep FncE.kept hp fun q v hq => by
   obtain ⟨k1,k2⟩ := newW_cell.1 hq
   exact (cell_same (hnew _ k2)).trans k1
 have hw' := he.after (Below.refl _ _)
 refine ⟨C,_,c,rfl, ?_⟩
 refine call_newM hw'.size hp' outs_rt outs_first rfl fun g C1 c1 w3 hg h3 _ e3 => ⟨_,rfl, ?_⟩
 simp only [caseP]
 exact ⟨7,b0_11 7 0 w3 g C1 c1 _ _ _ (by omega) (by omega) (e3.after hw') h3⟩
end Go.Proofs.YtidcpndlloppdaaGreat

/-
 Layer 21: played; AbsmTrace's function returns true.
 Conditions: the arguments' memory says what their values are.
-/
set_option linter.unusedVariables false
set_option linter.unusedSimpArgs false
set_option maxRecDepth 20000
namespace Go.Proofs.YtidcpndlloppdaaGreat
open Go.RowKit
section
variable {w w' : World} {n0 B g : Nat} {C : Option Addr} {c : Nat} {p : List Fnc} {m m' : Mach} {F T : Value} {ss : List Sl}
end
section
variable {p : List Fnc} {fn : Fnc} (hr : Rt p) (hf : fnAt p 0 = some fn) (h0 : fn.params = 0)
include hr hf h0
end
end Go.Proofs.YtidcpndlloppdaaGreat
