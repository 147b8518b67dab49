import Derived.Test.YtidcpndlloppdaaGreatZR21g
/-
 Layers 21,29: the document's machine: unwind does what the plain rule tells.
 Conditions: none.
-/
set_option linter.unusedVariables false
set_option linter.unusedSimpArgs false
set_option maxRecDepth 20000
namespace Go.Proofs.YtidcpndlloppdaaGreat
open Go.RowKit
theorem put8 {w : World} {b n G cap k : Nat} {qs2 : List (Frm × Sls)} {q0 : Frm × Sls} (hrow : w.ownsRow b 99 8 (.slice (some ⟨G,0,none⟩) n cap) n (frsC (qs2 ++ [q0]))) (hk2 : qs2.length = k) (hn : n = k + 1) (t : Frm) (s : Sls) {K : World → Prop}
   (hK : ∀ w',w'.ownsRow b 99 8 (.slice (some ⟨G,0,none⟩) n cap) n (frsC (qs2 ++ [(t,s)])) → Chg1 (some G) 99 w w' → (∀ (S : Nat → Prop) w0,Chg S w0 w → w0.heap.size ≤ G → Chg S w0 w') → K w') :
   let z1 := w.setCell ⟨G,k * 8 + 0,none⟩ (.int .i64 t.f)
   let z2 := z1.setCell ⟨G,k * 8 + 1,none⟩ (.int .i64 t.pc)
   let z3 := z2.setCell ⟨G,k * 8 + 2,none⟩ (.int .i64 t.mode)
   let z4 := z3.setCell ⟨G,k * 8 + 3,none⟩ (.bool t.dfd)
   let z5 := z4.setCell ⟨G,k * 8 + 4,none⟩ (.int .u64 t.value)
   let z6 := z5.setCell ⟨G,k * 8 + 5,none⟩ (.slice s.D t.dfs.length s.dc)
   let z7 := z6.setCell ⟨G,k * 8 + 6,none⟩ (.slice s.L t.locals.length s.lc)
   (∃ u,w.cell? ⟨G,k * 8 + 0,none⟩ = some u) ∧ w.frozen? ⟨G,k * 8 + 0,none⟩ = false ∧ (∃ u,z1.cell? ⟨G,k * 8 + 1,none⟩ = some u) ∧ z1.frozen? ⟨G,k * 8 + 1,none⟩ = false ∧
   (∃ u,z2.cell? ⟨G,k * 8 + 2,none⟩ = some u) ∧ z2.frozen? ⟨G,k * 8 + 2,none⟩ = false ∧ (∃ u,z3.cell? ⟨G,k * 8 + 3,none⟩ = some u) ∧ z3.frozen? ⟨G,k * 8 + 3,none⟩ = false ∧
   (∃ u,z4.cell? ⟨G,k * 8 + 4,none⟩ = some u) ∧ z4.frozen? ⟨G,k * 8 + 4,none⟩ = false ∧ (∃ u,z5.cell? ⟨G,k * 8 + 5,none⟩ = some u) ∧ z5.frozen? ⟨G,k * 8 + 5,none⟩ = false ∧
   (∃ u,z6.cell? ⟨G,k * 8 + 6,none⟩ = some u) ∧ z6.frozen? ⟨G,k * 8 + 6,none⟩ = false ∧ (∃ u,z7.cell? ⟨G,k * 8 + 7,none⟩ = some u) ∧ z7.frozen? ⟨G,k * 8 + 7,none⟩ = false ∧ K (z7.setCell ⟨G,k * 8 + 7,none⟩ (.slice s.O t.ops.length s.oc)) := by
 have hX : (frsC qs2).length = k * 8 := by rw [frsC_len,hk2]
 rw [frsC_app,show frsC [q0] = frU q0 from List.append_nil _] at hrow
 obtain ⟨c1,f1,k1,o1⟩ := put90 hrow (i := k * 8 + 0) (by omega) (.int .i64 t.f)
 rw [set_at hX] at o1
 obtain ⟨c2,f2,k2,o2⟩ := put90 o1 (i := k * 8 + 1) (by omega) (.int .i64 t.pc)
 rw [set_at hX] at o2
 obtain ⟨c3,f3,k3,o3⟩ := put90 o2 (i := k * 8 + 2) (by omega) (.int .i64 t.mode)
 rw [set_at hX] at o3
 obtain ⟨c4,f4,k4,o4⟩ := put90 o3 (i := k * 8 + 3) (by omega) (.bool t.dfd)
 rw [set_at hX] at o4
 obtain ⟨c5,f5,k5,o5⟩ := put90 o4 (i := k * 8 + 4) (by omega) (.int .u64 t.value)
 rw [set_at hX] at o5
 obtain ⟨c6,f6,k6,o6⟩ := put90 o5 (i := k * 8 + 5) (by omega) (.slice s.D t.dfs.length s.dc)
 rw [set_at hX] at o6
 obtain ⟨c7,f7,k7,o7⟩ := put90 o6 (i := k * 8 + 6) (by omega) (.slice s.L t.locals.length s.lc)
 rw [set_at hX] at o7
 obtain ⟨c8,f8,k8,o8⟩ := put90 o7 (i := k * 8 + 7) (by omega) (.slice s.O t.ops.length s.oc)
 rw [set_at hX] at o8
 refine ⟨c1,f1,c2,f2,c3,f3,c4,f4,c5,f5,c6,f6,c7,f7,c8,f8,hK _ ?_ (((((((k1.trans k2).trans k3).trans k4).trans k5).trans k6).trans k7).trans k8) fun S w0 hc hG => ?_⟩
 · rw [frsC_app]; exact o8
 · have cs : ∀ {w1 : World} (i : Nat) (v : Value),Chg S w0 w1 → Chg S w0 (w1.setCell ⟨G,i,none⟩ v) := fun i v hc => Chg.setCell (a := ⟨G,i,none⟩) hc v fun hlt => absurd hlt (by show ¬ G < _; omega)
   exact cs _ _ (cs _ _ (cs _ _ (cs _ _ (cs _ _ (cs _ _ (cs _ _ (cs _ _ hc)))))))
theorem flatC_take {ds : List Dfr} {da : List (Option Addr × Nat)} (h : da.length = ds.length) (k : Nat) (hk : k ≤ ds.length) : (flatC dfC ds da).take (k * 2) = flatC dfC (ds.take k) (da.take k) := by
 induction ds generalizing da k with
 | nil => simp at hk; subst hk; simp [flatC]
 | cons d r ih =>
   cases da with
   | nil => simp at h
   | cons e u =>
     cases k with
     | zero => simp [flatC]
     | succ k =>
       have := ih (da := u) (by simpa using h) k (by simpa using hk)
       show (dfC d e ++ flatC dfC r u).take ((k + 1) * 2) = dfC d e ++ flatC dfC (r.take k) (u.take k)
       rw [List.take_append,List.take_of_length_le (by show 2 ≤ _; omega),show (k + 1) * 2 - (dfC d e).length = k * 2 by show (k + 1) * 2 - 2 = _; omega,this]
section
variable {w : World} {B g : Nat} {P : Option Addr} {pc : Nat} {p : List Fnc} {m : Mach} {A : Option Addr} {c : Nat} {T : Value} {qs : List (Frm × Sls)} {Z : Nat → Prop} {x : Frm} {r : List Frm}
theorem unw_end (hr : Rt p) (h : RefAt w B g P pc p m A c T qs Z) (hlen : r.length ≤ 90000) {c8 : World} {bs : List Nat} (hw8 : Below w.heap.size w c8) {t : Frm} {s : Sls} {da : List (Option Addr × Nat)} {A9 : Option Addr} {c9 : Nat} {qs2 : List (Frm × Sls)} (hq2 : ∀ q ∈ qs2,q ∈ qs) (hk2 : qs2.length = r.length) (hr1 : qs2.map Prod.fst = r.reverse)
   (hown : OwnF c8 w.heap.size t (.slice s.D t.dfs.length s.dc) (.slice s.L t.locals.length s.lc) (.slice s.O t.ops.length s.oc) da) (hda : ∀ (i : Nat) (d : Dfr) (e : Option Addr × Nat),t.dfs[i]? = some d → da[i]? = some e → Nums .u64 (onlyW Z w) e.1 d.args.length d.args)
   (hrow : c8.ownsRow w.heap.size 99 8 (.slice A9 (r.length + 1) c9) (r.length + 1) (frsC (qs2 ++ [(t,s)]))) (hsm : SmallFR t) {d : Dfr} {e : Option Addr × Nat} (hN : Nums .u64 (onlyW Z w) e.1 d.args.length d.args) {fn : Fnc} (hfn : fnAt p d.f = some fn) (hpar : (d.args.length : Int) ≤ fn.locals) :
   (∃ u,c8.cell? ⟨g,6,none⟩ = some u) ∧ c8.frozen? ⟨g,6,none⟩ = false ∧
   CallK Tryz.prog 87 [.pointer (some ⟨g,0,none⟩),.int .i64 d.f,.slice e.1 d.args.length e.2,.bool true] w.heap.size (c8.setCell ⟨g,6,none⟩ (.slice A9 (r.length + 1) c9)) bs fun d3 d4 => d3 = .tuple ⟨[]⟩ ∧
     Ret w.heap.size d4 (IsT w (MutR g T) (fun u w' => u = .tuple ⟨[]⟩ ∧ RefQ w B g P pc p T Z (enterM p { m with frames := t :: r } d.f d.args true) w') (.tuple ⟨[]⟩)) := by
 have hg8 : c8.heap[g]? = some (.cells ⟨headR (.slice P p.length pc) (.slice A qs.length c) T m⟩ 85 (0,0)) := by rw [hw8.block g (h.ty (.inl rfl)).2.1]; exact h.head
 refine ⟨⟨_,at_cell (i := 6) hg8 rfl⟩,at_frozen hg8 6, ?_⟩
 have k1 := chg1_set (i := 6) (v := .slice A9 (r.length + 1) c9) hg8
 have hT8 : OwnMs c8 B T m.trace := owns_other h.trace fun k hk => by
   obtain ⟨_,cc,ff,hh⟩ := owns_ty h.trace hk
   exact hw8.block k (lt_of_some hh)
 have hset := at_set hg8 6 (.slice A9 (r.length + 1) c9)
 have hc : Chg (MutR g T) w (c8.setCell ⟨g,6,none⟩ (.slice A9 (r.length + 1) c9)) := Chg.setCell (a := ⟨g,6,none⟩) ⟨hw8.os,hw8.tape,hw8.output,hw8.size,fun k hk _ => hw8.block k hk⟩ _ fun _ => .inl rfl
 have hsz : (c8.setCell ⟨g,6,none⟩ (.slice A9 (r.length + 1) c9)).heap.size = c8.heap.size := by simp
 have hrow' := k1.ownT hrow (by decide)
 have hown' : OwnF (c8.setCell ⟨g,6,none⟩ (.slice A9 (r.length + 1) c9)) w.heap.size t (.slice s.D t.dfs.length s.dc) (.slice s.L t.locals.length s.lc) (.slice s.O t.ops.length s.oc) da := ⟨k1.ownT hown.D (by decide),hown.dl,k1.ownT hown.L (by decide),k1.ownT hown.O (by decide),hown.ne⟩
 have hT9 := k1.ownT hT8 (by decide)
 have hfin : ∃ A' c' Z',RefAt (c8.setCell ⟨g,6,none⟩ (.slice A9 (r.length + 1) c9)) B g P pc p { m with frames := t :: r } A' c' T (qs2 ++ [(t,s)]) Z' ∧ ∀ k,Z' k → Z k ∨ w.heap.size ≤ k := by
   have hS : RunS w (c8.setCell ⟨g,6,none⟩ (.slice A9 (r.length + 1) c9)) B g P pc p.length m (.slice A9 (r.length + 1) c9) T T Z qs qs2 t s da [] none 0 :=
     ⟨hc,hset,hT9,fun k hk => .inl hk,hown',⟨rfl,.inl ⟨rfl,rfl⟩⟩,fun q hq => ⟨q,hq2 q hq,rfl,rfl,rfl,rfl⟩,fun i d e hd he => .inl (hda i d e hd he),fun k hk hk' => (by cases hk'),fun k hk hk' => (by cases hk')⟩
   exact hS.fin h hsm (by simp) (fun q hq => hq) (by rw [hk2]; exact hrow') rfl hr1
 obtain ⟨A',c',Z',hR,hZ⟩ := hfin
 have hN' : Nums .u64 (c8.setCell ⟨g,6,none⟩ (.slice A9 (r.length + 1) c9)) e.1 d.args.length d.args := RowAt.keep (NumE.kept _) hN fun q v hq => (only_cell.1 (h.keepZ (T' := T) hc q v hq)).1
 refine call_ref hc.size hR (fun w1 e1 h1 => turns87 hr h1 (by show (t :: r).length ≤ _; rw [List.length_cons]; omega) hfn (RowAt.keep (NumE.kept _) hN' (ext_keeps e1)) hpar true) fun w' A2 c2 T2 q2 Z2 h2 he hT hZ2 => ⟨rfl, ?_⟩
 refine ref_ret (he.chg hc fun k hk hm => hm) h2 (fun k hk => ?_) fun k hk => ?_
 · exact (hT k hk).imp id fun h3 => Nat.le_trans hc.size h3
 · rcases hZ2 k hk with h3 | h3
   · exact hZ k h3
   · exact .inr (Nat.le_trans hc.size h3)
end
end Go.Proofs.YtidcpndlloppdaaGreat
