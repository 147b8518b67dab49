import Derived.Test.YtidcpndlloppdaaGreatZM21c
import Derived.Laws.CopyRow
import Derived.Laws.IdiomCopy
/-
 Layer 21: a frame put on top of a machine's others.
 Conditions: the machine lies in memory as told.
-/
set_option linter.unusedVariables false
set_option linter.unusedSimpArgs false
set_option maxRecDepth 20000
namespace Go.Proofs.YtidcpndlloppdaaGreat
open Go.RowKit
theorem own_row {w : World} {B G : Nat} {xs : List Int} (ho : OwnI w G .u64 55 xs) (hb : B ≤ G) (hl : xs.length ≤ 1000000) : w.ownsRow B 55 1 (.slice (some ⟨G,0,none⟩) xs.length xs.length) xs.length (u64s xs) :=
 ⟨by simp [u64s],.inr ⟨G,xs.length,_,rfl,hb,ho,Nat.le_refl _,by simp only [maxLen]; omega,by simp,by show List.take _ _ = _; rw [List.take_of_length_le (by simp)]; simp [u64s]⟩⟩
theorem copy_new {B : Nat} {w : World} {bs : List Nat} {K : Value → World → Prop} {b al ac : Nat} {A : Option Addr} {zs args : List Int} (ho : OwnI w b .u64 55 zs) (hB : B ≤ w.heap.size) (ha : Nums .u64 w A al args) (hal : al ≤ zs.length)
   (hk : ∀ w',ExtS B (fun j => j = b) w w' → OwnI w' b .u64 55 (args ++ zs.drop al) → K (.int .i64 (al : Int)) w') :
   RunK Tryz.prog (Builtin.copy_ #[31,31] 3 ⟨[.slice (some ⟨b,0,none⟩) zs.length zs.length,.slice A al ac]⟩) B w bs K := by
 intro w1 he hxx
 have hB1 : B ≤ w1.heap.size := Nat.le_trans hB he.size
 have ho1 := ho.ext he
 have hgb : b ∉ bs := fun h => (hxx b h).2.1 _ _ _ ho
 have hlen := ha.len
 by_cases h0 : al = 0
 · subst h0
   have hz : args = [] := List.eq_nil_of_length_eq_zero hlen
   subst hz
   have hr := run_copy_none (P := Tryz.prog) w1 31 31 3 55 (some ⟨b,0,none⟩) A zs.length zs.length 0 ac (by kernel_rfl) (by kernel_rfl) (Nat.zero_min _)
   refine ⟨_,w1,hr,⟨Nat.le_refl _,fun _ _ => rfl⟩,hide_any fun w' hm => ?_⟩
   have h1 := masked he hxx hB1 (Below.refl _ _) hm
   exact hk w' h1.toS (by rw [List.drop_zero,List.nil_append]; exact ho.ext h1)
 · obtain ⟨x0,a,_,hA,_⟩ := ha.at (i := 0) (by omega)
   subst hA
   have hcs : (args.map (Value.int .u64)).length = Nat.min al zs.length := by rw [List.length_map,hlen]; exact (Nat.min_eq_left hal).symm
   have hsrc := nums_cells ha
   have hr := run_copy_row (P := Tryz.prog) w1 31 31 3 55 b 0 zs.length zs.length a al ac (zs.map (Value.int .u64)).toArray 55 (args.map (.int .u64)) (by kernel_rfl) (by kernel_rfl) (show w1.heap[b]? = some (.cells (zs.map (.int .u64)).toArray 55 (0,0)) from ho1) hcs (fun j v hj => he.cell (hsrc j v hj)) (by simp [hlen]; exact hal) (fun v hv => by obtain ⟨x,_,rfl⟩ := List.mem_map.1 hv; rfl)
   have hgrow : w1.grownBy (w1.setRow b (((zs.map (Value.int .u64)).toArray).toList.take 0 ++ args.map (Value.int .u64) ++ ((zs.map (Value.int .u64)).toArray).toList.drop (0 + (args.map (Value.int .u64)).length)).toArray) (some b) := ⟨rfl,rfl,rfl,by simp [World.setRow],fun j _ hj => setRow_other w1 b j _ (fun e => hj (by simp [e]))⟩
   refine ⟨_,_,hr,⟨hgrow.size,fun x hxb => hgrow.block x (hxx x hxb).1 (fun e => hgb (by cases e; exact hxb))⟩,hide_any fun w' hm => ?_⟩
   have hrow := hk w' (maskedS he hxx hgrow (fun j hj => by cases hj; rfl) hm hB1) (by
     unfold OwnI
     rw [hm.block b hgb,setRow_heap w1 b _ _ 55 (0,0) ho1]
     congr 2
     simp only [List.toList_toArray,List.take_zero,List.nil_append,Nat.zero_add,List.length_map,hlen,List.map_append,List.map_drop])
   have e : goInt (args.map (Value.int .u64)).length = .int .i64 (al : Int) := by rw [List.length_map,hlen]; rfl
   rw [e]
   exact hrow
theorem locM_eq {n : Nat} {args : List Int} (h : args.length ≤ n) : args ++ (List.replicate n (0 : Int)).drop args.length = locM (n : Int) args := by
 unfold locM
 rw [Int.toNat_natCast,List.take_append,List.take_of_length_le h,List.drop_replicate,List.take_replicate,Nat.min_eq_left (by omega)]
section
variable {w : World} {B g : Nat} {C : Option Addr} {c : Nat} {p : List Fnc} {m : Mach} {F T : Value} {ss : List Sl}
def enterM (p : List Fnc) (m : Mach) (f : Int) (args : List Int) (dfd : Bool) : Mach := { m with frames := newF p f args dfd :: m.frames }
theorem turns77 (hr : Rt p) (h : MachAt w B g C c p m F T ss) (hlen : m.frames.length ≤ 1000000000) {f : Int} {fn : Fnc} (hf : fnAt p f = some fn) {A : Option Addr} {al ac : Nat} {args : List Int} (ha : Nums .u64 w A al args) (hpar : (al : Int) ≤ fn.locals) (dfd : Bool) :
   MachT 77 [.pointer (some ⟨g,0,none⟩),.int .i64 f,.slice A al ac,.bool dfd] w B g C c p F T ss (.tuple ⟨[]⟩) (enterM p m f args dfd) := by
 refine turns_of (V77.sound ?_)
 unfold V77.vc
 simp only [own_add,bx_add,Nat.add_zero,Nat.zero_add]
 obtain ⟨hfm,h0,hpf,hfl⟩ := fnAt_mem hf
 have hsz := sized_bd (hr.sized fn hfm)
 obtain ⟨f',q,C',c',hf',hq,c0,c1,c2,c3,hcode⟩ := prog_at h.prog.prog (i := f.toNat) (by omega)
 rw [hpf] at hf'; cases hf'
 refine ⟨_,_,_,h.cell (i := 0) rfl,q,hq,by omega,by omega,fn.locals,c1, ?_⟩
 obtain ⟨n,hn⟩ := Int.eq_ofNat_of_zero_le (show 0 ≤ fn.locals by omega)
 rw [hn]
 have hb28 : Tryz.t55.bytes = 8 := by kernel_rfl
 refine make_own (t := 31) (e := 55) (i := Tryz.t55) (z := .int .u64 0) (size := 1) (n := n) (by kernel_rfl) (by kernel_rfl) (by kernel_rfl) (by kernel_rfl) (by rw [hb28]; omega) (by simp only [maxLen]; omega) (Nat.le_refl _) fun G1 w1 hG1 e1 ho1 => ⟨_,_,_,rfl, ?_⟩
 rw [zeros_cells] at ho1
 have hz : (List.replicate n (0 : Int)).length = n := by simp
 have hcopy := copy_new (bs := []) (B := w.heap.size) (w := w1) (b := G1) (zs := List.replicate n 0) (A := A) (al := al) (ac := ac) (args := args) ho1 e1.size (RowAt.keep (NumE.kept _) ha (ext_keeps e1)) (by rw [hz]; omega)
   (K := fun t x => ∃ y : Int,t = .int .i64 y ∧
     ∃ (z : Option Addr) (zl zc : Nat),x.cell? ⟨g,6,none⟩ = some (.slice z zl zc) ∧
     Expo w.heap.size x [] fun D => 
     let E := D.alloc (.cells ⟨[.int .i64 f,.int .i64 0,.int .i64 0,.bool dfd,.int .u64 0,.slice none 0 0,.slice (some ⟨G1,0,none⟩) n n,.slice none 0 0]⟩ 99);
     RunK Tryz.prog (Builtin.append_ #[40,40] 40 ⟨[.slice z zl zc,.slice (some ⟨D.heap.size,0,none⟩) 1 1]⟩) w.heap.size E [] fun F' G => 
     ∃ (I : Option Addr) (J L : Nat),F' = .slice I J L ∧
     (∃ u,G.cell? ⟨g,6,none⟩ = some u) ∧ G.frozen? ⟨g,6,none⟩ = false ∧
     Ret w.heap.size (G.setCell ⟨g,6,none⟩ (.slice I J L)) (IsT w (Foot g F T ss) (fun u w' => u = .tuple ⟨[]⟩ ∧ MachQ w B g C c p F T ss (enterM p m f args dfd) w') (.tuple ⟨[]⟩))) ?_
 · rw [hz] at hcopy
   exact hcopy
 intro w2 e2 ho2
 have hargs := ha.len
 rw [← hargs,locM_eq (by omega)] at ho2
 have h1 := h.ext e1
 have hg1 : ∀ k,Foot g F T ss k → k ≠ G1 := fun k hk e => by have := (h.ty hk).2.1; omega
 -- the new row alone has turned
 have same : ∀ k,Foot g F T ss k → w2.heap[k]? = w1.heap[k]? := fun k hk => by
   obtain ⟨_,_,cc,e,ff,hh⟩ := h1.ty hk
   rw [hh]; exact e2.row _ _ _ _ (fun e => hg1 k hk e) hh
 have h2 : MachAt w2 B g C c p m F T ss := ⟨h1.base,by rw [same g (.inl rfl)]; exact h1.head,h1.pcs.same fun k hk => same k (.inr hk),h.prog.keep (fun q v hq hs => e2.cell (e1.cell hq) (fun e => by have := cell_lt hq; omega)) fun k hk => .inl hk⟩
 refine ⟨_,rfl, ?_⟩
 obtain ⟨FA,cap,hF⟩ := owns_slice0 h2.pcs.frames
 subst hF
 refine ⟨FA,_,cap,h2.cell (i := 6) rfl, ?_⟩
 intro w3 e3 _
 obtain ⟨e4,ho4⟩ := alloc1 (.cells ⟨[.int .i64 f,.int .i64 0,.int .i64 0,.bool dfd,.int .u64 0,.slice none 0 0,.slice (some ⟨G1,0,none⟩) n n,.slice none 0 0]⟩ 99) e3 (show w.heap.size ≤ w2.heap.size from Nat.le_trans e1.size e2.size)
 have hlt4 := lt_of_some ho4
 simp only
 generalize w3.alloc (.cells ⟨[.int .i64 f,.int .i64 0,.int .i64 0,.bool dfd,.int .u64 0,.slice none 0 0,.slice (some ⟨G1,0,none⟩) n n,.slice none 0 0]⟩ 99) = w4 at *
 have h4 := h2.ext e4
 have hBG : B ≤ G1 := Nat.le_trans h.base (Nat.le_trans (Nat.le_of_lt (h.ty (.inl rfl)).2.1) hG1)
 have hll : (locM (n : Int) args).length = n := by have := locM_len (n := (n : Int)) (by omega) args; omega
 have hx : FrmM w4 B (newF p f args dfd) ⟨.slice none 0 0,.slice (some ⟨G1,0,none⟩) n n,.slice none 0 0,[]⟩ := by
   refine ⟨World.ownsRow_nil _ _ _ _,trivial, ?_,World.ownsRow_nil _ _ _ _⟩
   have := own_row (B := B) (ho2.ext e4) hBG (by omega)
   rw [hll] at this
   show w4.ownsRow B 55 1 _ (locM (fnD p f).locals args).length (u64s (locM (fnD p f).locals args))
   rw [fnD_eq hf,hn,hll]
   exact this
 have hb66 : Tryz.t99.bytes = 112 := by kernel_rfl
 have hle : B ≤ w4.heap.size := Nat.le_trans h4.base (Nat.le_of_lt (h4.ty (.inl rfl)).2.1)
 refine append_own (bs := []) (t := 40) (e := 99) (i := Tryz.t99) (z := .agg ⟨[.int .i64 0,.int .i64 0,.int .i64 0,.bool false,.int .u64 0,.slice none 0 0,.slice none 0 0,.slice none 0 0]⟩) (size := 8) (bytes := 112) (by kernel_rfl) (by kernel_rfl) (by kernel_rfl) (by kernel_rfl) hb66 rfl (by omega) h4.pcs.frames (news := frmC (newF p f args dfd) ⟨.slice none 0 0,.slice (some ⟨G1,0,none⟩) n n,.slice none 0 0,[]⟩) rfl (fun j v hj => ?_) (fun v hv => ?_) (by simp only [maxLen]; omega) (by omega) (Nat.le_trans (Nat.le_trans e1.size e2.size) e4.size) hle fun F' w5 he ho' hnw => ?_
 · rw [own_add]; exact at_cell (L := frmC (newF p f args dfd) ⟨.slice none 0 0,.slice (some ⟨G1,0,none⟩) n n,.slice none 0 0,[]⟩) ho4 hj
 · simp only [frmC,List.mem_cons,List.not_mem_nil,or_false] at hv
   rcases hv with rfl | rfl | rfl | rfl | rfl | rfl | rfl | rfl <;> rfl
 obtain ⟨A',cap',hF'⟩ := owns_slice0 ho'
 subst hF'
 have hc1 := chg1_exts he h4.pcs.frames
 have hg5 : w5.heap[g]? = some (.cells ⟨headC (.slice C p.length c) (.slice FA m.frames.length cap) T m⟩ 130 (0,0)) := he.row _ _ _ _ (fun e => by
   obtain ⟨_,cc,f,hh⟩ := owns_ty h4.pcs.frames e
   rw [h4.head] at hh; cases hh) h4.head
 have fresh : ∀ k,InSl ⟨.slice none 0 0,.slice (some ⟨G1,0,none⟩) n n,.slice none 0 0,[]⟩ k → k = G1 := fun k hk => by
   rcases hk with hk | hk | hk | ⟨a,ha,_⟩
   · cases hk
   · cases hk; rfl
   · cases hk
   · cases ha
 have hp5 := h4.pcs.push hc1 ho' hx ⟨fun k _ e => (by cases e),fun a ha => (by cases ha),fun a ha => (by cases ha)⟩ fun k hk hk' => hg1 k (.inr (.inr (.inr hk'))) (fresh k hk)
 have hft : ∀ j,Foot g (.slice A' (m.frames.length + 1) cap') T (⟨.slice none 0 0,.slice (some ⟨G1,0,none⟩) n n,.slice none 0 0,[]⟩ :: ss) j → Foot g (.slice FA m.frames.length cap) T ss j ∨ j = G1 ∨ w4.heap.size ≤ j := fun j hj => by
   rcases hj with hj | hj | hj | ⟨s,hs,hj⟩
   · exact .inl (.inl hj)
   · rcases hnw j hj with hj | hj
     · exact .inl (.inr (.inl hj))
     · exact .inr (.inr hj)
   · exact .inl (.inr (.inr (.inl hj)))
   · rcases List.mem_cons.1 hs with rfl | hs
     · exact .inr (.inl (fresh j hj))
     · exact .inl (.inr (.inr (.inr ⟨s,hs,hj⟩)))
 have hsz14 : w.heap.size ≤ w4.heap.size := Nat.le_trans (Nat.le_trans e1.size e2.size) e4.size
 have hft0 : ∀ j,Foot g (.slice A' (m.frames.length + 1) cap') T (⟨.slice none 0 0,.slice (some ⟨G1,0,none⟩) n n,.slice none 0 0,[]⟩ :: ss) j → Foot g (.slice FA m.frames.length cap) T ss j ∨ w.heap.size ≤ j := fun j hj => (hft j hj).imp id fun h => h.elim (fun e => e ▸ hG1) fun h => Nat.le_trans hsz14 h
 refine ⟨A',_,cap',rfl,⟨_,at_cell (i := 6) hg5 rfl⟩,at_frozen hg5 6, ?_⟩
 have hP : POff (Foot g (.slice A' (m.frames.length + 1) cap') T (⟨.slice none 0 0,.slice (some ⟨G1,0,none⟩) n n,.slice none 0 0,[]⟩ :: ss)) w5 C p :=
   h.prog.keep (fun q v hq hs => he.cell (e4.cell (e2.cell (e1.cell hq) (fun e => by have := cell_lt hq; omega))) fun e => hs (.inr (.inl e))) hft0
 have hchg : Chg (Foot g (.slice FA m.frames.length cap) T ss) w w5 :=
   he.chg ((e4.toS (S := fun _ => False)).chg (e2.chg ((e1.toS (S := fun _ => False)).chg (Chg.refl _ _) (fun _ _ h => h.elim)) fun j hj e => by omega) (fun _ _ h => h.elim)) fun j _ hj => .inr (.inl hj)
 exact mach_ret (m' := enterM p m f args dfd) (hchg.setCell _ fun _ => .inl rfl) (mach_set (m := enterM p m f args dfd) hg5 rfl hp5 h.base hP) hft0
end
end Go.Proofs.YtidcpndlloppdaaGreat

/-
 Layer 21: the top frame of a machine,turned; the three functions within run.
 Conditions: the machine lies in memory as told.
-/
set_option linter.unusedVariables false
set_option linter.unusedSimpArgs false
set_option maxRecDepth 20000
namespace Go.Proofs.YtidcpndlloppdaaGreat
open Go.RowKit
def topM (m : Mach) (fs : List Frm) : Mach := { m with frames := fs }
section
variable {w w1 : World} {B g : Nat} {C : Option Addr} {c : Nat} {p : List Fnc} {m : Mach} {T : Value} {x x' : Frm} {r : List Frm} {s s' : Sl} {t : List Sl} {G cap : Nat}
theorem MachAt.headKept {F : Value} {ss : List Sl} (h : MachAt w B g C c p m F T ss) {b : Option Nat} {ty : TypeId} (hc : Chg1 b ty w w1) (hty : 130 ≠ ty) : w1.heap[g]? = some (.cells ⟨headC (.slice C p.length c) F T m⟩ 130 (0,0)) :=
 hc.row _ _ _ _ (fun e => by
   obtain ⟨cc,ff,hh⟩ := hc.typ g e
   rw [h.head] at hh; cases hh; exact hty rfl) h.head
theorem foot_top {F : Value} {k : Nat} {n : Nat} (hnew : ∀ k,InSl s' k → InSl s k ∨ n ≤ k) (hk : Foot g F T (s' :: t) k) : Foot g F T (s :: t) k ∨ n ≤ k := by
 rcases hk with hk | hk | hk | ⟨u,hu,hk⟩
 · exact .inl (.inl hk)
 · exact .inl (.inr (.inl hk))
 · exact .inl (.inr (.inr (.inl hk)))
 · rcases List.mem_cons.1 hu with rfl | hu
   · rcases hnew k hk with h | h
     · exact .inl (.inr (.inr (.inr ⟨s,List.mem_cons_self,h⟩)))
     · exact .inr h
   · exact .inl (.inr (.inr (.inr ⟨u,List.mem_cons_of_mem _ hu,hk⟩)))
theorem MachAt.setTop (h : MachAt w B g C c p m (.slice (some ⟨G,0,none⟩) (r.length + 1) cap) T (s :: t)) (hm : m.frames = x :: r) {b : Option Nat} {ty : TypeId} (hc : Chg1 b ty w w1) (hb : ∀ k,b = some k → InSl s k) (h1 : 99 ≠ ty) (h2 : 57 ≠ ty) (h3 : 130 ≠ ty)
   (hk : KeepsOff (Foot g (.slice (some ⟨G,0,none⟩) (r.length + 1) cap) T (s :: t)) w w1) (hx : FrmM w1 B x' s') (hnew : ∀ k,InSl s' k → InSl s k ∨ w.heap.size ≤ k) (hap : ApSl s') {j : Nat} {v : Value} (hj : j < 8) (hset : (frmC x s).set j v = frmC x' s') :
   MachAt (w1.setCell ⟨G,r.length * 8 + j,none⟩ v) B g C c p (topM m (x' :: r)) (.slice (some ⟨G,0,none⟩) (r.length + 1) cap) T (s' :: t) := by
 have hp := h.pcs
 rw [hm] at hp
 have hh := h.headKept hc h3
 obtain ⟨_,cc,ff,hG⟩ := owns_ty (hc.ownT hp.frames h1) (k := G) rfl
 have hne : g ≠ G := fun e => by rw [e,hG] at hh; cases hh
 refine ⟨h.base,by rw [at_other hne]; exact hh,hp.top hc hb h1 h2 hx hnew hap hj hset, ?_⟩
 exact h.prog.keep (fun q v hq hs => keepsOff_set (.inr (.inl rfl)) q v (hk q v hq hs) hs) fun k hk => foot_top hnew hk
theorem MachAt.setLoc (h : MachAt w B g C c p m (.slice (some ⟨G,0,none⟩) (r.length + 1) cap) T (s :: t)) (hm : m.frames = x :: r) {Lb n lc i : Nat} {u : Int} (hL : s.L = .slice (some ⟨Lb,0,none⟩) n lc) (hi : i < x.locals.length) :
   MachAt (w.setCell ⟨Lb,i,none⟩ (.int .u64 u)) B g C c p (topM m ({ x with locals := x.locals.set i u } :: r)) (.slice (some ⟨G,0,none⟩) (r.length + 1) cap) T (s :: t) ∧ Chg1 (some Lb) 55 w (w.setCell ⟨Lb,i,none⟩ (.int .u64 u)) := by
 have hp := h.pcs
 rw [hm] at hp
 have hLo := hp.each.1.L
 have hin : InSl s Lb := .inr (.inl (by rw [hL]; rfl))
 obtain ⟨_,cc,ff,hLb⟩ := owns_ty hLo (k := Lb) (by rw [hL]; rfl)
 have hc : Chg1 (some Lb) 55 w (w.setCell ⟨Lb,i,none⟩ (.int .u64 u)) := chg1_set hLb
 have hap := hp.apart
 have hn : n = x.locals.length := by
   obtain ⟨A,c',hv⟩ := owns_slice0 hLo
   rw [hL] at hv; cases hv; rfl
 subst hn
 have hset : (w.setCell ⟨Lb,i,none⟩ (.int .u64 u)).ownsRow B 55 1 s.L (x.locals.set i u).length (u64s (x.locals.set i u)) := by
   rw [hL] at hLo ⊢
   have := owns_set hLo i (.int .u64 u) (by omega)
   rw [List.length_set]
   have e : (u64s x.locals).set i (.int .u64 u) = u64s (x.locals.set i u) := by unfold u64s; rw [List.map_set]
   rw [← e]; exact this
 have hne : ∀ k,s.O.ownBlock = some k → some Lb ≠ some k := fun k hk e => by
   cases e; exact hap.1.LO Lb (by rw [hL]; rfl) hk
 refine ⟨⟨h.base,h.headKept hc (by decide),⟨hc.ownT hp.frames (by decide),hc.ownT hp.trace (by decide),⟨⟨hc.ownT hp.each.1.D (by decide), ?_,hset,hc.own hp.each.1.O hne⟩, ?_⟩,hap⟩,h.prog.keep (keepsOff_set (.inr (.inr (.inr ⟨s,List.mem_cons_self,hin⟩)))) fun k hk => .inl hk⟩,hc⟩
 · refine hp.each.1.args.same fun a ha k hk => ?_
   obtain ⟨_,cc,ff,hh⟩ := hp.each.1.args.ty a ha k hk
   exact hc.same (fun e => by cases e; exact hap.1.LA a ha Lb hk (by rw [hL]; rfl)) hh
 · exact hp.each.2.chg hc fun k hk e => by cases e; exact hap.2.1 Lb hin hk
theorem MachAt.setUnd {u u' : Frm} {su : Sl} (h : MachAt w B g C c p m (.slice (some ⟨G,0,none⟩) (r.length + 2) cap) T (s :: su :: t)) (hm : m.frames = x :: u :: r) (hx : FrmM w B u' su) {j : Nat} {v : Value} (hj : j < 8) (hset : (frmC u su).set j v = frmC u' su) :
   MachAt (w.setCell ⟨G,r.length * 8 + j,none⟩ v) B g C c p (topM m (x :: u' :: r)) (.slice (some ⟨G,0,none⟩) (r.length + 2) cap) T (s :: su :: t) := by
 have hp := h.pcs
 rw [hm] at hp
 obtain ⟨_,cc,ff,hG⟩ := owns_ty hp.frames (k := G) rfl
 have hne : g ≠ G := fun e => by have := h.head; rw [e,hG] at this; cases this
 exact ⟨h.base,by rw [at_other hne]; exact h.head,hp.und hx hj hset,h.prog.keep (keepsOff_set (.inr (.inl rfl))) fun k hk => .inl hk⟩
end
theorem ownsU_nums {w : World} {B n c : Nat} {A : Option Addr} {xs : List Int} (h : w.ownsRow B 55 1 (.slice A n c) n (u64s xs)) (hn : n ≤ 1000000) : Nums .u64 w A n xs := by
 have hl : xs.length = n := by have := h.1; simpa [u64s] using this
 rcases h.2 with ⟨hv,h0⟩ | ⟨g,cap,cur,hv,hb,_⟩
 · cases hv
   have : xs = [] := List.eq_nil_of_length_eq_zero (by omega)
   subst this
   exact ⟨by omega,by simp only [maxLen]; omega,fun i x h => by simp at h⟩
 · cases hv
   refine ⟨hl,by simp only [maxLen]; omega,fun i x hx => ⟨_,rfl, ?_⟩⟩
   unfold NumE
   rw [Nat.mul_one,own_add]
   exact owns_cell h (by unfold u64s; rw [List.getElem?_map,hx]; rfl)
theorem nums_from {w : World} {A : Option Addr} {l : Nat} {xs : List Int} (h : Nums .u64 w A l xs) {k cap : Nat} (hk : k ≤ l) (hcap : l ≤ cap) : Nums .u64 w (if cap = k then A else Option.map (fun a => a.add k) A) (l - k) (xs.drop k) := by
 refine ⟨by rw [List.length_drop,h.len],by have := h.small; omega,fun i x hx => ?_⟩
 rw [List.getElem?_drop] at hx
 obtain ⟨q,hq,hc⟩ := h.get _ x hx
 have hi := (List.getElem?_eq_some_iff.1 hx).1
 rw [h.len] at hi
 subst hq
 rw [if_neg (by omega)]
 refine ⟨_,rfl, ?_⟩
 unfold NumE at hc ⊢
 rw [Nat.mul_one] at hc ⊢
 rw [adr_add]; exact hc
section
variable {w : World} {B g : Nat} {C : Option Addr} {c : Nat} {p : List Fnc} {m : Mach} {T : Value} {x : Frm} {r : List Frm} {s : Sl} {t : List Sl} {G cap : Nat} {bx : Addr}
structure TopAt (w : World) (B g : Nat) (C : Option Addr) (c : Nat) (p : List Fnc) (m : Mach) (T : Value) (x : Frm) (r : List Frm) (s : Sl) (t : List Sl) (G cap : Nat) (bx : Addr) : Prop where
 at_ : MachAt w B g C c p m (.slice (some ⟨G,0,none⟩) (r.length + 1) cap) T (s :: t)
 fs : m.frames = x :: r
 box : w.cell? bx = some (.pointer (some ⟨G,r.length * 8,none⟩))
 out : ¬ Foot g (.slice (some ⟨G,0,none⟩) (r.length + 1) cap) T (s :: t) bx.block
theorem TopAt.ext {B' : Nat} {w' : World} (h : TopAt w B g C c p m T x r s t G cap bx) (he : Ext B' w w') : TopAt w' B g C c p m T x r s t G cap bx := ⟨h.at_.ext he,h.fs,he.cell h.box,h.out⟩
theorem TopAt.pcs (h : TopAt w B g C c p m T x r s t G cap bx) : Pcs w B (.slice (some ⟨G,0,none⟩) (r.length + 1) cap) T (x :: r) m.trace (s :: t) := by have := h.at_.pcs; rwa [h.fs] at this
theorem TopAt.cells (h : TopAt w B g C c p m T x r s t G cap bx) {j : Nat} {v : Value} (hv : (frmC x s)[j]? = some v) : w.cell? ⟨G,r.length * 8 + j,none⟩ = some v :=
 owns_cell h.pcs.frames (stackC_top (by have := h.pcs.len; simpa using this) hv)
theorem TopAt.fr (h : TopAt w B g C c p m T x r s t G cap bx) (i : Nat) : w.frozen? ⟨G,i,none⟩ = false := owns_frozen h.pcs.frames i
theorem TopAt.inG (h : TopAt w B g C c p m T x r s t G cap bx) : Foot g (.slice (some ⟨G,0,none⟩) (r.length + 1) cap) T (s :: t) G := .inr (.inl rfl)
def TopQ (w : World) (B g : Nat) (C : Option Addr) (c : Nat) (p : List Fnc) (m' : Mach) (T : Value) (x' : Frm) (r : List Frm) (s : Sl) (t : List Sl) (G cap : Nat) (bx : Addr) (w' : World) : Prop :=
 ∃ s',TopAt w' B g C c p m' T x' r s' t G cap bx ∧ ∀ k,InSl s' k → InSl s k ∨ w.heap.size ≤ k
theorem cloned {w0 w : World} {bs : List Nat} {A : Option Addr} {l ac : Nat} {xs : List Int} {K : Value → World → Prop} (hB : w0.heap.size ≤ w.heap.size) (hx : Nums .u64 w A l xs) (hl : l ≤ 1000000)
   (hk : ∀ A' c' w',Ext w0.heap.size w w' → w'.ownsRow w.heap.size 55 1 (.slice A' l c') l (u64s xs) → K (.slice A' l c') w') : CallK Tryz.prog 100 [.slice A l ac] w0.heap.size w bs K := by
 refine call_yieldsX (Q := fun w1 v w2 => ∃ A' c',v = .slice A' l c' ∧ w2.ownsRow w1.heap.size 55 1 (.slice A' l c') l (u64s xs)) hB (fun w1 e1 => ?_) fun w1 v w2 w' hs hQ hnew he => ?_
 · refine yields_of (V100.sound ?_)
   unfold V100.vc
   have hx1 := RowAt.keep (NumE.kept .u64) hx (ext_keeps e1)
   cases A with
   | none =>
     rw [if_pos (show (Option.isNone (none : Option Addr)) = true from rfl)]
     have hl0 : l = 0 := by
       cases l with
       | zero => rfl
       | succ l => obtain ⟨_,q,_,hq,_⟩ := hx1.at (i := 0) (by omega); cases hq
     subst hl0
     have : xs = [] := List.eq_nil_of_length_eq_zero hx.len
     subst this
     exact ret_q (Below.refl _ _) fun w2 e2 => ⟨none,0,rfl,World.ownsRow_nil _ _ _ _⟩
   | some a =>
     rw [if_neg (by simp)]
     intro w2 e2 _
     obtain ⟨e3,ho3⟩ := alloc1 (.cells ⟨[]⟩ 55) e2 (Nat.le_refl _)
     have hs2 := e2.size
     have hl3 := lt_of_some ho3
     generalize w2.alloc (.cells ⟨[]⟩ 55) = w3 at *
     refine append_nums (bs := []) (t := 31) (e := 55) (i := Tryz.t55) (k := .u64) (bytes := 8) (b0 := w2.heap.size) (n := 0) (xs := []) (by kernel_rfl) (by kernel_rfl) (by kernel_rfl) (by kernel_rfl) (by kernel_rfl) (Nat.le_refl _) (owns_empty ho3 (Nat.le_refl _)) (RowAt.keep (NumE.kept .u64) hx1 (ext_keeps e3)) (by omega) e3.size (Nat.le_of_lt hl3) fun v w4 he ho' hn => ?_
     rw [Nat.zero_add,List.nil_append] at ho'
     obtain ⟨A',c',hv⟩ := owns_slice0 ho'
     subst hv
     refine ⟨A',_,c',rfl, ?_⟩
     exact ret_q (he.after (fun j hj => by cases hj; exact hs2) (e3.after (Below.refl _ _))) fun w5 e5 => ⟨A',c',rfl,owns_down (e5.owns ho') hs2⟩
 · obtain ⟨A',c',rfl,ho⟩ := hQ
   exact hk A' c' w' he (owns_down (owns_other ho fun j hj => hnew j (ho.lt j hj).1) hs)
end
end Go.Proofs.YtidcpndlloppdaaGreat
