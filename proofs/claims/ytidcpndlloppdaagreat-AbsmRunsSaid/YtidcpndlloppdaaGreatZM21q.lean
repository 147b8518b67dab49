import Derived.Test.YtidcpndlloppdaaGreatZMR
import Derived.Shelf.Abstract
import Derived.WalkKit
import Derived.OwnWalkIn
import Derived.TacticsInMore
import Derived.LoopNIn
import Derived.LoopIn
import Derived.Test.YtidcpndlloppdaaGreatZM21o
/-
 Layer 21: slices.Backward over frames: a function that hands them out,from the last one to the first one.
 Conditions: none.
-/
set_option linter.unusedVariables false
set_option linter.unusedSimpArgs false
set_option maxRecDepth 20000
namespace Go.Proofs.YtidcpndlloppdaaGreat
open Go.RowKit Go.Shelf
attribute [local go_sem] Oper.semAt_some
def ixV (v : Value) : Nat := match v with
 | .int _ i => (i + 1).toNat
 | _ => 0
set_option maxRecDepth 100000 in
set_option maxHeartbeats 1000000 in
theorem hands56 {q : Nat} {A : Option Addr} {n c : Nat} {xs : List (List Value)} (hn : n = xs.length) (hl : n ≤ maxLen) {Src : World → Prop} (hq : ∀ W,Src W → W.cell? ⟨q,0,none⟩ = some (.slice A n c))
   (hx : ∀ W,Src W → ∀ (i : Nat) (x : List Value),xs[i]? = some x → ∃ p,A = some p ∧ x.length = 8 ∧ ∀ (j : Nat) (v : Value),x[j]? = some v → W.cell? ((p.add (i * 8)).add j) = some v) :
   Hands Tryz.prog 161 #[.pointer (some ⟨q,0,none⟩)] (fun k x => #[.int .i64 ((n : Int) - 1 - (k : Int)),.agg ⟨x⟩]) xs.reverse Src := by
 intro l J W hsrc hdrew hY h0
 have mixed : Tryz.prog.follows .mixedOrders = true := by kernel_rfl
 have t52 := Tryz.underlying40; have a52 := Tryz.isAgg40; have z52 := Tryz.sizeOf40; have v52 := Tryz.zeroValue40; have u52 := run_underlying Tryz.underlying40
 have t66 := Tryz.underlying99; have a66 := Tryz.isAgg99; have z66 := Tryz.sizeOf99; have v66 := Tryz.zeroValue99; have u66 := run_underlying Tryz.underlying99
 have t3 := Tryz.underlying3; have a3 := Tryz.isAgg3; have z3 := Tryz.sizeOf3; have v3 := Tryz.zeroValue3; have u3 := run_underlying Tryz.underlying3
 have t4 := Tryz.underlying4; have a4 := Tryz.isAgg4; have z4 := Tryz.sizeOf4; have v4 := Tryz.zeroValue4; have u4 := run_underlying Tryz.underlying4
 have hq0 := hq W (hsrc 0 W h0)
 refine callsIn_of_wp Tryz.func161 rfl trivial ?_ rfl
 simp only [Tryz.ntmps161,List.size_toArray,List.length_cons,List.length_nil,Nat.reduceAdd,Nat.reduceSub,Array.replicate_succ,Array.replicate_zero,List.push_toArray,List.append_toArray,List.nil_append,List.cons_append]
 gi_wp2
 gi_loopw [3] (fun p wr => ∃ k : Nat,k ≤ n ∧ p = .int .i64 ((n : Int) - 1 - (k : Int)) ∧ J k wr) (fun p wr => ixV p)
 case atStart =>
   refine ⟨0,Nat.zero_le _, ?_,h0⟩
   rw [hn,show wrap64 ((xs.length : Int) - 1) = (xs.length : Int) - 1 from (by unfold wrap64; simp only [maxLen] at hl; omega)]
   simp
 case round =>
   obtain ⟨k,hk,rfl,hJ⟩ := hrel
   have hs1 := hsrc k wr hJ
   have hq1 := hq wr hs1
   by_cases hkn : k < n
   · obtain ⟨i,hi⟩ : ∃ i : Nat,n - 1 - k = i := ⟨_,rfl⟩
     have e : (n : Int) - 1 - (k : Int) = (i : Int) := by omega
     have hxi : xs[i]? = some (xs[i]'(by omega)) := List.getElem?_eq_getElem _
     obtain ⟨p,rfl,hx8,hcells⟩ := hx wr hs1 i _ hxi
     have hel : Tryz.prog.elem 40 = 99 := by kernel_rfl
     have h52 : Tryz.prog.underlying 40 = some (.slice (Tryz.prog.elem 40)) := by rw [hel]; exact t52
     rw [e]
     obtain ⟨x0,x1,x2,x3,x4,x5,x6,x7,hxe⟩ : ∃ x0 x1 x2 x3 x4 x5 x6 x7,xs[i]'(by omega) = [x0,x1,x2,x3,x4,x5,x6,x7] := by
       match hx : xs[i]'(by omega),hx8 with
       | [x0,x1,x2,x3,x4,x5,x6,x7],_ => exact ⟨x0,x1,x2,x3,x4,x5,x6,x7,rfl⟩
     rw [hxe] at hcells hxi
     have c0 : wr.cell? (p.add (i * 8)) = some x0 := hcells 0 x0 rfl
     have c1 : wr.cell? { block := (p.add (i * 8)).block,off := (p.add (i * 8)).off + 1 } = some x1 := hcells 1 x1 rfl
     have c2 : wr.cell? { block := (p.add (i * 8)).block,off := (p.add (i * 8)).off + 2 } = some x2 := hcells 2 x2 rfl
     have c3 : wr.cell? { block := (p.add (i * 8)).block,off := (p.add (i * 8)).off + 3 } = some x3 := hcells 3 x3 rfl
     have c4 : wr.cell? { block := (p.add (i * 8)).block,off := (p.add (i * 8)).off + 4 } = some x4 := hcells 4 x4 rfl
     have c5 : wr.cell? { block := (p.add (i * 8)).block,off := (p.add (i * 8)).off + 5 } = some x5 := hcells 5 x5 rfl
     have c6 : wr.cell? { block := (p.add (i * 8)).block,off := (p.add (i * 8)).off + 6 } = some x6 := hcells 6 x6 rfl
     have c7 : wr.cell? { block := (p.add (i * 8)).block,off := (p.add (i * 8)).off + 7 } = some x7 := hcells 7 x7 rfl
     obtain ⟨fn,tmps,assign,body,hy,hR⟩ := hY k [x0,x1,x2,x3,x4,x5,x6,x7] wr (by rw [List.getElem?_reverse (by omega)]; rw [← hxi]; congr 1; omega) hJ
     rw [e] at hy
     gi_wp2
     refine ⟨rfl,hR.mono ?_⟩
     rintro e W3 ⟨rfl,hJ3⟩
     gi_wp2
     go_roundw
     case rel =>
       refine ⟨k + 1,by omega, ?_,hJ3⟩
       rw [show wrap64 ((i : Int) - 1) = (i : Int) - 1 from (by unfold wrap64; simp only [maxLen] at hl; omega)]
       congr 1; omega
     case measure =>
       show (wrap64 ((i : Int) - 1) + 1).toNat < ((i : Int) + 1).toNat
       rw [show wrap64 ((i : Int) - 1) = (i : Int) - 1 from (by unfold wrap64; simp only [maxLen] at hl; omega)]
       omega
   · have e : (n : Int) - 1 - (k : Int) = -1 := by omega
     have hkn : k = n := by omega
     rw [e]
     gi_wp2
     go_end0
     refine ⟨⟨_,rfl⟩, ?_⟩
     rw [List.length_reverse, ← hn, ← hkn]
     exact hJ
set_option maxHeartbeats 1000000 in
theorem calls128 (A : Option Addr) (n c : Nat) (w : World) : Calls Tryz.prog 128 #[.slice A n c] w fun e w' => e = .returned (.func (.func 161) #[] #[.pointer (some ⟨w.heap.size,0,none⟩)]) ∧ w' = w.alloc (.cells #[.slice A n c] 40) := by
 have mixed : Tryz.prog.follows .mixedOrders = true := by kernel_rfl
 have t52 := Tryz.underlying40; have a52 := Tryz.isAgg40; have z52 := Tryz.sizeOf40; have v52 := Tryz.zeroValue40; have u52 := run_underlying Tryz.underlying40
 refine (callsIn_wide (n := 0)).1 (callsIn_of_wp Tryz.func128 rfl trivial ?_ rfl)
 simp only [Tryz.ntmps128,List.size_toArray,List.length_cons,List.length_nil,Nat.reduceAdd,Nat.reduceSub,Array.replicate_succ,Array.replicate_zero,List.push_toArray,List.append_toArray,List.nil_append,List.cons_append]
 gi_wp2
 go_ret
 exact ⟨rfl,rfl⟩
end Go.Proofs.YtidcpndlloppdaaGreat

/-
 Layer 21: a round of Roots' loop over frames.
 Conditions: the machine lies in memory as told.
-/
set_option linter.unusedVariables false
set_option linter.unusedSimpArgs false
set_option maxRecDepth 20000
namespace Go.Proofs.YtidcpndlloppdaaGreat
open Go.RowKit
structure RtAt (w0 W : World) (q1 q3 qs g : Nat) (F : Value) (ys : List Int) : Prop where
 below : Below w0.heap.size w0 W
 m : W.heap[q1]? = some (.cells ⟨[.pointer (some ⟨g,0,none⟩)]⟩ 75 (0,0))
 s : W.heap[qs]? = some (.cells ⟨[F]⟩ 40 (0,0))
 out : ∃ v,W.heap[q3]? = some (.cells ⟨[v]⟩ 31 (0,0)) ∧ W.ownsRow w0.heap.size 55 1 v ys.length (u64s ys)
 new : w0.heap.size ≤ q1 ∧ w0.heap.size ≤ q3 ∧ w0.heap.size ≤ qs
section
variable {w0 W W' : World} {q1 q3 qs g : Nat} {F : Value} {ys : List Int}
theorem RtAt.ext {B : Nat} (h : RtAt w0 W q1 q3 qs g F ys) (he : Ext B W W') (hB : w0.heap.size ≤ B) : RtAt w0 W' q1 q3 qs g F ys := by
 obtain ⟨v,h1,h2⟩ := h.out
 exact ⟨⟨he.os.trans h.below.os,he.tape.trans h.below.tape,he.output.trans h.below.output,Nat.le_trans h.below.size he.size,fun k hk => (he.low k (by omega)).trans (h.below.block k hk)⟩,he.row _ _ _ _ h.m,he.row _ _ _ _ h.s,⟨v,he.row _ _ _ _ h1,he.owns h2⟩,h.new⟩
theorem RtAt.put {l : Nat} {o o' : Obj} (h : RtAt w0 W q1 q3 qs g F ys) (hl : W.heap[l]? = some o) (ho : o.isCells = false) (hw : w0.heap.size ≤ l) : RtAt w0 (W.putObj l o') q1 q3 qs g F ys := by
 obtain ⟨v,h1,h2⟩ := h.out
 have ne : ∀ {k : Nat} {c : Array Value} {t : TypeId} {f : Nat × Nat},W.heap[k]? = some (.cells c t f) → (W.putObj l o').heap[k]? = some (.cells c t f) := fun {k c t f} hk => by
   rw [World.putObj_heap_other]
   · exact hk
   · rintro rfl
     rw [hl] at hk; cases hk; cases ho
 refine ⟨⟨h.below.os,h.below.tape,h.below.output,by simpa using h.below.size,fun k hk => by rw [World.putObj_heap_other (by omega)]; exact h.below.block k hk⟩,ne h.m,ne h.s,⟨v,ne h1,⟨h2.1, ?_⟩⟩,h.new⟩
 rcases h2.2 with hn | ⟨G,cap,cur,rfl,hb,hg,rest⟩
 · exact .inl hn
 · exact .inr ⟨G,cap,cur,rfl,hb,ne hg,rest⟩
theorem RtAt.more {B : Nat} {v v' : Value} {ys' : List Int} (h : RtAt w0 W q1 q3 qs g F ys) (hv : W.heap[q3]? = some (.cells ⟨[v]⟩ 31 (0,0))) (hv' : W.ownsRow w0.heap.size 55 1 v ys.length (u64s ys)) (he : ExtS B (fun k => v.ownBlock = some k) W W') (hB : w0.heap.size ≤ B)
   (ho : W'.ownsRow w0.heap.size 55 1 v' ys'.length (u64s ys')) : RtAt w0 (W'.setCell ⟨q3,0,none⟩ v') q1 q3 qs g F ys' := by
 have hc := chg1_exts he hv'
 have ne : ∀ {k : Nat} {c : Array Value} {t : TypeId} {f : Nat × Nat},t ≠ 55 → W.heap[k]? = some (.cells c t f) → W'.heap[k]? = some (.cells c t f) := fun {k c t f} ht hk => hc.row _ _ _ _ (fun e => by
   obtain ⟨c',f',h'⟩ := hc.typ k e
   rw [hk] at h'; cases h'; exact ht rfl) hk
 have hb3 := ne (by decide) hv
 have other : ∀ {k : Nat} {c : Array Value} {t : TypeId} {f : Nat × Nat},t ≠ 31 → W'.heap[k]? = some (.cells c t f) → (W'.setCell ⟨q3,0,none⟩ v').heap[k]? = some (.cells c t f) := fun {k c t f} ht hk => by
   rw [at_other]
   · exact hk
   · rintro rfl
     rw [hb3] at hk; cases hk; exact ht rfl
 obtain ⟨n1,n2,n3⟩ := h.new
 refine ⟨⟨he.os.trans h.below.os,he.tape.trans h.below.tape,he.output.trans h.below.output,by rw [World.size_setCell]; exact Nat.le_trans h.below.size he.size,fun k hk => ?_⟩,other (by decide) (ne (by decide) h.m),other (by decide) (ne (by decide) h.s),⟨v',at_set hb3 0 v',⟨ho.1, ?_⟩⟩,h.new⟩
 · rw [at_other (by omega),he.low k (by omega) (fun e => by have := (owns_ty hv' e).1; omega)]
   exact h.below.block k hk
 · rcases ho.2 with hn | ⟨G,cap,cur,rfl,hb,hg,rest⟩
   · exact .inl hn
   · exact .inr ⟨G,cap,cur,rfl,hb,other (by decide) hg,rest⟩
end
structure BdAt (w0 : World) (B l D : Nat) (r : Loop) (W : World) (q1 q3 qs g : Nat) (F : Value) (ys : List Int) : Prop where
 rt : RtAt w0 W q1 q3 qs g F ys
 base : w0.heap.size ≤ B ∧ l < B ∧ D < B ∧ B ≤ W.heap.size
 lrec : W.heap[l]? = some (.loop r)
 dfr : W.heap[D]? = some (.deferred (some []))
section
variable {w0 W W' : World} {B l D q1 q3 qs g : Nat} {r : Loop} {F : Value} {ys : List Int}
theorem BdAt.ext (h : BdAt w0 B l D r W q1 q3 qs g F ys) (he : Ext B W W') : BdAt w0 B l D r W' q1 q3 qs g F ys :=
 ⟨h.rt.ext he h.base.1,⟨h.base.1,h.base.2.1,h.base.2.2.1,Nat.le_trans h.base.2.2.2 he.size⟩,(he.low l h.base.2.1).trans h.lrec,(he.low D h.base.2.2.1).trans h.dfr⟩
theorem BdAt.more {v v' : Value} {ys' : List Int} (h : BdAt w0 B l D r W q1 q3 qs g F ys) (hv : W.heap[q3]? = some (.cells ⟨[v]⟩ 31 (0,0))) (hv' : W.ownsRow w0.heap.size 55 1 v ys.length (u64s ys)) (he : ExtS B (fun k => v.ownBlock = some k) W W')
   (ho : W'.ownsRow w0.heap.size 55 1 v' ys'.length (u64s ys')) : BdAt w0 B l D r (W'.setCell ⟨q3,0,none⟩ v') q1 q3 qs g F ys' := by
 have nc : ∀ {k : Nat} {o : Obj},W.heap[k]? = some o → o.isCells = false → ¬ v.ownBlock = some k := fun {k o} hk ho e => by
   obtain ⟨_,c,f,h'⟩ := owns_ty hv' e
   rw [hk] at h'; cases h'; cases ho
 have n3 : ∀ {k : Nat} {o : Obj},W.heap[k]? = some o → o.isCells = false → k ≠ q3 := fun {k o} hk ho e => by
   subst e; rw [hv] at hk; cases hk; cases ho
 refine ⟨h.rt.more hv hv' he h.base.1 ho,⟨h.base.1,h.base.2.1,h.base.2.2.1,by rw [World.size_setCell]; exact Nat.le_trans h.base.2.2.2 he.size⟩, ?_, ?_⟩
 · rw [at_other (n3 h.lrec rfl),he.low l h.base.2.1 (nc h.lrec rfl)]; exact h.lrec
 · rw [at_other (n3 h.dfr rfl),he.low D h.base.2.2.1 (nc h.dfr rfl)]; exact h.dfr
end
section
variable {w0 : World} {B l D q1 q3 qs g : Nat} {r : Loop} {F : Value} {ys zs : List Int} {A : Option Addr} {c n : Nat}
theorem l0_85 {R : World → Prop} (hzs : n = zs.length) (hn : n ≤ 1000) (hy : ys.length ≤ 100000000) (hrd : ∀ (i : Nat) (x : Int),zs[i]? = some x → ∃ p,A = some p ∧ w0.cell? (p.add i) = some (.int .u64 x))
   (hR : ∀ w,BdAt w0 B l D r w q1 q3 qs g F (ys ++ zs.filter fun w => w != 0) → R w) : ∀ (k i : Nat) (w : World),n < i + k → i ≤ n → BdAt w0 B l D r w q1 q3 qs g F (ys ++ (zs.take i).filter fun w => w != 0) →
     V85b.l0 B R k ⟨q3,0,none⟩ A n c (n : Int) (i : Int) w
 | 0,i,w,hk,hi,_ => by omega
 | k + 1,i,w,hk,hi,h => by
   dsimp -zeta only [V85b.l0]
   by_cases hlt : i < n
   · rw [if_pos (by simp; omega)]
     obtain ⟨x,hx⟩ : ∃ x,zs[i]? = some x := ⟨_,List.getElem?_eq_getElem (by omega)⟩
     obtain ⟨p,hp,hc⟩ := hrd i x hx
     refine ⟨p,hp,by omega,by omega,x,by rw [Int.toNat_natCast]; exact below_keeps h.rt.below _ _ hc, ?_⟩
     rw [wrap_id (n := (i : Int) + 1) (by omega) (by omega)]
     have htake : zs.take (i + 1) = zs.take i ++ [x] := take_get hx
     have next : ∀ w,BdAt w0 B l D r w q1 q3 qs g F (ys ++ (zs.take (i + 1)).filter fun w => w != 0) → V85b.l0 B R k ⟨q3,0,none⟩ A n c (n : Int) ((i + 1 : Nat) : Int) w := fun w h => l0_85 hzs hn hy hrd hR k (i + 1) w (by omega) (by omega) h
     rw [htake,List.filter_append] at next
     by_cases h0 : x = 0
     · subst h0
       rw [if_neg (by simp)]
       refine next w ?_
       simpa using h
     · have hx0 : (x != 0) = true := by simpa using h0
       rw [if_pos hx0]
       obtain ⟨v,hv,ho⟩ := h.rt.out
       obtain ⟨A4,c4,hv4⟩ := owns_slice0 ho
       subst hv4
       refine ⟨A4,_,c4,at_cell hv rfl, ?_⟩
       intro w1 e1 _
       obtain ⟨e2,ho2⟩ := alloc1 (.cells ⟨[.int .u64 x]⟩ 55) e1 h.base.2.2.2
       simp only
       generalize w1.alloc (.cells ⟨[.int .u64 x]⟩ 55) = w2 at *
       have h2 := h.ext e2
       have hv2 := e2.row _ _ _ _ hv
       have hown := e2.owns ho
       have hb : Tryz.t55.bytes = 8 := by kernel_rfl
       have hle : (ys ++ (zs.take i).filter fun w => w != 0).length ≤ 100001000 := by
         rw [List.length_append]
         have := List.length_filter_le (fun w : Int => w != 0) (zs.take i)
         rw [List.length_take] at this
         omega
       refine append_own (t := 31) (e := 55) (i := Tryz.t55) (z := .int .u64 0) (size := 1) (bytes := 8) (by kernel_rfl) (by kernel_rfl) (by kernel_rfl) (by kernel_rfl) hb rfl (by omega) hown (m := 1) (news := [.int .u64 x]) rfl (fun j v hj => ?_) (fun v hv => ?_) (by simp only [maxLen]; omega) (by omega) h2.base.2.2.2 (Nat.le_trans h2.base.1 h2.base.2.2.2) fun v' w3 he ho' hn' => ?_
       · rw [own_add]; exact at_cell ho2 hj
       · simp only [List.mem_cons,List.not_mem_nil,or_false] at hv; subst hv; rfl
       obtain ⟨A5,c5,hv5⟩ := owns_slice0 ho'
       subst hv5
       refine ⟨A5,_,c5,rfl, ?_⟩
       have hb3 : w3.heap[q3]? = some (.cells ⟨[.slice A4 (ys ++ (zs.take i).filter fun w => w != 0).length c4]⟩ 31 (0,0)) := (chg1_exts he hown).row _ _ _ _ (fun e => by
         obtain ⟨_,c',f',h'⟩ := owns_ty hown e
         rw [hv2] at h'; cases h') hv2
       rw [own_add]
       refine ⟨⟨_,at_cell hb3 rfl⟩,at_frozen hb3 0, ?_⟩
       refine next _ (h2.more hv2 hown he ?_)
       have e1 : (ys ++ ((zs.take i).filter (fun w => w != 0) ++ [x].filter fun w => w != 0)) = (ys ++ (zs.take i).filter fun w => w != 0) ++ [x] := by
         rw [show ([x].filter fun w => w != 0) = [x] from by simp [h0],List.append_assoc]
       have hl1 : ((ys ++ (zs.take i).filter fun w => w != 0) ++ [x]).length = (ys ++ (zs.take i).filter fun w => w != 0).length + 1 := List.length_append
       rw [e1,hl1]
       have : u64s ((ys ++ (zs.take i).filter fun w => w != 0) ++ [x]) = u64s (ys ++ (zs.take i).filter fun w => w != 0) ++ [.int .u64 x] := by unfold u64s; rw [List.map_append]; rfl
       rw [this]
       exact ho'
   · have : i = n := by omega
     subst this
     rw [if_neg (by simp)]
     refine hR w ?_
     rwa [hzs,List.take_length] at h
end
end Go.Proofs.YtidcpndlloppdaaGreat
