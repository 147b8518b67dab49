import Derived.Test.YtidcpndlloppdaaGreatZWA
import Derived.Test.YtidcpndlloppdaaGreatZEngD
import Derived.Test.YtidcpndlloppdaaGreatZK17
import Derived.Test.YtidcpndlloppdaaGreatZVA
/-
 What the engine makes of the loaded functions 94,175,173,140,53,54,174,95,96: conditions under which a call returns as told,and proofs of that.
 Conditions: none. Printed by a program of this project.
-/
set_option linter.unusedVariables false
set_option maxRecDepth 100000
namespace Go.Proofs.YtidcpndlloppdaaGreat
def V94.l0 (B : Nat) (R : Value → World → Prop) : Nat → Option Addr → Nat → Nat → Int → Int → Int → Int → Int → Int → Nat → Int → Int → Int → Int → Bool → Int → Int → Int → World → Prop
 | 0 => fun _ _ _ _ _ _ _ _ _ _ _ _ _ _ _ _ _ _ _ => False
 | k + 1 => fun a c d f g i j l m n o p q r s t u x w =>
 if (decide (m < 4)) = true
 then ((0 : Int) ≤ m ∧ m < 4 ∧
 ∃ y : Addr,a = some y ∧ (0 : Int) ≤ ([g,i,j,l] : List Int).getD m.toNat 0 ∧ ([g,i,j,l] : List Int).getD m.toNat 0 < (c : Int) ∧
 ∃ z : Int,w.cell? (y.add ((([g,i,j,l] : List Int).getD m.toNat 0).toNat)) = some (.int .u64 z) ∧
 if (decide (z > 2147483648)) = true
 then (Ret B w (R (.tuple ⟨[.agg ⟨[.int .i64 0,.int .i64 0,.int .i64 0,.int .i64 0,.bool false,.int .u64 0,.int .i64 0,.int .i64 0]⟩,.int .i64 6]⟩)))
 else ((V94.l0 B R k) a c d f g i j l (IntKind.wrap .i64 (m + 1)) n o p q r s t u x w))
 else (∃ A : Addr,a = some A ∧ (0 : Int) ≤ 0 ∧ (0 : Int) < (c : Int) ∧
 ∃ C : Int,w.cell? (A.add 0) = some (.int .u64 C) ∧
 ∃ D : Addr,a = some D ∧ (0 : Int) ≤ 1 ∧ (1 : Int) < (c : Int) ∧
 ∃ E : Int,w.cell? (D.add 1) = some (.int .u64 E) ∧
 ∃ F : Addr,a = some F ∧ (0 : Int) ≤ 2 ∧ (2 : Int) < (c : Int) ∧
 ∃ G : Int,w.cell? (F.add 2) = some (.int .u64 G) ∧
 ∃ I : Addr,a = some I ∧ (0 : Int) ≤ 3 ∧ (3 : Int) < (c : Int) ∧
 ∃ J : Int,w.cell? (I.add 3) = some (.int .u64 J) ∧
 ∃ L : Addr,a = some L ∧ (0 : Int) ≤ 4 ∧ (4 : Int) < (c : Int) ∧
 ∃ M : Int,w.cell? (L.add 4) = some (.int .u64 M) ∧
 ∃ N : Addr,a = some N ∧ (0 : Int) ≤ 5 ∧ (5 : Int) < (c : Int) ∧
 ∃ O : Int,w.cell? (N.add 5) = some (.int .u64 O) ∧
 ∃ P : Addr,a = some P ∧ (0 : Int) ≤ 6 ∧ (6 : Int) < (c : Int) ∧
 ∃ Q : Int,w.cell? (P.add 6) = some (.int .u64 Q) ∧
 Ret B w (R (.tuple ⟨[.agg ⟨[.int .i64 (IntKind.wrap .i64 (IntKind.wrap .i64 C - 1)),.int .i64 (IntKind.wrap .i64 E),.int .i64 (IntKind.wrap .i64 G),.int .i64 (IntKind.wrap .i64 f),.bool (J != f),.int .u64 M,.int .i64 (IntKind.wrap .i64 O),.int .i64 (IntKind.wrap .i64 Q)]⟩,.int .i64 0]⟩)))
def V54.l0 (B : Nat) (R : Value → World → Prop) : Nat → Int → Nat → Int → Int → Int → Bool → Int → Option Addr → Nat → Nat → Option Addr → Nat → Nat → Option Addr → Nat → Nat → Nat → Int → Int → Int → Bool → Int → Option Addr → Nat → Nat → Option Addr → Nat → Nat → Option Addr → Nat → Nat → World → Prop
 | 0 => fun _ _ _ _ _ _ _ _ _ _ _ _ _ _ _ _ _ _ _ _ _ _ _ _ _ _ _ _ _ _ _ _ => False
 | k + 1 => fun a c d f g i j l m n o p q r s t u x y z A C D E F G I J L M N w =>
 if (decide (a < (E : Int))) = true
 then (∃ O : Addr,D = some O ∧ (0 : Int) ≤ a ∧ a < (E : Int) ∧
 ∃ P : Int,w.cell? ((O.add (a.toNat * 2)).add 0) = some (.int .i64 P) ∧
 ∃ Q : Addr,l = some Q ∧ (0 : Int) ≤ a ∧ a < (m : Int) ∧
 ∃ S : Int,w.cell? ((Q.add (a.toNat * 2)).add 0) = some (.int .i64 S) ∧
 if (P != S) = false
 then (∃ T : Addr,D = some T ∧ (0 : Int) ≤ a ∧ a < (E : Int) ∧
 ∃ (U : Option Addr) (W X : Nat),w.cell? ((T.add (a.toNat * 2)).add 1) = some (.slice U W X) ∧
 ∃ Y : Addr,l = some Y ∧ (0 : Int) ≤ a ∧ a < (m : Int) ∧
 ∃ (Z : Option Addr) (a0 a1 : Nat),w.cell? ((Y.add (a.toNat * 2)).add 1) = some (.slice Z a0 a1) ∧
 CallK Tryz.prog 84 [.slice U W X,.slice Z a0 a1] B w [c,u] fun v a3 => 
 ∃ a4 : Bool,v = .bool a4 ∧
 if (!a4) = true
 then (Ret B a3 (R (.bool false)))
 else ((V54.l0 B R k) (IntKind.wrap .i64 (a + 1)) c d f g i j l m n o p q r s t u x y z A C D E F G I J L M N a3))
 else (Ret B w (R (.bool false))))
 else (CallK Tryz.prog 84 [.slice G I J,.slice o p q] B w [c,u] fun v a3 => 
 ∃ a5 : Bool,v = .bool a5 ∧
 if a5 = true
 then (CallK Tryz.prog 84 [.slice L M N,.slice r s t] B a3 [c,u] fun a6 a7 => 
 ∃ a8 : Bool,a6 = .bool a8 ∧
 Ret B a7 (R (.bool a8)))
 else (Ret B a3 (R (.bool false))))
def V54.vc (B : Nat) (R : Value → World → Prop) (a c d : Int) (f : Bool) (g : Int) (i : Option Addr) (j l : Nat) (m : Option Addr) (n o : Nat) (p : Option Addr) (q r : Nat) (s t u : Int) (x : Bool) (y : Int) (z : Option Addr) (A C : Nat) (D : Option Addr) (E F : Nat) (G : Option Addr) (I J : Nat) (w : World) : Prop :=
 ∀ L : Nat,w.heap.size ≤ L →
 ∀ M : Nat,w.heap.size ≤ M →
 if (a != s) = false
 then (if (c != t) = false
 then (if (d != u) = false
 then (if (!(f == x)) = false
 then (if (g != y) = false
 then (if ((j : Int) != (A : Int)) = true
 then (Ret B w (R (.bool false)))
 else (∃ N,V54.l0 B R N 0 M s t u x y z A C D E F G I J L a c d f g i j l m n o p q r w))
 else (Ret B w (R (.bool false))))
 else (Ret B w (R (.bool false))))
 else (Ret B w (R (.bool false))))
 else (Ret B w (R (.bool false))))
 else (Ret B w (R (.bool false)))
noncomputable def V54.cfg (B : Nat) : Cfg := ⟨Tryz.prog,⟨96,B⟩,[],hasN [84],hasN [],look []⟩
noncomputable def V54.code : Code := (Tryz.f54.body).getD .skip
noncomputable def V54.cuts (B : Nat) (R : Value → World → Prop) : Nat → Cut := nthC [⟨[(5,.one (.int .i64))],[(3,99,[.int .i64,.int .i64,.int .i64,.bool,.int .u64,.slice,.slice,.slice]),(2,99,[.int .i64,.int .i64,.int .i64,.bool,.int .u64,.slice,.slice,.slice])],fun fs vs bs w => V54.l0 B R (nthN fs 0) (iV (nthV vs 0)) (nthB bs 0).blk (iV (nthV (nthB bs 0).cells 0)) (iV (nthV (nthB bs 0).cells 1)) (iV (nthV (nthB bs 0).cells 2)) (bV (nthV (nthB bs 0).cells 3)) (iV (nthV (nthB bs 0).cells 4)) (slA (nthV (nthB bs 0).cells 5)) (slL (nthV (nthB bs 0).cells 5)) (slC (nthV (nthB bs 0).cells 5)) (slA (nthV (nthB bs 0).cells 6)) (slL (nthV (nthB bs 0).cells 6)) (slC (nthV (nthB bs 0).cells 6)) (slA (nthV (nthB bs 0).cells 7)) (slL (nthV (nthB bs 0).cells 7)) (slC (nthV (nthB bs 0).cells 7)) (nthB bs 1).blk (iV (nthV (nthB bs 1).cells 0)) (iV (nthV (nthB bs 1).cells 1)) (iV (nthV (nthB bs 1).cells 2)) (bV (nthV (nthB bs 1).cells 3)) (iV (nthV (nthB bs 1).cells 4)) (slA (nthV (nthB bs 1).cells 5)) (slL (nthV (nthB bs 1).cells 5)) (slC (nthV (nthB bs 1).cells 5)) (slA (nthV (nthB bs 1).cells 6)) (slL (nthV (nthB bs 1).cells 6)) (slC (nthV (nthB bs 1).cells 6)) (slA (nthV (nthB bs 1).cells 7)) (slL (nthV (nthB bs 1).cells 7)) (slC (nthV (nthB bs 1).cells 7)) w⟩]
noncomputable def V54.h : H := .s (.z) (.s (.s (.z) (.c (.s (.z) (.z)) (.z))) (.s (.s (.z) (.b (.l 0 (.s (.s (.z) (.c (.z) (.z))) (.s (.b (.s (.r [[0,1,2,3,4,5,6,7,8,9,10,11,12,13,14,15,16,17,18,19,20,21,22,23,24,25,26,27,28]]) (.c (.s (.z) (.z)) (.z)))) (.z)))))) (.s (.z) (.z))))
theorem V54.vc_eq (B : Nat) (R : Value → World → Prop) (a c d : Int) (f : Bool) (g : Int) (i : Option Addr) (j l : Nat) (m : Option Addr) (n o : Nat) (p : Option Addr) (q r : Nat) (s t u : Int) (x : Bool) (y : Int) (z : Option Addr) (A C : Nat) (D : Option Addr) (E F : Nat) (G : Option Addr) (I J : Nat) (w : World) : wpf (V54.cfg B) (V54.cuts B R) V54.code V54.h [] (postOf Tryz.prog B (Tryz.f54.results.toList) R) (argE 0 [.agg ⟨[.int .i64 a,.int .i64 c,.int .i64 d,.bool f,.int .u64 g,.slice i j l,.slice m n o,.slice p q r]⟩,.agg ⟨[.int .i64 s,.int .i64 t,.int .i64 u,.bool x,.int .u64 y,.slice z A C,.slice D E F,.slice G I J]⟩]) [] w = V54.vc B R a c d f g i j l m n o p q r s t u x y z A C D E F G I J w := by kernel_rfl
theorem V54.obl (B : Nat) (R : Value → World → Prop) : oblP (V54.cfg B) (V54.cuts B R) V54.code V54.h [] (postOf Tryz.prog B (Tryz.f54.results.toList) R) := by
 have e : oblP (V54.cfg B) (V54.cuts B R) V54.code V54.h [] (postOf Tryz.prog B (Tryz.f54.results.toList) R) = (True ∧ ((True ∧ ((True ∧ True) ∧ True)) ∧ ((True ∧ ((∀ (a : Int) (c : Nat) (d f g : Int) (i : Bool) (j : Int) (l : Option Addr) (m n : Nat) (o : Option Addr) (p q : Nat) (r : Option Addr) (s t u : Nat) (x y z : Int) (A : Bool) (C : Int) (D : Option Addr) (E F : Nat) (G : Option Addr) (I J : Nat) (L : Option Addr) (M N : Nat) (w : World),¬ V54.l0 B R 0 a c d f g i j l m n o p q r s t u x y z A C D E F G I J L M N w) ∧ (∀ O,∀ (a : Int) (c : Nat) (d f g : Int) (i : Bool) (j : Int) (l : Option Addr) (m n : Nat) (o : Option Addr) (p q : Nat) (r : Option Addr) (s t u : Nat) (x y z : Int) (A : Bool) (C : Int) (D : Option Addr) (E F : Nat) (G : Option Addr) (I J : Nat) (L : Option Addr) (M N : Nat) (w : World),V54.l0 B R (O + 1) a c d f g i j l m n o p q r s t u x y z A C D E F G I J L M N w → V54.l0 B R (O + 1) a c d f g i j l m n o p q r s t u x y z A C D E F G I J L M N w) ∧ ∀ O : Nat,((True ∧ (True ∧ True)) ∧ (((true = true) ∧ ((True ∧ True) ∧ True)) ∧ True)))) ∧ (True ∧ True)))) := by kernel_rfl
 exact e.mpr (⟨trivial,⟨⟨trivial,⟨⟨trivial,trivial⟩,trivial⟩⟩,⟨⟨trivial,⟨fun a c d f g i j l m n o p q r s t u x y z A C D E F G I J L M N w h => h,fun _ a c d f g i j l m n o p q r s t u x y z A C D E F G I J L M N w h => h,fun O => ⟨⟨trivial,⟨trivial,trivial⟩⟩,⟨⟨rfl,⟨⟨trivial,trivial⟩,trivial⟩⟩,trivial⟩⟩⟩⟩,⟨trivial,trivial⟩⟩⟩⟩)
theorem V54.cfgOk (B : Nat) : CfgOk (V54.cfg B) := cfgOk_of (by kernel_rfl) (by kernel_rfl) extNil
theorem V54.sound {a d f : Int} {g : Bool} {i : Int} {j : Option Addr} {l m : Nat} {n : Option Addr} {o p : Nat} {q : Option Addr} {r s : Nat} {t u y : Int} {z : Bool} {A : Int} {C : Option Addr} {D E : Nat} {F : Option Addr} {G I : Nat} {J : Option Addr} {L M : Nat} {w : World} {R : Value → World → Prop} (h : V54.vc w.heap.size R a d f g i j l m n o p q r s t u y z A C D E F G I J L M w) : Calls Tryz.prog 54 ⟨[.agg ⟨[.int .i64 a,.int .i64 d,.int .i64 f,.bool g,.int .u64 i,.slice j l m,.slice n o p,.slice q r s]⟩,.agg ⟨[.int .i64 t,.int .i64 u,.int .i64 y,.bool z,.int .u64 A,.slice C D E,.slice F G I,.slice J L M]⟩]⟩ w fun e w' => ∃ v,e = .returned v ∧ R v w' :=
 calls_wpfP (c := V54.cfg w.heap.size) (fn := Tryz.f54) (x := V54.code) (V54.cuts w.heap.size R) V54.h (V54.cfgOk _) mixed Tryz.func54 (by kernel_rfl) (by kernel_rfl) (by kernel_rfl) rfl (V54.obl _ _) ((V54.vc_eq _ _ a d f g i j l m n o p q r s t u y z A C D E F G I J L M _).symm ▸ h)
end Go.Proofs.YtidcpndlloppdaaGreat

/-
 The arena's functions: what their calls return and leave.
 Conditions: the arena lies in memory as told.
-/
set_option linter.unusedVariables false
set_option linter.unusedSimpArgs false
namespace Go.Proofs.YtidcpndlloppdaaGreat
open Go.RowKit
def Wd (xs : List Int) : Prop := ∀ x ∈ xs,0 ≤ x ∧ x < 18446744073709551616
section
variable {w w' : World} {g b : Nat} {mem : List Int}
end
section
variable {w : World} {g b : Nat} {mem : List Int}
def sub (mem : List Int) (at_ k : Int) : List Int := (mem.drop at_.toNat).take k.toNat
end
end Go.Proofs.YtidcpndlloppdaaGreat
set_option linter.unusedVariables false
set_option linter.unusedSimpArgs false
namespace Go.Proofs.YtidcpndlloppdaaGreat
open Go.RowKit
theorem owns_base {w : World} {B B' : Nat} {e : TypeId} {size : Nat} {v : Value} {n : Nat} {xs : List Value} (h : w.ownsRow B e size v n xs) (hB : B' ≤ B) : w.ownsRow B' e size v n xs := by
 refine ⟨h.1, ?_⟩
 rcases h.2 with hn | ⟨g,cap,cur,rfl,hb,rest⟩
 · exact .inl hn
 · exact .inr ⟨g,cap,cur,rfl,Nat.le_trans hB hb,rest⟩
section
variable {w : World} {g b : Nat} {mem : List Int}
theorem l68 {w0 : World} {A A' : Option Addr} {l c l' c' : Nat} {xs ys : List Int} (hx : Nums .u64 w0 A l xs) (hy : Nums .u64 w0 A' l' ys) (hl : l = l') (w : World) (hw : Below w0.heap.size w0 w) :
   ∀ (k i : Nat),l < i + k → i ≤ l → (∀ j,j < i → xs[j]? = ys[j]?) → V84.l0 w0.heap.size (IsV w0 (.bool (xs == ys))) k A l c A' l' c' i w
 | 0,i,hk,hi,_ => by omega
 | k + 1,i,hk,hi,hall => by
   dsimp -zeta only [V84.l0]
   by_cases h : i < l
   · rw [if_pos (by simpa using h)]
     obtain ⟨n,p,hn,hp,hc⟩ := hx.at h
     obtain ⟨m,q,hm,hq,hd⟩ := hy.at (hl ▸ h)
     have hc' := (hw.cell (cell_lt hc)).trans hc
     have hd' := (hw.cell (cell_lt hd)).trans hd
     refine ⟨p,hp,by omega,by omega,n,by simpa using hc',q,hq,by omega,by omega,m,by simpa using hd', ?_⟩
     by_cases hnm : n = m
     · rw [if_neg (by simp [hnm]),wrap_succ h hx.small]
       refine l68 hx hy hl w hw k (i + 1) (by omega) (by omega) fun j hj => ?_
       rcases Nat.lt_succ_iff_lt_or_eq.1 hj with h1 | h1
       · exact hall j h1
       · subst h1; rw [hn,hm,hnm]
     · rw [if_pos (by simpa using hnm)]
       refine ret_is hw ?_
       have : xs ≠ ys := fun e => by subst e; rw [hn] at hm; cases hm; exact hnm rfl
       simp [this]
   · rw [if_neg (by simpa using h)]
     refine ret_is hw ?_
     have : xs = ys := by
       apply List.ext_getElem?
       intro j
       by_cases hj : j < i
       · exact hall j hj
       · rw [List.getElem?_eq_none (by have := hx.len; omega),List.getElem?_eq_none (by have := hy.len; omega)]
     simp [this]
theorem gives84 {A A' : Option Addr} {l c l' c' : Nat} {xs ys : List Int} (hx : Nums .u64 w A l xs) (hy : Nums .u64 w A' l' ys) : Gives Tryz.prog 84 [.slice A l c,.slice A' l' c'] w (.bool (xs == ys)) := by
 refine gives_of (V84.sound ?_)
 unfold V84.vc
 by_cases h : l = l'
 · rw [if_neg (by simp [h])]
   exact ⟨l + 1,l68 hx hy h w (Below.refl _ _) (l + 1) 0 (by omega) (by omega) (fun j hj => by omega)⟩
 · rw [if_pos (by simp; omega)]
   refine ret_is (Below.refl _ _) ?_
   have : xs ≠ ys := fun e => h (by rw [← hx.len, ← hy.len,e])
   simp [this]
end
end Go.Proofs.YtidcpndlloppdaaGreat
set_option linter.unusedVariables false
set_option linter.unusedSimpArgs false
namespace Go.Proofs.YtidcpndlloppdaaGreat
open Go.RowKit
theorem zeros_cells (n : Nat) : madeCells (Value.int .u64 0).cells (n * 1) = ((List.replicate n (0 : Int)).map (Value.int .u64)).toArray := by
 apply Array.toList_inj.1
 rw [Nat.mul_one]
 simp only [madeCells,Array.toList_map,Array.toList_range,List.map_replicate]
 rw [List.eq_replicate_iff]
 refine ⟨by simp,fun x hx => ?_⟩
 obtain ⟨j,_,rfl⟩ := List.mem_map.1 hx
 simp [Value.cells,Nat.mod_one]
section
variable {w : World} {g b : Nat} {mem : List Int}
end
end Go.Proofs.YtidcpndlloppdaaGreat
set_option linter.unusedVariables false
set_option linter.unusedSimpArgs false
namespace Go.Proofs.YtidcpndlloppdaaGreat
open Go.RowKit
structure Dfr where
 f : Int
 args : List Int
structure Frm where
 f : Int
 pc : Int
 mode : Int
 dfd : Bool
 value : Int
 dfs : List Dfr
 locals : List Int
 ops : List Int
def DfrE (w : World) (p : Addr) (d : Dfr) : Prop := w.cell? (p.add 0) = some (.int .i64 d.f) ∧ ∃ A c,w.cell? (p.add 1) = some (.slice A d.args.length c) ∧ Nums .u64 w A d.args.length d.args
theorem DfrE.kept : Kept1 DfrE := fun _ _ _ _ hw h => by
 obtain ⟨h1,A,c,h2,h3⟩ := h
 exact ⟨hw _ _ h1,A,c,hw _ _ h2,RowAt.keep (NumE.kept _) h3 hw⟩
abbrev Dfrs (w : World) (A : Option Addr) (l : Nat) (xs : List Dfr) : Prop := RowAt DfrE 2 w A l xs
structure Sls where
 D : Option Addr
 dc : Nat
 L : Option Addr
 lc : Nat
 O : Option Addr
 oc : Nat
def frmV (x : Frm) (s : Sls) : Value := .agg ⟨[.int .i64 x.f,.int .i64 x.pc,.int .i64 x.mode,.bool x.dfd,.int .u64 x.value,.slice s.D x.dfs.length s.dc,.slice s.L x.locals.length s.lc,.slice s.O x.ops.length s.oc]⟩
structure FrmAt (w : World) (x : Frm) (s : Sls) : Prop where
 dfs : Dfrs w s.D x.dfs.length x.dfs
 locals : Nums .u64 w s.L x.locals.length x.locals
 ops : Nums .u64 w s.O x.ops.length x.ops
theorem FrmAt.keep {w w' : World} {x : Frm} {s : Sls} (h : FrmAt w x s) (hw : ∀ q v,w.cell? q = some v → w'.cell? q = some v) : FrmAt w' x s :=
 ⟨RowAt.keep DfrE.kept h.dfs hw,RowAt.keep (NumE.kept _) h.locals hw,RowAt.keep (NumE.kept _) h.ops hw⟩
def roomM (x : Fnc) : Nat := if hasDefer x.code then 4 else 0
def Sized (p : List Fnc) : Prop := ∀ f ∈ p,sizedF f = true
theorem sized_bd {x : Fnc} (h : sizedF x = true) : 0 ≤ x.params ∧ x.params ≤ 3 ∧ x.params ≤ x.locals ∧ x.locals ≤ 8 ∧ 0 ≤ x.refs ∧ x.refs ≤ x.locals - x.params ∧ 1 ≤ x.code.length ∧ x.code.length ≤ 64 := of_decide_eq_true h
section
variable {w : World} {q : Addr} {l cap : Nat} {f : Nat} {x : Fnc} {C : Option Addr} {c : Nat}
end
def fnAt (p : List Fnc) (f : Int) : Option Fnc := if f < 0 then none else p[f.toNat]?
def dfrM (p : List Fnc) (d : Dfr) : Bool := match fnAt p d.f with
 | some h => (d.args.length : Int) == h.params
 | none => false
def mayM (p : List Fnc) (x : Frm) : Bool := match fnAt p x.f with
 | some g => decide (0 ≤ x.pc ∧ x.pc ≤ g.code.length ∧ 0 ≤ x.mode ∧ x.mode ≤ 2 ∧ (x.locals.length : Int) = g.locals ∧ x.ops.length ≤ 8 ∧ x.dfs.length ≤ roomM g) && x.dfs.all (dfrM p)
 | none => false
section
variable {w0 : World} {p : List Fnc} {A : Option Addr} {cap : Nat}
end
end Go.Proofs.YtidcpndlloppdaaGreat
set_option linter.unusedVariables false
set_option linter.unusedSimpArgs false
namespace Go.Proofs.YtidcpndlloppdaaGreat
open Go.RowKit
structure Hd where
 below : Int
 f : Int
 pc : Int
 mode : Int
 dfd : Bool
 value : Int
 dfs : Int
 ops : Int
def hd0 : Hd := ⟨0,0,0,0,false,0,0,0⟩
section
variable {w : World} {g b : Nat} {mem : List Int}
end
end Go.Proofs.YtidcpndlloppdaaGreat
set_option linter.unusedVariables false
set_option linter.unusedSimpArgs false
namespace Go.Proofs.YtidcpndlloppdaaGreat
open Go.RowKit
section
variable {w : World} {g b : Nat} {mem : List Int}
end
end Go.Proofs.YtidcpndlloppdaaGreat

/-
 Layer 18: frames written by the program,by one plain rule.
 Conditions: the arena,the program,and the frame,lie in memory as told; the program's functions are sized.
-/
set_option linter.unusedVariables false
set_option linter.unusedSimpArgs false
namespace Go.Proofs.YtidcpndlloppdaaGreat
open Go.RowKit
structure FrmWd (x : Frm) : Prop where
 value : 0 ≤ x.value ∧ x.value < 18446744073709551616
 locals : Wd x.locals
 ops : Wd x.ops
 args : ∀ d ∈ x.dfs,Wd d.args
section
variable {w : World} {g b : Nat} {mem : List Int}
end
end Go.Proofs.YtidcpndlloppdaaGreat
set_option linter.unusedVariables false
set_option linter.unusedSimpArgs false
namespace Go.Proofs.YtidcpndlloppdaaGreat
open Go.RowKit
section
variable {w0 : World} {Q : Value → World → Prop} {n cap g5 q9 : Nat} {x : Frm} {s : Sls}
end
end Go.Proofs.YtidcpndlloppdaaGreat
set_option linter.unusedVariables false
set_option linter.unusedSimpArgs false
namespace Go.Proofs.YtidcpndlloppdaaGreat
open Go.RowKit
end Go.Proofs.YtidcpndlloppdaaGreat
set_option linter.unusedVariables false
set_option linter.unusedSimpArgs false
namespace Go.Proofs.YtidcpndlloppdaaGreat
open Go.RowKit
end Go.Proofs.YtidcpndlloppdaaGreat
set_option linter.unusedVariables false
set_option linter.unusedSimpArgs false
namespace Go.Proofs.YtidcpndlloppdaaGreat
open Go.RowKit
end Go.Proofs.YtidcpndlloppdaaGreat

/-
 What the engine makes of the loaded functions 13,48,49,90,91,92,138,139: conditions under which a call returns as told,and proofs of that.
 Conditions: none. Printed by a program of this project.
-/
set_option linter.unusedVariables false
set_option maxRecDepth 100000
namespace Go.Proofs.YtidcpndlloppdaaGreat
end Go.Proofs.YtidcpndlloppdaaGreat

/-
 The maker of programs by numbers,as a plain rule; how it lies in memory; calls of its functions.
 Conditions: none.
-/
set_option linter.unusedVariables false
set_option linter.unusedSimpArgs false
namespace Go.Proofs.YtidcpndlloppdaaGreat
open Go.RowKit
structure MSt where
 ns : List Int
 p : List Fnc
 f : Nat
 depth : List Int
 now : Int
section
variable {B g : Nat} {w : World} {s : MSt} {A : Option Addr} {ln cn : Nat} {vF vD : Value} {cs : List Value}
end
section
variable {B g : Nat} {S : Nat → Prop} {w0 w : World} {s : MSt} {A : Option Addr} {ln cn : Nat} {vF vD : Value} {cs : List Value}
end
end Go.Proofs.YtidcpndlloppdaaGreat
set_option linter.unusedVariables false
set_option linter.unusedSimpArgs false
namespace Go.Proofs.YtidcpndlloppdaaGreat
open Go.RowKit
structure Run (P : Int → Int → Int) (xs : List Ins) (D E : List Int) : Prop where
 len : D.length = xs.length
 low : ∀ d ∈ D,0 ≤ d
 ok : ∀ j x d,xs[j]? = some x → D[j]? = some d → P x.op x.a ≤ d ∧ d - P x.op x.a + pushesI x.op ≤ 8 ∧
   ∀ t ∈ nextM j x.op x.a,0 ≤ t ∧ (D ++ E)[t.toNat]? = some (d - P x.op x.a + pushesI x.op)
def HeadOk (x : Fnc) : Prop := 0 ≤ x.params ∧ x.params ≤ 3 ∧ x.params ≤ x.locals ∧ x.locals ≤ x.params + 4 ∧ 0 ≤ x.refs ∧ x.refs ≤ x.locals - x.params
def FormOk (np : Nat) (x : Fnc) (i : Ins) : Prop := ∀ n : Nat,(i.op = 15 ∨ i.op = 16 → 0 ≤ i.a ∧ i.a < n) → shapedM np x.locals x.refs n i.op i.a i.b = true
def DoneF (np : Nat) (P : Int → Int → Int) (x : Fnc) : Prop := 1 ≤ x.code.length ∧ x.code.length ≤ 62 ∧ (∀ i ∈ x.code,FormOk np x i) ∧ ∃ D,Run P x.code D [] ∧ D[0]? = some 0
theorem firstNot_none {α : Type} {f : α → Bool} : ∀ {l : List α} {i : Nat},(∀ x ∈ l,f x = true) → firstNot f l i = none
 | [],i,h => rfl
 | y :: r,i,h => by
   unfold firstNot
   rw [if_pos (h y List.mem_cons_self)]
   exact firstNot_none fun x hx => h x (List.mem_cons_of_mem _ hx)
theorem shapesM_none {np : Nat} : ∀ {l : List Fnc} {i : Nat},(∀ f ∈ l,∀ x ∈ f.code,shapedI np f x = true) → shapesM np l i = none
 | [],i,h => rfl
 | y :: r,i,h => by
   unfold shapesM
   rw [firstNot_none (h y List.mem_cons_self)]
   exact shapesM_none fun f hf => h f (List.mem_cons_of_mem _ hf)
theorem flowsM_none {p : List Fnc} : ∀ {l : List Fnc} {i : Nat},(∀ f ∈ l,∃ d,depthsM p f.code = .inr d) → flowsM p l i = none
 | [],i,h => rfl
 | y :: r,i,h => by
   unfold flowsM
   obtain ⟨d,hd⟩ := h y List.mem_cons_self
   rw [hd]
   exact flowsM_none fun f hf => h f (List.mem_cons_of_mem _ hf)
theorem check_zero {p : List Fnc} (h1 : 1 ≤ p.length) (h8 : p.length ≤ 8) (hs : ∀ x ∈ p,sizedF x = true) (hf : ∀ f ∈ p,∀ x ∈ f.code,shapedI p.length f x = true) (hd : ∀ f ∈ p,∃ d,depthsM p f.code = .inr d) : checkM p = (0,0,0) := by
 unfold checkM
 rw [if_neg (by omega),firstNot_none hs]
 simp only
 rw [shapesM_none hf]
 simp only
 rw [flowsM_none hd]
end Go.Proofs.YtidcpndlloppdaaGreat
set_option linter.unusedVariables false
set_option linter.unusedSimpArgs false
namespace Go.Proofs.YtidcpndlloppdaaGreat
open Go.RowKit
structure Cur (s : MSt) (E : List Int) : Prop where
 pos : 1 ≤ s.p.length
 few : s.p.length ≤ 5
 f : s.f < s.p.length
 heads : ∀ x ∈ s.p,HeadOk x
 zero : ∀ x,s.p[0]? = some x → x.params = 0
 done : ∀ i x,i < s.f → s.p[i]? = some x → DoneF s.p.length (popsM s.p) x
 todo : ∀ i x,s.f < i → s.p[i]? = some x → x.code = []
 run : ∀ x,s.p[s.f]? = some x → Run (popsM s.p) x.code s.depth (s.now :: E) ∧ ∀ i ∈ x.code,FormOk s.p.length x i
 start : (s.depth ++ [s.now])[0]? = some 0
 now : 0 ≤ s.now ∧ s.now ≤ 8
end Go.Proofs.YtidcpndlloppdaaGreat
set_option linter.unusedVariables false
set_option linter.unusedSimpArgs false
namespace Go.Proofs.YtidcpndlloppdaaGreat
open Go.RowKit
end Go.Proofs.YtidcpndlloppdaaGreat
set_option linter.unusedVariables false
set_option linter.unusedSimpArgs false
namespace Go.Proofs.YtidcpndlloppdaaGreat
open Go.RowKit
section
variable {B g : Nat} {w : World} {s : MSt} {A : Option Addr} {ln cn : Nat} {vF vD : Value} {cs : List Value}
end
end Go.Proofs.YtidcpndlloppdaaGreat
set_option linter.unusedVariables false
set_option linter.unusedSimpArgs false
namespace Go.Proofs.YtidcpndlloppdaaGreat
open Go.RowKit
end Go.Proofs.YtidcpndlloppdaaGreat
set_option linter.unusedVariables false
set_option linter.unusedSimpArgs false
namespace Go.Proofs.YtidcpndlloppdaaGreat
open Go.RowKit
structure Step (n : Nat) (s s' : MSt) : Prop where
 cur : Cur s' []
 f : s'.f = s.f
 p : s'.p.length = s.p.length
 pops : popsM s'.p = popsM s.p
 dep : s'.depth.length ≤ s.depth.length + n
section
variable {B g : Nat} {S : Nat → Prop} {w0 w : World} {s : MSt} {A : Option Addr} {ln cn : Nat} {vF vD : Value} {cs : List Value}
end
end Go.Proofs.YtidcpndlloppdaaGreat
set_option linter.unusedVariables false
set_option linter.unusedSimpArgs false
namespace Go.Proofs.YtidcpndlloppdaaGreat
open Go.RowKit
end Go.Proofs.YtidcpndlloppdaaGreat
set_option linter.unusedVariables false
set_option linter.unusedSimpArgs false
namespace Go.Proofs.YtidcpndlloppdaaGreat
open Go.RowKit
end Go.Proofs.YtidcpndlloppdaaGreat
set_option linter.unusedVariables false
set_option linter.unusedSimpArgs false
namespace Go.Proofs.YtidcpndlloppdaaGreat
open Go.RowKit
section
variable {B g : Nat} {w0 : World} {vF0 vD0 : Value} {cs0 : List Value}
end
end Go.Proofs.YtidcpndlloppdaaGreat
set_option linter.unusedVariables false
set_option linter.unusedSimpArgs false
namespace Go.Proofs.YtidcpndlloppdaaGreat
open Go.RowKit
section
variable {w0 : World} {g : Nat} {q2 : Nat}
end
end Go.Proofs.YtidcpndlloppdaaGreat
