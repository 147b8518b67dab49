import Derived.Test.YtidcpndlloppdaaGreatZEngD
import Derived.Test.YtidcpndlloppdaaGreatZVA
/-
 The functions of layer 17 that tell what instructions pop and push,and how many words a frame has: what their calls return.
 Conditions: the arguments' memory says what their values are.
-/
set_option linter.unusedVariables false
set_option linter.unusedSimpArgs false
namespace Go.Proofs.YtidcpndlloppdaaGreat
open Go.RowKit
structure Ins where
 op : Int
 a : Int
 b : Int
structure Fnc where
 params : Int
 locals : Int
 refs : Int
 code : List Ins
def InsE (w : World) (p : Addr) (x : Ins) : Prop := w.cell? (p.add 0) = some (.int .i64 x.op) ∧ w.cell? (p.add 1) = some (.int .i64 x.a) ∧ w.cell? (p.add 2) = some (.int .i64 x.b)
def FncE (w : World) (p : Addr) (f : Fnc) : Prop := w.cell? (p.add 0) = some (.int .i64 f.params) ∧ w.cell? (p.add 1) = some (.int .i64 f.locals) ∧ w.cell? (p.add 2) = some (.int .i64 f.refs) ∧
 ∃ A l c,w.cell? (p.add 3) = some (.slice A l c) ∧ RowAt InsE 3 w A l f.code
theorem InsE.kept : Kept1 InsE := fun _ _ _ _ hw h => ⟨hw _ _ h.1,hw _ _ h.2.1,hw _ _ h.2.2⟩
theorem FncE.kept : Kept1 FncE := fun _ _ _ _ hw h => by
 obtain ⟨h1,h2,h3,A,l,c,h4,h5⟩ := h
 exact ⟨hw _ _ h1,hw _ _ h2,hw _ _ h3,A,l,c,hw _ _ h4,h5.keep InsE.kept hw⟩
abbrev CodeAt (w : World) (A : Option Addr) (l : Nat) (xs : List Ins) : Prop := RowAt InsE 3 w A l xs
abbrev ProgAt (w : World) (A : Option Addr) (l : Nat) (xs : List Fnc) : Prop := RowAt FncE 4 w A l xs
theorem ProgAt.keep {w w' : World} {A : Option Addr} {l : Nat} {xs : List Fnc} (h : ProgAt w A l xs) (hb : Below w.heap.size w w') : ProgAt w' A l xs := RowAt.keep FncE.kept h (below_keeps hb)
theorem CodeAt.keep {w w' : World} {A : Option Addr} {l : Nat} {xs : List Ins} (h : CodeAt w A l xs) (hb : Below w.heap.size w w') : CodeAt w' A l xs := RowAt.keep InsE.kept h (below_keeps hb)
def rowT (op : Int) : Int × Int × Int × Bool :=
 if op = 1 then (1,0,1,true) else if op = 2 then (2,0,1,true) else if op = 3 then (3,0,1,true) else if op = 4 then (3,1,0,true)
 else if op = 5 ∨ op = 6 ∨ op = 7 ∨ op = 8 ∨ op = 11 ∨ op = 12 ∨ op = 13 ∨ op = 14 then (0,2,1,true)
 else if op = 9 ∨ op = 10 then (0,1,1,true)
 else if op = 15 then (4,0,0,true) else if op = 16 then (4,1,0,true) else if op = 17 then (5, -1,1,true)
 else if op = 18 ∨ op = 20 ∨ op = 22 ∨ op = 27 then (0,1,0,true)
 else if op = 19 then (5, -1,0,true) else if op = 21 then (0,0,2,true) else if op = 23 ∨ op = 25 then (6,0,0,true)
 else if op = 24 then (7,0,0,true) else if op = 26 then (0,0,0,true) else (0,0,0,false)
def rowV (op : Int) : Value := .tuple ⟨[.int .i64 (rowT op).1,.int .i64 (rowT op).2.1,.int .i64 (rowT op).2.2.1,.bool (rowT op).2.2.2]⟩
theorem op_cases (op : Int) : op = 1 ∨ op = 2 ∨ op = 3 ∨ op = 4 ∨ op = 5 ∨ op = 6 ∨ op = 7 ∨ op = 8 ∨ op = 9 ∨ op = 10 ∨ op = 11 ∨ op = 12 ∨ op = 13 ∨ op = 14 ∨ op = 15 ∨ op = 16 ∨ op = 17 ∨ op = 18 ∨ op = 19 ∨ op = 20 ∨ op = 21 ∨ op = 22 ∨ op = 23 ∨ op = 24 ∨ op = 25 ∨ op = 26 ∨ op = 27 ∨
   (op ≠ 1 ∧ op ≠ 2 ∧ op ≠ 3 ∧ op ≠ 4 ∧ op ≠ 5 ∧ op ≠ 6 ∧ op ≠ 7 ∧ op ≠ 8 ∧ op ≠ 9 ∧ op ≠ 10 ∧ op ≠ 11 ∧ op ≠ 12 ∧ op ≠ 13 ∧ op ≠ 14 ∧ op ≠ 15 ∧ op ≠ 16 ∧ op ≠ 17 ∧ op ≠ 18 ∧ op ≠ 19 ∧ op ≠ 20 ∧ op ≠ 21 ∧ op ≠ 22 ∧ op ≠ 23 ∧ op ≠ 24 ∧ op ≠ 25 ∧ op ≠ 26 ∧ op ≠ 27) := by omega
theorem gives115 (op : Int) (w : World) : Gives Tryz.prog 115 [.int .i64 op] w (rowV op) := by
 refine gives_of (V115.sound ?_)
 rcases op_cases op with h | h | h | h | h | h | h | h | h | h | h | h | h | h | h | h | h | h | h | h | h | h | h | h | h | h | h | ⟨h1,h2,h3,h4,h5,h6,h7,h8,h9,h10,h11,h12,h13,h14,h15,h16,h17,h18,h19,h20,h21,h22,h23,h24,h25,h26,h27⟩
 all_goals first
   | subst h
     simp only [V115.vc,V115.b0,V115.b1,V115.b2,V115.b3,Int.reduceBEq,Bool.false_eq_true,if_false,if_true]
     exact ret_is (Below.refl _ _) rfl
   | simp only [V115.vc,V115.b0,V115.b1,V115.b2,V115.b3,beq_iff_eq, *,if_false,if_true]
     exact ret_is (Below.refl _ _) (by simp [rowV,rowT, *])
def pushesI (op : Int) : Int := (rowT op).2.2.1
theorem gives159 (op a b : Int) (w : World) : Gives Tryz.prog 159 [.agg ⟨[.int .i64 op,.int .i64 a,.int .i64 b]⟩] w (.int .i64 (pushesI op)) := by
 refine gives_of (V159.sound ?_)
 intro q _
 rcases op_cases op with h | h | h | h | h | h | h | h | h | h | h | h | h | h | h | h | h | h | h | h | h | h | h | h | h | h | h | ⟨h1,h2,h3,h4,h5,h6,h7,h8,h9,h10,h11,h12,h13,h14,h15,h16,h17,h18,h19,h20,h21,h22,h23,h24,h25,h26,h27⟩
 all_goals first
   | subst h
     simp only [Int.reduceBEq,Bool.false_eq_true,if_false,if_true]
     exact ret_is (Below.refl _ _) rfl
   | simp only [beq_iff_eq, *,if_false,if_true]
     exact ret_is (Below.refl _ _) (by simp [pushesI,rowT, *])
theorem gives118 (op a b : Int) (w : World) : Gives Tryz.prog 118 [.agg ⟨[.int .i64 op,.int .i64 a,.int .i64 b]⟩] w (.int .i64 (pushesI op)) := by
 refine gives_of (V118.sound ?_)
 intro q _
 refine call_gives (Below.refl _ _) (fun w1 _ _ => gives115 op w1) fun w1 _ hb => ?_
 exact ⟨_,_,_,_,rfl,ret_is hb rfl⟩
def paramsM (p : List Fnc) (f : Int) : Int :=
 if f < 0 then 0 else match p[f.toNat]? with
   | some x => if 0 > x.params then 0 else x.params
   | none => 0
def popsM (p : List Fnc) (op a : Int) : Int := if (rowT op).2.1 < 0 then paramsM p a else (rowT op).2.1
theorem paramsM_out {p : List Fnc} {f : Int} (h : f < 0 ∨ (p.length : Int) ≤ f) : paramsM p f = 0 := by
 unfold paramsM
 rcases h with h | h
 · rw [if_pos h]
 · by_cases h0 : f < 0
   · rw [if_pos h0]
   · rw [if_neg h0,List.getElem?_eq_none (by omega)]
theorem paramsM_in {p : List Fnc} {f : Int} {x : Fnc} (h0 : ¬ f < 0) (hx : p[f.toNat]? = some x) : paramsM p f = if 0 > x.params then 0 else x.params := by
 unfold paramsM
 rw [if_neg h0,hx]
theorem gives142 {w : World} {A : Option Addr} {l c : Nat} {p : List Fnc} (hp : ProgAt w A l p) (f : Int) : Gives Tryz.prog 142 [.agg ⟨[.slice A l c]⟩,.int .i64 f] w (.int .i64 (paramsM p f)) := by
 refine gives_of (V142.sound ?_)
 intro q _
 by_cases h0 : f < 0
 · rw [if_neg (by simpa using h0)]
   exact ret_is (Below.refl _ _) (by rw [paramsM_out (.inl h0)])
 · rw [if_pos (by simpa using h0)]
   by_cases h1 : f ≥ (l : Int)
   · rw [if_pos (by simpa using h1)]
     exact ret_is (Below.refl _ _) (by rw [paramsM_out (.inr (by rw [hp.len]; omega))])
   · rw [if_neg (by simpa using h1)]
     obtain ⟨x,a,hx,ha,he⟩ := hp.at (i := f.toNat) (by omega)
     exact ⟨a,ha,by omega,by omega,x.params,he.1,ret_is (Below.refl _ _) (by rw [paramsM_in h0 hx])⟩
theorem gives99 {w : World} {A : Option Addr} {l c : Nat} {p : List Fnc} (hp : ProgAt w A l p) (op a b : Int) : Gives Tryz.prog 99 [.agg ⟨[.slice A l c]⟩,.agg ⟨[.int .i64 op,.int .i64 a,.int .i64 b]⟩] w (.int .i64 (popsM p op a)) := by
 refine gives_of (V99.sound ?_)
 intro q2 _ q3 _
 rcases op_cases op with h | h | h | h | h | h | h | h | h | h | h | h | h | h | h | h | h | h | h | h | h | h | h | h | h | h | h | ⟨h1,h2,h3,h4,h5,h6,h7,h8,h9,h10,h11,h12,h13,h14,h15,h16,h17,h18,h19,h20,h21,h22,h23,h24,h25,h26,h27⟩
 all_goals first
   | subst h
     simp only [V99.b0,V99.b1,Int.reduceBEq,Bool.false_eq_true,if_false,if_true]
     first
       | exact ret_is (Below.refl _ _) rfl
       | exact call_gives (Below.refl _ _) (fun w1 _ hb => gives142 (hp.keep hb) a) fun w1 _ hb => ⟨_,rfl,ret_is hb rfl⟩
   | simp only [V99.b0,V99.b1,beq_iff_eq, *,if_false,if_true,Bool.false_eq_true]
     exact ret_is (Below.refl _ _) (by simp [popsM,rowT, *])
theorem gives117 {w : World} {A : Option Addr} {l c : Nat} {p : List Fnc} (hp : ProgAt w A l p) (op a b : Int) : Gives Tryz.prog 117 [.agg ⟨[.slice A l c]⟩,.agg ⟨[.int .i64 op,.int .i64 a,.int .i64 b]⟩] w (.int .i64 (popsM p op a)) := by
 refine gives_of (V117.sound ?_)
 intro q2 _ q3 _
 refine call_gives (Below.refl _ _) (fun w1 _ _ => gives115 op w1) fun w1 _ hb => ?_
 refine ⟨_,_,_,_,rfl, ?_⟩
 by_cases hneg : (rowT op).2.1 < 0
 · rw [if_pos (by simpa using hneg)]
   have hpop : popsM p op a = paramsM p a := by unfold popsM; rw [if_pos hneg]
   by_cases h0 : a < 0
   · rw [if_neg (by simpa using h0)]
     exact ret_is hb (by rw [hpop,paramsM_out (.inl h0)])
   · rw [if_pos (by simpa using h0)]
     by_cases h1 : a ≥ (l : Int)
     · rw [if_pos (by simpa using h1)]
       exact ret_is hb (by rw [hpop,paramsM_out (.inr (by rw [hp.len]; omega))])
     · rw [if_neg (by simpa using h1)]
       obtain ⟨x,q,hx,hq,he⟩ := (hp.keep hb).at (i := a.toNat) (by omega)
       exact ⟨q,hq,by omega,by omega,x.params,he.1,ret_is hb (by rw [hpop,paramsM_in h0 hx])⟩
 · rw [if_neg (by simpa using hneg)]
   exact ret_is hb (by unfold popsM; rw [if_neg hneg])
def hasDefer : List Ins → Bool
 | [] => false
 | x :: r => x.op == 19 || hasDefer r
def clampL (n : Int) : Int := if 8 < (if 0 > n then 0 else n) then 8 else (if 0 > n then 0 else n)
def sizeM (locals : Int) (code : List Ins) : Int := 15 + clampL locals + (if hasDefer code then 16 else 0)
theorem clampL_bd (n : Int) : 0 ≤ clampL n ∧ clampL n ≤ 8 := by unfold clampL; split <;> split <;> omega
theorem hasDefer_drop {xs : List Ins} {i : Nat} {x : Ins} (h : xs[i]? = some x) : hasDefer (xs.drop i) = (x.op == 19 || hasDefer (xs.drop (i + 1))) := by
 obtain ⟨hlt,rfl⟩ := List.getElem?_eq_some_iff.1 h
 rw [List.drop_eq_getElem_cons hlt]
 rfl
theorem l84 {w0 : World} {A : Option Addr} {l c : Nat} {xs : List Ins} (hx : CodeAt w0 A l xs) {q : Nat} {f0 f1 f2 : Int} {w : World} (hw : Below w0.heap.size w0 w) {v : Bool} :
   ∀ (k i : Nat),l < i + k → i ≤ l → hasDefer (xs.drop i) = v → V157.l0 w0.heap.size (IsV w0 (.bool v)) k i q f0 f1 f2 A l c w
 | 0,i,hk,hi,_ => by omega
 | k + 1,i,hk,hi,hv => by
   dsimp -zeta only [V157.l0]
   by_cases h : i < l
   · rw [if_pos (by simpa using h)]
     obtain ⟨x,p,hn,hp,he⟩ := (hx.keep hw).at h
     refine ⟨p,hp,by omega,by omega,x.op,he.1, ?_⟩
     rw [hasDefer_drop hn] at hv
     by_cases hd : x.op = 19
     · rw [if_pos (by simpa using hd)]
       exact ret_is hw (by simp [hd] at hv; rw [← hv])
     · rw [if_neg (by simpa using hd),wrap_succ h hx.small]
       exact l84 hx hw k (i + 1) (by omega) (by omega) (by rw [← hv]; simp [hd])
   · rw [if_neg (by simpa using h)]
     refine ret_is hw ?_
     rw [List.drop_eq_nil_of_le (by have := hx.len; omega)] at hv
     rw [← hv]; rfl
theorem gives157 {w : World} {A : Option Addr} {l c : Nat} {xs : List Ins} (hx : CodeAt w A l xs) (f0 f1 f2 : Int) : Gives Tryz.prog 157 [.agg ⟨[.int .i64 f0,.int .i64 f1,.int .i64 f2,.slice A l c]⟩] w (.bool (hasDefer xs)) := by
 refine gives_of (V157.sound ?_)
 intro q _
 exact ⟨l + 1,l84 hx (Below.refl _ _) (l + 1) 0 (by omega) (by omega) rfl⟩
theorem size_wraps (n : Int) : IntKind.wrap .i64 (IntKind.wrap .i64 (7 + clampL n) + 8) = 15 + clampL n ∧ IntKind.wrap .i64 (15 + clampL n + 16) = 31 + clampL n := by
 have := clampL_bd n
 rw [wrap_id (n := 7 + clampL n) (by omega) (by omega),wrap_id (n := 7 + clampL n + 8) (by omega) (by omega),wrap_id (n := 15 + clampL n + 16) (by omega) (by omega)]
 omega
theorem l32 {w0 : World} {A : Option Addr} {l c : Nat} {xs : List Ins} (hx : CodeAt w0 A l xs) {n : Int} {w : World} (hw : Below w0.heap.size w0 w) {v : Int} :
   ∀ (k i : Nat),l < i + k → i ≤ l → (15 + clampL n + if hasDefer (xs.drop i) then 16 else 0) = v → V61.l0 w0.heap.size (IsV w0 (.int .i64 v)) k (15 + clampL n) A l c l i w
 | 0,i,hk,hi,_ => by omega
 | k + 1,i,hk,hi,hv => by
   dsimp -zeta only [V61.l0]
   by_cases h : i < l
   · rw [if_pos (by simpa using h)]
     obtain ⟨x,p,hn,hp,he⟩ := (hx.keep hw).at h
     refine ⟨p,hp,by omega,by omega,x.op,he.1,x.a,he.2.1,x.b,he.2.2,fun _ _ => ?_⟩
     rw [hasDefer_drop hn] at hv
     by_cases hd : x.op = 19
     · rw [if_pos (by simpa using hd),(size_wraps n).2]
       exact ret_is hw (by simp [hd] at hv; rw [← hv]; congr 1; omega)
     · rw [if_neg (by simpa using hd),wrap_succ h hx.small]
       exact l32 hx hw k (i + 1) (by omega) (by omega) (by rw [← hv]; simp [hd])
   · rw [if_neg (by simpa using h)]
     refine ret_is hw ?_
     rw [List.drop_eq_nil_of_le (by have := hx.len; omega)] at hv
     rw [← hv]; simp [hasDefer]
theorem gives61 {w : World} {A : Option Addr} {l c : Nat} {xs : List Ins} (hx : CodeAt w A l xs) (f0 f1 f2 : Int) : Gives Tryz.prog 61 [.agg ⟨[.int .i64 f0,.int .i64 f1,.int .i64 f2,.slice A l c]⟩] w (.int .i64 (sizeM f1 xs)) := by
 refine gives_of (V61.sound ?_)
 intro q _
 refine ⟨l + 1, ?_⟩
 show V61.l0 _ _ _ (IntKind.wrap .i64 (IntKind.wrap .i64 (7 + clampL f1) + 8)) _ _ _ _ _ _
 rw [(size_wraps f1).1]
 exact l32 hx (Below.refl _ _) (l + 1) 0 (by omega) (by omega) rfl
theorem gives108 {w : World} {A : Option Addr} {l c : Nat} {xs : List Ins} (hx : CodeAt w A l xs) (f0 f1 f2 : Int) : Gives Tryz.prog 108 [.agg ⟨[.int .i64 f0,.int .i64 f1,.int .i64 f2,.slice A l c]⟩] w (.int .i64 (sizeM f1 xs)) := by
 refine gives_of (V108.sound ?_)
 intro q _
 refine call_gives (Below.refl _ _) (fun w1 _ hb => gives157 (hx.keep hb) f0 f1 f2) fun w1 _ hb => ⟨_,rfl, ?_⟩
 show if hasDefer xs = true then Ret _ _ (IsV w (.int .i64 (sizeM f1 xs)) (.int .i64 (IntKind.wrap .i64 (IntKind.wrap .i64 (IntKind.wrap .i64 (7 + clampL f1) + 8) + 16)))) else Ret _ _ (IsV w (.int .i64 (sizeM f1 xs)) (.int .i64 (IntKind.wrap .i64 (IntKind.wrap .i64 (7 + clampL f1) + 8))))
 rw [(size_wraps f1).1,(size_wraps f1).2]
 by_cases hd : hasDefer xs = true
 · rw [if_pos hd]; exact ret_is hb (by unfold sizeM; rw [if_pos hd]; congr 1; omega)
 · rw [if_neg hd]; exact ret_is hb (by unfold sizeM; rw [if_neg hd,Int.add_zero])
end Go.Proofs.YtidcpndlloppdaaGreat
