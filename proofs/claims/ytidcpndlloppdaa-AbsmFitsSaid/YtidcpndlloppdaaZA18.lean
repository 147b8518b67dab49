import Derived.Test.YtidcpndlloppdaaZEngD
import Derived.Test.YtidcpndlloppdaaZWA
import Derived.Test.YtidcpndlloppdaaZK17
import Derived.Test.YtidcpndlloppdaaZWB
/-
  The arena's functions: what their calls return and leave.
  Conditions: the arena lies in memory as told.
-/
set_option linter.unusedVariables false
set_option linter.unusedSimpArgs false
namespace Go.Proofs.Ytidcpndlloppdaa
open Go.RowKit
def Wd (xs : List Int) : Prop := ∀ x ∈ xs, 0 ≤ x ∧ x < 18446744073709551616
theorem Wd.at {xs : List Int} (h : Wd xs) {i : Nat} {x : Int} (hx : xs[i]? = some x) : 0 ≤ x ∧ x < 18446744073709551616 := h x (List.mem_of_getElem? hx)
section
variable {w w' : World} {g b : Nat} {mem : List Int}
end
section
variable {w : World} {g b : Nat} {mem : List Int}
def sub (mem : List Int) (at_ k : Int) : List Int := (mem.drop at_.toNat).take k.toNat
theorem Wd.set {xs : List Int} (h : Wd xs) (i : Nat) {x : Int} (hx : 0 ≤ x ∧ x < 18446744073709551616) : Wd (xs.set i x) := fun y hy => by
  rcases List.mem_or_eq_of_mem_set hy with hy | rfl
  · exact h y hy
  · exact hx
end
end Go.Proofs.Ytidcpndlloppdaa
set_option linter.unusedVariables false
set_option linter.unusedSimpArgs false
namespace Go.Proofs.Ytidcpndlloppdaa
open Go.RowKit
theorem owns_base {w : World} {B B' : Nat} {e : TypeId} {size : Nat} {v : Value} {n : Nat} {xs : List Value} (h : w.ownsRow B e size v n xs) (hB : B' ≤ B) : w.ownsRow B' e size v n xs := by
  refine ⟨h.1, ?_⟩
  rcases h.2 with hn | ⟨g, cap, cur, rfl, hb, rest⟩
  · exact .inl hn
  · exact .inr ⟨g, cap, cur, rfl, Nat.le_trans hB hb, rest⟩
abbrev OwnWs (w : World) (B : Nat) (v : Value) (xs : List Int) : Prop := w.ownsRow B 28 1 v xs.length (xs.map (.int .u64))
theorem ownws_nums {w : World} {B : Nat} {v : Value} {xs : List Int} (h : OwnWs w B v xs) (hl : xs.length ≤ 17592186044416) : ∃ A c, v = .slice A xs.length c ∧ Nums .u64 w A xs.length xs ∧ ∀ p, A = some p → B ≤ p.block := by
  obtain ⟨A, c, hv, hn, hb⟩ := owns_nums h (by simp only [maxLen]; omega)
  exact ⟨A, c, hv, hn, fun p hp => (h.lt _ (hb p hp)).1⟩
section
variable {w : World} {g b : Nat} {mem : List Int}
end
end Go.Proofs.Ytidcpndlloppdaa
set_option linter.unusedVariables false
set_option linter.unusedSimpArgs false
namespace Go.Proofs.Ytidcpndlloppdaa
open Go.RowKit
theorem zeros_cells (n : Nat) : madeCells (Value.int .u64 0).cells (n * 1) = ((List.replicate n (0 : Int)).map (Value.int .u64)).toArray := by
  apply Array.toList_inj.1
  rw [Nat.mul_one]
  simp only [madeCells, Array.toList_map, Array.toList_range, List.map_replicate]
  rw [List.eq_replicate_iff]
  refine ⟨by simp, fun x hx => ?_⟩
  obtain ⟨j, _, rfl⟩ := List.mem_map.1 hx
  simp [Value.cells, Nat.mod_one]
section
variable {w : World} {g b : Nat} {mem : List Int}
end
end Go.Proofs.Ytidcpndlloppdaa
set_option linter.unusedVariables false
set_option linter.unusedSimpArgs false
namespace Go.Proofs.Ytidcpndlloppdaa
open Go.RowKit
structure Dfr where
  f : Int
  args : List Int
structure Frm where
  f : Int
  pc : Int
  mode : Int
  dfd : Bool
  value : Int
  dfs : List Dfr
  locals : List Int
  ops : List Int
def DfrE (w : World) (p : Addr) (d : Dfr) : Prop := w.cell? (p.add 0) = some (.int .i64 d.f) ∧ ∃ A c, w.cell? (p.add 1) = some (.slice A d.args.length c) ∧ Nums .u64 w A d.args.length d.args
theorem DfrE.kept : Kept1 DfrE := fun _ _ _ _ hw h => by
  obtain ⟨h1, A, c, h2, h3⟩ := h
  exact ⟨hw _ _ h1, A, c, hw _ _ h2, RowAt.keep (NumE.kept _) h3 hw⟩
abbrev Dfrs (w : World) (A : Option Addr) (l : Nat) (xs : List Dfr) : Prop := RowAt DfrE 2 w A l xs
structure Sls where
  D : Option Addr
  dc : Nat
  L : Option Addr
  lc : Nat
  O : Option Addr
  oc : Nat
def frmV (x : Frm) (s : Sls) : Value := .agg ⟨[.int .i64 x.f, .int .i64 x.pc, .int .i64 x.mode, .bool x.dfd, .int .u64 x.value, .slice s.D x.dfs.length s.dc, .slice s.L x.locals.length s.lc, .slice s.O x.ops.length s.oc]⟩
structure FrmAt (w : World) (x : Frm) (s : Sls) : Prop where
  dfs : Dfrs w s.D x.dfs.length x.dfs
  locals : Nums .u64 w s.L x.locals.length x.locals
  ops : Nums .u64 w s.O x.ops.length x.ops
theorem FrmAt.keep {w w' : World} {x : Frm} {s : Sls} (h : FrmAt w x s) (hw : ∀ q v, w.cell? q = some v → w'.cell? q = some v) : FrmAt w' x s :=
  ⟨RowAt.keep DfrE.kept h.dfs hw, RowAt.keep (NumE.kept _) h.locals hw, RowAt.keep (NumE.kept _) h.ops hw⟩
def fnV (x : Fnc) (C : Option Addr) (c : Nat) : Value := .agg ⟨[.int .i64 x.params, .int .i64 x.locals, .int .i64 x.refs, .slice C x.code.length c]⟩
def roomM (x : Fnc) : Nat := if hasDefer x.code then 4 else 0
def Sized (p : List Fnc) : Prop := ∀ f ∈ p, sizedF f = true
theorem sized_bd {x : Fnc} (h : sizedF x = true) : 0 ≤ x.params ∧ x.params ≤ 3 ∧ x.params ≤ x.locals ∧ x.locals ≤ 8 ∧ 0 ≤ x.refs ∧ x.refs ≤ x.locals - x.params ∧ 1 ≤ x.code.length ∧ x.code.length ≤ 64 := of_decide_eq_true h
def aheadM (x : Fnc) : Int := 7 + (if hasDefer x.code then 16 else 0)
theorem sizeM_sized {x : Fnc} (h : sizedF x = true) : sizeM x.locals x.code = 15 + x.locals + (if hasDefer x.code then 16 else 0) := by
  have := sized_bd h
  unfold sizeM clampL
  split <;> split <;> split <;> omega
section
variable {w : World} {q : Addr} {l cap : Nat} {f : Nat} {x : Fnc} {C : Option Addr} {c : Nat}
theorem gives47 (hf : f < l) (c0 : w.cell? ((q.add (f * 4)).add 0) = some (.int .i64 x.params)) (c1 : w.cell? ((q.add (f * 4)).add 1) = some (.int .i64 x.locals)) (c2 : w.cell? ((q.add (f * 4)).add 2) = some (.int .i64 x.refs)) (c3 : w.cell? ((q.add (f * 4)).add 3) = some (.slice C x.code.length c)) :
    Gives Try.prog 47 [.agg ⟨[.slice (some q) l cap]⟩, .int .i64 f] w (.tuple ⟨[fnV x C c, .bool (sizedF x)]⟩) := by
  refine gives_of (V47.sound ?_)
  intro q2 _ q4 _
  rw [if_pos (by simp), if_neg (by simp; omega)]
  refine ⟨q, rfl, by omega, by omega, x.params, c0, x.locals, c1, x.refs, c2, C, x.code.length, c, c3, q, rfl, by omega, by omega, x.params, c0, x.locals, c1, x.refs, c2, C, x.code.length, c, c3, ?_⟩
  refine call_gives (Below.refl _ _) (fun w1 e1 _ => gives72 _ _ _ _ _ _ w1) fun w1 e1 hw1 => ⟨_, rfl, e1.cell c0, e1.cell c1, e1.cell c2, e1.cell c3, ret_is hw1 rfl⟩
theorem gives47_out {A : Option Addr} {f : Int} (hf : f < 0 ∨ (l : Int) ≤ f) : Gives Try.prog 47 [.agg ⟨[.slice A l cap]⟩, .int .i64 f] w (.tuple ⟨[.agg ⟨[.int .i64 0, .int .i64 0, .int .i64 0, .slice none 0 0]⟩, .bool false]⟩) := by
  refine gives_of (V47.sound ?_)
  intro q2 _ q4 _
  by_cases h0 : f < 0
  · rw [if_neg (by simpa using h0)]
    exact ret_is (Below.refl _ _) rfl
  · rw [if_pos (by simpa using h0), if_pos (by simp; omega)]
    exact ret_is (Below.refl _ _) rfl
theorem gives48 (hs : sizedF x = true) (hc : CodeAt w C x.code.length x.code) : Gives Try.prog 48 [fnV x C c] w (.tuple ⟨[.int .i64 (aheadM x), .bool (hasDefer x.code)]⟩) := by
  refine gives_of (V48.sound ?_)
  intro q1 _
  have hb := sized_bd hs
  refine call_gives (Below.refl _ _) (fun w1 e1 _ => gives31 (RowAt.keep InsE.kept hc (ext_keeps e1)) _ _ _) fun w1 e1 hw1 => ⟨_, rfl, ret_is hw1 ?_⟩
  rw [sizeM_sized hs]
  unfold aheadM
  cases hasDefer x.code
  · simp only [Bool.false_eq_true, if_false]
    rw [wrap_id (n := 15 + x.locals + 0 - x.locals) (by omega) (by omega), wrap_id (by omega) (by omega)]
    have : 15 + x.locals + 0 - x.locals - 8 = 7 + 0 := by omega
    rw [this]
    rfl
  · simp only [if_true]
    rw [wrap_id (n := 15 + x.locals + 16 - x.locals) (by omega) (by omega), wrap_id (by omega) (by omega)]
    have : 15 + x.locals + 16 - x.locals - 8 = 7 + 16 := by omega
    rw [this]
    rfl
end
def fnAt (p : List Fnc) (f : Int) : Option Fnc := if f < 0 then none else p[f.toNat]?
theorem fnAt_none {p : List Fnc} {f : Int} (h : f < 0 ∨ (p.length : Int) ≤ f) : fnAt p f = none := by
  unfold fnAt
  split
  · rfl
  · exact List.getElem?_eq_none (by omega)
theorem fnAt_some {p : List Fnc} {f : Int} (h : ¬ f < 0) {x : Fnc} (hx : p[f.toNat]? = some x) : fnAt p f = some x := by
  unfold fnAt; rw [if_neg h]; exact hx
def dfrM (p : List Fnc) (d : Dfr) : Bool := match fnAt p d.f with
  | some h => (d.args.length : Int) == h.params
  | none => false
def mayM (p : List Fnc) (x : Frm) : Bool := match fnAt p x.f with
  | some g => decide (0 ≤ x.pc ∧ x.pc ≤ g.code.length ∧ 0 ≤ x.mode ∧ x.mode ≤ 2 ∧ (x.locals.length : Int) = g.locals ∧ x.ops.length ≤ 8 ∧ x.dfs.length ≤ roomM g) && x.dfs.all (dfrM p)
  | none => false
section
variable {w0 : World} {p : List Fnc} {A : Option Addr} {cap : Nat}
theorem l3_29 (hp : ProgAt w0 A p.length p) (hs : Sized p) {D : Option Addr} {dc q2 : Nat} {ds : List Dfr} (hd : Dfrs w0 D ds.length ds) {r : Bool} : ∀ (k i : Nat) (w : World), ds.length < i + k → i ≤ ds.length → Below w0.heap.size w0 w → (ds.drop i).all (dfrM p) = r →
    V29.l3 w0.heap.size (IsV w0 (.bool r)) k D ds.length dc ds.length i q2 A p.length cap w := by
  intro k
  induction k with
  | zero => intros; omega
  | succ k ih =>
    intro i w hk hi hw hr
    dsimp -zeta only [V29.l3]
    by_cases h1 : i < ds.length
    · rw [if_pos (by simpa using h1)]
      obtain ⟨d, a, hx, ha, d0, A', c', d1, _⟩ := (RowAt.keep DfrE.kept hd (below_keeps hw)).at h1
      rw [drop_at hx, List.all_cons] at hr
      refine ⟨a, ha, by omega, by omega, d.f, d0, A', d.args.length, c', d1, ?_⟩
      intro q10 _
      by_cases hin : ¬ d.f < 0 ∧ d.f < p.length
      · obtain ⟨g, q, C, c, hg, hq, c0, c1, c2, c3, hcode⟩ := prog_at (RowAt.keep FncE.kept hp (below_keeps hw)) (i := d.f.toNat) (by omega)
        subst hq
        have hsz := hs g (List.mem_of_getElem? hg)
        have hf : ((d.f.toNat : Nat) : Int) = d.f := Int.toNat_of_nonneg (by omega)
        have h99 := fun (w1 : World) (e1 : Ext w0.heap.size w w1) => gives47 (w := w1) (l := p.length) (cap := cap) (f := d.f.toNat) (x := g) (by omega) (e1.cell c0) (e1.cell c1) (e1.cell c2) (e1.cell c3)
        rw [hf] at h99
        refine call_gives hw (fun w1 e1 _ => h99 w1 e1) fun w1 e1 hw1 => ⟨_, _, _, _, _, _, _, rfl, ?_⟩
        intro q11 _
        rw [hsz, if_pos (by simp)]
        have hdm : dfrM p d = ((d.args.length : Int) == g.params) := by unfold dfrM; rw [fnAt_some hin.1 hg]
        by_cases he : (d.args.length : Int) = g.params
        · rw [if_neg (by simp [he]), wrap_succ h1 hd.small]
          refine ih (i + 1) w1 (by omega) (by omega) hw1 ?_
          rw [← hr, hdm, he]
          simp
        · rw [if_pos (by simpa using he)]
          refine ret_is hw1 (congrArg Value.bool ?_)
          rw [← hr, hdm]
          simp [he]
      · refine call_gives hw (fun w1 e1 _ => gives47_out (by omega)) fun w1 e1 hw1 => ⟨_, _, _, _, _, _, _, rfl, ?_⟩
        intro q11 _
        rw [if_neg (by simp)]
        refine ret_is hw1 (congrArg Value.bool ?_)
        have hdm : dfrM p d = false := by unfold dfrM; rw [fnAt_none (by omega)]
        rw [← hr, hdm]; rfl
    · rw [if_neg (by simpa using h1)]
      refine ret_is hw (congrArg Value.bool ?_)
      rw [← hr, List.drop_eq_nil_of_le (by omega)]; rfl
end
theorem gives29 {w : World} {A : Option Addr} {p : List Fnc} {cap : Nat} (hp : ProgAt w A p.length p) (hs : Sized p) {x : Frm} {s : Sls} (hx : FrmAt w x s) : Gives Try.prog 29 [.agg ⟨[.slice A p.length cap]⟩, frmV x s] w (.bool (mayM p x)) := by
  refine gives_of (V29.sound ?_)
  intro q2 _ q3 _
  by_cases hin : ¬ x.f < 0 ∧ x.f < p.length
  · obtain ⟨g, q, C, c, hg, hq, c0, c1, c2, c3, hcode⟩ := prog_at hp (i := x.f.toNat) (by omega)
    subst hq
    have hsz := hs g (List.mem_of_getElem? hg)
    have hbd := sized_bd hsz
    have hf : ((x.f.toNat : Nat) : Int) = x.f := Int.toNat_of_nonneg (by omega)
    have h99 := fun (w1 : World) (e1 : Ext w.heap.size w w1) => gives47 (w := w1) (l := p.length) (cap := cap) (f := x.f.toNat) (x := g) (by omega) (e1.cell c0) (e1.cell c1) (e1.cell c2) (e1.cell c3)
    rw [hf] at h99
    refine call_gives (Below.refl _ _) (fun w1 e1 _ => h99 w1 e1) fun w1 e1 hw1 => ⟨_, _, _, _, _, _, _, rfl, ?_⟩
    intro q5 _
    rw [hsz, if_neg (by simp)]
    refine call_gives hw1 (fun w2 e2 _ => gives48 hsz (RowAt.keep InsE.kept (RowAt.keep InsE.kept hcode (ext_keeps e1)) (ext_keeps e2))) fun w2 e2 hw2 => ⟨_, _, rfl, ?_⟩
    have hm : mayM p x = (decide (0 ≤ x.pc ∧ x.pc ≤ g.code.length ∧ 0 ≤ x.mode ∧ x.mode ≤ 2 ∧ (x.locals.length : Int) = g.locals ∧ x.ops.length ≤ 8 ∧ x.dfs.length ≤ roomM g) && x.dfs.all (dfrM p)) := by
      unfold mayM; rw [fnAt_some hin.1 hg]
    have no : ¬ (0 ≤ x.pc ∧ x.pc ≤ g.code.length ∧ 0 ≤ x.mode ∧ x.mode ≤ 2 ∧ (x.locals.length : Int) = g.locals ∧ x.ops.length ≤ 8 ∧ x.dfs.length ≤ roomM g) → Ret w.heap.size w2 (IsV w (.bool (mayM p x)) (.bool false)) := fun hn =>
      ret_is hw2 (congrArg Value.bool (by rw [hm, decide_eq_false hn]; rfl))
    have yes : (0 ≤ x.pc ∧ x.pc ≤ g.code.length ∧ 0 ≤ x.mode ∧ x.mode ≤ 2 ∧ (x.locals.length : Int) = g.locals ∧ x.ops.length ≤ 8 ∧ x.dfs.length ≤ roomM g) → V29.b2 w.heap.size (IsV w (.bool (mayM p x))) q3 x.f x.pc x.mode x.dfd x.value s.D x.dfs.length s.dc s.L x.locals.length s.lc s.O x.ops.length s.oc q2 (some q) p.length cap w2 := fun hy =>
      ⟨x.dfs.length + 1, l3_29 hp hs hx.dfs (x.dfs.length + 1) 0 w2 (by omega) (by omega) hw2 (by rw [hm, decide_eq_true hy]; rfl)⟩
    unfold roomM at no yes hm
    by_cases t0 : x.pc < 0
    · rw [if_neg (by simpa using t0)]
      simp only [V29.b0, if_true]
      exact no (by omega)
    · rw [if_pos (by simpa using t0)]
      by_cases t1 : x.pc > g.code.length
      · rw [if_neg (by simpa using t1)]
        simp only [V29.b0, if_true]
        exact no (by omega)
      · rw [if_pos (by simpa using t1)]
        by_cases t2 : x.mode < 0
        · rw [if_neg (by simpa using t2)]
          simp only [V29.b0, if_true]
          exact no (by omega)
        · rw [if_pos (by simpa using t2)]
          unfold V29.b0
          by_cases t3 : x.mode > 2
          · rw [if_pos (by simpa using t3)]
            exact no (by omega)
          · rw [if_neg (by simpa using t3)]
            by_cases t4 : (x.locals.length : Int) = g.locals
            · rw [if_pos (by simpa using t4)]
              by_cases t5 : (x.ops.length : Int) > 8
              · rw [if_neg (by simpa using t5)]
                simp only [V29.b1, if_true]
                exact no (by omega)
              · rw [if_pos (by simpa using t5)]
                unfold V29.b1
                by_cases t6 : (x.dfs.length : Int) > 4
                · rw [if_pos (by simpa using t6)]
                  exact no (by split <;> omega)
                · rw [if_neg (by simpa using t6)]
                  by_cases t7 : (x.dfs.length : Int) > 0
                  · rw [if_pos (by simpa using t7)]
                    cases hdf : hasDefer g.code with
                    | true =>
                      rw [if_neg (by simp)]
                      exact yes (by rw [hdf, if_pos rfl]; omega)
                    | false =>
                      rw [if_pos (by simp)]
                      exact no (by rw [hdf, if_neg (by simp)]; omega)
                  · rw [if_neg (by simpa using t7)]
                    exact yes (by split <;> omega)
            · rw [if_neg (by simpa using t4)]
              simp only [V29.b1, if_true]
              exact no (fun h => t4 h.2.2.2.2.1)
  · refine call_gives (Below.refl _ _) (fun w1 e1 _ => gives47_out (by omega)) fun w1 e1 hw1 => ⟨_, _, _, _, _, _, _, rfl, ?_⟩
    intro q5 _
    rw [if_pos (by simp)]
    exact ret_is hw1 (congrArg Value.bool (by unfold mayM; rw [fnAt_none (by omega)]))
end Go.Proofs.Ytidcpndlloppdaa
set_option linter.unusedVariables false
set_option linter.unusedSimpArgs false
namespace Go.Proofs.Ytidcpndlloppdaa
open Go.RowKit
structure Hd where
  below : Int
  f : Int
  pc : Int
  mode : Int
  dfd : Bool
  value : Int
  dfs : Int
  ops : Int
def hd0 : Hd := ⟨0, 0, 0, 0, false, 0, 0, 0⟩
structure WordsAt (w : World) (A : Option Addr) (l c : Nat) (xs : List Int) : Prop where
  nums : Nums .u64 w A l xs
  wd : Wd xs
  cap : l ≤ c
  small : l ≤ 1000000000
theorem WordsAt.keep {w w' : World} {A : Option Addr} {l c : Nat} {xs : List Int} (h : WordsAt w A l c xs) (hw : ∀ q v, w.cell? q = some v → w'.cell? q = some v) : WordsAt w' A l c xs := ⟨RowAt.keep (NumE.kept _) h.nums hw, h.wd, h.cap, h.small⟩
section
variable {w : World} {g b : Nat} {mem : List Int}
end
end Go.Proofs.Ytidcpndlloppdaa
set_option linter.unusedVariables false
set_option linter.unusedSimpArgs false
namespace Go.Proofs.Ytidcpndlloppdaa
open Go.RowKit
section
variable {w : World} {g b : Nat} {mem : List Int}
end
end Go.Proofs.Ytidcpndlloppdaa
