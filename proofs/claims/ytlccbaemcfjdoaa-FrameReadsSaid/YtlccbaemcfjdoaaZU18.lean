/-
  Layer 18: numbers that are used up, words by numbers: what their calls return and leave.
  Conditions: the numbers lie in memory as told.
-/
import Derived.Test.YtlccbaemcfjdoaaZD18
import Derived.Test.YtlccbaemcfjdoaaZWE
set_option linter.unusedVariables false
set_option linter.unusedSimpArgs false
namespace Go.Proofs.Ytlccbaemcfjdoaa
open Go.RowKit
def NumsIn (wb w : World) (g : Nat) : Prop := ∃ A ln cn ns, w.heap[g]? = some (.cells ⟨[.slice A ln cn]⟩ 70 (0, 0)) ∧ BytesAt wb A ln cn ns
theorem NumsIn.same {wb w w' : World} {g : Nat} (h : NumsIn wb w g) (hg : w'.heap[g]? = w.heap[g]?) : NumsIn wb w' g := by
  obtain ⟨A, ln, cn, ns, h1, h2⟩ := h
  exact ⟨A, ln, cn, ns, by rw [hg]; exact h1, h2⟩
theorem NumsIn.has {wb w : World} {g : Nat} (h : NumsIn wb w g) : ∃ c t f, w.heap[g]? = some (Obj.cells c t f) := by
  obtain ⟨A, ln, cn, ns, h1, _⟩ := h
  exact ⟨_, _, _, h1⟩
theorem NumsIn.ext {wb w w' : World} {g B : Nat} (h : NumsIn wb w g) (he : Ext B w w') : NumsIn wb w' g := by
  obtain ⟨c, t, f, hc⟩ := h.has
  exact h.same (by rw [he.row _ _ _ _ hc, hc])
theorem NumsIn.other {wb w w' : World} {g B : Nat} {S : Nat → Prop} (h : NumsIn wb w g) (he : ExtS B S w w') (hS : ¬ S g) : NumsIn wb w' g := by
  obtain ⟨c, t, f, hc⟩ := h.has
  exact h.same (by rw [he.row _ _ _ _ hS hc, hc])
def TurnsN (f : Nat) (g : Nat) (wb w : World) (args : List Value) (R : Value → Prop) : Prop := Turns Try.prog f args w (fun k => k = g) fun v w' => R v ∧ NumsIn wb w' g
theorem call_n {f : Nat} {args : List Value} {B : Nat} {w wb : World} {bs : List Nat} {g : Nat} {R : Value → Prop} {K : Value → World → Prop} (hB : B ≤ w.heap.size) (hn : NumsIn wb w g) (hc : ∀ w1, Ext B w w1 → TurnsN f g wb w1 args R)
    (hk : ∀ v w', R v → ExtS B (fun k => k = g) w w' → NumsIn wb w' g → K v w') : CallK Try.prog f args B w bs K := by
  refine call_turnsS (S := fun k => k = g) (Q := fun _ v w2 => R v ∧ NumsIn wb w2 g) hB (fun k hk => by subst hk; exact hn.has) hc fun w1 v w2 w' hs hQ hsame he => hk v w' hQ.1 he (hQ.2.same (hsame g (.inl rfl)))
theorem turns51 {wb w : World} {g : Nat} (hn : NumsIn wb w g) (hk : ∀ q v, wb.cell? q = some v → w.cell? q = some v) : TurnsN 51 g wb w [.pointer (some ⟨g, 0, none⟩)] fun v => ∃ n, v = .int .i64 n ∧ 0 ≤ n ∧ n < 256 := by
  refine turns_of (V51.sound ?_)
  obtain ⟨A, ln, cn, ns, hg, hb⟩ := hn
  unfold V51.vc
  simp only [own_add, bx_add, Nat.add_zero, Nat.zero_add]
  have hc : w.cell? ⟨g, 0, none⟩ = some (.slice A ln cn) := at_cell hg rfl
  refine ⟨A, ln, cn, hc, ?_⟩
  by_cases h0 : ln = 0
  · rw [if_pos (by simp [h0])]
    exact ret_t (Chg.refl _ _) fun w1 he => ⟨⟨0, rfl, by omega, by omega⟩, (NumsIn.ext ⟨A, ln, cn, ns, hg, hb⟩ he)⟩
  · rw [if_neg (by simp; omega)]
    obtain ⟨n, q, hnn, hq, hcell⟩ := hb.nums.at (i := 0) (by omega)
    subst hq
    have hbyte := hb.byte n (List.mem_of_getElem? hnn)
    refine ⟨_, ln, cn, hc, q, rfl, by omega, by omega, n, hk _ _ hcell, _, ln, cn, hc, by omega, by omega, ⟨_, hc⟩, at_frozen hg 0, ?_⟩
    have hw : IntKind.wrap .i64 n = n := wrap_id (by omega) (by omega)
    refine ret_t ((Chg.refl _ _).setCell _ fun _ => rfl) fun w1 he => ⟨⟨_, rfl, by rw [hw]; omega, by rw [hw]; omega⟩, ?_⟩
    have hrow := he.row _ _ _ _ (at_set hg 0 (.slice (if cn = 1 then some q else Option.map (fun a => a.add 1) (some q)) (ln - 1) (cn - 1)))
    refine ⟨_, ln - 1, cn - 1, ns.drop 1, hrow, ⟨⟨by simp [hb.nums.len], by have := hb.nums.small; omega, fun i x hx => ?_⟩, fun m hm => hb.byte m (List.mem_of_mem_drop hm), by have := hb.cap; omega⟩⟩
    have hx' : ns[1 + i]? = some x := by rwa [List.getElem?_drop] at hx
    obtain ⟨q', hq', he'⟩ := hb.nums.get (1 + i) x hx'
    cases hq'
    have hlt := (List.getElem?_eq_some_iff.1 hx').1
    have := hb.nums.len
    rw [if_neg (by have := hb.cap; omega)]
    refine ⟨q.add 1, rfl, ?_⟩
    rw [Nat.mul_one] at he' ⊢
    rwa [show (q.add 1).add i = q.add (1 + i) from adr_add _ _ _]
theorem wrap_u64_bd (n : Int) : 0 ≤ IntKind.wrap .u64 n ∧ IntKind.wrap .u64 n < 18446744073709551616 := by
  simp only [IntKind.wrap, IntKind.bits, IntKind.signed]
  simp
  omega
theorem turns98 {wb w : World} {g : Nat} (hn : NumsIn wb w g) (hk : ∀ q v, wb.cell? q = some v → w.cell? q = some v) : TurnsN 98 g wb w [.pointer (some ⟨g, 0, none⟩)] fun v => ∃ n, v = .int .u64 n ∧ 0 ≤ n ∧ n < 18446744073709551616 := by
  refine turns_of (V98.sound ?_)
  unfold V98.vc
  refine call_n (Nat.le_refl _) hn (fun w1 e1 => turns51 (hn.ext e1) fun q v h => e1.cell (hk q v h)) fun v w1 hR e1 hn1 => ?_
  obtain ⟨x, rfl, hx0, hx1⟩ := hR
  refine ⟨x, rfl, by omega, ?_⟩
  have hc1 := e1.chgS (Chg.refl _ w)
  split
  · exact ret_t hc1 fun w2 he => ⟨⟨0, rfl, by omega, by omega⟩, hn1.ext he⟩
  · have t7 : 0 ≤ Int.tmod x 7 ∧ Int.tmod x 7 < 7 := ⟨Int.tmod_nonneg _ hx0, Int.tmod_lt_of_pos _ (by omega)⟩
    refine ⟨by omega, ?_, ret_t hc1 fun w2 he => ⟨⟨_, rfl, wrap_u64_bd _⟩, hn1.ext he⟩⟩
    rw [wrap_id (by omega) (by omega)]; omega
end Go.Proofs.Ytlccbaemcfjdoaa
set_option linter.unusedVariables false
set_option linter.unusedSimpArgs false
namespace Go.Proofs.Ytlccbaemcfjdoaa
open Go.RowKit
theorem extS_then {B g : Nat} {S : Nat → Prop} {ws w w' : World} (h : ExtS B (fun k => k = g) ws w) (k : ExtS B S w w') (hS : ∀ j, S j → ws.heap.size ≤ j) (hB : B ≤ ws.heap.size) : ExtS B (fun k => k = g) ws w' :=
  ⟨k.os.trans h.os, k.tape.trans h.tape, k.output.trans h.output, Nat.le_trans h.size k.size, fun i c t f hi hk => k.row i c t f (fun e => by have := hS i e; have := lt_of_some hk; omega) (h.row i c t f hi hk),
    fun i hi hg => (k.low i hi (fun e => by have := hS i e; omega)).trans (h.low i hi hg)⟩
theorem ExtS.refl (B : Nat) (S : Nat → Prop) (w : World) : ExtS B S w w := ⟨rfl, rfl, rfl, Nat.le_refl _, fun _ _ _ _ _ h => h, fun _ _ _ => rfl⟩
structure FrmOwn (w : World) (B : Nat) (x : Frm) (s : Sls) : Prop where
  dfs : ∃ vs, OwnDs w B (.slice s.D x.dfs.length s.dc) x.dfs vs ∧ ∀ (i : Nat) (u : Value), vs[i]? = some u → ∀ k, u.ownBlock = some k → (Value.slice s.L x.locals.length s.lc).ownBlock ≠ some k ∧ (Value.slice s.O x.ops.length s.oc).ownBlock ≠ some k
  apart : ∀ k, (Value.slice s.L x.locals.length s.lc).ownBlock = some k → (Value.slice s.O x.ops.length s.oc).ownBlock ≠ some k
  locals : OwnWs w B (.slice s.L x.locals.length s.lc) x.locals
  ops : OwnWs w B (.slice s.O x.ops.length s.oc) x.ops
theorem FrmOwn.ext {w w' : World} {B B' : Nat} {x : Frm} {s : Sls} (h : FrmOwn w B x s) (he : Ext B' w w') : FrmOwn w' B x s := by
  obtain ⟨vs, hv, ha⟩ := h.dfs
  exact ⟨⟨vs, hv.ext he, ha⟩, h.apart, he.owns h.locals, he.owns h.ops⟩
theorem OwnDs.extS {B B' : Nat} {S : Nat → Prop} {w w' : World} {v : Value} {ds : List Dfr} {vs : List Value} (h : OwnDs w B v ds vs) (he : ExtS B' S w w') (hS : ∀ k, B ≤ k → ¬ S k) : OwnDs w' B v ds vs :=
  ⟨he.owns h.row fun k hk => hS k (h.row.lt k hk).1, h.len, fun i d u hd hu => he.owns (h.args i d u hd hu) fun k hk => hS k ((h.args i d u hd hu).lt k hk).1⟩
theorem FrmOwn.extS {w w' : World} {B B' : Nat} {S : Nat → Prop} {x : Frm} {s : Sls} (h : FrmOwn w B x s) (he : ExtS B' S w w') (hS : ∀ k, B ≤ k → ¬ S k) : FrmOwn w' B x s := by
  obtain ⟨vs, hv, ha⟩ := h.dfs
  exact ⟨⟨vs, hv.extS he hS, ha⟩, h.apart, he.owns h.locals fun k hk => hS k (h.locals.lt k hk).1, he.owns h.ops fun k hk => hS k (h.ops.lt k hk).1⟩
theorem FrmOwn.at {w : World} {B : Nat} {x : Frm} {s : Sls} (h : FrmOwn w B x s) (h1 : x.dfs.length ≤ 1000000) (h2 : ∀ d ∈ x.dfs, d.args.length ≤ 1000000) (h3 : x.locals.length ≤ 1000000) (h4 : x.ops.length ≤ 1000000) : FrmAt (newW B w) x s := by
  obtain ⟨vs, hv, _⟩ := h.dfs
  obtain ⟨A, c, e1, k1⟩ := hv.dfs h1 h2
  obtain ⟨A', c', e2, k2⟩ := ownws_new h.locals (by omega)
  obtain ⟨A'', c'', e3, k3⟩ := ownws_new h.ops (by omega)
  cases e1; cases e2; cases e3
  exact ⟨k1, k2, k3⟩
theorem FrmOwn.base {w : World} {B B' : Nat} {x : Frm} {s : Sls} (h : FrmOwn w B x s) (hB : B' ≤ B) : FrmOwn w B' x s := by
  obtain ⟨vs, hv, ha⟩ := h.dfs
  exact ⟨⟨vs, ⟨owns_base hv.row hB, hv.len, fun i d u hd hu => owns_base (hv.args i d u hd hu) hB⟩, ha⟩, h.apart, owns_base h.locals hB, owns_base h.ops hB⟩
def FrameR (p : List Fnc) (wb : World) (g : Nat) (w0 : World) : Value → World → Prop := fun v w' => (∃ x s, v = frmV x s ∧ mayM p x = true ∧ FrmWd x ∧ FrmOwn w' w0.heap.size x s) ∧ NumsIn wb w' g
section
variable {w0 wb : World} {g : Nat} {p : List Fnc} {F : Fnc} {f pc mode value : Int} {dfd : Bool}
theorem keepB (hwb : ∀ q v, wb.cell? q = some v → (off g w0).cell? q = some v) {w1 : World} (hc : Chg (fun k => k = g) w0 w1) : ∀ q v, wb.cell? q = some v → w1.cell? q = some v := fun q v h => (off_cell.1 (chg_off hc q v (hwb q v h))).1
theorem l6_48 (hwb : ∀ q v, wb.cell? q = some v → (off g w0).cell? q = some v) (hg : g < w0.heap.size) (hF : fnAt p f = some F) (hpc : 0 ≤ pc ∧ pc ≤ F.code.length) (hmode : 0 ≤ mode ∧ mode ≤ 2) (hval : 0 ≤ value ∧ value < 18446744073709551616)
    {D L : Option Addr} {dc lc : Nat} {ds : List Dfr} {vs : List Value} {locs : List Int} (hds4 : ds.length ≤ roomM F) (hdm : ∀ d ∈ ds, dfrM p d = true) (hdw : ∀ d ∈ ds, Wd d.args) (hll : (locs.length : Int) = F.locals) (hlw : Wd locs)
    {ws : World} (hcs : Chg (fun k => k = g) w0 ws) (hD : OwnDs ws w0.heap.size (.slice D ds.length dc) ds vs) (hL : OwnWs ws w0.heap.size (.slice L locs.length lc) locs) (hLA : ∀ (i : Nat) (u : Value), vs[i]? = some u → ∀ k, u.ownBlock = some k → (Value.slice L locs.length lc).ownBlock ≠ some k)
    {q4 q5 : Nat} : ∀ (k : Nat) (i : Int) (w : World) (ops : List Int) (O : Option Addr) (oc : Nat), 0 ≤ i → i < k → i + ops.length ≤ 8 → ExtS w0.heap.size (fun k => k = g) ws w → Wd ops → w.ownsRow ws.heap.size 51 1 (.slice O ops.length oc) ops.length (ops.map (.int .u64)) → NumsIn wb w g →
      V48.l6 w0.heap.size (IsT w0 (fun k => k = g) (FrameR p wb g w0)) k ⟨g, 0, none⟩ i q5 f pc mode dfd value D ds.length dc L locs.length lc O ops.length oc q4 0 0 0 false 0 none 0 0 none 0 0 none 0 0 w := by
  intro k
  induction k with
  | zero => intros; omega
  | succ k ih =>
    intro i w ops O oc hi0 hik hi8 hE hw ho hn
    have hc : Chg (fun k => k = g) w0 w := hE.chgS hcs
    dsimp -zeta only [V48.l6]
    by_cases hpos : i > 0
    · rw [if_pos (by simpa using hpos)]
      refine call_n hc.size hn (fun w1 e1 => turns98 (hn.ext e1) (keepB hwb (ext_chg hc e1))) fun v w1 hR e1 hn1 => ?_
      obtain ⟨y, rfl, hy⟩ := hR
      refine ⟨y, rfl, ?_⟩
      have hE1 : ExtS w0.heap.size (fun k => k = g) ws w1 := hE.trans e1
      have ho1 := e1.owns ho fun k hk e => by subst e; have := (ho.lt k hk).1; have := hcs.size; omega
      refine push_word (b0 := ws.heap.size) (hE1.chgS hcs).size hE1.size ho1 (by omega) fun v2 w2 e2 ho2 => ?_
      obtain ⟨O2, oc2, hv2⟩ := owns_slice0 ho2
      subst hv2
      refine ⟨O2, _, oc2, rfl, ?_⟩
      rw [wrap_id (n := i - 1) (by omega) (by omega)]
      have hl2 : (ops ++ [y]).length = ops.length + 1 := by simp
      have := ih (i - 1) w2 (ops ++ [y]) O2 oc2 (by omega) (by omega) (by rw [hl2]; omega) (extS_then hE1 e2 (fun j hj => (ho1.lt j hj).1) hcs.size) (fun z hz => by
        rcases List.mem_append.1 hz with hz | hz
        · exact hw z hz
        · simp at hz; subst hz; exact hy) (by rw [hl2]; exact ho2) (hn1.other e2 fun e => by have := (ho1.lt g e).1; have := hcs.size; omega)
      rw [hl2] at this
      exact this
    · rw [if_neg (by simpa using hpos)]
      refine ret_t hc fun w1 he => ⟨⟨⟨f, pc, mode, dfd, value, ds, locs, ops⟩, ⟨D, dc, L, lc, O, oc⟩, rfl, ?_, ⟨hval, hlw, hw, hdw⟩, ?_⟩, hn.ext he⟩
      · unfold mayM
        simp only [hF]
        rw [decide_eq_true (by omega), Bool.true_and]
        exact List.all_eq_true.2 hdm
      · have hgk : ∀ k, w0.heap.size ≤ k → ¬ k = g := fun k hk e => by omega
        have hargs : ∀ (i : Nat) (u : Value), vs[i]? = some u → ∀ k, u.ownBlock = some k → k < ws.heap.size := fun i u hu k hk => by
          have hi := (List.getElem?_eq_some_iff.1 hu).1
          exact ((hD.args i _ u (List.getElem?_eq_getElem (show i < ds.length by rw [← hD.len]; exact hi)) hu).lt k hk).2
        exact (⟨⟨vs, hD.extS hE hgk, fun i u hu k hk => ⟨hLA i u hu k hk, fun e => by have := hargs i u hu k hk; have := (ho.lt k e).1; omega⟩⟩, fun k hk e => by have := (hL.lt k hk).2; have := (ho.lt k e).1; omega, hE.owns hL fun k hk => hgk k (hL.lt k hk).1, owns_base ho hcs.size⟩ : FrmOwn w w0.heap.size ⟨f, pc, mode, dfd, value, ds, locs, ops⟩ ⟨D, dc, L, lc, O, oc⟩).ext he
theorem l5_48 (hwb : ∀ q v, wb.cell? q = some v → (off g w0).cell? q = some v) (hg : g < w0.heap.size) (hF : fnAt p f = some F) (hFs : sizedF F = true) (hpc : 0 ≤ pc ∧ pc ≤ F.code.length) (hmode : 0 ≤ mode ∧ mode ≤ 2) (hval : 0 ≤ value ∧ value < 18446744073709551616)
    {D C : Option Addr} {dc cc : Nat} {ds : List Dfr} {vs : List Value} (hds4 : ds.length ≤ roomM F) (hdm : ∀ d ∈ ds, dfrM p d = true) (hdw : ∀ d ∈ ds, Wd d.args)
    {ws : World} (hcs : Chg (fun k => k = g) w0 ws) (hD : OwnDs ws w0.heap.size (.slice D ds.length dc) ds vs)
    {q4 q5 q6 : Nat} : ∀ (k i : Nat) (w : World) (locs : List Int) (L : Option Addr) (lc : Nat), F.locals < i + k → i ≤ F.locals → locs.length = i → ExtS w0.heap.size (fun k => k = g) ws w → Wd locs → w.ownsRow ws.heap.size 51 1 (.slice L i lc) i (locs.map (.int .u64)) → NumsIn wb w g →
      V48.l5 w0.heap.size (IsT w0 (fun k => k = g) (FrameR p wb g w0)) k ⟨g, 0, none⟩ i q6 F.params F.locals F.refs C F.code.length cc q5 f pc mode dfd value D ds.length dc L i lc none 0 0 q4 0 0 0 false 0 none 0 0 none 0 0 none 0 0 w := by
  have hbd := sized_bd hFs
  have hgk : ∀ k, w0.heap.size ≤ k → ¬ k = g := fun k hk e => by omega
  intro k
  induction k with
  | zero => intros; omega
  | succ k ih =>
    intro i w locs L lc hik hi hl hE hw ho hn
    have hc : Chg (fun k => k = g) w0 w := hE.chgS hcs
    dsimp -zeta only [V48.l5]
    by_cases hlt : (i : Int) < F.locals
    · rw [if_pos (by simpa using hlt)]
      refine call_n hc.size hn (fun w1 e1 => turns98 (hn.ext e1) (keepB hwb (ext_chg hc e1))) fun v w1 hR e1 hn1 => ?_
      obtain ⟨y, rfl, hy⟩ := hR
      refine ⟨y, rfl, ?_⟩
      have hE1 : ExtS w0.heap.size (fun k => k = g) ws w1 := hE.trans e1
      have ho1 := e1.owns ho fun k hk e => by subst e; have := (ho.lt k hk).1; have := hcs.size; omega
      refine push_word (b0 := ws.heap.size) (hE1.chgS hcs).size hE1.size ho1 (by omega) fun v2 w2 e2 ho2 => ?_
      obtain ⟨L2, lc2, hv2⟩ := owns_slice0 ho2
      subst hv2
      refine ⟨L2, _, lc2, rfl, ?_⟩
      have hwi : IntKind.wrap .i64 ((i : Int) + 1) = ((i + 1 : Nat) : Int) := by rw [wrap_id (by omega) (by omega)]; rfl
      rw [hwi]
      exact ih (i + 1) w2 (locs ++ [y]) L2 lc2 (by push_cast; omega) (by push_cast; omega) (by simp [hl]) (extS_then hE1 e2 (fun j hj => (ho1.lt j hj).1) hcs.size) (fun z hz => by
        rcases List.mem_append.1 hz with hz | hz
        · exact hw z hz
        · simp at hz; subst hz; exact hy) ho2 (hn1.other e2 fun e => by have := (ho1.lt g e).1; have := hcs.size; omega)
    · rw [if_neg (by simpa using hlt)]
      refine call_n hc.size hn (fun w1 e1 => turns51 (hn.ext e1) (keepB hwb (ext_chg hc e1))) fun v w1 hR e1 hn1 => ?_
      obtain ⟨y, rfl, hy0, hy1⟩ := hR
      have t9 : 0 ≤ Int.tmod y 9 ∧ Int.tmod y 9 < 9 := ⟨Int.tmod_nonneg _ hy0, Int.tmod_lt_of_pos _ (by omega)⟩
      have hE1 : ExtS w0.heap.size (fun k => k = g) ws w1 := hE.trans e1
      have hc1 := hE1.chgS hcs
      subst hl
      have hL1 : OwnWs w1 w0.heap.size (.slice L locs.length lc) locs := e1.owns (owns_base ho hcs.size) fun k hk => hgk k (Nat.le_trans hcs.size (ho.lt k hk).1)
      have hLA : ∀ (i : Nat) (u : Value), vs[i]? = some u → ∀ k, u.ownBlock = some k → (Value.slice L locs.length lc).ownBlock ≠ some k := fun i u hu k hk e => by
        have hi := (List.getElem?_eq_some_iff.1 hu).1
        have := ((hD.args i _ u (List.getElem?_eq_getElem (show i < ds.length by rw [← hD.len]; exact hi)) hu).lt k hk).2
        have := (ho.lt k e).1
        omega
      refine ⟨y, rfl, by omega, (Int.tmod y 9).toNat + 1, ?_⟩
      exact l6_48 hwb hg hF hpc hmode hval hds4 hdm hdw (by omega) hw (ws := w1) hc1 (hD.extS hE1 hgk) hL1 hLA ((Int.tmod y 9).toNat + 1) (Int.tmod y 9) w1 [] none 0 t9.1 (by omega) (by simp; omega) (ExtS.refl _ _ _) (fun z hz => by cases hz) (World.ownsRow_nil _ _ _ _) hn1
theorem l1_48 (hwb : ∀ q v, wb.cell? q = some v → (off g w0).cell? q = some v) (hg : g < w0.heap.size) (hs : Sized p) (hpl : 1 ≤ p.length ∧ p.length ≤ 1000) {P : Option Addr} {cap : Nat} (hp : ProgAt (off g w0) P p.length p) (hF : fnAt p f = some F) (hFs : sizedF F = true) (hroom : roomM F = 4) (hpc : 0 ≤ pc ∧ pc ≤ F.code.length) (hmode : 0 ≤ mode ∧ mode ≤ 2) (hval : 0 ≤ value ∧ value < 18446744073709551616)
    {C : Option Addr} {cc : Nat} {q3 q4 q5 q6 : Nat} : ∀ (k : Nat) (i : Int) (w : World) (ds : List Dfr) (vs : List Value) (D : Option Addr) (dc : Nat), 0 ≤ i → i < k → i + ds.length ≤ 4 → (∀ d ∈ ds, dfrM p d = true) → (∀ d ∈ ds, Wd d.args) → Chg (fun k => k = g) w0 w → OwnDs w w0.heap.size (.slice D ds.length dc) ds vs → NumsIn wb w g →
      V48.l1 w0.heap.size (IsT w0 (fun k => k = g) (FrameR p wb g w0)) k ⟨g, 0, none⟩ i q6 F.params F.locals F.refs C F.code.length cc q5 f pc mode dfd value D ds.length dc none 0 0 none 0 0 q4 0 0 0 false 0 none 0 0 none 0 0 none 0 0 q3 P p.length cap w := by
  have hbd := sized_bd hFs
  have hgk : ∀ k, w0.heap.size ≤ k → ¬ k = g := fun k hk e => by omega
  intro k
  induction k with
  | zero => intros; omega
  | succ k ih =>
    intro i w ds vs D dc hi0 hik hi4 hdm hdw hc hD hn
    dsimp -zeta only [V48.l1]
    by_cases hpos : i > 0
    · rw [if_pos (by simpa using hpos)]
      have body : ∀ (x : Int) (q8 : Nat) (w1 : World), 0 ≤ x → x < 256 → Chg (fun k => k = g) w0 w1 → OwnDs w1 w0.heap.size (.slice D ds.length dc) ds vs → NumsIn wb w1 g →
          V48.b2 w0.heap.size (IsT w0 (fun k => k = g) (FrameR p wb g w0)) (V48.l1 w0.heap.size (IsT w0 (fun k => k = g) (FrameR p wb g w0)) k) ⟨g, 0, none⟩ i q8 (Int.tmod x p.length) none 0 0 q6 F.params F.locals F.refs C F.code.length cc q5 f pc mode dfd value D ds.length dc none 0 0 none 0 0 q4 0 0 0 false 0 none 0 0 none 0 0 none 0 0 q3 P p.length cap w1 := by
        intro x q8 w1 hx0 hx1 hc1 hD1 hn1
        have tp : 0 ≤ Int.tmod x p.length ∧ Int.tmod x p.length < p.length := ⟨Int.tmod_nonneg _ hx0, Int.tmod_lt_of_pos _ (by omega)⟩
        generalize Int.tmod x p.length = d at tp ⊢
        obtain ⟨H, q, CH, ch, hH, hq, k0, _, _, _, _⟩ := prog_at hp (i := d.toNat) (by omega)
        have hHb := sized_bd (hs H (List.mem_of_getElem? hH))
        have hHf := fnAt_some (p := p) (show ¬ d < 0 by omega) hH
        unfold V48.b2
        refine ⟨H.params.toNat + 1, ?_⟩
        have loop3 : ∀ (m j : Nat) (w2 : World) (ar : List Int) (E : Option Addr) (ec : Nat), H.params.toNat < j + m → j ≤ H.params.toNat → ar.length = j → Wd ar → ExtS w0.heap.size (fun k => k = g) w1 w2 → w2.ownsRow w1.heap.size 51 1 (.slice E j ec) j (ar.map (.int .u64)) → NumsIn wb w2 g →
            V48.l3 w0.heap.size (IsT w0 (fun k => k = g) (FrameR p wb g w0)) (V48.l1 w0.heap.size (IsT w0 (fun k => k = g) (FrameR p wb g w0)) k) m ⟨g, 0, none⟩ i j q8 d E j ec q6 F.params F.locals F.refs C F.code.length cc q5 f pc mode dfd value D ds.length dc none 0 0 none 0 0 q4 0 0 0 false 0 none 0 0 none 0 0 none 0 0 q3 P p.length cap w2 := by
          intro m
          induction m with
          | zero => intros; omega
          | succ m ihm =>
            intro j w2 ar E ec hmj hj hal haw hE2 ho hn2
            have hc2 := hE2.chgS hc1
            dsimp -zeta only [V48.l3]
            refine ⟨q, hq, by omega, by omega, H.params, (off_cell.1 (chg_off hc2 _ _ k0)).1, ?_⟩
            by_cases hjl : (j : Int) < H.params
            · rw [if_pos (by simpa using hjl)]
              refine call_n hc2.size hn2 (fun w3 e3 => turns98 (hn2.ext e3) (keepB hwb (ext_chg hc2 e3))) fun v w3 hR e3 hn3 => ?_
              obtain ⟨y, rfl, hy⟩ := hR
              refine ⟨y, rfl, ?_⟩
              have hE3 : ExtS w0.heap.size (fun k => k = g) w1 w3 := hE2.trans e3
              have ho3 := e3.owns ho fun k hk e => by subst e; have := (ho.lt k hk).1; have := hc1.size; omega
              refine push_word (b0 := w1.heap.size) (hE3.chgS hc1).size hE3.size ho3 (by omega) fun v4 w4 e4 ho4 => ?_
              obtain ⟨E4, ec4, hv4⟩ := owns_slice0 ho4
              subst hv4
              refine ⟨E4, _, ec4, rfl, ?_⟩
              have hwj : IntKind.wrap .i64 ((j : Int) + 1) = ((j + 1 : Nat) : Int) := by rw [wrap_id (by omega) (by omega)]; rfl
              rw [hwj]
              exact ihm (j + 1) w4 (ar ++ [y]) E4 ec4 (by omega) (by omega) (by simp [hal]) (fun z hz => by
                rcases List.mem_append.1 hz with hz | hz
                · exact haw z hz
                · simp at hz; subst hz; exact hy) (extS_then hE3 e4 (fun j hj => (ho3.lt j hj).1) hc1.size) ho4 (hn3.other e4 fun e => by have := (ho3.lt g e).1; have := hc1.size; omega)
            · rw [if_neg (by simpa using hjl)]
              subst hal
              have hov : OwnWs w2 w0.heap.size (.slice E ar.length ec) (⟨d, ar⟩ : Dfr).args := owns_base ho hc1.size
              have hD2 := hD1.extS hE2 hgk
              refine push_dfr (b0 := w0.heap.size) (d := ⟨d, ar⟩) (ds := ds) (vs := vs) hc2.size hc2.size hD2 hov (by omega) fun v4 w4 e4 hD4 => ?_
              obtain ⟨D4, dc4, hv4⟩ := owns_slice0 hD4.row
              subst hv4
              refine ⟨D4, _, dc4, rfl, ?_⟩
              rw [wrap_id (n := i - 1) (by omega) (by omega)]
              have hdl : (ds ++ [(⟨d, ar⟩ : Dfr)]).length = ds.length + 1 := by simp
              refine ih (i - 1) w4 _ _ D4 dc4 (by omega) (by omega) (by rw [hdl]; push_cast; omega) (fun y hy => ?_) (fun y hy => ?_) (e4.chg hc2 fun j hj hjo => by have := (hD2.row.lt j hjo).1; omega) hD4 (hn2.other e4 fun e => by have := (hD2.row.lt g e).1; omega)
              · rcases List.mem_append.1 hy with hy | hy
                · exact hdm y hy
                · simp at hy; subst hy
                  unfold dfrM
                  simp only [hHf]
                  simp; omega
              · rcases List.mem_append.1 hy with hy | hy
                · exact hdw y hy
                · simp at hy; subst hy; exact haw
        exact loop3 (H.params.toNat + 1) 0 w1 [] none 0 (by omega) (by omega) rfl (fun z hz => by cases hz) (ExtS.refl _ _ _) (World.ownsRow_nil _ _ _ _) hn1
      refine ⟨?_, fun q8 _ => ?_⟩
      · refine call_n hc.size hn (fun w1 e1 => turns51 (hn.ext e1) (keepB hwb (ext_chg hc e1))) fun v w1 hR e1 hn1 => ?_
        obtain ⟨x, rfl, hx0, hx1⟩ := hR
        refine ⟨x, rfl, by omega, fun q8 _ => ?_⟩
        exact body x q8 w1 hx0 hx1 (e1.chgS hc) (hD.extS e1 hgk) hn1
      · refine call_n hc.size hn (fun w1 e1 => turns51 (hn.ext e1) (keepB hwb (ext_chg hc e1))) fun v w1 hR e1 hn1 => ?_
        obtain ⟨x, rfl, hx0, hx1⟩ := hR
        exact ⟨x, rfl, by omega, body x q8 w1 hx0 hx1 (e1.chgS hc) (hD.extS e1 hgk) hn1⟩
    · rw [if_neg (by simpa using hpos)]
      unfold V48.b4
      have hln : ((F.locals.toNat : Nat) : Int) = F.locals := Int.toNat_of_nonneg (by omega)
      exact ⟨F.locals.toNat + 1, l5_48 hwb hg hF hFs hpc hmode hval (by omega) hdm hdw hc hD (F.locals.toNat + 1) 0 w [] none 0 (by push_cast; omega) (by push_cast; omega) rfl (ExtS.refl _ _ _) (fun z hz => by cases hz) (World.ownsRow_nil _ _ _ _) hn⟩
end
theorem turns48 {w wb : World} {g : Nat} {P : Option Addr} {cap : Nat} {p : List Fnc} (hn : NumsIn wb w g) (hwb : ∀ q v, wb.cell? q = some v → (off g w).cell? q = some v) (hp : ProgAt (off g w) P p.length p) (hs : Sized p) (hpl : 1 ≤ p.length ∧ p.length ≤ 1000) :
    Turns Try.prog 48 [.pointer (some ⟨g, 0, none⟩), .agg ⟨[.slice P p.length cap]⟩] w (fun k => k = g) (FrameR p wb g w) := by
  refine turns_of (V48.sound ?_)
  intro q3 _ q4 _
  have hg : g < w.heap.size := by obtain ⟨c, t, f, h⟩ := hn.has; exact lt_of_some h
  have hgk : ∀ k, w.heap.size ≤ k → ¬ k = g := fun k hk e => by omega
  have body : ∀ (x : Int) (q5 : Nat) (w1 : World), 0 ≤ x → x < 256 → Chg (fun k => k = g) w w1 → NumsIn wb w1 g →
      V48.b0 w.heap.size (IsT w (fun k => k = g) (FrameR p wb g w)) ⟨g, 0, none⟩ q5 (Int.tmod x p.length) 0 0 false 0 none 0 0 none 0 0 none 0 0 q4 0 0 0 false 0 none 0 0 none 0 0 none 0 0 q3 P p.length cap w1 := by
    intro x q5 w1 hx0 hx1 hc1 hn1
    have tp : 0 ≤ Int.tmod x p.length ∧ Int.tmod x p.length < p.length := ⟨Int.tmod_nonneg _ hx0, Int.tmod_lt_of_pos _ (by omega)⟩
    generalize Int.tmod x p.length = f at tp ⊢
    obtain ⟨F, q, C, cc, hF, hq, c0, c1, c2, c3, hcode⟩ := prog_at hp (i := f.toNat) (by omega)
    have hFs := hs F (List.mem_of_getElem? hF)
    have hbd := sized_bd hFs
    have hfn := fnAt_some (p := p) (show ¬ f < 0 by omega) hF
    have at_ : ∀ {w'} {a : Addr} {v : Value}, Chg (fun k => k = g) w w' → (off g w).cell? a = some v → w'.cell? a = some v := fun hc h => (off_cell.1 (chg_off hc _ _ h)).1
    unfold V48.b0
    refine ⟨q, hq, by omega, by omega, F.params, at_ hc1 c0, F.locals, at_ hc1 c1, F.refs, at_ hc1 c2, C, F.code.length, cc, at_ hc1 c3, ?_⟩
    intro q6 _
    refine call_n hc1.size hn1 (fun w2 e2 => turns51 (hn1.ext e2) (keepB hwb (ext_chg hc1 e2))) fun v w2 hR e2 hn2 => ?_
    obtain ⟨y2, rfl, y20, y21⟩ := hR
    have hc2 := e2.chgS hc1
    rw [wrap_id (n := (F.code.length : Int) + 1) (by omega) (by omega)]
    refine ⟨y2, rfl, by omega, ?_⟩
    refine call_n hc2.size hn2 (fun w3 e3 => turns51 (hn2.ext e3) (keepB hwb (ext_chg hc2 e3))) fun v w3 hR e3 hn3 => ?_
    obtain ⟨y3, rfl, y30, y31⟩ := hR
    have hc3 := e3.chgS hc2
    refine ⟨y3, rfl, by omega, ?_⟩
    refine call_n hc3.size hn3 (fun w4 e4 => turns51 (hn3.ext e4) (keepB hwb (ext_chg hc3 e4))) fun v w4 hR e4 hn4 => ?_
    obtain ⟨y4, rfl, y40, y41⟩ := hR
    have hc4 := e4.chgS hc3
    refine ⟨y4, rfl, by omega, ?_⟩
    refine call_n hc4.size hn4 (fun w5 e5 => turns98 (hn4.ext e5) (keepB hwb (ext_chg hc4 e5))) fun v w5 hR e5 hn5 => ?_
    obtain ⟨y5, rfl, y50⟩ := hR
    have hc5 := e5.chgS hc4
    refine ⟨y5, rfl, ?_⟩
    have tpc : 0 ≤ Int.tmod y2 ((F.code.length : Int) + 1) ∧ Int.tmod y2 ((F.code.length : Int) + 1) < (F.code.length : Int) + 1 := ⟨Int.tmod_nonneg _ y20, Int.tmod_lt_of_pos _ (by omega)⟩
    have tmo : 0 ≤ Int.tmod y3 3 ∧ Int.tmod y3 3 < 3 := ⟨Int.tmod_nonneg _ y30, Int.tmod_lt_of_pos _ (by omega)⟩
    have hcode5 : CodeAt w5 C F.code.length F.code := RowAt.keep InsE.kept (RowAt.keep InsE.kept hcode (chg_off hc5)) off_in
    refine call_givesX hc5.size (fun w6 e6 => gives84 (RowAt.keep InsE.kept hcode5 (ext_keeps e6)) _ _ _) fun w6 e6 => ⟨_, rfl, ?_⟩
    have hc6 := ext_chg hc5 e6
    have hn6 := hn5.ext e6
    cases hdf : hasDefer F.code with
    | true =>
      rw [if_pos rfl]
      refine call_n hc6.size hn6 (fun w7 e7 => turns51 (hn6.ext e7) (keepB hwb (ext_chg hc6 e7))) fun v w7 hR e7 hn7 => ?_
      obtain ⟨y7, rfl, y70, y71⟩ := hR
      have t5 : 0 ≤ Int.tmod y7 5 ∧ Int.tmod y7 5 < 5 := ⟨Int.tmod_nonneg _ y70, Int.tmod_lt_of_pos _ (by omega)⟩
      refine ⟨y7, rfl, by omega, (Int.tmod y7 5).toNat + 1, ?_⟩
      exact l1_48 hwb hg hs hpl hp hfn hFs (by unfold roomM; rw [hdf]; rfl) ⟨tpc.1, by omega⟩ ⟨tmo.1, by omega⟩ y50 ((Int.tmod y7 5).toNat + 1) (Int.tmod y7 5) w7 [] [] none 0 t5.1 (by omega) (by simp; omega) (fun d hd => by cases hd) (fun d hd => by cases hd) (e7.chgS hc6) (OwnDs.nil _ _) hn7
    | false =>
      rw [if_neg (by simp)]
      unfold V48.b4
      have hln : ((F.locals.toNat : Nat) : Int) = F.locals := Int.toNat_of_nonneg (by omega)
      exact ⟨F.locals.toNat + 1, l5_48 (vs := []) hwb hg hfn hFs ⟨tpc.1, by omega⟩ ⟨tmo.1, by omega⟩ y50 (ds := []) (by simp) (fun d hd => by cases hd) (fun d hd => by cases hd) hc6 (OwnDs.nil _ _) (F.locals.toNat + 1) 0 w6 [] none 0 (by push_cast; omega) (by push_cast; omega) rfl (ExtS.refl _ _ _) (fun z hz => by cases hz) (World.ownsRow_nil _ _ _ _) hn6⟩
  refine ⟨?_, fun q5 _ => ?_⟩
  · refine call_n (Nat.le_refl _) hn (fun w1 e1 => turns51 (hn.ext e1) (keepB hwb (ext_chg (Chg.refl _ _) e1))) fun v w1 hR e1 hn1 => ?_
    obtain ⟨x, rfl, hx0, hx1⟩ := hR
    exact ⟨x, rfl, by omega, fun q5 _ => body x q5 w1 hx0 hx1 (e1.chgS (Chg.refl _ _)) hn1⟩
  · refine call_n (Nat.le_refl _) hn (fun w1 e1 => turns51 (hn.ext e1) (keepB hwb (ext_chg (Chg.refl _ _) e1))) fun v w1 hR e1 hn1 => ?_
    obtain ⟨x, rfl, hx0, hx1⟩ := hR
    exact ⟨x, rfl, by omega, body x q5 w1 hx0 hx1 (e1.chgS (Chg.refl _ _)) hn1⟩
end Go.Proofs.Ytlccbaemcfjdoaa
