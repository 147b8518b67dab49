/-
  Layer 18: frames read, as a plain rule; rows of one's own that grow; memory that is new.
  Conditions: none.
-/
import Derived.Test.YtlccbaemcfjdoaaW18b
set_option linter.unusedVariables false
set_option linter.unusedSimpArgs false
namespace Go.Proofs.Ytlccbaemcfjdoaa
open Go.RowKit

/-! ### Rows of one's own that grow -/
theorem ext_then {B : Nat} {S : Nat → Prop} {ws w w' : World} (h : Ext B ws w) (k : ExtS B S w w') (hS : ∀ j, S j → ws.heap.size ≤ j) (hB : B ≤ ws.heap.size) : Ext B ws w' :=
  ⟨k.os.trans h.os, k.tape.trans h.tape, k.output.trans h.output, Nat.le_trans h.size k.size, fun i c t f hi => k.row i c t f (fun e => by have := hS i e; have := lt_of_some hi; omega) (h.row i c t f hi),
    fun i hi => (k.low i hi (fun e => by have := hS i e; omega)).trans (h.low i hi)⟩
theorem ExtS.ofExt {B : Nat} {S : Nat → Prop} {a b c : World} (h : Ext B a b) (k : ExtS B S b c) : ExtS B S a c := h.toS.trans k
theorem owns_ne {w : World} {B B' : Nat} {e e' : TypeId} {s s' : Nat} {v v' : Value} {n n' : Nat} {xs xs' : List Value} (h : w.ownsRow B e s v n xs) (h' : w.ownsRow B' e' s' v' n' xs') (he : e ≠ e') {k : Nat} (hk : v.ownBlock = some k) : v'.ownBlock ≠ some k := fun hk' => by
  rcases h.2 with ⟨rfl, _⟩ | ⟨g, cap, cur, rfl, _, hg, _⟩
  · cases hk
  · rcases h'.2 with ⟨rfl, _⟩ | ⟨g', cap', cur', rfl, _, hg', _⟩
    · cases hk'
    · cases hk; cases hk'
      rw [hg] at hg'
      cases hg'
      exact he rfl
/-- One word more. -/
theorem push_word {B b0 : Nat} {w : World} {bs : List Nat} {v : Value} {n : Nat} {xs : List Int} {x : Int} {K : Value → World → Prop} (hB : B ≤ w.heap.size) (hb0 : b0 ≤ w.heap.size) (ho : w.ownsRow b0 51 1 v n (xs.map (.int .u64))) (hn : n ≤ 1000000000)
    (hk : ∀ v' w', ExtS B (fun k => v.ownBlock = some k) w w' → w'.ownsRow b0 51 1 v' (n + 1) ((xs ++ [x]).map (.int .u64)) → K v' w') :
    Expo B w bs fun w1 => Hide bs (w1.alloc (.cells ⟨[.int .u64 x]⟩ 51)) fun w2 => RunK Try.prog (Builtin.append_ #[50, 50] 50 ⟨[v, .slice (some ⟨w1.heap.size, 0, none⟩) 1 1]⟩) B w2 bs K := by
  refine expo_alloc hB fun w1 w2 hs e2 _ ho2 => ?_
  have hb8 : Try.t51.bytes = 8 := by kernel_rfl
  have hx : Nums .u64 w2 (some ⟨w1.heap.size, 0, none⟩) 1 [x] := OwnI.nums (xs := [x]) (e := 51) ho2 (by simp only [List.length_cons, List.length_nil, maxLen]; omega)
  refine append_nums (t := 50) (e := 51) (i := Try.t51) (k := .u64) (bytes := 8) (b0 := b0) (by kernel_rfl) (by kernel_rfl) (by kernel_rfl) (by kernel_rfl) hb8 (Nat.le_refl _) (e2.owns ho) hx (by omega) (Nat.le_trans hB e2.size) (Nat.le_trans hb0 e2.size) fun v' w' he ho' _ => hk v' w' (he.ofExt e2) ho'
/-- What is deferred, as cells; vs: the slices of arguments. -/
def dfsV : List Dfr → List Value → List Value
  | d :: ds, v :: vs => .int .i64 d.f :: v :: dfsV ds vs
  | _, _ => []
theorem dfs_get : ∀ {ds : List Dfr} {vs : List Value} {i : Nat} {d : Dfr} {v : Value}, ds[i]? = some d → vs[i]? = some v → (dfsV ds vs)[i * 2]? = some (.int .i64 d.f) ∧ (dfsV ds vs)[i * 2 + 1]? = some v
  | [], vs, i, d, v, h, _ => by simp at h
  | y :: ds, [], i, d, v, _, h => by simp at h
  | y :: ds, u :: vs, 0, d, v, h, hv => by
    simp at h hv; subst h; subst hv
    exact ⟨rfl, rfl⟩
  | y :: ds, u :: vs, i + 1, d, v, h, hv => by
    obtain ⟨h1, h2⟩ := dfs_get (ds := ds) (vs := vs) (i := i) (by simpa using h) (by simpa using hv)
    rw [show (i + 1) * 2 = i * 2 + 2 by omega, show i * 2 + 2 + 1 = i * 2 + 1 + 2 by omega]
    exact ⟨h1, h2⟩
theorem dfs_snoc (d : Dfr) (v : Value) : ∀ {ds : List Dfr} {vs : List Value}, vs.length = ds.length → dfsV (ds ++ [d]) (vs ++ [v]) = dfsV ds vs ++ [.int .i64 d.f, v]
  | [], [], h => rfl
  | [], u :: vs, h => by simp at h
  | y :: ds, [], h => by simp at h
  | y :: ds, u :: vs, h => by
    have := dfs_snoc d v (ds := ds) (vs := vs) (by simpa using h)
    simp only [List.cons_append, dfsV, this]
/-- Rows of what is deferred, all of them one's own. -/
structure OwnDs (w : World) (B : Nat) (v : Value) (ds : List Dfr) (vs : List Value) : Prop where
  row : w.ownsRow B 75 2 v ds.length (dfsV ds vs)
  len : vs.length = ds.length
  args : ∀ (i : Nat) (d : Dfr) (u : Value), ds[i]? = some d → vs[i]? = some u → OwnWs w B u d.args
theorem OwnDs.ext {B B' : Nat} {w w' : World} {v : Value} {ds : List Dfr} {vs : List Value} (h : OwnDs w B v ds vs) (he : Ext B' w w') : OwnDs w' B v ds vs :=
  ⟨he.owns h.row, h.len, fun i d u hd hu => he.owns (h.args i d u hd hu)⟩
theorem OwnDs.nil (w : World) (B : Nat) : OwnDs w B (.slice none 0 0) [] [] := ⟨World.ownsRow_nil _ _ _ _, rfl, fun i d u h => by simp at h⟩
/-- One more that is deferred. -/
theorem push_dfr {B b0 : Nat} {w : World} {bs : List Nat} {v u : Value} {ds : List Dfr} {vs : List Value} {d : Dfr} {K : Value → World → Prop} (hB : B ≤ w.heap.size) (hb0 : b0 ≤ w.heap.size) (ho : OwnDs w b0 v ds vs) (hu : OwnWs w b0 u d.args) (hn : ds.length ≤ 1000000)
    (hk : ∀ v' w', ExtS B (fun k => v.ownBlock = some k) w w' → OwnDs w' b0 v' (ds ++ [d]) (vs ++ [u]) → K v' w') :
    Expo B w bs fun w1 => Hide bs (w1.alloc (.cells ⟨[.int .i64 d.f, u]⟩ 75)) fun w2 => RunK Try.prog (Builtin.append_ #[65, 65] 65 ⟨[v, .slice (some ⟨w1.heap.size, 0, none⟩) 1 1]⟩) B w2 bs K := by
  refine expo_alloc hB fun w1 w2 hs e2 _ ho2 => ?_
  have hb32 : Try.t75.bytes = 32 := by kernel_rfl
  have hone : u.oneCell' = true := by
    obtain ⟨A, c, rfl⟩ := owns_slice0 hu; rfl
  refine append_own (t := 65) (e := 75) (i := Try.t75) (z := .agg ⟨[.int .i64 0, .slice none 0 0]⟩) (size := 2) (bytes := 32) (b0 := b0) (by kernel_rfl) (by kernel_rfl) (by kernel_rfl) (by kernel_rfl) hb32 rfl (by omega) (e2.owns ho.row) (news := [.int .i64 d.f, u]) rfl (fun j y hj => by rw [own_add]; exact at_cell (L := [.int .i64 d.f, u]) ho2 hj) (fun y hy => ?_) (by simp only [maxLen]; omega) (by omega) (Nat.le_trans hB e2.size) (Nat.le_trans hb0 e2.size) fun v' w' he ho' _ => hk v' w' (he.ofExt e2) ⟨?_, by simp [ho.len], fun i y z hy hz => ?_⟩
  · simp only [List.mem_cons, List.not_mem_nil, or_false] at hy
    rcases hy with rfl | rfl
    · rfl
    · exact hone
  · rw [dfs_snoc d u ho.len]
    simpa using ho'
  · have hall : OwnWs w b0 z y.args := by
      by_cases hi : i < ds.length
      · rw [List.getElem?_append_left hi] at hy
        rw [List.getElem?_append_left (by rw [ho.len]; exact hi)] at hz
        exact ho.args i y z hy hz
      · have hi' : i = ds.length := by have := (List.getElem?_eq_some_iff.1 hy).1; simp at this; omega
        subst hi'
        have h1 : y = d := by simpa using hy.symm
        have h2 : z = u := by rw [← ho.len] at hz; simpa using hz.symm
        subst h1; subst h2
        exact hu
    have h2 := e2.owns hall
    exact he.owns h2 fun k hk => owns_ne h2 (e2.owns ho.row) (by decide) hk
/-- Rows of one's own, as what is deferred. -/
theorem OwnDs.dfs {w : World} {B : Nat} {v : Value} {ds : List Dfr} {vs : List Value} (h : OwnDs w B v ds vs) (hl : ds.length ≤ 1000000) (ha : ∀ d ∈ ds, d.args.length ≤ 1000000) : ∃ A c, v = .slice A ds.length c ∧ Dfrs (newW B w) A ds.length ds := by
  rcases h.row.2 with ⟨rfl, h0⟩ | ⟨g, cap, cur, rfl, hb, _⟩
  · have : ds = [] := List.eq_nil_of_length_eq_zero h0
    subst this
    exact ⟨none, 0, rfl, rfl, Nat.zero_le _, fun i x h => by simp at h⟩
  · refine ⟨_, cap, rfl, rfl, by simp only [maxLen]; omega, fun i d hd => ⟨_, rfl, ?_⟩⟩
    have hi := (List.getElem?_eq_some_iff.1 hd).1
    have hv : vs[i]? = some (vs[i]'(by rw [h.len]; exact hi)) := List.getElem?_eq_getElem _
    obtain ⟨k1, k2⟩ := dfs_get hd hv
    have c1 := owns_cell h.row k1
    have c2 := owns_cell h.row k2
    have harg := h.args i d _ hd hv
    obtain ⟨A, c, hvv, hn, hbl⟩ := ownws_nums harg (by have := ha d (List.mem_of_getElem? hd); omega)
    rw [hvv] at c2
    unfold DfrE
    simp only [own_add, bx_add, Nat.add_zero, Nat.zero_add]
    refine ⟨newW_cell.2 ⟨c1, hb⟩, A, c, newW_cell.2 ⟨c2, hb⟩, hn.len, hn.small, fun j y hj => ?_⟩
    obtain ⟨p, hp, he⟩ := hn.get j y hj
    refine ⟨p, hp, ?_⟩
    unfold NumE at he ⊢
    exact newW_cell.2 ⟨he, by rw [add_block]; exact hbl p hp⟩
theorem ownws_new {w : World} {B : Nat} {v : Value} {xs : List Int} (h : OwnWs w B v xs) (hl : xs.length ≤ 1000000000) : ∃ A c, v = .slice A xs.length c ∧ Nums .u64 (newW B w) A xs.length xs := by
  obtain ⟨A, c, hv, hn, hb⟩ := ownws_nums h (by omega)
  refine ⟨A, c, hv, hn.len, hn.small, fun i x hx => ?_⟩
  obtain ⟨p, hp, he⟩ := hn.get i x hx
  refine ⟨p, hp, ?_⟩
  unfold NumE at he ⊢
  exact newW_cell.2 ⟨he, by rw [add_block]; exact hb p hp⟩

/-! ### The plain rule -/
def frm0 : Frm := ⟨0, 0, 0, false, 0, [], [], []⟩
def dfrR (p : List Fnc) (mem : List Int) (k : Nat) : Dfr := ⟨mem.getD k 0, match p[(mem.getD k 0).toNat]? with
  | some g => sub mem ((k : Int) + 1) g.params
  | none => []⟩
def dfsR (p : List Fnc) (mem : List Int) (k : Nat) : Nat → List Dfr
  | 0 => []
  | n + 1 => dfsR p mem k n ++ [dfrR p mem (k + n * 4)]
def dfsOk (p : List Fnc) (mem : List Int) (k n : Nat) : Bool := (List.range n).all fun i => decide (mem.getD (k + i * 4) 0 < p.length)
theorem dfsR_len (p : List Fnc) (mem : List Int) (k : Nat) : ∀ n, (dfsR p mem k n).length = n
  | 0 => rfl
  | n + 1 => by simp [dfsR, dfsR_len p mem k n]
def frmR (p : List Fnc) (mem : List Int) (at_ : Int) (h : Hd) (g : Fnc) : Frm :=
  ⟨h.f, h.pc, h.mode, h.dfd, h.value, dfsR p mem (at_.toNat + 7) h.dfs.toNat, sub mem (at_ + aheadM g) g.locals, sub mem (at_ + aheadM g + g.locals) h.ops⟩
def readH (p : List Fnc) (mem : List Int) (at_ : Int) (h : Hd) : Frm × Int × Int :=
  match fnAt p h.f with
  | none => (frm0, 0, 6)
  | some g =>
    if (h.pc ≤ g.code.length ∧ h.dfs ≤ roomM g ∧ h.ops ≤ 8) then
      (if inM mem.length at_ (sizeF g) = true then
        (if dfsOk p mem (at_.toNat + 7) h.dfs.toNat = true then (frmR p mem at_ h g, h.below, 0) else (frm0, 0, 6))
       else (frm0, 0, 1))
    else (frm0, 0, 6)
theorem readH_none {p : List Fnc} {mem : List Int} {at_ : Int} {h : Hd} (hf : fnAt p h.f = none) : readH p mem at_ h = (frm0, 0, 6) := by unfold readH; rw [hf]
theorem readH_some {p : List Fnc} {mem : List Int} {at_ : Int} {h : Hd} {g : Fnc} (hf : fnAt p h.f = some g) : readH p mem at_ h = if (h.pc ≤ g.code.length ∧ h.dfs ≤ roomM g ∧ h.ops ≤ 8) then
      (if inM mem.length at_ (sizeF g) = true then
        (if dfsOk p mem (at_.toNat + 7) h.dfs.toNat = true then (frmR p mem at_ h g, h.below, 0) else (frm0, 0, 6))
       else (frm0, 0, 1))
    else (frm0, 0, 6) := by unfold readH; rw [hf]
def readM (p : List Fnc) (mem : List Int) (at_ : Int) : Frm × Int × Int :=
  if (getM mem at_).2 ≠ 0 then (frm0, 0, (getM mem at_).2) else readH p mem at_ (getM mem at_).1
def frm0V : Value := .agg ⟨[.int .i64 0, .int .i64 0, .int .i64 0, .bool false, .int .u64 0, .slice none 0 0, .slice none 0 0, .slice none 0 0]⟩
/-- What is read is returned; all that it holds is new. -/
def ReadQ (r : Frm × Int × Int) (w1 : World) : Value → World → Prop := fun u w2 => ∃ s, u = .tuple ⟨[frmV r.1 s, .int .i64 r.2.1, .int .i64 r.2.2]⟩ ∧ FrmAt (newW w1.heap.size w2) r.1 s
theorem frm0_at (w : World) : FrmAt w frm0 ⟨none, 0, none, 0, none, 0⟩ := ⟨⟨rfl, Nat.zero_le _, fun i x h => by simp [frm0] at h⟩, nums_nil _ _, nums_nil _ _⟩
theorem sub_sub {mem : List Int} {a o m n : Nat} (h : o + m ≤ n) : (((mem.drop a).take n).drop o).take m = (mem.drop (a + o)).take m := by
  rw [List.drop_take, List.take_take, List.drop_drop, Nat.min_eq_left (by omega)]
theorem nums_sub {k : IntKind} {w : World} {a : Addr} {l : Nat} {xs : List Int} (h : Nums k w (some a) l xs) {o m : Nat} (hom : o + m ≤ l) : Nums k w (some (a.add o)) m ((xs.drop o).take m) := by
  refine ⟨by simp [h.len]; omega, by have := h.small; omega, fun i x hx => ?_⟩
  rw [List.getElem?_take] at hx
  split at hx
  · rw [List.getElem?_drop] at hx
    obtain ⟨p, hp, he⟩ := h.get _ x hx
    cases hp
    refine ⟨_, rfl, ?_⟩
    unfold NumE at he ⊢
    rw [Nat.mul_one] at he ⊢
    rw [adr_add]; exact he
  · cases hx
end Go.Proofs.Ytlccbaemcfjdoaa
