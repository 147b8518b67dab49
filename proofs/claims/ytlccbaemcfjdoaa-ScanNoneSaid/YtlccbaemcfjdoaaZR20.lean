/-
  Layer 20: the roots of a stack: the program's answer and the document's, by one plain rule.
  Conditions: the arena, the words, and the program, lie in memory as told; the program's functions are sized.
-/
import Derived.Test.YtlccbaemcfjdoaaZW20b
set_option linter.unusedVariables false
set_option linter.unusedSimpArgs false
namespace Go.Proofs.Ytlccbaemcfjdoaa
open Go.RowKit
def nz (l : List Int) : List Int := l.filter fun x => decide (x ≠ 0)
theorem nz_cons (x : Int) (l : List Int) : nz (x :: l) = if x ≠ 0 then x :: nz l else nz l := by
  unfold nz
  by_cases h : x = 0 <;> simp [h]
theorem nz_len (l : List Int) : (nz l).length ≤ l.length := List.length_filter_le _ _
def refsX (p : List Fnc) (x : Frm) : List Int := match fnAt p x.f with
  | some g => nz (x.locals.drop (x.locals.length - g.refs.toNat))
  | none => []
def rootsM (p : List Fnc) (mem : List Int) (top : Int) : List Int × Int :=
  if (walkM p mem top).2 ≠ 0 then ([], (walkM p mem top).2) else ((walkM p mem top).1.flatMap fun a => refsX p (readM p mem a).1, 0)
theorem read_locals {p : List Fnc} {mem : List Int} {at_ : Int} (hs : Sized p) (hw : Wd mem) (h : (readM p mem at_).2.2 = 0) : ∃ g, fnAt p (readM p mem at_).1.f = some g ∧ ¬ (readM p mem at_).1.f < 0 ∧ p[(readM p mem at_).1.f.toNat]? = some g ∧ (readM p mem at_).1.locals = sub mem (at_ + aheadM g) g.locals ∧ (readM p mem at_).1.locals.length = g.locals.toNat := by
  by_cases h0 : (getM mem at_).2 = 0
  · obtain ⟨hin, f0, f1, _⟩ := get_zero hw h0
    have hr : readM p mem at_ = readH p mem at_ (getM mem at_).1 := by unfold readM; rw [if_neg (by simpa using h0)]
    rw [hr] at h ⊢
    generalize (getM mem at_).1 = H at *
    cases hf : fnAt p H.f with
    | none => rw [readH_none hf] at h; simp at h
    | some g =>
      rw [readH_some hf] at h ⊢
      have hg : ¬ H.f < 0 ∧ p[H.f.toNat]? = some g := by
        unfold fnAt at hf
        rw [if_neg (by omega)] at hf
        exact ⟨by omega, hf⟩
      have hgs := hs g (List.mem_of_getElem? hg.2)
      have hbd := sized_bd hgs
      have hsF := sizeF_eq hgs
      have hah : 7 ≤ aheadM g ∧ aheadM g ≤ 23 := by unfold aheadM; split <;> omega
      split at h
      · rename_i hc
        rw [if_pos hc]
        split at h
        · rename_i hi
          rw [if_pos hi]
          split at h
          · rename_i hd
            rw [if_pos hd]
            have hii := of_decide_eq_true hi
            refine ⟨g, hf, hg.1, hg.2, rfl, ?_⟩
            exact sub_len (by unfold inM; exact decide_eq_true (by omega))
          · simp at h
        · simp at h
      · simp at h
  · exfalso
    unfold readM at h
    rw [if_pos h0] at h
    exact h0 h
theorem walk_reads {p : List Fnc} {mem : List Int} : ∀ (k : Nat) (at_ e : Int) (out : List Int), (walkR p mem k at_ e out).2 = 0 → (∀ a ∈ out, (readM p mem a).2.2 = 0) → ∀ a ∈ (walkR p mem k at_ e out).1, (readM p mem a).2.2 = 0
  | 0, _, _, _, _, _ => by simp [walkR]
  | k + 1, at_, e, out, h, ho => by
    unfold walkR at h ⊢
    split at h
    · rename_i h1
      rw [if_pos h1]; exact ho
    · rename_i h1
      rw [if_neg h1]
      split at h
      · rename_i h2; exact absurd h h2
      · rename_i h2
        rw [if_neg h2]
        split at h
        · simp at h
        · rename_i h3
          rw [if_neg h3]
          exact walk_reads k _ _ _ h fun a ha => by
            rcases List.mem_append.1 ha with ha | ha
            · exact ho a ha
            · simp at ha; subst ha; simpa using h2
theorem walk_ok {p : List Fnc} {mem : List Int} {top : Int} (h : (walkM p mem top).2 = 0) : ∀ a ∈ (walkM p mem top).1, (readM p mem a).2.2 = 0 := walk_reads _ _ _ _ h (fun a ha => by cases ha)
theorem walkR_len (p : List Fnc) (mem : List Int) : ∀ (k : Nat) (at_ e : Int) (out : List Int), (walkR p mem k at_ e out).1.length ≤ out.length + k
  | 0, _, _, _ => by simp [walkR]
  | k + 1, at_, e, out => by
    unfold walkR
    split
    · simp
    · split
      · simp
      · split
        · simp
        · have := walkR_len p mem k (readM p mem at_).2.1 at_ (out ++ [at_])
          simp at this
          omega
theorem walkM_len (p : List Fnc) (mem : List Int) (top : Int) : (walkM p mem top).1.length ≤ mem.length + 3 := by
  have := walkR_len p mem (mem.length + 3) top 0 []
  unfold walkM
  simpa using this
theorem refsX_len {p : List Fnc} {x : Frm} (hs : Sized p) : (refsX p x).length ≤ x.locals.length := by
  unfold refsX
  split
  · exact Nat.le_trans (nz_len _) (by simp)
  · simp
def RootsQ (r : List Int × Int) (w1 : World) : Value → World → Prop := fun u w2 => ∃ A c, u = .tuple ⟨[.slice A r.1.length c, .int .i64 r.2]⟩ ∧ Nums .u64 (newW w1.heap.size w2) A r.1.length r.1
theorem roots_none (w0 w1 : World) (e : Int) : RootsQ ([], e) w0 (.tuple ⟨[.slice none 0 0, .int .i64 e]⟩) w1 := ⟨none, 0, rfl, nums_nil _ _⟩
theorem nums_extS {k : IntKind} {B : Nat} {S : Nat → Prop} {w w' : World} {A : Option Addr} {l : Nat} {xs : List Int} (h : Nums k w A l xs) (he : ExtS B S w w') (hS : ∀ q, A = some q → ¬ S q.block) : Nums k w' A l xs :=
  ⟨h.len, h.small, fun i x hx => by
    obtain ⟨q, hq, hc⟩ := h.get i x hx
    exact ⟨q, hq, he.cell hc (by rw [add_block]; exact hS q hq)⟩⟩
theorem nums_lt {k : IntKind} {w : World} {q : Addr} {l : Nat} {xs : List Int} (h : Nums k w (some q) l xs) (hl : 0 < l) : q.block < w.heap.size := by
  obtain ⟨n, p, _, hp, hc⟩ := Nums.at h hl
  cases hp
  have := cell_lt hc
  rwa [add_block] at this
section
variable {w0 wb : World} {p : List Fnc}
structure Outs (w0 wb w : World) (A : Option Addr) (c : Nat) (out : List Int) : Prop where
  row : w.ownsRow wb.heap.size 51 1 (.slice A out.length c) out.length (out.map (.int .u64))
  sub : ∀ q v, wb.cell? q = some v → w.cell? q = some v
  below : Below w0.heap.size w0 w
  lt : wb.heap.size ≤ w.heap.size
theorem Outs.ext {w w' : World} {A : Option Addr} {c : Nat} {out : List Int} (h : Outs w0 wb w A c out) (he : Ext w0.heap.size w w') : Outs w0 wb w' A c out := ⟨he.owns h.row, fun q v hq => he.cell (h.sub q v hq), he.after h.below, Nat.le_trans h.lt he.size⟩
theorem Outs.turned {w w' : World} {A A' : Option Addr} {c c' : Nat} {out out' : List Int} (h : Outs w0 wb w A c out) (hwb : w0.heap.size ≤ wb.heap.size) (he : ExtS w0.heap.size (fun k => (Value.slice A out.length c).ownBlock = some k) w w') (ho : w'.ownsRow wb.heap.size 51 1 (.slice A' out'.length c') out'.length (out'.map (.int .u64))) : Outs w0 wb w' A' c' out' :=
  ⟨ho, fun q v hq => he.cell (h.sub q v hq) (fun hk => by have := (h.row.lt _ hk).1; have := cell_lt hq; omega), he.after (fun j hj => Nat.le_trans hwb (h.row.lt j hj).1) h.below, Nat.le_trans h.lt he.size⟩
theorem l1_66 {R : Value → World → Prop} {L0 : Addr → Option Addr → Nat → Nat → Option Addr → Nat → Nat → Int → Int → Nat → Option Addr → Nat → Nat → World → Prop} {a0 : Addr} {A28 : Option Addr} {l28 c28 : Nat} {x29 x30 x13 x13_1 x13_2 x13_4 : Int} {x13_3 : Bool} {q13 q4 : Nat} {D O P : Option Addr} {dl dc ol oc pl pc : Nat} {L : Option Addr} {lc : Nat} {locs : List Int} (hwb : w0.heap.size ≤ wb.heap.size) (hl : locs.length ≤ 1000) {outF : List Int} (hof : outF.length ≤ 1000000)
    (hk : ∀ (w' : World) (A' : Option Addr) (c' : Nat), Outs w0 wb w' A' c' outF → L0 a0 A' outF.length c' A28 l28 c28 x29 (IntKind.wrap .i64 (x30 + 1)) q4 P pl pc w') :
    ∀ (k i : Nat) (w : World) (out : List Int) (A : Option Addr) (c : Nat), locs.length < i + k → i ≤ locs.length → Outs w0 wb w A c out → Nums .u64 w L locs.length locs → (0 < locs.length → ∀ q, L = some q → (Value.slice A out.length c).ownBlock ≠ some q.block) → out ++ nz (locs.drop i) = outF →
      V66.l1 w0.heap.size R L0 k a0 A out.length c i A28 l28 c28 x29 x30 q13 x13 x13_1 x13_2 x13_3 x13_4 D dl dc L locs.length lc O ol oc q4 P pl pc w := by
  intro k
  induction k with
  | zero => intros; omega
  | succ k ih =>
    intro i w out A c hki hi hO hL hne hF
    dsimp -zeta only [V66.l1]
    by_cases hlt : i < locs.length
    · rw [if_neg (by simp; omega)]
      obtain ⟨x, q, hx, hq, hc⟩ := Nums.at hL hlt
      have hc' : w.cell? (q.add (i : Int).toNat) = some (.int .u64 x) := by rw [Int.toNat_natCast]; exact hc
      have hwi : IntKind.wrap .i64 ((i : Int) + 1) = ((i + 1 : Nat) : Int) := by rw [wrap_id (by omega) (by omega)]; rfl
      rw [drop_at hx, nz_cons] at hF
      refine ⟨q, hq, by omega, by omega, x, hc', ?_⟩
      have hol : out.length ≤ 1000000 := by
        have := congrArg List.length hF
        rw [List.length_append] at this
        omega
      by_cases h0 : x = 0
      · rw [if_neg (by simpa using h0), hwi]
        rw [if_neg (by simpa using h0)] at hF
        exact ih (i + 1) w out A c (by omega) (by omega) hO hL hne hF
      · rw [if_pos (by simpa using h0), hwi]
        rw [if_pos h0] at hF
        refine ⟨q, hq, by omega, by omega, x, hc', ?_⟩
        refine push_wordO hO.below.size hO.lt hO.row (by omega) fun v w1 e1 ho1 hf1 => ?_
        obtain ⟨A1, c1, rfl⟩ := owns_slice0 ho1
        refine ⟨A1, _, c1, rfl, ?_⟩
        have hl1 : (out ++ [x]).length = out.length + 1 := by simp
        have := ih (i + 1) w1 (out ++ [x]) A1 c1 (by omega) (by omega) (hO.turned hwb e1 (by rw [hl1]; exact ho1)) (nums_extS hL e1 fun q' hq' => hne (by omega) q' hq') (fun _ q' hq' hk' => by
          rw [hl1] at hk'
          subst hq'
          have := nums_lt hL (by omega)
          rcases hf1 _ hk' with h | h
          · exact hne (by omega) _ rfl h
          · omega) (by rw [← hF]; simp)
        rw [hl1] at this
        exact this
    · have hil : i = locs.length := by omega
      subst hil
      rw [if_pos (by simp)]
      rw [List.drop_length] at hF
      have hF' : out = outF := by simpa [nz] using hF
      subst hF'
      exact hk w A c hO
theorem l0_66 {g b : Nat} {mem : List Int} {P : Option Addr} {cap : Nat} (ha : ArenaAt w0 g b mem) (hp : ProgAt w0 P p.length p) (hs : Sized p) (hpl : p.length ≤ 1000) (hwb : w0.heap.size ≤ wb.heap.size) {ats : List Int} {A28 : Option Addr} {c28 : Nat} (hats : Nums .i64 wb A28 ats.length ats) (hal : ats.length ≤ 100000) (hrd : ∀ a ∈ ats, (readM p mem a).2.2 = 0) {q4 : Nat} {r : List Int × Int} :
    ∀ (k i : Nat) (w : World) (out : List Int) (A : Option Addr) (c : Nat), ats.length < i + k → i ≤ ats.length → out.length ≤ 8 * i → Outs w0 wb w A c out → (out ++ (ats.drop i).flatMap fun a => refsX p (readM p mem a).1, (0 : Int)) = r →
      V66.l0 w0.heap.size (IsQ w0 (RootsQ r w0)) k ⟨g, 0, none⟩ A out.length c A28 ats.length c28 ats.length i q4 P p.length cap w := by
  intro k
  induction k with
  | zero => intros; omega
  | succ k ih =>
    intro i w out A c hki hi ho8 hO hr
    dsimp -zeta only [V66.l0]
    by_cases hlt : i < ats.length
    · rw [if_pos (by simpa using hlt)]
      obtain ⟨a, q, hx, hq, hc⟩ := Nums.at hats hlt
      refine ⟨q, hq, by omega, by omega, a, by rw [Int.toNat_natCast]; exact hO.sub _ _ hc, ?_⟩
      have hw := hO.below
      refine call_read hw.size (ha.ext (below_ext hw (Nat.le_refl _))) (RowAt.keep FncE.kept hp (below_keeps hw)) hs hpl fun s w1 e1 hf => ⟨_, _, _, _, _, _, _, _, _, _, _, _, _, _, _, _, rfl, ?_⟩
      intro q13 _
      have hO1 := hO.ext e1
      have he := hrd a (List.mem_of_getElem? hx)
      obtain ⟨G, hfn, f0, hG, hloc, hll⟩ := read_locals hs ha.wd he
      have hGs := hs G (List.mem_of_getElem? hG)
      have hbd := sized_bd hGs
      rw [if_neg (by simpa using he)]
      have hfl := (List.getElem?_eq_some_iff.1 hG).1
      obtain ⟨G', q', C, c', hG', hq', c0, cl1, cl2, c3, hcode⟩ := prog_at (RowAt.keep FncE.kept hp (below_keeps hO1.below)) (i := (readM p mem a).1.f.toNat) hfl
      rw [hG] at hG'; cases hG'
      refine ⟨q', hq', by omega, by omega, G.params, c0, G.locals, cl1, G.refs, cl2, C, G.code.length, c', c3, ?_⟩
      intro q16 _
      rw [wrap_id (by omega) (by omega)]
      have hk0 : ((readM p mem a).1.locals.length : Int) - G.refs = (((readM p mem a).1.locals.length - G.refs.toNat : Nat) : Int) := by omega
      rw [hk0]
      rw [drop_at hx, List.flatMap_cons, ← List.append_assoc] at hr
      have hrx : refsX p (readM p mem a).1 = nz ((readM p mem a).1.locals.drop ((readM p mem a).1.locals.length - G.refs.toNat)) := by unfold refsX; rw [hfn]
      have hr8 : (refsX p (readM p mem a).1).length ≤ 8 := by have := refsX_len (p := p) (x := (readM p mem a).1) hs; omega
      have hol : (out ++ refsX p (readM p mem a).1).length ≤ 8 * (i + 1) := by rw [List.length_append]; omega
      refine ⟨(readM p mem a).1.locals.length + 1, ?_⟩
      refine l1_66 (locs := (readM p mem a).1.locals) (outF := out ++ refsX p (readM p mem a).1) hwb (by omega) (by omega) (fun w' A' c' hO' => ?_) ((readM p mem a).1.locals.length + 1) ((readM p mem a).1.locals.length - G.refs.toNat) w1 out A c (by omega) (by omega) hO1 (hf.keep newW_in).locals (fun hpos q2 hq2 hk2 => ?_) (by rw [hrx])
      · have hwi : IntKind.wrap .i64 ((i : Int) + 1) = ((i + 1 : Nat) : Int) := by rw [wrap_id (by omega) (by omega)]; rfl
        rw [hwi]
        exact ih (i + 1) w' _ A' c' (by omega) (by omega) hol hO' hr
      · -- the frame's locals are new
        have h1 := (hO.row.lt _ hk2).2
        have hN := hf.locals
        obtain ⟨n, q3, _, hq3, hc3⟩ := Nums.at hN (i := 0) hpos
        rw [hq2] at hq3; cases hq3
        have := (newW_cell.1 hc3).2
        rw [add_block] at this
        omega
    · rw [if_neg (by simpa using hlt)]
      have hil : i = ats.length := by omega
      subst hil
      rw [List.drop_length] at hr
      have hr' : r = (out, 0) := by rw [← hr]; simp
      subst hr'
      refine ret_q hO.below fun w1 e1 => ⟨A, c, rfl, ?_⟩
      have := owns_newk (e1.owns (owns_base hO.row hwb)) (by omega)
      exact this
end
theorem outs_nil {w0 wb : World} (h : Below w0.heap.size w0 wb) : Outs w0 wb wb none 0 [] := ⟨World.ownsRow_nil _ _ _ _, fun _ _ hq => hq, h, Nat.le_refl _⟩
theorem yields66 {w : World} {g b : Nat} {mem : List Int} {p : List Fnc} {P : Option Addr} {cap : Nat} (ha : ArenaAt w g b mem) (hp : ProgAt w P p.length p) (hs : Sized p) (hpl : p.length ≤ 1000) (top : Int) :
    Yields Try.prog 66 [.pointer (some ⟨g, 0, none⟩), .agg ⟨[.slice P p.length cap]⟩, .int .i64 top] w (RootsQ (rootsM p mem top) w) := by
  refine yields_of (V66.sound ?_)
  intro q4 _
  have hml := ha.len
  refine call_walk (Nat.le_refl _) ha hp hs hpl fun A c w1 e1 hN => ⟨A, _, c, _, rfl, ?_⟩
  have hw1 := e1.after (Below.refl _ _)
  by_cases hz : (walkM p mem top).2 = 0
  · rw [if_neg (by simpa using hz)]
    have hlen := walkM_len p mem top
    refine ⟨(walkM p mem top).1.length + 1, ?_⟩
    exact l0_66 ha hp hs hpl e1.size (RowAt.keep (NumE.kept _) hN newW_in) (by omega) (walk_ok hz) _ 0 w1 [] none 0 (by omega) (by omega) (by simp) (outs_nil hw1) (by unfold rootsM; rw [if_neg (by simpa using hz)]; simp)
  · rw [if_pos (by simpa using hz)]
    exact ret_q hw1 fun w2 _ => by unfold rootsM; rw [if_pos hz]; exact roots_none _ _ _
theorem roots_new {w1 w2 w' w : World} {r : List Int × Int} {v : Value} (hs : w.heap.size ≤ w1.heap.size) (hnew : ∀ k, w1.heap.size ≤ k → w'.heap[k]? = w2.heap[k]?) (h : RootsQ r w1 v w2) : ∃ A c, v = .tuple ⟨[.slice A r.1.length c, .int .i64 r.2]⟩ ∧ Nums .u64 (newW w.heap.size w') A r.1.length r.1 := by
  obtain ⟨A, c, hv, hn⟩ := h
  refine ⟨A, c, hv, RowAt.keep (NumE.kept _) hn fun q v hq => ?_⟩
  obtain ⟨h1, h2⟩ := newW_cell.1 hq
  exact newW_cell.2 ⟨(cell_same (hnew _ h2)).trans h1, Nat.le_trans hs h2⟩
theorem call_roots {w0 w : World} {bs : List Nat} {g b : Nat} {mem : List Int} {P : Option Addr} {p : List Fnc} {cap : Nat} {top : Int} {K : Value → World → Prop} (hB : w0.heap.size ≤ w.heap.size) (h : ArenaAt w g b mem) (hp : ProgAt w P p.length p) (hs : Sized p) (hpl : p.length ≤ 1000)
    (hk : ∀ A c w', Ext w0.heap.size w w' → Nums .u64 (newW w.heap.size w') A (rootsM p mem top).1.length (rootsM p mem top).1 → K (.tuple ⟨[.slice A (rootsM p mem top).1.length c, .int .i64 (rootsM p mem top).2]⟩) w') :
    CallK Try.prog 66 [.pointer (some ⟨g, 0, none⟩), .agg ⟨[.slice P p.length cap]⟩, .int .i64 top] w0.heap.size w bs K := by
  refine call_yieldsX (Q := RootsQ (rootsM p mem top)) hB (fun w1 e1 => yields66 (h.ext e1) (RowAt.keep FncE.kept hp (ext_keeps e1)) hs hpl top) fun w1 u w2 w' hsz hQ hnew he => ?_
  obtain ⟨A, c, rfl, hn⟩ := roots_new hsz hnew hQ
  exact hk A c w' he hn
section
variable {w0 wb : World} {p : List Fnc}
end
end Go.Proofs.Ytlccbaemcfjdoaa
