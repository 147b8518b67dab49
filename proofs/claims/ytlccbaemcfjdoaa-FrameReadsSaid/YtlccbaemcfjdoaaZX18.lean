/-
  Layer 18: frames are walked: the program's answer and the document's, by one plain rule.
  Conditions: the arena, the words, and the program, lie in memory as told; the program's functions are sized.
-/
import Derived.Test.YtlccbaemcfjdoaaZRW18
import Derived.Test.YtlccbaemcfjdoaaZWD
set_option linter.unusedVariables false
set_option linter.unusedSimpArgs false
namespace Go.Proofs.Ytlccbaemcfjdoaa
open Go.RowKit
theorem push_int {B b0 : Nat} {w : World} {bs : List Nat} {v : Value} {n : Nat} {xs : List Int} {x : Int} {K : Value → World → Prop} (hB : B ≤ w.heap.size) (hb0 : b0 ≤ w.heap.size) (ho : w.ownsRow b0 3 1 v n (xs.map (.int .i64))) (hn : n ≤ 1000000000)
    (hk : ∀ v' w', ExtS B (fun k => v.ownBlock = some k) w w' → w'.ownsRow b0 3 1 v' (n + 1) ((xs ++ [x]).map (.int .i64)) → K v' w') :
    Expo B w bs fun w1 => Hide bs (w1.alloc (.cells ⟨[.int .i64 x]⟩ 3)) fun w2 => RunK Try.prog (Builtin.append_ #[42, 42] 42 ⟨[v, .slice (some ⟨w1.heap.size, 0, none⟩) 1 1]⟩) B w2 bs K := by
  refine expo_alloc hB fun w1 w2 hs e2 _ ho2 => ?_
  have hb8 : Try.t3.bytes = 8 := by kernel_rfl
  have hx : Nums .i64 w2 (some ⟨w1.heap.size, 0, none⟩) 1 [x] := OwnI.nums (xs := [x]) (e := 3) ho2 (by simp only [List.length_cons, List.length_nil, maxLen]; omega)
  refine append_nums (t := 42) (e := 3) (i := Try.t3) (k := .i64) (bytes := 8) (b0 := b0) (by kernel_rfl) (by kernel_rfl) (by kernel_rfl) (by kernel_rfl) hb8 (Nat.le_refl _) (e2.owns ho) hx (by omega) (Nat.le_trans hB e2.size) (Nat.le_trans hb0 e2.size) fun v' w' he ho' _ => hk v' w' (he.ofExt e2) ho'
theorem owns_newk {w : World} {B : Nat} {e : TypeId} {k : IntKind} {A : Option Addr} {c : Nat} {xs : List Int} (h : w.ownsRow B e 1 (.slice A xs.length c) xs.length (xs.map (.int k))) (hl : xs.length ≤ 1000000000) : Nums k (newW B w) A xs.length xs := by
  obtain ⟨A', c', hv, hn, hb⟩ := owns_nums h (by simp only [maxLen]; omega)
  cases hv
  refine ⟨hn.len, hn.small, fun i x hx => ?_⟩
  obtain ⟨p, hp, he⟩ := hn.get i x hx
  refine ⟨p, hp, ?_⟩
  unfold NumE at he ⊢
  exact newW_cell.2 ⟨he, by rw [add_block]; exact (h.lt _ (hb p hp)).1⟩
def sizeX (p : List Fnc) (x : Frm) : Int := match fnAt p x.f with
  | some g => sizeF g
  | none => 0
theorem sizeX_eq {p : List Fnc} {x : Frm} {g : Fnc} (h : fnAt p x.f = some g) : sizeX p x = sizeF g := by unfold sizeX; rw [h]
def walkR (p : List Fnc) (mem : List Int) : Nat → Int → Int → List Int → List Int × Int
  | 0, _, _, _ => ([], 0)
  | k + 1, at_, end_, out => if at_ = -1 then (out, 0) else
      if (readM p mem at_).2.2 ≠ 0 then ([], (readM p mem at_).2.2) else
      if out ≠ [] ∧ end_ < at_ + sizeX p (readM p mem at_).1 then ([], 6) else walkR p mem k (readM p mem at_).2.1 at_ (out ++ [at_])
def walkM (p : List Fnc) (mem : List Int) (top : Int) : List Int × Int := walkR p mem (mem.length + 3) top 0 []
theorem walkR_free (p : List Fnc) (mem : List Int) (k : Nat) (at_ e1 e2 : Int) : walkR p mem k at_ e1 [] = walkR p mem k at_ e2 [] := by
  cases k with
  | zero => rfl
  | succ k => simp [walkR]
theorem read_zero {p : List Fnc} {mem : List Int} {at_ : Int} (hs : Sized p) (hw : Wd mem) (h : (readM p mem at_).2.2 = 0) : ∃ g, fnAt p (readM p mem at_).1.f = some g ∧ ¬ (readM p mem at_).1.f < 0 ∧ p[(readM p mem at_).1.f.toNat]? = some g ∧ 0 ≤ at_ ∧ at_ + sizeF g ≤ mem.length ∧ 15 ≤ sizeF g ∧ sizeF g ≤ 39 ∧ -1 ≤ (readM p mem at_).2.1 ∧ (readM p mem at_).2.1 < mem.length := by
  by_cases h0 : (getM mem at_).2 = 0
  · obtain ⟨hin, f0, f1, _, _, _, _, _, _, _, _, b0, b1⟩ := get_zero hw h0
    have hr : readM p mem at_ = readH p mem at_ (getM mem at_).1 := by unfold readM; rw [if_neg (by simpa using h0)]
    rw [hr] at h ⊢
    generalize (getM mem at_).1 = H at *
    cases hf : fnAt p H.f with
    | none => rw [readH_none hf] at h; simp at h
    | some g =>
      rw [readH_some hf] at h ⊢
      have hg : ¬ H.f < 0 ∧ p[H.f.toNat]? = some g := by
        unfold fnAt at hf
        rw [if_neg (by omega)] at hf
        exact ⟨by omega, hf⟩
      have hgs := hs g (List.mem_of_getElem? hg.2)
      have hbd := sized_bd hgs
      have hsF := sizeF_eq hgs
      have hah : 7 ≤ aheadM g ∧ aheadM g ≤ 23 := by unfold aheadM; split <;> omega
      split at h
      · rename_i hc
        rw [if_pos hc]
        split at h
        · rename_i hi
          rw [if_pos hi]
          split at h
          · rename_i hd
            rw [if_pos hd]
            have hii := of_decide_eq_true hi
            refine ⟨g, hf, hg.1, hg.2, hii.1, by omega, by omega, by omega, b0, b1⟩
          · simp at h
        · simp at h
      · simp at h
  · exfalso
    unfold readM at h
    rw [if_pos h0] at h
    exact h0 h
def WalkQ (r : List Int × Int) (w1 : World) : Value → World → Prop := fun u w2 => ∃ A c, u = .tuple ⟨[.slice A r.1.length c, .int .i64 r.2]⟩ ∧ Nums .i64 (newW w1.heap.size w2) A r.1.length r.1
theorem walk_none (w0 w1 : World) (e : Int) : WalkQ ([], e) w0 (.tuple ⟨[.slice none 0 0, .int .i64 e]⟩) w1 := ⟨none, 0, rfl, nums_nil _ _⟩
section
variable {w0 : World} {g b : Nat} {mem : List Int} {p : List Fnc} {P : Option Addr} {cap : Nat}
theorem l0_59 (ha : ArenaAt w0 g b mem) (hl : mem.length ≤ 1000000) (hp : ProgAt w0 P p.length p) (hs : Sized p) (hpl : p.length ≤ 1000) {q4 : Nat} {r : List Int × Int} :
    ∀ (k : Nat) (at_ end_ : Int) (out : List Int) (O : Option Addr) (oc : Nat) (w : World), Below w0.heap.size w0 w → w.ownsRow w0.heap.size 3 1 (.slice O out.length oc) out.length (out.map (.int .i64)) → (out = [] → mem.length + 1 < k) → (out ≠ [] → 0 ≤ end_ ∧ end_ < k ∧ end_ ≤ mem.length) → out.length + k ≤ mem.length + 3 → walkR p mem k at_ end_ out = r →
      V59.l0 w0.heap.size (IsQ w0 (WalkQ r w0)) k ⟨g, 0, none⟩ O out.length oc at_ end_ q4 P p.length cap w := by
  intro k
  induction k with
  | zero =>
    intro at_ end_ out O oc w _ _ h1 h2
    exfalso
    by_cases ho : out = []
    · have := h1 ho; omega
    · have := h2 ho; omega
  | succ k ih =>
    intro at_ end_ out O oc w hw ho h1 h2 h3 hr
    dsimp -zeta only [V59.l0]
    unfold walkR at hr
    by_cases hm : at_ = -1
    · subst hm
      rw [if_neg (by simp)]
      rw [if_pos rfl] at hr
      subst hr
      exact ret_q hw fun w1 e1 => ⟨O, oc, rfl, owns_newk (e1.owns ho) (by simp only; omega)⟩
    · rw [if_pos (by simpa using hm)]
      rw [if_neg hm] at hr
      refine call_read hw.size (ha.ext (below_ext hw (Nat.le_refl _))) (RowAt.keep FncE.kept hp (below_keeps hw)) hs hpl fun s w1 e1 hf => ⟨_, _, _, _, _, _, _, _, _, _, _, _, _, _, _, _, rfl, ?_⟩
      intro q11 _
      have hw1 := e1.after hw
      by_cases he : (readM p mem at_).2.2 = 0
      · rw [if_neg (by simpa using he)]
        rw [if_neg (by simpa using he)] at hr
        obtain ⟨G, hfn, f0, hG, a0, a1, z0, z1, u0, u1⟩ := read_zero hs ha.wd he
        rw [sizeX_eq hfn] at hr
        have hfl := (List.getElem?_eq_some_iff.1 hG).1
        have rest : ∀ w2, Ext w0.heap.size w1 w2 → (out ≠ [] → at_ + sizeF G ≤ end_) → walkR p mem k (readM p mem at_).2.1 at_ (out ++ [at_]) = r → V59.b1 w0.heap.size (IsQ w0 (WalkQ r w0)) (V59.l0 w0.heap.size (IsQ w0 (WalkQ r w0)) k) ⟨g, 0, none⟩ O out.length oc at_ (readM p mem at_).2.1 q4 P p.length cap w2 := by
          intro w2 e2 hend hr2
          have hw2 := e2.after hw1
          unfold V59.b1
          refine push_int hw2.size (Nat.le_trans hw.size (Nat.le_trans e1.size e2.size)) (e2.owns (e1.owns ho)) (by omega) fun v w3 e3 ho3 => ?_
          obtain ⟨O3, oc3, hv3⟩ := owns_slice0 ho3
          refine ⟨O3, _, oc3, hv3, ?_⟩
          subst hv3
          have hlen : (out ++ [at_]).length = out.length + 1 := by simp
          have := ih (readM p mem at_).2.1 at_ (out ++ [at_]) O3 oc3 w3 (e3.after (fun j hj => (ho.lt j hj).1) hw2) (by rw [hlen]; exact ho3) (by simp) (fun _ => ⟨a0, by
            by_cases hne : out = []
            · have := h1 hne; omega
            · have := h2 hne; have := hend hne; omega, by omega⟩) (by rw [hlen]; omega) hr2
          rw [hlen] at this
          exact this
        by_cases hne : out = []
        · subst hne
          rw [if_neg (by simp)]
          rw [if_neg (by simp)] at hr
          exact rest w1 (Ext.refl _ _) (by simp) hr
        · have hpos : 0 < out.length := List.length_pos_iff.2 hne
          have h2' := h2 hne
          rw [if_pos (by simpa using hpos)]
          obtain ⟨G', q, C, c, hG', hq, c0, c1, c2, c3, hcode⟩ := prog_at (RowAt.keep FncE.kept hp (below_keeps hw1)) (i := (readM p mem at_).1.f.toNat) hfl
          rw [hG] at hG'; cases hG'
          refine ⟨q, hq, by omega, by omega, G.params, c0, G.locals, c1, G.refs, c2, C, G.code.length, c, c3, ?_⟩
          refine call_gives hw1 (fun w2 e2 _ => gives32 (RowAt.keep InsE.kept hcode (ext_keeps e2)) _ _ _) fun w2 e2 hw2 => ⟨_, rfl, ?_⟩
          show if (decide (IntKind.wrap .i64 (at_ + sizeF G) > end_)) = true then _ else _
          rw [wrap_id (by omega) (by omega)]
          by_cases hov : end_ < at_ + sizeF G
          · rw [if_pos (by simpa using hov)]
            rw [if_pos ⟨hne, hov⟩] at hr
            subst hr
            exact ret_q hw2 fun w3 _ => walk_none _ _ _
          · rw [if_neg (by simpa using hov)]
            rw [if_neg (fun h => hov h.2)] at hr
            exact rest w2 e2 (fun _ => by omega) hr
      · rw [if_pos (by simpa using he)]
        rw [if_pos he] at hr
        subst hr
        exact ret_q hw1 fun w3 _ => walk_none _ _ _
theorem l0_60 {A : Option Addr} {l c : Nat} (hx : WordsAt w0 A l c mem) (hl : mem.length ≤ 1000000) (hp : ProgAt w0 P p.length p) (hs : Sized p) (hpl : p.length ≤ 1000) {q4 : Nat} {r : List Int × Int} :
    ∀ (k : Nat) (at_ end_ : Int) (out : List Int) (O : Option Addr) (oc : Nat) (w : World), Below w0.heap.size w0 w → w.ownsRow w0.heap.size 3 1 (.slice O out.length oc) out.length (out.map (.int .i64)) → (out = [] → mem.length + 1 < k) → (out ≠ [] → 0 ≤ end_ ∧ end_ < k ∧ end_ ≤ mem.length) → out.length + k ≤ mem.length + 3 → (at_ = -1 ∨ (out ≠ [] → at_ + sizeX p (readM p mem at_).1 ≤ end_)) → walkR p mem k at_ end_ out = r →
      V60.l0 w0.heap.size (IsQ w0 (WalkQ r w0)) k A l c O out.length oc at_ q4 P p.length cap w := by
  intro k
  induction k with
  | zero =>
    intro at_ end_ out O oc w _ _ h1 h2
    exfalso
    by_cases ho : out = []
    · have := h1 ho; omega
    · have := h2 ho; omega
  | succ k ih =>
    intro at_ end_ out O oc w hw ho h1 h2 h3 h4 hr
    dsimp -zeta only [V60.l0]
    unfold walkR at hr
    by_cases hm : at_ = -1
    · subst hm
      rw [if_neg (by simp)]
      rw [if_pos rfl] at hr
      subst hr
      exact ret_q hw fun w1 e1 => ⟨O, oc, rfl, owns_newk (e1.owns ho) (by simp only; omega)⟩
    · rw [if_pos (by simpa using hm)]
      rw [if_neg hm] at hr
      have h4' := h4.resolve_left hm
      refine call_rread hw.size (hx.keep (below_keeps hw)) (RowAt.keep FncE.kept hp (below_keeps hw)) hs hpl fun s w1 e1 hf => ⟨_, _, _, _, _, _, _, _, _, _, _, _, _, _, _, _, rfl, ?_⟩
      intro q10 _
      have hw1 := e1.after hw
      by_cases he : (readM p mem at_).2.2 = 0
      · rw [if_neg (by simpa using he)]
        rw [if_neg (by simpa using he)] at hr
        obtain ⟨G, hfn, f0, hG, a0, a1, z0, z1, u0, u1⟩ := read_zero hs hx.wd he
        rw [sizeX_eq hfn] at hr h4'
        rw [if_neg (fun h => by have := h4' h.1; omega)] at hr
        refine push_int hw1.size (Nat.le_trans hw.size e1.size) (e1.owns ho) (by omega) fun v w3 e3 ho3 => ?_
        obtain ⟨O3, oc3, hv3⟩ := owns_slice0 ho3
        refine ⟨O3, _, oc3, hv3, ?_⟩
        subst hv3
        have hw3 := e3.after (fun j hj => (ho.lt j hj).1) hw1
        have hlen : (out ++ [at_]).length = out.length + 1 := by simp
        have hend : 0 ≤ at_ ∧ at_ < k ∧ at_ ≤ mem.length := ⟨a0, by
            by_cases hne : out = []
            · have := h1 hne; omega
            · have := h2 hne; have := h4' hne; omega, by omega⟩
        have rest : ∀ w4, Ext w0.heap.size w3 w4 → ((readM p mem at_).2.1 = -1 ∨ (out ++ [at_] ≠ [] → (readM p mem at_).2.1 + sizeX p (readM p mem (readM p mem at_).2.1).1 ≤ at_)) → V60.l0 w0.heap.size (IsQ w0 (WalkQ r w0)) k A l c O3 (out.length + 1) oc3 (readM p mem at_).2.1 q4 P p.length cap w4 := by
          intro w4 e4 hc4
          have := ih (readM p mem at_).2.1 at_ (out ++ [at_]) O3 oc3 w4 (e4.after hw3) (by rw [hlen]; exact e4.owns ho3) (by simp) (fun _ => hend) (by rw [hlen]; omega) hc4 hr
          rw [hlen] at this
          exact this
        by_cases hb : (readM p mem at_).2.1 ≥ 0
        · rw [if_pos (by simpa using hb)]
          refine call_rread hw3.size (hx.keep (below_keeps hw3)) (RowAt.keep FncE.kept hp (below_keeps hw3)) hs hpl fun s4 w4 e4 hf4 => ⟨_, _, _, _, _, _, _, _, _, _, _, _, _, _, _, _, rfl, ?_⟩
          intro q13 _
          have hw4 := e4.after hw3
          have hr' := hr
          obtain ⟨k', rfl⟩ : ∃ k', k = k' + 1 := ⟨k - 1, by omega⟩
          unfold walkR at hr'
          rw [if_neg (by omega)] at hr'
          by_cases he2 : (readM p mem (readM p mem at_).2.1).2.2 = 0
          · rw [if_neg (by simpa using he2)]
            rw [if_neg (by simpa using he2)] at hr'
            obtain ⟨G2, hfn2, g0, hG2, b0, b1, y0, y1, v0, v1⟩ := read_zero hs hx.wd he2
            have hfl2 := (List.getElem?_eq_some_iff.1 hG2).1
            obtain ⟨G', q, C, c', hG', hq, c0, c1, c2, c3, hcode⟩ := prog_at (RowAt.keep FncE.kept hp (below_keeps hw4)) (i := (readM p mem (readM p mem at_).2.1).1.f.toNat) hfl2
            rw [hG2] at hG'; cases hG'
            refine ⟨q, hq, by omega, by omega, G2.params, c0, G2.locals, c1, G2.refs, c2, C, G2.code.length, c', c3, ?_⟩
            refine call_gives hw4 (fun w5 e5 _ => gives33 (RowAt.keep InsE.kept hcode (ext_keeps e5)) _ _ _) fun w5 e5 hw5 => ⟨_, rfl, ?_⟩
            show if (decide (IntKind.wrap .i64 ((readM p mem at_).2.1 + sizeF G2) > at_)) = true then _ else _
            rw [wrap_id (by omega) (by omega)]
            rw [sizeX_eq hfn2] at hr'
            by_cases hov : at_ < (readM p mem at_).2.1 + sizeF G2
            · rw [if_pos (by simpa using hov)]
              rw [if_pos ⟨by simp, hov⟩] at hr'
              subst hr'
              exact ret_q hw5 fun w6 _ => walk_none _ _ _
            · rw [if_neg (by simpa using hov)]
              exact rest w5 (e4.trans e5) (.inr fun _ => by rw [sizeX_eq hfn2]; omega)
          · rw [if_pos (by simpa using he2)]
            rw [if_pos he2] at hr'
            subst hr'
            exact ret_q hw4 fun w5 _ => walk_none _ _ _
        · rw [if_neg (by simpa using hb)]
          exact rest w3 (Ext.refl _ _) (.inl (by omega))
      · rw [if_pos (by simpa using he)]
        rw [if_pos he] at hr
        subst hr
        exact ret_q hw1 fun w3 _ => walk_none _ _ _
end
theorem yields59 {w : World} {g b : Nat} {mem : List Int} {p : List Fnc} {P : Option Addr} {cap : Nat} (ha : ArenaAt w g b mem) (hp : ProgAt w P p.length p) (hs : Sized p) (hpl : p.length ≤ 1000) (top : Int) :
    Yields Try.prog 59 [.pointer (some ⟨g, 0, none⟩), .agg ⟨[.slice P p.length cap]⟩, .int .i64 top] w (WalkQ (walkM p mem top) w) := by
  refine yields_of (V59.sound ?_)
  intro q4 _
  refine call_gives (Below.refl _ _) (fun w1 e1 _ => gives93 (ha.ext e1)) fun w1 e1 hw1 => ⟨_, rfl, mem.length + 3, ?_⟩
  have := ha.len
  exact l0_59 ha (by omega) hp hs hpl (mem.length + 3) top mem.length [] none 0 w1 hw1 (World.ownsRow_nil _ _ _ _) (fun _ => by omega) (fun h => absurd rfl h) (by simp) (walkR_free _ _ _ _ _ _)
theorem yields60 {w : World} {A : Option Addr} {l c : Nat} {mem : List Int} {p : List Fnc} {P : Option Addr} {cap : Nat} (hx : WordsAt w A l c mem) (hl : mem.length ≤ 1000000) (hp : ProgAt w P p.length p) (hs : Sized p) (hpl : p.length ≤ 1000) (top : Int) :
    Yields Try.prog 60 [.slice A l c, .agg ⟨[.slice P p.length cap]⟩, .int .i64 top] w (WalkQ (walkM p mem top) w) := by
  refine yields_of (V60.sound ?_)
  intro q4 _
  refine ⟨mem.length + 3, ?_⟩
  exact l0_60 hx hl hp hs hpl (mem.length + 3) top 0 [] none 0 w (Below.refl _ _) (World.ownsRow_nil _ _ _ _) (fun _ => by omega) (fun h => absurd rfl h) (by simp) (.inr fun h => absurd rfl h) rfl
theorem walk_new {w1 w2 w' w : World} {r : List Int × Int} {v : Value} (hs : w.heap.size ≤ w1.heap.size) (hnew : ∀ k, w1.heap.size ≤ k → w'.heap[k]? = w2.heap[k]?) (h : WalkQ r w1 v w2) : ∃ A c, v = .tuple ⟨[.slice A r.1.length c, .int .i64 r.2]⟩ ∧ Nums .i64 (newW w.heap.size w') A r.1.length r.1 := by
  obtain ⟨A, c, hv, hn⟩ := h
  refine ⟨A, c, hv, RowAt.keep (NumE.kept _) hn fun q v hq => ?_⟩
  obtain ⟨h1, h2⟩ := newW_cell.1 hq
  exact newW_cell.2 ⟨(cell_same (hnew _ h2)).trans h1, Nat.le_trans hs h2⟩
theorem call_walk {w0 w : World} {bs : List Nat} {g b : Nat} {mem : List Int} {P : Option Addr} {p : List Fnc} {cap : Nat} {top : Int} {K : Value → World → Prop} (hB : w0.heap.size ≤ w.heap.size) (h : ArenaAt w g b mem) (hp : ProgAt w P p.length p) (hs : Sized p) (hpl : p.length ≤ 1000)
    (hk : ∀ A c w', Ext w0.heap.size w w' → Nums .i64 (newW w.heap.size w') A (walkM p mem top).1.length (walkM p mem top).1 → K (.tuple ⟨[.slice A (walkM p mem top).1.length c, .int .i64 (walkM p mem top).2]⟩) w') :
    CallK Try.prog 59 [.pointer (some ⟨g, 0, none⟩), .agg ⟨[.slice P p.length cap]⟩, .int .i64 top] w0.heap.size w bs K := by
  refine call_yieldsX (Q := WalkQ (walkM p mem top)) hB (fun w1 e1 => yields59 (h.ext e1) (RowAt.keep FncE.kept hp (ext_keeps e1)) hs hpl top) fun w1 u w2 w' hsz hQ hnew he => ?_
  obtain ⟨A, c, rfl, hn⟩ := walk_new hsz hnew hQ
  exact hk A c w' he hn
theorem call_rwalk {w0 w : World} {bs : List Nat} {A P : Option Addr} {l c cap : Nat} {mem : List Int} {p : List Fnc} {top : Int} {K : Value → World → Prop} (hB : w0.heap.size ≤ w.heap.size) (h : WordsAt w A l c mem) (hl : mem.length ≤ 1000000) (hp : ProgAt w P p.length p) (hs : Sized p) (hpl : p.length ≤ 1000)
    (hk : ∀ A c w', Ext w0.heap.size w w' → Nums .i64 (newW w.heap.size w') A (walkM p mem top).1.length (walkM p mem top).1 → K (.tuple ⟨[.slice A (walkM p mem top).1.length c, .int .i64 (walkM p mem top).2]⟩) w') :
    CallK Try.prog 60 [.slice A l c, .agg ⟨[.slice P p.length cap]⟩, .int .i64 top] w0.heap.size w bs K := by
  refine call_yieldsX (Q := WalkQ (walkM p mem top)) hB (fun w1 e1 => yields60 (h.keep (ext_keeps e1)) hl (RowAt.keep FncE.kept hp (ext_keeps e1)) hs hpl top) fun w1 u w2 w' hsz hQ hnew he => ?_
  obtain ⟨A, c, rfl, hn⟩ := walk_new hsz hnew hQ
  exact hk A c w' he hn
end Go.Proofs.Ytlccbaemcfjdoaa
set_option linter.unusedVariables false
set_option linter.unusedSimpArgs false
namespace Go.Proofs.Ytlccbaemcfjdoaa
open Go.RowKit
def frmC (x : Frm) (s : Sls) : List Value := [.int .i64 x.f, .int .i64 x.pc, .int .i64 x.mode, .bool x.dfd, .int .u64 x.value, .slice s.D x.dfs.length s.dc, .slice s.L x.locals.length s.lc, .slice s.O x.ops.length s.oc]
def frmsC : List Frm → List Sls → List Value
  | x :: xs, s :: ss => frmC x s ++ frmsC xs ss
  | _, _ => []
theorem frmC_len (x : Frm) (s : Sls) : (frmC x s).length = 8 := rfl
theorem frms_get : ∀ {xs : List Frm} {ss : List Sls} {i j : Nat} {x : Frm} {s : Sls} {u : Value}, xs[i]? = some x → ss[i]? = some s → (frmC x s)[j]? = some u → (frmsC xs ss)[i * 8 + j]? = some u
  | [], ss, i, j, x, s, u, h, _, _ => by simp at h
  | y :: xs, [], i, j, x, s, u, _, h, _ => by simp at h
  | y :: xs, t :: ss, 0, j, x, s, u, h, hs, hu => by
    simp at h hs; subst h; subst hs
    have hj := (List.getElem?_eq_some_iff.1 hu).1
    rw [show 0 * 8 + j = j by omega]
    show (frmC y t ++ frmsC xs ss)[j]? = _
    rw [List.getElem?_append_left hj]; exact hu
  | y :: xs, t :: ss, i + 1, j, x, s, u, h, hs, hu => by
    have := frms_get (xs := xs) (ss := ss) (i := i) (j := j) (by simpa using h) (by simpa using hs) hu
    show (frmC y t ++ frmsC xs ss)[(i + 1) * 8 + j]? = _
    rw [List.getElem?_append_right (by rw [frmC_len]; omega), frmC_len, show (i + 1) * 8 + j - 8 = i * 8 + j by omega]
    exact this
theorem frms_snoc (x : Frm) (s : Sls) : ∀ {xs : List Frm} {ss : List Sls}, ss.length = xs.length → frmsC (xs ++ [x]) (ss ++ [s]) = frmsC xs ss ++ frmC x s
  | [], [], h => by simp [frmsC]
  | [], u :: vs, h => by simp at h
  | y :: ds, [], h => by simp at h
  | y :: ds, u :: vs, h => by
    have := frms_snoc x s (xs := ds) (ss := vs) (by simpa using h)
    simp only [List.cons_append, frmsC, this, List.append_assoc]
structure OwnFs (w : World) (B : Nat) (v : Value) (xs : List Frm) (ss : List Sls) : Prop where
  row : w.ownsRow B 67 8 v xs.length (frmsC xs ss)
  len : ss.length = xs.length
  each : ∀ (i : Nat) (x : Frm) (s : Sls), xs[i]? = some x → ss[i]? = some s → FrmOwn w B x s
def OtherT (S : Nat → Prop) (w : World) (ts : List TypeId) : Prop := ∀ k c t f, S k → w.heap[k]? = some (Obj.cells c t f) → t ∉ ts
theorem owns_extT {B B' : Nat} {S : Nat → Prop} {w w' : World} {e : TypeId} {n m : Nat} {v : Value} {xs : List Value} {ts : List TypeId} (ho : w.ownsRow B e m v n xs) (he : ExtS B' S w w') (hS : OtherT S w ts) (hts : e ∈ ts) : w'.ownsRow B e m v n xs := he.owns ho fun k hk hSk => by
  rcases ho.2 with ⟨rfl, _⟩ | ⟨g, cap, cur, rfl, _, hg, _⟩
  · cases hk
  · cases hk; exact hS _ _ _ _ hSk hg hts
theorem OwnDs.extT {B B' : Nat} {S : Nat → Prop} {w w' : World} {v : Value} {ds : List Dfr} {vs : List Value} (h : OwnDs w B v ds vs) (he : ExtS B' S w w') (hS : OtherT S w [75, 51]) : OwnDs w' B v ds vs :=
  ⟨owns_extT h.row he hS (by simp), h.len, fun i d u hd hu => owns_extT (h.args i d u hd hu) he hS (by simp)⟩
theorem FrmOwn.extT {B B' : Nat} {S : Nat → Prop} {w w' : World} {x : Frm} {s : Sls} (h : FrmOwn w B x s) (he : ExtS B' S w w') (hS : OtherT S w [75, 51]) : FrmOwn w' B x s := by
  obtain ⟨vs, hv, ha⟩ := h.dfs
  exact ⟨⟨vs, hv.extT he hS, ha⟩, h.apart, owns_extT h.locals he hS (by simp), owns_extT h.ops he hS (by simp)⟩
theorem OwnFs.ext {w w' : World} {B B' : Nat} {v : Value} {xs : List Frm} {ss : List Sls} (h : OwnFs w B v xs ss) (he : Ext B' w w') : OwnFs w' B v xs ss := ⟨he.owns h.row, h.len, fun i x s hx hs => (h.each i x s hx hs).ext he⟩
theorem OwnFs.extT {w w' : World} {B B' : Nat} {S : Nat → Prop} {v : Value} {xs : List Frm} {ss : List Sls} (h : OwnFs w B v xs ss) (he : ExtS B' S w w') (hS : OtherT S w [67, 75, 51]) : OwnFs w' B v xs ss :=
  ⟨owns_extT h.row he hS (by simp), h.len, fun i x s hx hs => (h.each i x s hx hs).extT he fun k c t f hk hc => fun ht => hS k c t f hk hc (by simp at ht ⊢; exact .inr ht)⟩
theorem other_own {w : World} {B m n : Nat} {e : TypeId} {v : Value} {xs : List Value} {ts : List TypeId} (ho : w.ownsRow B e m v n xs) (he : e ∉ ts) : OtherT (fun k => v.ownBlock = some k) w ts := fun k c t f hk hc => by
  rcases ho.2 with ⟨rfl, _⟩ | ⟨g, cap, cur, rfl, _, hg, _⟩
  · cases hk
  · cases hk; rw [hg] at hc; cases hc; exact he
theorem other_nums {wb w : World} {g : Nat} {ts : List TypeId} (hn : NumsIn wb w g) (he : (70 : TypeId) ∉ ts) : OtherT (fun k => k = g) w ts := fun k c t f hk hc => by
  obtain ⟨A, ln, cn, ns, h1, _⟩ := hn
  subst hk
  rw [h1] at hc; cases hc; exact he
theorem frmC_one {x : Frm} {s : Sls} : ∀ u ∈ frmC x s, u.oneCell' = true := fun u hu => by
  simp only [frmC, List.mem_cons, List.not_mem_nil, or_false] at hu
  rcases hu with rfl | rfl | rfl | rfl | rfl | rfl | rfl | rfl <;> rfl
theorem push_frm {B b0 : Nat} {w : World} {bs : List Nat} {v : Value} {xs : List Frm} {ss : List Sls} {x : Frm} {s : Sls} {K : Value → World → Prop} (hB : B ≤ w.heap.size) (hb0 : b0 ≤ w.heap.size) (ho : OwnFs w b0 v xs ss) (hx : FrmOwn w b0 x s) (hn : xs.length ≤ 1000000)
    (hk : ∀ v' w', ExtS B (fun k => v.ownBlock = some k) w w' → OwnFs w' b0 v' (xs ++ [x]) (ss ++ [s]) → K v' w') :
    Expo B w bs fun w1 => Hide bs (w1.alloc (.cells ⟨frmC x s⟩ 67)) fun w2 => RunK Try.prog (Builtin.append_ #[88, 88] 88 ⟨[v, .slice (some ⟨w1.heap.size, 0, none⟩) 1 1]⟩) B w2 bs K := by
  refine expo_alloc hB fun w1 w2 hs e2 _ ho2 => ?_
  have hb : Try.t67.bytes = 112 := by kernel_rfl
  refine append_own (t := 88) (e := 67) (i := Try.t67) (z := .agg ⟨[.int .i64 0, .int .i64 0, .int .i64 0, .bool false, .int .u64 0, .slice none 0 0, .slice none 0 0, .slice none 0 0]⟩) (size := 8) (bytes := 112) (b0 := b0) (by kernel_rfl) (by kernel_rfl) (by kernel_rfl) (by kernel_rfl) hb rfl (by omega) (e2.owns ho.row) (news := frmC x s) rfl (fun j y hj => by rw [own_add]; exact at_cell (L := frmC x s) ho2 hj) frmC_one (by simp only [maxLen]; omega) (by omega) (Nat.le_trans hB e2.size) (Nat.le_trans hb0 e2.size) fun v' w' he ho' _ => hk v' w' (he.ofExt e2) ⟨?_, by simp [ho.len], fun i y z hy hz => ?_⟩
  · rw [frms_snoc x s ho.len]
    simpa using ho'
  · have hall : FrmOwn w b0 y z := by
      by_cases hi : i < xs.length
      · rw [List.getElem?_append_left hi] at hy
        rw [List.getElem?_append_left (by rw [ho.len]; exact hi)] at hz
        exact ho.each i y z hy hz
      · have hi' : i = xs.length := by have := (List.getElem?_eq_some_iff.1 hy).1; simp at this; omega
        subst hi'
        have h1 : y = x := by simpa using hy.symm
        have h2 : z = s := by rw [← ho.len] at hz; simpa using hz.symm
        subst h1; subst h2
        exact hx
    exact (hall.ext e2).extT he (other_own (e2.owns ho.row) (by simp))
def FrmE (w : World) (p : Addr) (x : Frm) : Prop := ∃ s, (∀ j u, (frmC x s)[j]? = some u → w.cell? (p.add j) = some u) ∧ FrmAt w x s
theorem FrmE.kept : Kept1 FrmE := fun _ _ _ _ hw h => by
  obtain ⟨s, h1, h2⟩ := h
  exact ⟨s, fun j u hj => hw _ _ (h1 j u hj), h2.keep hw⟩
abbrev Frms (w : World) (A : Option Addr) (l : Nat) (xs : List Frm) : Prop := RowAt FrmE 8 w A l xs
theorem OwnFs.frms {w : World} {B : Nat} {A : Option Addr} {c : Nat} {xs : List Frm} {ss : List Sls} {p : List Fnc} (h : OwnFs w B (.slice A xs.length c) xs ss) (hs : Sized p) (hm : ∀ x ∈ xs, mayM p x = true) (hl : xs.length ≤ 1000000) : Frms (newW B w) A xs.length xs := by
  refine ⟨rfl, by simp only [maxLen]; omega, fun i x hx => ?_⟩
  have hi := (List.getElem?_eq_some_iff.1 hx).1
  rcases h.row.2 with ⟨hv, h0⟩ | ⟨g, cap, cur, hv, hb, _⟩
  · omega
  · cases hv
    have hss : ss[i]? = some (ss[i]'(by rw [h.len]; exact hi)) := List.getElem?_eq_getElem _
    refine ⟨_, rfl, _, fun j u hj => ?_, (h.each i x _ hx hss).mayAt hs (hm x (List.mem_of_getElem? hx))⟩
    have := owns_cell h.row (frms_get hx hss hj)
    simp only [own_add, bx_add, Nat.zero_add]
    exact newW_cell.2 ⟨this, hb⟩
structure Stk where
  mem : List Int
  below : Int
  fin : Int
  ats : List Int
def stepK (p : List Fnc) (s : Stk) (x : Frm) : Stk := ⟨writeM p s.mem s.fin s.below x, s.fin, s.fin + sizeX p x, s.ats ++ [s.fin]⟩
def stk (p : List Fnc) (mem : List Int) (lo : Int) (xs : List Frm) : Stk := xs.foldl (stepK p) ⟨mem, -1, lo, []⟩
theorem stk_snoc (p : List Fnc) (mem : List Int) (lo : Int) (xs : List Frm) (x : Frm) : stk p mem lo (xs ++ [x]) = stepK p (stk p mem lo xs) x := by unfold stk; rw [List.foldl_append]; rfl
theorem snoc_ind {α : Type} {Q : List α → Prop} (h0 : Q []) (h1 : ∀ xs x, Q xs → Q (xs ++ [x])) (xs : List α) : Q xs := by
  have : ∀ ys : List α, Q ys.reverse := fun ys => by
    induction ys with
    | nil => exact h0
    | cons y ys ih => rw [List.reverse_cons]; exact h1 _ _ ih
  have h := this xs.reverse
  rwa [List.reverse_reverse] at h
theorem stk_ats_len (p : List Fnc) (mem : List Int) (lo : Int) (xs : List Frm) : (stk p mem lo xs).ats.length = xs.length :=
  snoc_ind (Q := fun xs => (stk p mem lo xs).ats.length = xs.length) rfl (fun xs x ih => by rw [stk_snoc]; simp [stepK, ih]) xs
theorem stk_mem_len (p : List Fnc) (mem : List Int) (lo : Int) (xs : List Frm) : (stk p mem lo xs).mem.length = mem.length :=
  snoc_ind (Q := fun xs => (stk p mem lo xs).mem.length = mem.length) rfl (fun xs x ih => by rw [stk_snoc]; simp only [stepK]; rw [writeM_len, ih]) xs
theorem stk_wd {p : List Fnc} {mem : List Int} (hm : Wd mem) (hml : mem.length ≤ 1000000000) (hpl : p.length ≤ 1000) (lo : Int) (xs : List Frm) : (∀ x ∈ xs, FrmWd x) → Wd (stk p mem lo xs).mem :=
  snoc_ind (Q := fun xs => (∀ x ∈ xs, FrmWd x) → Wd (stk p mem lo xs).mem) (fun _ => hm) (fun xs x ih h => by
    rw [stk_snoc]
    exact writeM_wd (ih fun y hy => h y (by simp [hy])) (by rw [stk_mem_len]; exact hml) hpl _ _ (h x (by simp))) xs
theorem size_may {p : List Fnc} (hs : Sized p) {x : Frm} (h : mayM p x = true) : ∃ g, fnAt p x.f = some g ∧ ¬ x.f < 0 ∧ p[x.f.toNat]? = some g ∧ sizeX p x = sizeF g ∧ 15 ≤ sizeF g ∧ sizeF g ≤ 39 ∧ sizedF g = true := by
  obtain ⟨g, h0, hg, hfn, _⟩ := may_some h
  have hgs := hs g (List.mem_of_getElem? hg)
  have hbd := sized_bd hgs
  have hsF := sizeF_eq hgs
  have hah : 7 ≤ aheadM g ∧ aheadM g ≤ 23 := by unfold aheadM; split <;> omega
  exact ⟨g, hfn, h0, hg, sizeX_eq hfn, by omega, by omega, hgs⟩
structure StkOk (p : List Fnc) (mem : List Int) (lo : Int) (xs : List Frm) : Prop where
  few : xs.length ≤ 11
  may : ∀ x ∈ xs, mayM p x = true
  wd : ∀ x ∈ xs, FrmWd x
  fin : (stk p mem lo xs).fin ≤ mem.length
def StackQ (p : List Fnc) (mem : List Int) (lo : Int) (A : Option Addr) (l c : Nat) (w1 : World) : Value → World → Prop := fun u w2 => ∃ xs FA fc TA tc MA mc, StkOk p mem lo xs ∧
  u = .tuple ⟨[.slice FA xs.length fc, .slice TA xs.length tc, .slice MA l mc, .int .i64 (stk p mem lo xs).fin]⟩ ∧ Frms (newW w1.heap.size w2) FA xs.length xs ∧
  (MA = A ∧ mc = c ∧ xs = [] ∨ OwnWs w2 w1.heap.size (.slice MA l mc) (stk p mem lo xs).mem) ∧ w2.ownsRow w1.heap.size 3 1 (.slice TA xs.length tc) xs.length ((stk p mem lo xs).ats.map (.int .i64))
theorem l0_58 {w0 : World} {p : List Fnc} {P : Option Addr} {cap gN : Nat} (hp : ProgAt w0 P p.length p) (hs : Sized p) (hpl : 1 ≤ p.length ∧ p.length ≤ 1000) (hg : w0.heap.size ≤ gN) {mem : List Int} {lo : Int} (hlo : 0 ≤ lo) {A : Option Addr} {c : Nat} (hm : WordsAt w0 A mem.length c mem) (hml : mem.length ≤ 100000) {q5 : Nat} :
    ∀ (k : Nat) (i : Int) (w : World) (xs : List Frm) (ss : List Sls) (FA : Option Addr) (fc : Nat) (TA : Option Addr) (tc : Nat) (MA : Option Addr) (mc : Nat), 0 ≤ i → i < k → i + xs.length ≤ 11 → Below w0.heap.size w0 w → NumsIn w0 w gN →
      OwnFs w w0.heap.size (.slice FA xs.length fc) xs ss → w.ownsRow w0.heap.size 3 1 (.slice TA xs.length tc) xs.length ((stk p mem lo xs).ats.map (.int .i64)) → (MA = A ∧ mc = c ∧ xs = [] ∨ OwnWs w w0.heap.size (.slice MA mem.length mc) (stk p mem lo xs).mem) →
      (∀ x ∈ xs, mayM p x = true) → (∀ x ∈ xs, FrmWd x) → lo ≤ (stk p mem lo xs).fin → (stk p mem lo xs).fin ≤ mem.length → -1 ≤ (stk p mem lo xs).below → ((stk p mem lo xs).below < mem.length) →
      V58.l0 w0.heap.size (IsQ w0 (StackQ p mem lo A mem.length c w0)) k mem.length MA mem.length mc ⟨gN, 0, none⟩ FA xs.length fc TA xs.length tc (stk p mem lo xs).below (stk p mem lo xs).fin i q5 P p.length cap w := by
  intro k
  induction k with
  | zero => intros; omega
  | succ k ih =>
    intro i w xs ss FA fc TA tc MA mc hi0 hik hi11 hw hn hF hT hM hmay hwd hf0 hf1 hb0 hb1
    dsimp -zeta only [V58.l0]
    have done : ∀ w1, Ext w0.heap.size w w1 → V58.b1 w0.heap.size (IsQ w0 (StackQ p mem lo A mem.length c w0)) MA mem.length mc FA xs.length fc TA xs.length tc (stk p mem lo xs).fin w1 := by
      intro w1 e1
      unfold V58.b1
      refine ret_q (e1.after hw) fun w2 e2 => ⟨xs, FA, fc, TA, tc, MA, mc, ⟨by omega, hmay, hwd, hf1⟩, rfl, ((hF.ext e1).ext e2).frms hs hmay (by omega), ?_, e2.owns (e1.owns hT)⟩
      exact hM.imp id fun h => e2.owns (e1.owns h)
    by_cases hpos : i > 0
    · rw [if_pos (by simpa using hpos)]
      refine call_frame hw hn hg (RowAt.keep FncE.kept hp fun q v hq => off_cell.2 ⟨below_keeps hw q v hq, by have := cell_lt hq; omega⟩) hs hpl fun x s w1 hmx hxw hown e1 hn1 hw1 => ⟨_, _, _, _, _, _, _, _, _, _, _, _, _, _, rfl, ?_⟩
      intro q20 _
      obtain ⟨G, hfn, f0, hG, hsx, z0, z1, hGs⟩ := size_may hs hmx
      have hfl := (List.getElem?_eq_some_iff.1 hG).1
      obtain ⟨G', q, C, c', hG', hq, c0, c1, c2, c3, hcode⟩ := prog_at (RowAt.keep FncE.kept hp (below_keeps hw1)) (i := x.f.toNat) hfl
      rw [hG] at hG'; cases hG'
      refine ⟨q, hq, by omega, by omega, G.params, c0, G.locals, c1, G.refs, c2, C, G.code.length, c', c3, ?_⟩
      have hS := other_nums hn (ts := [67, 75, 51, 3]) (by simp)
      have hF1 : OwnFs w1 w0.heap.size (.slice FA xs.length fc) xs ss := hF.extT e1 fun k c t f hk hc ht => hS k c t f hk hc (by simp at ht ⊢; rcases ht with h | h | h <;> simp [h])
      have hT1 := owns_extT hT e1 hS (by simp)
      have hM1 : MA = A ∧ mc = c ∧ xs = [] ∨ OwnWs w1 w0.heap.size (.slice MA mem.length mc) (stk p mem lo xs).mem := hM.imp id fun h => owns_extT h e1 hS (by simp)
      have hx1 : FrmOwn w1 w0.heap.size x s := hown.base hw.size
      refine call_gives hw1 (fun w2 e2 _ => gives33 (RowAt.keep InsE.kept hcode (ext_keeps e2)) _ _ _) fun w2 e2 hw2 => ⟨_, rfl, ?_⟩
      show if (decide (sizeF G > IntKind.wrap .i64 ((mem.length : Int) - (stk p mem lo xs).fin))) = true then _ else _
      rw [wrap_id (by omega) (by omega)]
      by_cases hbig : sizeF G > (mem.length : Int) - (stk p mem lo xs).fin
      · rw [if_pos (by simpa using hbig)]
        -- nothing more fits
        unfold V58.b1
        exact ret_q hw2 fun w3 e3 => ⟨xs, FA, fc, TA, tc, MA, mc, ⟨by omega, hmay, hwd, hf1⟩, rfl, ((hF1.ext e2).ext e3).frms hs hmay (by omega), hM1.imp id fun h => e3.owns (e2.owns h), e3.owns (e2.owns hT1)⟩
      · rw [if_neg (by simpa using hbig)]
        have hml2 := stk_mem_len p mem lo xs
        have hwd2 := stk_wd hm.wd (by omega) hpl.2 lo xs hwd
        have hWA : WordsAt w2 MA mem.length mc (stk p mem lo xs).mem := by
          rcases hM1 with ⟨rfl, rfl, rfl⟩ | h
          · exact hm.keep (below_keeps hw2)
          · obtain ⟨A', c2', hv, hW, _⟩ := ownws_words (e2.owns h) hwd2 (by omega)
            rw [hml2] at hv hW
            cases hv; exact hW
        have hX2 : FrmAt w2 x s := ((hx1.ext e2).mayAt hs hmx).keep newW_in
        have hok : writeOk p (stk p mem lo xs).mem.length (stk p mem lo xs).fin (stk p mem lo xs).below x = true := by
          unfold writeOk
          rw [hmx, hfn, hml2]
          simp only [Bool.true_and]
          rw [show belowM mem.length (stk p mem lo xs).below = true by unfold belowM; exact decide_eq_true (by omega), Bool.true_and]
          unfold inM; exact decide_eq_true (by omega)
        refine call_rwrite (x := x) (s := s) hw2.size hWA (RowAt.keep FncE.kept hp (below_keeps hw2)) hs hpl.2 (stk p mem lo xs).fin (stk p mem lo xs).below hX2 hxw fun MA3 mc3 w3 e3 hW3 hor => ⟨_, _, _, _, rfl, ?_⟩
        have hw3 := e3.after hw2
        have hM3 : OwnWs w3 w0.heap.size (.slice MA3 mem.length mc3) (stk p mem lo (xs ++ [x])).mem := by
          rw [stk_snoc]
          rcases hor with ⟨_, _, hE⟩ | ⟨_, h⟩
          · unfold writeE at hE; rw [if_pos hok] at hE; simp at hE
          · exact owns_base h hw2.size
        refine push_frm (x := x) (s := s) hw3.size hw3.size (hF1.ext (e2.trans e3)) (hx1.ext (e2.trans e3)) (by omega) fun v6 w6 e6 hF6 => ?_
        obtain ⟨FA6, fc6, hv6⟩ := owns_slice0 hF6.row
        refine ⟨FA6, _, fc6, hv6, ?_⟩
        subst hv6
        have hFr := (hF1.ext (e2.trans e3)).row
        have hw6 := e6.after (fun j hj => (hFr.lt j hj).1) hw3
        have hT6 := owns_extT (e3.owns (e2.owns hT1)) e6 (other_own hFr (ts := [3]) (by simp)) (by simp)
        have hM6 := owns_extT hM3 e6 (other_own hFr (ts := [51]) (by simp)) (by simp)
        have hn6 := ((hn1.ext e2).ext e3).other e6 fun hk => (other_own hFr (ts := [70]) (by simp)) gN _ _ _ hk (((hn1.ext e2).ext e3).choose_spec.choose_spec.choose_spec.choose_spec.1) (by simp)
        refine push_int hw6.size hw6.size hT6 (by omega) fun v9 w9 e9 hT9 => ?_
        obtain ⟨TA9, tc9, hv9⟩ := owns_slice0 hT9
        refine ⟨TA9, _, tc9, hv9, ?_⟩
        subst hv9
        have hw9 := e9.after (fun j hj => (hT6.lt j hj).1) hw6
        have hl1 : (xs ++ [x]).length = xs.length + 1 := by simp
        have hst : (stk p mem lo (xs ++ [x])).below = (stk p mem lo xs).fin ∧ (stk p mem lo (xs ++ [x])).fin = (stk p mem lo xs).fin + sizeF G ∧ (stk p mem lo (xs ++ [x])).ats = (stk p mem lo xs).ats ++ [(stk p mem lo xs).fin] := by
          rw [stk_snoc]; exact ⟨rfl, by simp only [stepK]; rw [hsx], rfl⟩
        have := ih (i - 1) w9 (xs ++ [x]) (ss ++ [s]) FA6 fc6 TA9 tc9 MA3 mc3 (by omega) (by omega) (by rw [hl1]; push_cast; omega) hw9
          (hn6.other e9 fun hk => (other_own hT6 (ts := [70]) (by simp)) gN _ _ _ hk (hn6.choose_spec.choose_spec.choose_spec.choose_spec.1) (by simp))
          (hF6.extT e9 (other_own hT6 (by simp))) (by rw [hl1, hst.2.2]; exact hT9) (.inr (owns_extT hM6 e9 (other_own hT6 (ts := [51]) (by simp)) (by simp)))
          (fun y hy => by rcases List.mem_append.1 hy with hy | hy
                          · exact hmay y hy
                          · simp at hy; subst hy; exact hmx)
          (fun y hy => by rcases List.mem_append.1 hy with hy | hy
                          · exact hwd y hy
                          · simp at hy; subst hy; exact hxw)
          (by rw [hst.2.1]; omega) (by rw [hst.2.1]; omega) (by rw [hst.1]; omega) (by rw [hst.1]; omega)
        rw [hst.1, hst.2.1, hl1] at this
        show V58.l0 _ _ k _ _ _ _ _ _ _ _ _ _ _ _ (IntKind.wrap .i64 ((stk p mem lo xs).fin + sizeF G)) _ _ _ _ _ _
        rw [wrap_id (n := (stk p mem lo xs).fin + sizeF G) (by omega) (by omega), wrap_id (n := i - 1) (by omega) (by omega), hl1]
        exact this
    · rw [if_neg (by simpa using hpos)]
      exact done w (Ext.refl _ _)
theorem yields58 {w : World} {p : List Fnc} {P : Option Addr} {cap : Nat} (hp : ProgAt w P p.length p) (hs : Sized p) (hpl : 1 ≤ p.length ∧ p.length ≤ 1000) {fs : List Int} {A1 : Option Addr} {l1 c1 : Nat} (hfs : BytesAt w A1 l1 c1 fs) {mem : List Int} {lo : Int} {A : Option Addr} {c : Nat} (hlo : 0 ≤ lo ∧ lo ≤ mem.length) (hm : WordsAt w A mem.length c mem) (hml : 1 ≤ mem.length ∧ mem.length ≤ 100000) :
    Yields Try.prog 58 [.agg ⟨[.slice P p.length cap]⟩, .slice A1 l1 c1, .int .i64 lo, .int .i64 mem.length, .slice A mem.length c] w (StackQ p mem lo A mem.length c w) := by
  refine yields_of (V58.sound ?_)
  intro q5 _
  refine expo_alloc (Nat.le_refl _) fun w1 w2 hs1 e2 hl2 ho2 => ?_
  have hn2 : NumsIn w w2 w1.heap.size := ⟨A1, l1, c1, fs, ho2, hfs⟩
  have hw2 := e2.after (Below.refl _ _)
  refine call_n hw2.size hn2 (fun w3 e3 => turns51 (hn2.ext e3) (below_keeps (e3.after hw2))) fun v w3 hR e3 hn3 => ?_
  obtain ⟨y, rfl, hy0, hy1⟩ := hR
  have hw3 := e3.after (fun k h => by subst h; exact hs1) hw2
  have t12 : 0 ≤ Int.tmod y 12 ∧ Int.tmod y 12 < 12 := ⟨Int.tmod_nonneg _ hy0, Int.tmod_lt_of_pos _ (by omega)⟩
  refine ⟨y, rfl, by omega, (Int.tmod y 12).toNat + 1, ?_⟩
  exact l0_58 hp hs hpl hs1 hlo.1 hm hml.2 ((Int.tmod y 12).toNat + 1) (Int.tmod y 12) w3 [] [] none 0 none 0 A c t12.1 (by omega) (by simp; omega) hw3 hn3
    ⟨World.ownsRow_nil _ _ _ _, rfl, fun i x s h => by simp at h⟩ (World.ownsRow_nil _ _ _ _) (.inl ⟨rfl, rfl, rfl⟩) (fun x h => by cases h) (fun x h => by cases h) (Int.le_refl _) hlo.2 (Int.le_refl _) (by show (-1 : Int) < _; omega)
theorem call_stacked {w0 w : World} {bs : List Nat} {p : List Fnc} {P : Option Addr} {cap : Nat} {K : Value → World → Prop} (hB : w0.heap.size ≤ w.heap.size) (hp : ProgAt w P p.length p) (hs : Sized p) (hpl : 1 ≤ p.length ∧ p.length ≤ 1000) {fs : List Int} {A1 : Option Addr} {l1 c1 : Nat} (hfs : BytesAt w A1 l1 c1 fs) {mem : List Int} {lo : Int} {A : Option Addr} {c : Nat} (hlo : 0 ≤ lo ∧ lo ≤ mem.length) (hm : WordsAt w A mem.length c mem) (hml : 1 ≤ mem.length ∧ mem.length ≤ 100000)
    (hk : ∀ xs FA fc TA tc MA mc w', Ext w0.heap.size w w' → StkOk p mem lo xs → Frms (newW w.heap.size w') FA xs.length xs → (MA = A ∧ mc = c ∧ xs = [] ∨ OwnWs w' w.heap.size (.slice MA mem.length mc) (stk p mem lo xs).mem) → w'.ownsRow w.heap.size 3 1 (.slice TA xs.length tc) xs.length ((stk p mem lo xs).ats.map (.int .i64)) →
      K (.tuple ⟨[.slice FA xs.length fc, .slice TA xs.length tc, .slice MA mem.length mc, .int .i64 (stk p mem lo xs).fin]⟩) w') :
    CallK Try.prog 58 [.agg ⟨[.slice P p.length cap]⟩, .slice A1 l1 c1, .int .i64 lo, .int .i64 mem.length, .slice A mem.length c] w0.heap.size w bs K := by
  refine call_yieldsX (Q := StackQ p mem lo A mem.length c) hB (fun w1 e1 => yields58 (RowAt.keep FncE.kept hp (ext_keeps e1)) hs hpl (hfs.keep (ext_keeps e1)) hlo (hm.keep (ext_keeps e1)) hml) fun w1 u w2 w' hsz hQ hnew he => ?_
  obtain ⟨xs, FA, fc, TA, tc, MA, mc, hok, rfl, hF, hM, hT⟩ := hQ
  have same : ∀ {e : TypeId} {m n : Nat} {v : Value} {ys : List Value}, w2.ownsRow w1.heap.size e m v n ys → w'.ownsRow w.heap.size e m v n ys := fun ho => owns_base (owns_other ho fun g hg => hnew g (ho.lt g hg).1) hsz
  refine hk xs FA fc TA tc MA mc w' he hok (RowAt.keep FrmE.kept hF fun q v hq => ?_) (hM.imp id same) (same hT)
  obtain ⟨h1, h2⟩ := newW_cell.1 hq
  exact newW_cell.2 ⟨(cell_same (hnew _ h2)).trans h1, Nat.le_trans hsz h2⟩
end Go.Proofs.Ytlccbaemcfjdoaa
set_option linter.unusedVariables false
set_option linter.unusedSimpArgs false
namespace Go.Proofs.Ytlccbaemcfjdoaa
open Go.RowKit
def FrmIn (p : List Fnc) (M : List Int) (at_ below : Int) (x : Frm) : Prop := ∃ g, fnAt p x.f = some g ∧ belowM M.length below = true ∧ inM M.length at_ (sizeF g) = true ∧
    (∀ i, i < 7 → M.getD (at_.toNat + i) 0 = (hdW (hdOf below x)).getD i 0) ∧
    (∀ m d, x.dfs[m]? = some d → M.getD (at_.toNat + 7 + m * 4) 0 = d.f ∧ ∀ r, r < 3 → M.getD (at_.toNat + 7 + m * 4 + 1 + r) 0 = d.args.getD r 0) ∧
    (∀ i, i < x.locals.length → M.getD ((at_ + aheadM g).toNat + i) 0 = x.locals.getD i 0) ∧
    (∀ i, i < x.ops.length → M.getD ((at_ + aheadM g + g.locals).toNat + i) 0 = x.ops.getD i 0)
section
variable {p : List Fnc} {M M' mem : List Int} {at_ below : Int} {x : Frm}
theorem FrmIn.same (h : FrmIn p M at_ below x) (hs : Sized p) (hm : mayM p x = true) (hl : M'.length = M.length) (hj : ∀ j, at_.toNat ≤ j → j < at_.toNat + (sizeX p x).toNat → M'.getD j 0 = M.getD j 0) : FrmIn p M' at_ below x := by
  obtain ⟨g, hg, hb, hin, w1, w2, w3, w4⟩ := h
  rw [sizeX_eq hg] at hj
  obtain ⟨G, h0, hG, hfn, a1, a2, a3, a4, a5, a6, a7, a8⟩ := may_some hm
  rw [hg] at hfn; cases hfn
  have hsz := hs g (List.mem_of_getElem? hG)
  have hbd := sized_bd hsz
  have hii := of_decide_eq_true hin
  have hsF := sizeF_eq hsz
  have hah : 7 ≤ aheadM g ∧ aheadM g ≤ 23 := by unfold aheadM; split <;> omega
  have hroom : x.dfs.length * 4 + 7 ≤ aheadM g := by unfold roomM at a7; unfold aheadM; split at a7 <;> (rename_i hdd; simp only [hdd]; simp; omega)
  refine ⟨g, hg, by rw [hl]; exact hb, by rw [hl]; exact hin, fun i hi => ?_, fun m d hd => ?_, fun i hi => ?_, fun i hi => ?_⟩
  · rw [hj _ (by omega) (by omega)]; exact w1 i hi
  · have hml := (List.getElem?_eq_some_iff.1 hd).1
    obtain ⟨k1, k2⟩ := w2 m d hd
    refine ⟨by rw [hj _ (by omega) (by omega)]; exact k1, fun r hr => by rw [hj _ (by omega) (by omega)]; exact k2 r hr⟩
  · rw [hj _ (by omega) (by omega)]; exact w3 i hi
  · rw [hj _ (by omega) (by omega)]; exact w4 i hi
theorem frm_in (hs : Sized p) (hpl : p.length ≤ 1000) (hok : writeOk p mem.length at_ below x = true) : FrmIn p (writeM p mem at_ below x) at_ below x := by
  obtain ⟨g, hg, hm, hb, hin, hsz, _⟩ := write_some hok hs
  obtain ⟨_, h1, h2, h3, h4⟩ := write_words hs hpl hok hg
  exact ⟨g, hg, by rw [writeM_len]; exact hb, by rw [writeM_len]; exact hin, h1, h2, h3, h4⟩
theorem write_out (hs : Sized p) (hpl : p.length ≤ 1000) (hok : writeOk p mem.length at_ below x = true) : ∀ j, j < at_.toNat ∨ at_.toNat + (sizeX p x).toNat ≤ j → (writeM p mem at_ below x).getD j 0 = mem.getD j 0 := by
  obtain ⟨g, hg, hm, hb, hin, hsz, _⟩ := write_some hok hs
  obtain ⟨h0, _⟩ := write_words hs hpl hok hg
  rw [sizeX_eq hg]
  exact h0
theorem write_ok (hs : Sized p) (hm : mayM p x = true) {n : Nat} (h0 : 0 ≤ at_) (h1 : at_ + sizeX p x ≤ n) (hb : -1 ≤ below ∧ below < n) : writeOk p n at_ below x = true := by
  obtain ⟨g, hfn, f0, hG, hsx, z0, z1, hGs⟩ := size_may hs hm
  unfold writeOk
  rw [hm, hfn]
  simp only [Bool.true_and]
  rw [show belowM n below = true by unfold belowM; exact decide_eq_true (by omega), Bool.true_and]
  unfold inM; exact decide_eq_true (by omega)
end
def prevA (ats : List Int) (i : Nat) : Int := if i = 0 then -1 else ats.getD (i - 1) 0
theorem prevA_append {ats bs : List Int} {i : Nat} (h : i ≤ ats.length) : prevA (ats ++ bs) i = prevA ats i := by
  unfold prevA
  by_cases h0 : i = 0
  · rw [if_pos h0, if_pos h0]
  · rw [if_neg h0, if_neg h0]
    simp only [List.getD]
    rw [List.getElem?_append_left (by omega)]
theorem stk_below (p : List Fnc) (mem : List Int) (lo : Int) (xs : List Frm) : (stk p mem lo xs).below = prevA (stk p mem lo xs).ats xs.length :=
  snoc_ind (Q := fun xs => (stk p mem lo xs).below = prevA (stk p mem lo xs).ats xs.length) rfl (fun xs x ih => by
    have hl := stk_ats_len p mem lo xs
    rw [stk_snoc]
    simp only [stepK, prevA, List.length_append, List.length_singleton]
    rw [if_neg (by omega)]
    simp only [List.getD, Nat.add_sub_cancel]
    rw [List.getElem?_append_right (by omega), hl, Nat.sub_self]
    rfl) xs
structure FrmChain (p : List Fnc) (M : List Int) (xs : List Frm) (ats : List Int) : Prop where
  len : ats.length = xs.length
  may : ∀ x ∈ xs, mayM p x = true
  wd : ∀ x ∈ xs, FrmWd x
  frm : ∀ (i : Nat) (x : Frm) (a : Int), xs[i]? = some x → ats[i]? = some a → FrmIn p M a (prevA ats i) x
  next : ∀ (i : Nat) (x : Frm) (a b : Int), xs[i]? = some x → ats[i]? = some a → ats[i + 1]? = some b → a + sizeX p x ≤ b
  pos : ∀ a ∈ ats, 0 ≤ a
structure StkAll (p : List Fnc) (mem : List Int) (lo : Int) (xs : List Frm) : Prop where
  chain : FrmChain p (stk p mem lo xs).mem xs (stk p mem lo xs).ats
  out : ∀ j : Nat, j < lo.toNat ∨ (stk p mem lo xs).fin.toNat ≤ j → (stk p mem lo xs).mem.getD j 0 = mem.getD j 0
  fit : ∀ (i : Nat) (x : Frm) (a : Int), xs[i]? = some x → (stk p mem lo xs).ats[i]? = some a → lo ≤ a ∧ a + sizeX p x ≤ (stk p mem lo xs).fin
  fin0 : lo + 15 * xs.length ≤ (stk p mem lo xs).fin
  bel : -1 ≤ (stk p mem lo xs).below ∧ ((stk p mem lo xs).below < (stk p mem lo xs).fin)
theorem stk_all {p : List Fnc} {mem : List Int} {lo : Int} (hs : Sized p) (hpl : p.length ≤ 1000) (hlo : 0 ≤ lo) (xs : List Frm) : (∀ x ∈ xs, mayM p x = true) → (∀ x ∈ xs, FrmWd x) → (stk p mem lo xs).fin ≤ mem.length → StkAll p mem lo xs :=
  snoc_ind (Q := fun xs => (∀ x ∈ xs, mayM p x = true) → (∀ x ∈ xs, FrmWd x) → (stk p mem lo xs).fin ≤ mem.length → StkAll p mem lo xs)
    (fun _ _ _ => ⟨⟨rfl, by simp, by simp, by simp, by simp, by simp [stk]⟩, fun j _ => rfl, by simp, by simp [stk], by simp [stk]; omega⟩)
    (fun xs x ih hm hw hf => by
      have hmx := hm x (by simp)
      have hwx := hw x (by simp)
      obtain ⟨g, hfn, f0, hG, hsx, z0, z1, hGs⟩ := size_may hs hmx
      have hfin : (stk p mem lo (xs ++ [x])).fin = (stk p mem lo xs).fin + sizeX p x := by rw [stk_snoc]; rfl
      have hats : (stk p mem lo (xs ++ [x])).ats = (stk p mem lo xs).ats ++ [(stk p mem lo xs).fin] := by rw [stk_snoc]; rfl
      have hmem : (stk p mem lo (xs ++ [x])).mem = writeM p (stk p mem lo xs).mem (stk p mem lo xs).fin (stk p mem lo xs).below x := by rw [stk_snoc]; rfl
      have hbel : (stk p mem lo (xs ++ [x])).below = (stk p mem lo xs).fin := by rw [stk_snoc]; rfl
      have h := ih (fun y hy => hm y (by simp [hy])) (fun y hy => hw y (by simp [hy])) (by omega)
      have hl := stk_ats_len p mem lo xs
      have hml := stk_mem_len p mem lo xs
      have h0 := h.fin0
      have hb := h.bel
      have hok : writeOk p (stk p mem lo xs).mem.length (stk p mem lo xs).fin (stk p mem lo xs).below x = true := write_ok hs hmx (by omega) (by rw [hml]; omega) ⟨hb.1, by rw [hml]; omega⟩
      have hx := frm_in hs hpl hok
      have hout := write_out hs hpl hok
      have split : ∀ {i : Nat} {y : Frm} {a : Int}, (xs ++ [x])[i]? = some y → ((stk p mem lo xs).ats ++ [(stk p mem lo xs).fin])[i]? = some a → (i < xs.length ∧ xs[i]? = some y ∧ (stk p mem lo xs).ats[i]? = some a) ∨ (i = xs.length ∧ y = x ∧ a = (stk p mem lo xs).fin) := fun {i y a} hy ha => by
        by_cases hi : i < xs.length
        · rw [List.getElem?_append_left hi] at hy
          rw [List.getElem?_append_left (by omega)] at ha
          exact .inl ⟨hi, hy, ha⟩
        · have : i = xs.length := by have := (List.getElem?_eq_some_iff.1 hy).1; simp at this; omega
          subst this
          rw [List.getElem?_append_right (by omega), Nat.sub_self] at hy
          rw [List.getElem?_append_right (by omega), hl, Nat.sub_self] at ha
          exact .inr ⟨rfl, by simpa using hy.symm, by simpa using ha.symm⟩
      refine ⟨⟨by rw [hats]; simp [hl], hm, hw, fun i y a hy ha => ?_, fun i y a b hy ha hb' => ?_, fun a ha => ?_⟩, fun j hj => ?_, fun i y a hy ha => ?_, by rw [hfin]; simp; omega, by rw [hbel, hfin]; omega⟩
      · rw [hats] at ha ⊢
        rw [hmem]
        rcases split hy ha with ⟨hi, hy', ha'⟩ | ⟨rfl, rfl, rfl⟩
        · rw [prevA_append (by omega)]
          have hfit := h.fit i y a hy' ha'
          refine (h.chain.frm i y a hy' ha').same hs (hm y (List.mem_of_getElem? hy)) (writeM_len _ _ _ _ _) fun j h1 h2 => hout j (.inl ?_)
          have := (size_may hs (hm y (List.mem_of_getElem? hy))).choose_spec
          omega
        · rw [prevA_append (by omega), ← stk_below p mem lo xs]
          exact hx
      · rw [hats] at ha hb'
        rcases split hy ha with ⟨hi, hy', ha'⟩ | ⟨rfl, rfl, rfl⟩
        · by_cases hi2 : i + 1 < xs.length
          · rw [List.getElem?_append_left (by omega)] at hb'
            exact h.chain.next i y a b hy' ha' hb'
          · have : i + 1 = xs.length := by omega
            rw [this, List.getElem?_append_right (by omega), hl, Nat.sub_self] at hb'
            have hb2 : (stk p mem lo xs).fin = b := by simpa using hb'
            rw [← hb2]
            exact (h.fit i y a hy' ha').2
        · rw [List.getElem?_eq_none (by simp; omega)] at hb'; cases hb'
      · rw [hats] at ha
        rcases List.mem_append.1 ha with ha | ha
        · exact h.chain.pos a ha
        · simp at ha; omega
      · rw [hmem, hout j (by rw [hfin] at hj; omega)]
        exact h.out j (by rw [hfin] at hj; omega)
      · rw [hats] at ha
        rw [hfin]
        rcases split hy ha with ⟨hi, hy', ha'⟩ | ⟨rfl, rfl, rfl⟩
        · have := h.fit i y a hy' ha'; omega
        · omega) xs
end Go.Proofs.Ytlccbaemcfjdoaa
