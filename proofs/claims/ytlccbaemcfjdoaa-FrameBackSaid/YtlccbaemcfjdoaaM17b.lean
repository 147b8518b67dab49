/-
  The maker's small functions: next, here, add, args: what their calls leave.
  Conditions: the maker lies in memory as told.
-/
import Derived.Test.YtlccbaemcfjdoaaM17
import Derived.Test.YtlccbaemcfjdoaaS17b
set_option linter.unusedVariables false
set_option linter.unusedSimpArgs false
namespace Go.Proofs.Ytlccbaemcfjdoaa
open Go.RowKit

/-! ### The maker's cells -/
section
variable {B g : Nat} {w : World} {s : MSt} {A : Option Addr} {ln cn : Nat} {vF vD : Value} {cs : List Value}
theorem MakerAt.c0 (h : MakerAt B w g s A ln cn vF vD cs) : w.cell? ⟨g, 0, none⟩ = some (.slice A ln cn) := at_cell h.cells rfl
theorem MakerAt.c1 (h : MakerAt B w g s A ln cn vF vD cs) : w.cell? ⟨g, 1, none⟩ = some vF := at_cell h.cells rfl
theorem MakerAt.c2 (h : MakerAt B w g s A ln cn vF vD cs) : w.cell? ⟨g, 2, none⟩ = some (.int .i64 s.f) := at_cell h.cells rfl
theorem MakerAt.c3 (h : MakerAt B w g s A ln cn vF vD cs) : w.cell? ⟨g, 3, none⟩ = some vD := at_cell h.cells rfl
theorem MakerAt.c4 (h : MakerAt B w g s A ln cn vF vD cs) : w.cell? ⟨g, 4, none⟩ = some (.int .i64 s.now) := at_cell h.cells rfl
theorem MakerAt.fz (h : MakerAt B w g s A ln cn vF vD cs) (i : Nat) : w.frozen? ⟨g, i, none⟩ = false := at_frozen h.cells i
theorem MakerAt.neF (h : MakerAt B w g s A ln cn vF vD cs) : ∀ k, vF.ownBlock = some k → k ≠ g := fun k hk e => by
  subst e
  have := h.apart 0 1 k rfl (by simp [hk])
  omega
theorem MakerAt.neD (h : MakerAt B w g s A ln cn vF vD cs) : ∀ k, vD.ownBlock = some k → k ≠ g := fun k hk e => by
  subst e
  have := h.apart 0 2 k rfl (by simp [hk])
  omega
theorem own_at {g : Nat} {vF vD : Value} {cs : List Value} {i : Nat} {c : Value} (hc : cs[i]? = some c) : (ownO g vF vD cs)[i + 3]? = some c.ownBlock := by
  simp [ownO, hc]
theorem MakerAt.neC (h : MakerAt B w g s A ln cn vF vD cs) {i : Nat} {c : Value} (hc : cs[i]? = some c) : ∀ k, c.ownBlock = some k → k ≠ g := fun k hk e => by
  subst e
  have := h.apart 0 (i + 3) k rfl (by rw [own_at hc, hk])
  omega
theorem MakerAt.neFC (h : MakerAt B w g s A ln cn vF vD cs) {i : Nat} {c : Value} (hc : cs[i]? = some c) : ∀ k, c.ownBlock = some k → vF.ownBlock ≠ some k := fun k hk e => by
  have := h.apart 1 (i + 3) k (by simp [e]) (by rw [own_at hc, hk])
  omega
theorem MakerAt.neDC (h : MakerAt B w g s A ln cn vF vD cs) {i : Nat} {c : Value} (hc : cs[i]? = some c) : ∀ k, c.ownBlock = some k → vD.ownBlock ≠ some k := fun k hk e => by
  have := h.apart 2 (i + 3) k (by simp [e]) (by rw [own_at hc, hk])
  omega
theorem MakerAt.neFD (h : MakerAt B w g s A ln cn vF vD cs) : ∀ k, vF.ownBlock = some k → vD.ownBlock ≠ some k := fun k hk e => by
  have := h.apart 1 2 k (by simp [hk]) (by simp [e])
  omega
theorem MakerAt.neCC (h : MakerAt B w g s A ln cn vF vD cs) {i j : Nat} {c d : Value} (hc : cs[i]? = some c) (hd : cs[j]? = some d) (hij : i ≠ j) : ∀ k, c.ownBlock = some k → d.ownBlock ≠ some k := fun k hk e => by
  have := h.apart (i + 3) (j + 3) k (by rw [own_at hc, hk]) (by rw [own_at hd, e])
  omega
theorem MakerAt.inF (h : MakerAt B w g s A ln cn vF vD cs) {k : Nat} (hk : vF.ownBlock = some k) : some k ∈ ownO g vF vD cs := by simp [ownO, hk]
theorem MakerAt.inD (h : MakerAt B w g s A ln cn vF vD cs) {k : Nat} (hk : vD.ownBlock = some k) : some k ∈ ownO g vF vD cs := by simp [ownO, hk]
theorem MakerAt.inC (h : MakerAt B w g s A ln cn vF vD cs) {i : Nat} {c : Value} (hc : cs[i]? = some c) {k : Nat} (hk : c.ownBlock = some k) : some k ∈ ownO g vF vD cs := List.mem_of_getElem? (by rw [own_at hc, hk])
/-- Only the maker's own block is turned. -/
theorem MakerAt.put (h : MakerAt B w g s A ln cn vF vD cs) {i : Nat} {v : Value} (s' : MSt) (hp : s'.p = s.p) (hd : s'.depth = s.depth) (A' : Option Addr) (ln' cn' : Nat)
    (hc : [.slice A ln cn, vF, .int .i64 s.f, vD, .int .i64 s.now].set i v = [.slice A' ln' cn', vF, .int .i64 s'.f, vD, .int .i64 s'.now])
    (hns : Nums .u8 w A' ln' s'.ns) (hbyte : ∀ n ∈ s'.ns, 0 ≤ n ∧ n < 256) (hold : ∀ q, A' = some q → 0 < ln' → q.block < B) (hcap : ln' ≤ cn') : MakerAt B (w.setCell ⟨g, i, none⟩ v) g s' A' ln' cn' vF vD cs where
  cells := by rw [at_set h.cells i v, hc]
  ns := nums_block1 hns fun q hq hl => at_other (by have := hold q hq hl; have := h.above; omega)
  byte := hbyte
  old := hold
  cap := hcap
  fns := by rw [hp]; exact owns_other h.fns fun k hk => at_other (h.neF k hk)
  len := by rw [hp]; exact h.len
  code := fun j x c hx hcc => by rw [hp] at hx; exact owns_other (h.code j x c hx hcc) fun k hk => at_other (h.neC hcc k hk)
  dep := by rw [hd]; exact owns_other h.dep fun k hk => at_other (h.neD k hk)
  above := h.above
  apart := h.apart
theorem MakerAt.put_now (h : MakerAt B w g s A ln cn vF vD cs) (n : Int) : MakerAt B (w.setCell ⟨g, 4, none⟩ (.int .i64 n)) g { s with now := n } A ln cn vF vD cs :=
  h.put { s with now := n } rfl rfl A ln cn rfl h.ns h.byte h.old h.cap
theorem MakerAt.put_f (h : MakerAt B w g s A ln cn vF vD cs) (n : Nat) : MakerAt B (w.setCell ⟨g, 2, none⟩ (.int .i64 n)) g { s with f := n } A ln cn vF vD cs :=
  h.put { s with f := n } rfl rfl A ln cn rfl h.ns h.byte h.old h.cap
/-- The depths are told anew. -/
theorem MakerAt.put_dep (h : MakerAt B w g s A ln cn vF vD cs) {w1 : World} {B' : Nat} (hB : B ≤ B') (he : ExtS B' (fun k => vD.ownBlock = some k) w w1) {v : Value} {ds : List Int}
    (hv : w1.ownsRow B 3 1 v ds.length (ds.map (.int .i64))) (hnew : ∀ k, v.ownBlock = some k → vD.ownBlock = some k ∨ w.heap.size ≤ k) : MakerAt B (w1.setCell ⟨g, 3, none⟩ v) g { s with depth := ds } A ln cn vF v cs where
  cells := by
    have hc := he.row g _ _ _ (fun e => h.neD g e rfl) h.cells
    rw [at_set hc 3 v]; rfl
  ns := nums_block1 h.ns fun q hq hl => by
    have hq1 := h.old q hq hl
    rw [at_other (by have := h.above; omega), he.low _ (by omega) (fun e => by have := (h.blocks (h.inD e)).1; omega)]
  byte := h.byte
  old := h.old
  cap := h.cap
  fns := owns_other (he.owns h.fns fun k hk => h.neFD k hk) fun k hk => at_other (h.neF k hk)
  len := h.len
  code := fun j x c hx hcc => owns_other (he.owns (h.code j x c hx hcc) fun k hk => h.neDC hcc k hk) fun k hk => at_other (h.neC hcc k hk)
  dep := owns_other hv fun k hk => at_other fun e => by
    subst e
    rcases hnew k hk with h1 | h1
    · exact h.neD k h1 rfl
    · have := lt_of_some h.cells; omega
  above := h.above
  apart := by
    have : ownO g vF v cs = (ownO g vF vD cs).set 2 v.ownBlock := rfl
    rw [this]
    refine h.apart.set fun k hk => ?_
    rcases hnew k hk with h1 | h1
    · left; simp [h1]
    · right; intro j hj
      have := h.lt (List.mem_of_getElem? hj); omega
theorem ownO_dep {g : Nat} {vF vD v : Value} {cs : List Value} {n : Nat} (hnew : ∀ k, v.ownBlock = some k → vD.ownBlock = some k ∨ n ≤ k) {k : Nat} (hk : some k ∈ ownO g vF v cs) : some k ∈ ownO g vF vD cs ∨ n ≤ k := by
  simp only [ownO, List.mem_cons] at hk ⊢
  rcases hk with h | h | h | h
  · exact .inl (.inl h)
  · exact .inl (.inr (.inl h))
  · rcases hnew k h.symm with h1 | h1
    · exact .inl (.inr (.inr (.inl h1.symm)))
    · exact .inr h1
  · exact .inl (.inr (.inr (.inr h)))
/-- A function's code is told anew. -/
theorem MakerAt.put_code (h : MakerAt B w g s A ln cn vF vD cs) {w1 : World} {B' : Nat} (hB : B ≤ B') {f : Nat} {x : Fnc} {c : Value} (hx : s.p[f]? = some x) (hc : cs[f]? = some c) (he : ExtS B' (fun k => c.ownBlock = some k) w w1) {gF cap : Nat}
    (hF : vF = .slice (some ⟨gF, 0, none⟩) s.p.length cap) {v : Value} {ins : Ins} (hv : w1.ownsRow B 26 3 v (x.code.length + 1) (x.code.flatMap insV ++ insV ins)) (hnew : ∀ k, v.ownBlock = some k → c.ownBlock = some k ∨ w.heap.size ≤ k) :
    MakerAt B (w1.setCell ⟨gF, f * 4 + 3, none⟩ v) g { s with p := s.p.modify f (·.push ins) } A ln cn vF vD (cs.set f v) := by
  subst hF
  have hlt : f < s.p.length := (List.getElem?_eq_some_iff.1 hx).1
  have hFin : some gF ∈ ownO g (.slice (some ⟨gF, 0, none⟩) s.p.length cap) vD cs := h.inF rfl
  have hgF := h.lt hFin
  have hneF : ∀ k, c.ownBlock = some k → k ≠ gF := fun k hk e => h.neFC hc k hk (by rw [e]; rfl)
  have hvF : ∀ k, v.ownBlock = some k → k ≠ gF := fun k hk e => by
    rcases hnew k hk with h1 | h1
    · exact hneF k h1 e
    · omega
  refine ⟨?_, ?_, h.byte, h.old, h.cap, ?_, ?_, fun j y d hy hd => ?_, ?_, h.above, ?_⟩
  · have hg := he.row g _ _ _ (fun e => h.neC hc g e rfl) h.cells
    rw [at_other (fun e => h.neF gF rfl e.symm)]
    exact hg
  · exact nums_block1 h.ns fun q hq hl => by
      have hq1 := h.old q hq hl
      have hgB := (h.blocks hFin).1
      rw [at_other (by omega), he.low _ (by omega) (fun e => by have := (h.blocks (h.inC hc e)).1; omega)]
  · have h1 := he.owns h.fns (fun k hk e => h.neFC hc k e hk)
    have := owns_set h1 (f * 4 + 3) v (by omega)
    rw [fncs_set ins v f] at this
    simpa using this
  · simp [h.len]
  · rw [List.getElem?_set] at hd
    split at hd
    · rename_i e
      subst e
      split at hd
      · simp at hd; subst hd
        obtain ⟨y', hy', ⟨_, rfl⟩ | ⟨hne, _⟩⟩ := push_get hy
        · rw [hx] at hy'; cases hy'
          have := owns_other (w' := w1.setCell ⟨gF, f * 4 + 3, none⟩ v) hv fun k hk => at_other (hvF k hk)
          simpa [Fnc.push] using this
        · exact absurd rfl hne
      · cases hd
    · rename_i hne
      obtain ⟨y', hy', ⟨e, _⟩ | ⟨_, rfl⟩⟩ := push_get hy
      · exact absurd e.symm hne
      · refine owns_other (he.owns (h.code j y d hy' hd) fun k hk e => h.neCC hd hc (fun e => hne e.symm) k hk e) fun k hk => at_other fun e => ?_
        exact h.neFC hd k hk (by rw [e]; rfl)
  · exact owns_other (he.owns h.dep fun k hk e => h.neDC hc k e hk) fun k hk => at_other fun e => h.neFD gF rfl (by rw [hk, e])
  · have : ownO g (.slice (some ⟨gF, 0, none⟩) s.p.length cap) vD (cs.set f v) = (ownO g (.slice (some ⟨gF, 0, none⟩) s.p.length cap) vD cs).set (f + 3) v.ownBlock := by
      simp [ownO, List.map_set]
    rw [this]
    refine h.apart.set fun k hk => ?_
    rcases hnew k hk with h1 | h1
    · left; rw [own_at hc, h1]
    · right; intro j hj
      have := h.lt (List.mem_of_getElem? hj); omega
theorem ownO_code {g : Nat} {vF vD v c : Value} {cs : List Value} {f n : Nat} (hc : cs[f]? = some c) (hnew : ∀ k, v.ownBlock = some k → c.ownBlock = some k ∨ n ≤ k) {k : Nat} (hk : some k ∈ ownO g vF vD (cs.set f v)) : some k ∈ ownO g vF vD cs ∨ n ≤ k := by
  simp only [ownO, List.mem_cons, List.mem_map] at hk ⊢
  rcases hk with h | h | h | ⟨d, hd, h⟩
  · exact .inl (.inl h)
  · exact .inl (.inr (.inl h))
  · exact .inl (.inr (.inr (.inl h)))
  · rcases List.mem_or_eq_of_mem_set hd with hd | rfl
    · exact .inl (.inr (.inr (.inr ⟨d, hd, h⟩)))
    · rcases hnew k h with h1 | h1
      · exact .inl (.inr (.inr (.inr ⟨c, List.mem_of_getElem? hc, h1⟩)))
      · exact .inr h1
end

/-! ### next, here -/
def MSt.left (s : MSt) : MSt := { s with ns := s.ns.drop 1 }
theorem works85 {B g : Nat} {s : MSt} : Works 85 [.pointer (some ⟨g, 0, none⟩)] B g s fun v s' => ∃ n, v = .int .i64 n ∧ 0 ≤ n ∧ n < 256 ∧ ∃ l, s' = { s with ns := l } := by
  intro w A ln cn vF vD cs hm hB
  refine turns_of (V85.sound ?_)
  have h := MK.begin hm hB
  unfold V85.vc
  simp only [own_add, bx_add, Nat.add_zero, Nat.zero_add]
  refine ⟨A, ln, cn, hm.c0, ?_⟩
  by_cases h0 : ln = 0
  · rw [if_pos (by simp [h0])]
    exact ret_mk h ⟨0, rfl, by omega, by omega, s.ns, rfl⟩
  · rw [if_neg (by simp; omega)]
    obtain ⟨n, q, hn, hq, hcell⟩ := hm.ns.at (i := 0) (by omega)
    subst hq
    refine ⟨_, ln, cn, hm.c0, q, rfl, by omega, by omega, n, hcell, _, ln, cn, hm.c0, by omega, by omega, ⟨_, hm.c0⟩, hm.fz 0, ?_⟩
    have hbyte := hm.byte n (List.mem_of_getElem? hn)
    have hlen := hm.ns.len
    have hm' : MakerAt B (w.setCell ⟨g, 0, none⟩ (.slice (if cn = 1 then some q else Option.map (fun a => a.add 1) (some q)) (ln - 1) (cn - 1))) g { s with ns := s.ns.drop 1 } (if cn = 1 then some q else Option.map (fun a => a.add 1) (some q)) (ln - 1) (cn - 1) vF vD cs := by
      refine hm.put { s with ns := s.ns.drop 1 } rfl rfl _ _ _ rfl ?_ (fun m hmm => hm.byte m (List.mem_of_mem_drop hmm)) (fun r hr _ => ?_) (by have := hm.cap; omega)
      · refine ⟨by simp [hlen], by have := hm.ns.small; omega, fun i x hx => ?_⟩
        have hx' : s.ns[1 + i]? = some x := by rwa [List.getElem?_drop] at hx
        obtain ⟨q', hq', he⟩ := hm.ns.get (1 + i) x hx'
        cases hq'
        have hlt := (List.getElem?_eq_some_iff.1 hx').1
        rw [if_neg (by have := hm.cap; omega)]
        refine ⟨q.add 1, rfl, ?_⟩
        rw [Nat.mul_one] at he ⊢
        rwa [show (q.add 1).add i = q.add (1 + i) from adr_add _ _ _]
      · have := hm.old q rfl (by omega)
        split at hr
        · cases hr; exact this
        · cases hr; rw [add_block]; exact this
    have h' : MK B g (fun k => some k ∈ ownO g vF vD cs) w _ _ _ _ _ vF vD cs := ⟨hm', (Chg.refl _ _).setCell _ (fun _ => by simp), fun k hk => .inl hk, hB⟩
    have hw : IntKind.wrap .i64 n = n := wrap_id (by omega) (by omega)
    exact ret_mk h' ⟨_, rfl, by rw [hw]; omega, by rw [hw]; omega, _, rfl⟩
theorem works116 {B g : Nat} {s : MSt} (hl : s.depth.length ≤ 1000) : Works 116 [.pointer (some ⟨g, 0, none⟩)] B g s fun v s' => v = .int .i64 (s.depth.length : Int) ∧ s' = s := by
  intro w A ln cn vF vD cs hm hB
  refine turns_of (V116.sound ?_)
  have h := MK.begin hm hB
  unfold V116.vc
  simp only [own_add]
  obtain ⟨A3, c3, hv, _, _⟩ := owns_nums hm.dep (len_ok hl)
  exact ⟨A3, _, c3, by rw [← hv]; exact hm.c3, ret_mk h ⟨rfl, rfl⟩⟩
end Go.Proofs.Ytlccbaemcfjdoaa
