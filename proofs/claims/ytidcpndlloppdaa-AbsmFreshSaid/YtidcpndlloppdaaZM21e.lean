import Derived.Test.YtidcpndlloppdaaZM21d
/-
  Layer 21: the top frame of a machine, turned; the three functions within run.
  Conditions: the machine lies in memory as told.
-/
set_option linter.unusedVariables false
set_option linter.unusedSimpArgs false
set_option maxRecDepth 20000
namespace Go.Proofs.Ytidcpndlloppdaa
open Go.RowKit
def topM (m : Mach) (fs : List Frm) : Mach := { m with frames := fs }
section
variable {w w1 : World} {B g : Nat} {C : Option Addr} {c : Nat} {p : List Fnc} {m : Mach} {T : Value} {x x' : Frm} {r : List Frm} {s s' : Sl} {t : List Sl} {G cap : Nat}
theorem MachAt.headKept {F : Value} {ss : List Sl} (h : MachAt w B g C c p m F T ss) {b : Option Nat} {ty : TypeId} (hc : Chg1 b ty w w1) (hty : 76 ≠ ty) : w1.heap[g]? = some (.cells ⟨headC (.slice C p.length c) F T m⟩ 76 (0, 0)) :=
  hc.row _ _ _ _ (fun e => by
    obtain ⟨cc, ff, hh⟩ := hc.typ g e
    rw [h.head] at hh; cases hh; exact hty rfl) h.head
theorem foot_top {F : Value} {k : Nat} {n : Nat} (hnew : ∀ k, InSl s' k → InSl s k ∨ n ≤ k) (hk : Foot g F T (s' :: t) k) : Foot g F T (s :: t) k ∨ n ≤ k := by
  rcases hk with hk | hk | hk | ⟨u, hu, hk⟩
  · exact .inl (.inl hk)
  · exact .inl (.inr (.inl hk))
  · exact .inl (.inr (.inr (.inl hk)))
  · rcases List.mem_cons.1 hu with rfl | hu
    · rcases hnew k hk with h | h
      · exact .inl (.inr (.inr (.inr ⟨s, List.mem_cons_self, h⟩)))
      · exact .inr h
    · exact .inl (.inr (.inr (.inr ⟨u, List.mem_cons_of_mem _ hu, hk⟩)))
theorem MachAt.setTop (h : MachAt w B g C c p m (.slice (some ⟨G, 0, none⟩) (r.length + 1) cap) T (s :: t)) (hm : m.frames = x :: r) {b : Option Nat} {ty : TypeId} (hc : Chg1 b ty w w1) (hb : ∀ k, b = some k → InSl s k) (h1 : 66 ≠ ty) (h2 : 31 ≠ ty) (h3 : 76 ≠ ty)
    (hk : KeepsOff (Foot g (.slice (some ⟨G, 0, none⟩) (r.length + 1) cap) T (s :: t)) w w1) (hx : FrmM w1 B x' s') (hnew : ∀ k, InSl s' k → InSl s k ∨ w.heap.size ≤ k) (hap : ApSl s') {j : Nat} {v : Value} (hj : j < 8) (hset : (frmC x s).set j v = frmC x' s') :
    MachAt (w1.setCell ⟨G, r.length * 8 + j, none⟩ v) B g C c p (topM m (x' :: r)) (.slice (some ⟨G, 0, none⟩) (r.length + 1) cap) T (s' :: t) := by
  have hp := h.pcs
  rw [hm] at hp
  have hh := h.headKept hc h3
  obtain ⟨_, cc, ff, hG⟩ := owns_ty (hc.ownT hp.frames h1) (k := G) rfl
  have hne : g ≠ G := fun e => by rw [e, hG] at hh; cases hh
  refine ⟨h.base, by rw [at_other hne]; exact hh, hp.top hc hb h1 h2 hx hnew hap hj hset, ?_⟩
  exact h.prog.keep (fun q v hq hs => keepsOff_set (.inr (.inl rfl)) q v (hk q v hq hs) hs) fun k hk => foot_top hnew hk
theorem MachAt.setLoc (h : MachAt w B g C c p m (.slice (some ⟨G, 0, none⟩) (r.length + 1) cap) T (s :: t)) (hm : m.frames = x :: r) {Lb n lc i : Nat} {u : Int} (hL : s.L = .slice (some ⟨Lb, 0, none⟩) n lc) (hi : i < x.locals.length) :
    MachAt (w.setCell ⟨Lb, i, none⟩ (.int .u64 u)) B g C c p (topM m ({ x with locals := x.locals.set i u } :: r)) (.slice (some ⟨G, 0, none⟩) (r.length + 1) cap) T (s :: t) ∧ Chg1 (some Lb) 28 w (w.setCell ⟨Lb, i, none⟩ (.int .u64 u)) := by
  have hp := h.pcs
  rw [hm] at hp
  have hLo := hp.each.1.L
  have hin : InSl s Lb := .inr (.inl (by rw [hL]; rfl))
  obtain ⟨_, cc, ff, hLb⟩ := owns_ty hLo (k := Lb) (by rw [hL]; rfl)
  have hc : Chg1 (some Lb) 28 w (w.setCell ⟨Lb, i, none⟩ (.int .u64 u)) := chg1_set hLb
  have hap := hp.apart
  have hn : n = x.locals.length := by
    obtain ⟨A, c', hv⟩ := owns_slice0 hLo
    rw [hL] at hv; cases hv; rfl
  subst hn
  have hset : (w.setCell ⟨Lb, i, none⟩ (.int .u64 u)).ownsRow B 28 1 s.L (x.locals.set i u).length (u64s (x.locals.set i u)) := by
    rw [hL] at hLo ⊢
    have := owns_set hLo i (.int .u64 u) (by omega)
    rw [List.length_set]
    have e : (u64s x.locals).set i (.int .u64 u) = u64s (x.locals.set i u) := by unfold u64s; rw [List.map_set]
    rw [← e]; exact this
  have hne : ∀ k, s.O.ownBlock = some k → some Lb ≠ some k := fun k hk e => by
    cases e; exact hap.1.LO Lb (by rw [hL]; rfl) hk
  refine ⟨⟨h.base, h.headKept hc (by decide), ⟨hc.ownT hp.frames (by decide), hc.ownT hp.trace (by decide), ⟨⟨hc.ownT hp.each.1.D (by decide), ?_, hset, hc.own hp.each.1.O hne⟩, ?_⟩, hap⟩, h.prog.keep (keepsOff_set (.inr (.inr (.inr ⟨s, List.mem_cons_self, hin⟩)))) fun k hk => .inl hk⟩, hc⟩
  · refine hp.each.1.args.same fun a ha k hk => ?_
    obtain ⟨_, cc, ff, hh⟩ := hp.each.1.args.ty a ha k hk
    exact hc.same (fun e => by cases e; exact hap.1.LA a ha Lb hk (by rw [hL]; rfl)) hh
  · exact hp.each.2.chg hc fun k hk e => by cases e; exact hap.2.1 Lb hin hk
theorem MachAt.setUnd {u u' : Frm} {su : Sl} (h : MachAt w B g C c p m (.slice (some ⟨G, 0, none⟩) (r.length + 2) cap) T (s :: su :: t)) (hm : m.frames = x :: u :: r) (hx : FrmM w B u' su) {j : Nat} {v : Value} (hj : j < 8) (hset : (frmC u su).set j v = frmC u' su) :
    MachAt (w.setCell ⟨G, r.length * 8 + j, none⟩ v) B g C c p (topM m (x :: u' :: r)) (.slice (some ⟨G, 0, none⟩) (r.length + 2) cap) T (s :: su :: t) := by
  have hp := h.pcs
  rw [hm] at hp
  obtain ⟨_, cc, ff, hG⟩ := owns_ty hp.frames (k := G) rfl
  have hne : g ≠ G := fun e => by have := h.head; rw [e, hG] at this; cases this
  exact ⟨h.base, by rw [at_other hne]; exact h.head, hp.und hx hj hset, h.prog.keep (keepsOff_set (.inr (.inl rfl))) fun k hk => .inl hk⟩
end
theorem ownsU_nums {w : World} {B n c : Nat} {A : Option Addr} {xs : List Int} (h : w.ownsRow B 28 1 (.slice A n c) n (u64s xs)) (hn : n ≤ 1000000) : Nums .u64 w A n xs := by
  have hl : xs.length = n := by have := h.1; simpa [u64s] using this
  rcases h.2 with ⟨hv, h0⟩ | ⟨g, cap, cur, hv, hb, _⟩
  · cases hv
    have : xs = [] := List.eq_nil_of_length_eq_zero (by omega)
    subst this
    exact ⟨by omega, by simp only [maxLen]; omega, fun i x h => by simp at h⟩
  · cases hv
    refine ⟨hl, by simp only [maxLen]; omega, fun i x hx => ⟨_, rfl, ?_⟩⟩
    unfold NumE
    rw [Nat.mul_one, own_add]
    exact owns_cell h (by unfold u64s; rw [List.getElem?_map, hx]; rfl)
theorem nums_from {w : World} {A : Option Addr} {l : Nat} {xs : List Int} (h : Nums .u64 w A l xs) {k cap : Nat} (hk : k ≤ l) (hcap : l ≤ cap) : Nums .u64 w (if cap = k then A else Option.map (fun a => a.add k) A) (l - k) (xs.drop k) := by
  refine ⟨by rw [List.length_drop, h.len], by have := h.small; omega, fun i x hx => ?_⟩
  rw [List.getElem?_drop] at hx
  obtain ⟨q, hq, hc⟩ := h.get _ x hx
  have hi := (List.getElem?_eq_some_iff.1 hx).1
  rw [h.len] at hi
  subst hq
  rw [if_neg (by omega)]
  refine ⟨_, rfl, ?_⟩
  unfold NumE at hc ⊢
  rw [Nat.mul_one] at hc ⊢
  rw [adr_add]; exact hc
section
variable {w : World} {B g : Nat} {C : Option Addr} {c : Nat} {p : List Fnc} {m : Mach} {T : Value} {x : Frm} {r : List Frm} {s : Sl} {t : List Sl} {G cap : Nat} {bx : Addr}
structure TopAt (w : World) (B g : Nat) (C : Option Addr) (c : Nat) (p : List Fnc) (m : Mach) (T : Value) (x : Frm) (r : List Frm) (s : Sl) (t : List Sl) (G cap : Nat) (bx : Addr) : Prop where
  at_ : MachAt w B g C c p m (.slice (some ⟨G, 0, none⟩) (r.length + 1) cap) T (s :: t)
  fs : m.frames = x :: r
  box : w.cell? bx = some (.pointer (some ⟨G, r.length * 8, none⟩))
  out : ¬ Foot g (.slice (some ⟨G, 0, none⟩) (r.length + 1) cap) T (s :: t) bx.block
theorem TopAt.ext {B' : Nat} {w' : World} (h : TopAt w B g C c p m T x r s t G cap bx) (he : Ext B' w w') : TopAt w' B g C c p m T x r s t G cap bx := ⟨h.at_.ext he, h.fs, he.cell h.box, h.out⟩
theorem TopAt.pcs (h : TopAt w B g C c p m T x r s t G cap bx) : Pcs w B (.slice (some ⟨G, 0, none⟩) (r.length + 1) cap) T (x :: r) m.trace (s :: t) := by have := h.at_.pcs; rwa [h.fs] at this
theorem TopAt.cells (h : TopAt w B g C c p m T x r s t G cap bx) {j : Nat} {v : Value} (hv : (frmC x s)[j]? = some v) : w.cell? ⟨G, r.length * 8 + j, none⟩ = some v :=
  owns_cell h.pcs.frames (stackC_top (by have := h.pcs.len; simpa using this) hv)
theorem TopAt.fr (h : TopAt w B g C c p m T x r s t G cap bx) (i : Nat) : w.frozen? ⟨G, i, none⟩ = false := owns_frozen h.pcs.frames i
theorem TopAt.inG (h : TopAt w B g C c p m T x r s t G cap bx) : Foot g (.slice (some ⟨G, 0, none⟩) (r.length + 1) cap) T (s :: t) G := .inr (.inl rfl)
def TopQ (w : World) (B g : Nat) (C : Option Addr) (c : Nat) (p : List Fnc) (m' : Mach) (T : Value) (x' : Frm) (r : List Frm) (s : Sl) (t : List Sl) (G cap : Nat) (bx : Addr) (w' : World) : Prop :=
  ∃ s', TopAt w' B g C c p m' T x' r s' t G cap bx ∧ ∀ k, InSl s' k → InSl s k ∨ w.heap.size ≤ k
theorem cloned {w0 w : World} {bs : List Nat} {A : Option Addr} {l ac : Nat} {xs : List Int} {K : Value → World → Prop} (hB : w0.heap.size ≤ w.heap.size) (hx : Nums .u64 w A l xs) (hl : l ≤ 1000000)
    (hk : ∀ A' c' w', Ext w0.heap.size w w' → w'.ownsRow w.heap.size 28 1 (.slice A' l c') l (u64s xs) → K (.slice A' l c') w') : CallK Try.prog 38 [.slice A l ac] w0.heap.size w bs K := by
  refine call_yieldsX (Q := fun w1 v w2 => ∃ A' c', v = .slice A' l c' ∧ w2.ownsRow w1.heap.size 28 1 (.slice A' l c') l (u64s xs)) hB (fun w1 e1 => ?_) fun w1 v w2 w' hs hQ hnew he => ?_
  · refine yields_of (V38.sound ?_)
    unfold V38.vc
    have hx1 := RowAt.keep (NumE.kept .u64) hx (ext_keeps e1)
    cases A with
    | none =>
      rw [if_pos (show (Option.isNone (none : Option Addr)) = true from rfl)]
      have hl0 : l = 0 := by
        cases l with
        | zero => rfl
        | succ l => obtain ⟨_, q, _, hq, _⟩ := hx1.at (i := 0) (by omega); cases hq
      subst hl0
      have : xs = [] := List.eq_nil_of_length_eq_zero hx.len
      subst this
      exact ret_q (Below.refl _ _) fun w2 e2 => ⟨none, 0, rfl, World.ownsRow_nil _ _ _ _⟩
    | some a =>
      rw [if_neg (by simp)]
      intro w2 e2 _
      obtain ⟨e3, ho3⟩ := alloc1 (.cells ⟨[]⟩ 28) e2 (Nat.le_refl _)
      have hs2 := e2.size
      have hl3 := lt_of_some ho3
      generalize w2.alloc (.cells ⟨[]⟩ 28) = w3 at *
      refine append_nums (bs := []) (t := 49) (e := 28) (i := Try.t28) (k := .u64) (bytes := 8) (b0 := w2.heap.size) (n := 0) (xs := []) (by kernel_rfl) (by kernel_rfl) (by kernel_rfl) (by kernel_rfl) (by kernel_rfl) (Nat.le_refl _) (owns_empty ho3 (Nat.le_refl _)) (RowAt.keep (NumE.kept .u64) hx1 (ext_keeps e3)) (by omega) e3.size (Nat.le_of_lt hl3) fun v w4 he ho' hn => ?_
      rw [Nat.zero_add, List.nil_append] at ho'
      obtain ⟨A', c', hv⟩ := owns_slice0 ho'
      subst hv
      refine ⟨A', _, c', rfl, ?_⟩
      exact ret_q (he.after (fun j hj => by cases hj; exact hs2) (e3.after (Below.refl _ _))) fun w5 e5 => ⟨A', c', rfl, owns_down (e5.owns ho') hs2⟩
  · obtain ⟨A', c', rfl, ho⟩ := hQ
    exact hk A' c' w' he (owns_down (owns_other ho fun j hj => hnew j (ho.lt j hj).1) hs)
end
end Go.Proofs.Ytidcpndlloppdaa
