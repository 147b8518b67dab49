import Derived.Test.YtidcpndlloppdaaGreatDoorZC17h
import Derived.Test.YtidcpndlloppdaaGreatDoorZWH
import Derived.Test.YtidcpndlloppdaaGreatDoorZMB
import Derived.Test.YtidcpndlloppdaaGreatDoorZM21n
/-
  Layer 17: the reference's Check, and both Depths, return what one plain rule tells; the document's examples hold.
  Conditions: the arguments' memory says what their values are.
-/
set_option linter.unusedVariables false
set_option linter.unusedSimpArgs false
namespace Go.Proofs.YtidcpndlloppdaaGreatDoor
open Go.RowKit
section
variable {w0 : World} {v : Int × Int × Int} {cP q1 : Nat} {A : Option Addr} {p : List Fnc}
end
end Go.Proofs.YtidcpndlloppdaaGreatDoor

/-
  Layer 21, plain: the programs of AbsmRecovers and AbsmDefers, run.
  Conditions: none.
-/
set_option linter.unusedVariables false
set_option linter.unusedSimpArgs false
set_option maxRecDepth 20000
namespace Go.Proofs.YtidcpndlloppdaaGreatDoor
end Go.Proofs.YtidcpndlloppdaaGreatDoor

/-
  Layer 21, plain: the machine on the programs of AbsmDefers.
  Conditions: none.
-/
set_option linter.unusedVariables false
set_option maxRecDepth 20000
namespace Go.Proofs.YtidcpndlloppdaaGreatDoor
end Go.Proofs.YtidcpndlloppdaaGreatDoor

/-
  What the engine makes of the loaded functions 10, 23: conditions under which a call returns as told, and proofs of that.
  Conditions: none. Printed by a program of this project.
-/
set_option linter.unusedVariables false
set_option maxRecDepth 100000
namespace Go.Proofs.YtidcpndlloppdaaGreatDoor
end Go.Proofs.YtidcpndlloppdaaGreatDoor

/-
  Layer 21: New, Trace; marks held against others; the document's example.
  Conditions: the program is right.
-/
set_option linter.unusedVariables false
set_option linter.unusedSimpArgs false
set_option maxRecDepth 20000
namespace Go.Proofs.YtidcpndlloppdaaGreatDoor
open Go.RowKit
abbrev N0 : Value := .slice none 0 0
theorem newM_at {w : World} {B g c n0 : Nat} {C : Option Addr} {p : List Fnc} {f : Int} (hg : w.heap[g]? = some (.cells ⟨headC (.slice C p.length c) N0 N0 (newM f)⟩ 106 (0, 0))) (hb : B ≤ g) (ha : Aside (fun w => ProgAt w C p.length p) (fun k => k < n0 ∨ k = g) w) : MachAt w B g C c p (newM f) N0 N0 [] :=
  ⟨hb, hg, ⟨World.ownsRow_nil _ _ _ _, World.ownsRow_nil _ _ _ _, trivial, trivial⟩, (ha.mono fun k hk => by
    rcases hk with hk | hk | hk | ⟨s, hs, _⟩
    · exact .inr hk
    · cases hk
    · cases hk
    · cases hs).poff⟩
def NewMQ (p : List Fnc) (f : Int) (w : World) : Value → World → Prop := fun v w' => ∃ g C c, v = .pointer (some ⟨g, 0, none⟩) ∧ w.heap.size ≤ g ∧ w'.heap[g]? = some (.cells ⟨headC (.slice C p.length c) N0 N0 (newM f)⟩ 106 (0, 0)) ∧
  Aside (fun w => ProgAt w C p.length p) (fun k => k < w.heap.size ∨ k = g) w'
theorem yields35 {w : World} {P : Option Addr} {cap : Nat} {p : List Fnc} (hp : ProgAt w P p.length p) (hr : Rt p) {f : Int} {fn : Fnc} (hf : fnAt p f = some fn) (h0 : fn.params = 0) : Yields Tryz.prog 35 [.agg ⟨[.slice P p.length cap]⟩, .int .i64 f] w (NewMQ p f w) := by
  refine yields_of (V35.sound ?_)
  intro q1 _
  obtain ⟨hfm, hf0, hpf, hfl⟩ := fnAt_mem hf
  refine call_gives (Below.refl _ _) (fun w1 _ hb => gives60 (hp.keep hb)) fun w1 e1 hw1 => ⟨_, _, _, rfl, ?_⟩
  rw [if_pos (by rw [hr.check]; rfl), if_pos (by simp; omega), if_pos (by simp; omega)]
  obtain ⟨f', a, C, c, hf', ha, c0, c1, c2, c3, hc⟩ := prog_at (hp.keep hw1) (i := f.toNat) (by omega)
  rw [hpf] at hf'; cases hf'
  refine ⟨a, ha, by omega, by omega, fn.params, c0, ?_⟩
  rw [if_neg (by simp [h0])]
  refine call_clone hw1.size (hp.keep hw1) hr.sized ⟨hr.few.1, by have := hr.few.2; omega⟩ fun C' c' w2 e2 hc2 => ⟨_, _, _, rfl, ?_⟩
  have hs1 := hw1.size
  have hs2 := e2.size
  refine expo_alloc (Nat.le_trans hs1 hs2) fun w3 w4 hs3 e4 hlt ho => ?_
  refine ret_q (e4.after (e2.after hw1)) fun w5 e5 => ⟨_, C', c', rfl, by omega, e5.row _ _ _ _ ho, newW w1.heap.size w2, hc2, fun q v hq => ?_⟩
  obtain ⟨k1, k2⟩ := newW_cell.1 hq
  have := cell_lt k1
  exact ⟨(e4.trans e5).cell k1, fun hs => by rcases hs with h | h <;> omega⟩
theorem call_newM {w0 w : World} {bs : List Nat} {P : Option Addr} {cap : Nat} {p : List Fnc} {f : Int} {fn : Fnc} {K : Value → World → Prop} (hB : w0.heap.size ≤ w.heap.size) (hp : ProgAt w P p.length p) (hr : Rt p) (hf : fnAt p f = some fn) (h0 : fn.params = 0)
    (hk : ∀ g C c w', w.heap.size ≤ g → MachAt w' w0.heap.size g C c p (newM f) N0 N0 [] → Aside (fun w => ProgAt w C p.length p) (fun k => k < w.heap.size ∨ k = g) w' → Ext w0.heap.size w w' → K (.pointer (some ⟨g, 0, none⟩)) w') :
    CallK Tryz.prog 35 [.agg ⟨[.slice P p.length cap]⟩, .int .i64 f] w0.heap.size w bs K := by
  refine call_yieldsX (Q := NewMQ p f) hB (fun w1 e1 => yields35 (RowAt.keep FncE.kept hp (ext_keeps e1)) hr hf h0) fun w1 v w2 w' hs hQ hnew he => ?_
  obtain ⟨g, C, c, rfl, hg, hcell, w3, h3, h4⟩ := hQ
  have hA : Aside (fun w => ProgAt w C p.length p) (fun k => k < w.heap.size ∨ k = g) w' := ⟨w3, h3, fun q v hq => by
    obtain ⟨k1, k2⟩ := h4 q v hq
    have hq' : w1.heap.size ≤ q.block := Nat.le_of_not_lt fun h => k2 (.inl h)
    exact ⟨(cell_same (hnew _ hq')).trans k1, fun hs' => by
      rcases hs' with h | h
      · omega
      · exact k2 (.inr h)⟩⟩
  exact hk g C c w' (by omega) (newM_at (by rw [hnew g hg]; exact hcell) (by omega) hA) hA he
theorem yields65 {w : World} {A : Option Addr} {l c : Nat} {xs : List Mk} (hx : Marks w A l xs) (hl : l ≤ 100000) : Yields Tryz.prog 65 [.slice A l c] w (fun v w' => OwnMs w' w.heap.size v xs) := by
  refine yields_of (V65.sound ?_)
  unfold V65.vc
  cases A with
  | none =>
    rw [if_pos (show (Option.isNone (none : Option Addr)) = true from rfl)]
    have hn : xs = [] := by
      cases xs with
      | nil => rfl
      | cons x r => obtain ⟨q, hq, _⟩ := hx.get 0 x rfl; cases hq
    subst hn
    exact ret_q (Below.refl _ _) fun w1 _ => OwnMs.nil _ _
  | some a =>
    rw [if_neg (by simp)]
    intro w2 e2 _
    obtain ⟨e3, ho3⟩ := alloc1 (.cells ⟨[]⟩ 41) e2 (Nat.le_refl _)
    have hs2 := e2.size
    have hl3 := lt_of_some ho3
    generalize w2.alloc (.cells ⟨[]⟩ 41) = w3 at *
    obtain rfl := hx.len
    refine append_marks (xs := []) (ys := xs) (b0 := w2.heap.size) (owns_empty ho3 (Nat.le_refl _)) (RowAt.keep MarkE.kept hx (ext_keeps e3)) (by simp; omega) e3.size (Nat.le_of_lt hl3) fun v w4 he ho' hn => ?_
    rw [List.nil_append] at ho'
    obtain ⟨A', c', hv⟩ := owns_slice0 ho'
    subst hv
    refine ⟨A', _, c', rfl, ?_⟩
    exact ret_q (he.after (fun j hj => by cases hj; exact hs2) (e3.after (Below.refl _ _))) fun w5 e5 => owns_down (e5.owns ho') hs2
section
variable {w : World} {B g : Nat} {C : Option Addr} {c : Nat} {p : List Fnc} {m : Mach} {F T : Value} {ss : List Sl}
theorem marks_of {w : World} {B : Nat} {A : Option Addr} {n cap : Nat} {xs : List Mk} (h : OwnMs w B (.slice A n cap) xs) (hl : xs.length ≤ 100000) : n = xs.length ∧ Marks (newW B w) A n xs ∧ n ≤ cap := by
  obtain ⟨A', c', hv, hm⟩ := h.marks (by omega)
  cases hv
  exact ⟨rfl, hm, (owns_cut h (Nat.le_refl _)).2⟩
theorem marks_own {w : World} {B : Nat} {A : Option Addr} {n cap : Nat} {xs : List Mk} (h : OwnMs w B (.slice A n cap) xs) (hl : xs.length ≤ 100000) : Marks w A n xs := RowAt.keep MarkE.kept (marks_of h hl).2.1 fun q v hq => (newW_cell.1 hq).1
theorem yields39 (h : MachAt w B g C c p m F T ss) (hl : m.trace.length ≤ 100000) : Yields Tryz.prog 39 [.pointer (some ⟨g, 0, none⟩)] w (fun v w' => OwnMs w' w.heap.size v m.trace) := by
  refine yields_of (V39.sound ?_)
  unfold V39.vc
  obtain ⟨A, cap, hT⟩ := owns_slice0 h.pcs.trace
  subst hT
  have hm := marks_own h.pcs.trace hl
  simp only [own_add]
  refine ⟨A, _, cap, h.cell (i := 7) rfl, ?_⟩
  refine call_yieldsX (Q := fun w1 v w2 => OwnMs w2 w1.heap.size v m.trace) (Nat.le_refl _) (fun w1 e1 => yields65 (RowAt.keep MarkE.kept hm (ext_keeps e1)) hl) fun w1 v w2 w' hs hQ hnew he => ?_
  obtain ⟨A', c', hv⟩ := owns_slice0 hQ
  subst hv
  refine ⟨A', _, c', rfl, ret_q (he.after (Below.refl _ _)) fun w3 e3 => ?_⟩
  exact e3.owns (owns_down (owns_other hQ fun j hj => hnew j (hQ.lt j hj).1) hs)
end
section
variable {w0 : World} {A A' : Option Addr} {l c l' c' : Nat} {xs ys : List Mk} (hx : Marks w0 A l xs) (hy : Marks w0 A' l' ys)
include hx hy
end
end Go.Proofs.YtidcpndlloppdaaGreatDoor

/-
  Layer 21: played; AbsmTrace's function returns true.
  Conditions: the arguments' memory says what their values are.
-/
set_option linter.unusedVariables false
set_option linter.unusedSimpArgs false
set_option maxRecDepth 20000
namespace Go.Proofs.YtidcpndlloppdaaGreatDoor
open Go.RowKit
structure Own (w : World) (n0 : Nat) (B g : Nat) (C : Option Addr) (c : Nat) (p : List Fnc) (m : Mach) (F T : Value) (ss : List Sl) : Prop where
  mach : MachAt w B g C c p m F T ss
  foot : ∀ k, Foot g F T ss k → n0 ≤ k
  prog : Aside (fun w => ProgAt w C p.length p) (fun k => k < n0 ∨ Foot g F T ss k) w
section
variable {w w' : World} {n0 B g : Nat} {C : Option Addr} {c : Nat} {p : List Fnc} {m m' : Mach} {F T : Value} {ss : List Sl}
theorem Own.ext {B0 : Nat} (h : Own w n0 B g C c p m F T ss) (he : Ext B0 w w') : Own w' n0 B g C c p m F T ss := ⟨h.mach.ext he, h.foot, h.prog.ext he⟩
theorem Own.same (h : Own w n0 B g C c p m F T ss) (hs : ∀ k, n0 ≤ k → w'.heap[k]? = w.heap[k]?) : Own w' n0 B g C c p m F T ss := by
  have hP : Aside (fun w => ProgAt w C p.length p) (fun k => k < n0 ∨ Foot g F T ss k) w' := by
    obtain ⟨w1, h1, h2⟩ := h.prog
    refine ⟨w1, h1, fun q v hq => ?_⟩
    obtain ⟨k1, k2⟩ := h2 q v hq
    exact ⟨(cell_same (hs _ (Nat.le_of_not_lt fun h => k2 (.inl h)))).trans k1, k2⟩
  have hf : ∀ k, Foot g F T ss k → w'.heap[k]? = w.heap[k]? := fun k hk => hs k (h.foot k hk)
  exact ⟨⟨h.mach.base, by rw [hf g (.inl rfl)]; exact h.mach.head, h.mach.pcs.same fun k hk => hf k (.inr hk), (hP.mono fun k hk => .inr hk).poff⟩, h.foot, hP⟩
theorem call_newO {w0 w : World} {bs : List Nat} {P : Option Addr} {cap : Nat} {p : List Fnc} {f : Int} {fn : Fnc} {K : Value → World → Prop} (hB : w0.heap.size ≤ w.heap.size) (hp : ProgAt w P p.length p) (hr : Rt p) (hf : fnAt p f = some fn) (h0 : fn.params = 0)
    (hk : ∀ g C c w', Own w' w.heap.size w0.heap.size g C c p (newM f) N0 N0 [] → Ext w0.heap.size w w' → K (.pointer (some ⟨g, 0, none⟩)) w') :
    CallK Tryz.prog 35 [.agg ⟨[.slice P p.length cap]⟩, .int .i64 f] w0.heap.size w bs K :=
  call_newM hB hp hr hf h0 fun g C c w' hg h ha he => hk g C c w' ⟨h, fun k hk => (by
    rcases hk with hk | hk | hk | ⟨s, hs, _⟩
    · omega
    · cases hk
    · cases hk
    · cases hs), ha.mono fun k hk => (by
    rcases hk with hk | hk | hk | hk | ⟨s, hs, _⟩
    · exact .inl hk
    · exact .inr hk
    · cases hk
    · cases hk
    · cases hs)⟩ he
end
section
variable {p : List Fnc} {fn : Fnc} (hr : Rt p) (hf : fnAt p 0 = some fn) (h0 : fn.params = 0)
include hr hf h0
end
end Go.Proofs.YtidcpndlloppdaaGreatDoor

/-
  Layer 29, plain: what a machine shows by so many acts; traces that agree.
  Conditions: the program is right.
-/
set_option linter.unusedVariables false
set_option linter.unusedSimpArgs false
set_option maxRecDepth 20000
namespace Go.Proofs.YtidcpndlloppdaaGreatDoor
def agrM (l : List Mk) (over : Bool) (t : List Mk) : Bool := match t.getLast? with
  | none => true
  | some d => if d.k = 3 ∨ d.k = 4 then over && eqMs l t else if d.k = 5 ∨ d.k = 6 then begM t.dropLast l else begM t l
theorem begM_iff {a b : List Mk} : begM a b = true ↔ a = b.take a.length := by
  constructor
  · intro h
    unfold begM at h
    rw [Bool.and_eq_true] at h
    exact (eqMs_iff _ _).1 h.2
  · exact begM_true
theorem beg_more {a b t : List Mk} (h : begM a b = true) : begM a (b ++ t) = true := by
  rw [begM_iff] at h ⊢
  have : a.length ≤ b.length := by
    have := congrArg List.length h
    rw [List.length_take] at this
    omega
  rw [List.take_append_of_le_length this]; exact h
theorem agr_more {l l' : List Mk} {o o' : Bool} {x t : List Mk} (hl : l' = l ++ t) (ho : o = true → o' = true ∧ t = []) (h : agrM l o x = true) : agrM l' o' x = true := by
  unfold agrM at h ⊢
  cases hx : x.getLast? with
  | none => rfl
  | some d =>
    rw [hx] at h
    simp only at h ⊢
    split
    · rename_i h34
      rw [if_pos h34, Bool.and_eq_true] at h
      obtain ⟨h1, h2⟩ := ho h.1
      rw [h1, hl, h2, List.append_nil, h.2]; rfl
    · rename_i h34
      rw [if_neg h34] at h
      split
      · rename_i h56
        rw [if_pos h56] at h
        rw [hl]; exact beg_more h
      · rename_i h56
        rw [if_neg h56] at h
        rw [hl]; exact beg_more h
theorem tr_mk {m : Mach} (h : TrOk m) {i : Nat} {d : Mk} (hd : m.trace[i]? = some d) : (1 ≤ d.k ∧ d.k ≤ 4) ∧ ((d.k = 3 ∨ d.k = 4) ↔ (m.ended = true ∧ i + 1 = m.trace.length)) := by
  have hmem := List.mem_of_getElem? hd
  cases he : m.ended with
  | false =>
    have := h.live he d hmem
    unfold MidK at this
    exact ⟨by omega, fun h => by omega, fun h => by cases h.1⟩
  | true =>
    obtain ⟨t, e, ht, hek, hmid⟩ := h.over he
    rw [ht] at hd ⊢
    by_cases hi : i < t.length
    · rw [List.getElem?_append_left hi] at hd
      have := hmid d (List.mem_of_getElem? hd)
      unfold MidK at this
      refine ⟨by omega, ?_⟩
      rw [List.length_append]
      simp only [List.length_cons, List.length_nil, true_and]
      omega
    · rw [List.getElem?_append_right (by omega)] at hd
      have hi' := (List.getElem?_eq_some_iff.1 hd).1
      simp only [List.length_cons, List.length_nil] at hi'
      have : i - t.length = 0 := by omega
      rw [this] at hd
      cases hd
      unfold EndK at hek
      refine ⟨by omega, ?_⟩
      rw [List.length_append]
      simp only [List.length_cons, List.length_nil, true_and]
      omega
theorem agr_self {m : Mach} (h : TrOk m) : agrM m.trace m.ended m.trace = true := by
  unfold agrM
  cases hx : m.trace.getLast? with
  | none => rfl
  | some d =>
    simp only
    obtain ⟨h1, h2⟩ := getLast_mem hx
    have hix : m.trace[m.trace.length - 1]? = some d := by rw [List.getLast?_eq_getElem?] at hx; exact hx
    have hpos : 0 < m.trace.length := List.length_pos_of_mem h1
    obtain ⟨hk, hl⟩ := tr_mk h hix
    split
    · rename_i h34
      rw [(hl.1 h34).1, (eqMs_iff _ _).2 rfl]; rfl
    · rw [if_neg (by omega)]
      exact beg_self _
theorem last_kind {m : Mach} (h : TrOk m) {d : Mk} (hd : m.trace[m.trace.length - 1]? = some d) (hpos : 0 < m.trace.length) : (d.k = 3 ∨ d.k = 4) ↔ m.ended = true := by
  obtain ⟨hk, hl⟩ := tr_mk h hd
  exact hl.trans ⟨fun h => h.1, fun h => ⟨h, by omega⟩⟩
def WdT (m : Mach) : Prop := ∀ d ∈ m.trace, d.w < 18446744073709551616
theorem WdT.app {m m' : Mach} (h : WdT m) {d : Mk} (hd : d.w < 18446744073709551616) (e : m'.trace = m.trace ++ [d]) : WdT m' := fun c hc => by
  rw [e] at hc
  rcases List.mem_append.1 hc with hc | hc
  · exact h c hc
  · rw [List.mem_singleton] at hc; subst hc; exact hd
theorem WdT.same {m m' : Mach} (h : WdT m) (e : m'.trace = m.trace) : WdT m' := fun c hc => h c (by rw [← e]; exact hc)
theorem step_wds {p : List Fnc} {m : Mach} (ho : MOk p m) (h : WdT m) : WdT (stepM p m).1 := by
  unfold stepM
  split
  · exact h
  split
  · exact h
  unfold goM
  simp only
  split
  · exact h.same rfl
  split
  · exact h
  rename_i x r hm
  have hx := (ho.frames x (by rw [hm]; exact List.mem_cons_self)).wd
  have hrest : ∀ u ∈ r, u.value.toNat < 18446744073709551616 := fun u hu => by
    have := (ho.frames u (by rw [hm]; exact List.mem_cons_of_mem _ hu)).wd.value
    omega
  have hxv := hx.value
  split
  · unfold runMach actM
    split
    · exact h.same rfl
    split
    · unfold recvM
      cases r with
      | nil => exact h.same rfl
      | cons u r' =>
        simp only
        split
        · exact h.app (d := ⟨2, u.value.toNat⟩) (hrest u List.mem_cons_self) rfl
        · exact h.same rfl
    split
    · exact h.app (toNat_lt (popL_wd hx) 0) rfl
    split
    · exact h.same rfl
    split
    · exact h.same rfl
    split
    · exact h.same rfl
    split
    · exact h.same rfl
    · exact h.same rfl
  · unfold leaveM
    split
    · exact h.same rfl
    split
    · exact h.app (by show x.value.toNat < _; omega) rfl
    split
    · exact h.same rfl
    split
    · exact h.same rfl
    · exact h.same rfl
theorem shown_wd {p : List Fnc} {f : Int} {fn : Fnc} (hr : Rt p) (hf : fnAt p f = some fn) (h0 : fn.params = 0) : ∀ n, n ≤ 100000 → WdT (playM p (newM f) n)
  | 0, _ => fun d hd => by simp [playM, newM] at hd
  | n + 1, hn => by
    have ho := (play_ok hr (newM_ok hf h0) (newM_lim f) n (by omega)).1
    exact step_wds (wake_ok ho) ((shown_wd hr hf h0 n (by omega)).same rfl)
def bumpM (t : List Mk) (k : Nat) : List Mk := match t[k]? with
  | some d => t.set k { d with w := (d.w + 1) % 18446744073709551616 }
  | none => t
def cutM (t : List Mk) (cut : Int) (more : List Mk) (how : Int) : List Mk :=
  if how % 6 = 0 then t.take (cut % ((t.length : Int) + 1)).toNat ++ more
  else if how % 6 = 1 then (if 0 < (cut % ((t.length : Int) + 1)).toNat then bumpM (t.take (cut % ((t.length : Int) + 1)).toNat) ((cut % ((t.length : Int) + 1)).toNat - 1) else t.take (cut % ((t.length : Int) + 1)).toNat)
  else if how % 6 = 2 then t.take (cut % ((t.length : Int) + 1)).toNat ++ [⟨5, 0⟩]
  else if how % 6 = 3 then t.take (cut % ((t.length : Int) + 1)).toNat ++ [⟨6, 0⟩]
  else if how % 6 = 4 then t else t.take (cut % ((t.length : Int) + 1)).toNat
end Go.Proofs.YtidcpndlloppdaaGreatDoor
