import Derived.Test.YtidcpndlloppdaaZM21b
import Derived.Laws.CopyRow
import Derived.Laws.IdiomCopy
/-
  Layer 21: what is read of a machine in memory: its top frame, its next instruction, the frame that its next act makes.
  Conditions: the machine lies in memory as told.
-/
set_option linter.unusedVariables false
set_option linter.unusedSimpArgs false
set_option maxRecDepth 20000
namespace Go.Proofs.Ytidcpndlloppdaa
open Go.RowKit
section
variable {w w' : World} {B g : Nat} {C : Option Addr} {c : Nat} {p : List Fnc} {m : Mach} {F T : Value} {ss : List Sl}
structure SlIs (s : Sl) (x : Frm) (D L O : Option Addr) (dc lc oc : Nat) : Prop where
  D : s.D = .slice D x.dfs.length dc
  L : s.L = .slice L x.locals.length lc
  O : s.O = .slice O x.ops.length oc
theorem FrmM.sl {x : Frm} {s : Sl} (h : FrmM w B x s) : ∃ D L O dc lc oc, SlIs s x D L O dc lc oc := by
  obtain ⟨D, dc, h1⟩ := owns_slice0 h.D
  obtain ⟨L, lc, h2⟩ := owns_slice0 h.L
  obtain ⟨O, oc, h3⟩ := owns_slice0 h.O
  exact ⟨D, L, O, dc, lc, oc, h1, h2, h3⟩
theorem MachAt.open (h : MachAt w B g C c p m F T ss) {x : Frm} {r : List Frm} (hm : m.frames = x :: r) : ∃ G cap s t, F = .slice (some ⟨G, 0, none⟩) (r.length + 1) cap ∧ ss = s :: t ∧ t.length = r.length ∧ B ≤ G ∧
    (∀ j v, (frmC x s)[j]? = some v → w.cell? ⟨G, r.length * 8 + j, none⟩ = some v) ∧ (∀ i, w.frozen? ⟨G, i, none⟩ = false) ∧ Pcs w B (.slice (some ⟨G, 0, none⟩) (r.length + 1) cap) T (x :: r) m.trace (s :: t) := by
  have hp := h.pcs
  rw [hm] at hp
  obtain ⟨G, cap, hF, hB⟩ := hp.own (A := none) (n := 0) (cap := 0)
  have hl := hp.len
  cases ss with
  | nil => simp at hl
  | cons s t =>
    have hl' : t.length = r.length := by simpa using hl
    subst hF
    exact ⟨G, cap, s, t, rfl, rfl, hl', hB, fun j v hv => owns_cell hp.frames (stackC_top hl' hv), fun i => owns_frozen hp.frames i, hp⟩
theorem top_ix {n : Nat} (h : n ≤ 1000000000) : IntKind.wrap .i64 (((n + 1 : Nat) : Int) - 1) = (n : Int) := by rw [wrap_id (by omega) (by omega)]; omega
theorem gives60 (h : MachAt w B g C c p m F T ss) {x : Frm} {r : List Frm} (hm : m.frames = x :: r) (hr : r.length ≤ 1000000000) {f : Fnc} (hx : FrIn p x f) (hpc : x.pc < (f.code.length : Int)) :
    Gives Try.prog 60 [.pointer (some ⟨g, 0, none⟩)] w (.agg ⟨[.int .i64 (insAt f x.pc).op, .int .i64 (insAt f x.pc).a, .int .i64 (insAt f x.pc).b]⟩) := by
  obtain ⟨G, cap, s, t, rfl, rfl, hl, hB, cell, fr, hp⟩ := h.open hm
  obtain ⟨D, L, O, dc, lc, oc, hs⟩ := hp.each.1.sl
  have hF := h.cell (i := 6) rfl
  refine gives_of (V60.sound ?_)
  intro q1 _
  simp only [own_add]
  refine ⟨_, _, _, hF, _, _, _, hF, _, rfl, ?_⟩
  rw [top_ix hr]
  simp only [Int.toNat_natCast, own_add, bx_add, Nat.add_zero, Nat.zero_add]
  obtain ⟨hf, h0, hpf, hfl⟩ := fnAt_mem hx.fn
  have d0 := cell 0 _ rfl
  have d1 := cell 1 _ rfl
  have d2 := cell 2 _ rfl
  have d3 := cell 3 _ rfl
  have d4 := cell 4 _ rfl
  have d5 : w.cell? ⟨G, r.length * 8 + 5, none⟩ = some (.slice D x.dfs.length dc) := cell 5 _ (by show some s.D = _; rw [hs.D])
  have d6 : w.cell? ⟨G, r.length * 8 + 6, none⟩ = some (.slice L x.locals.length lc) := cell 6 _ (by show some s.L = _; rw [hs.L])
  have d7 : w.cell? ⟨G, r.length * 8 + 7, none⟩ = some (.slice O x.ops.length oc) := cell 7 _ (by show some s.O = _; rw [hs.O])
  refine ⟨by omega, by omega, x.f, d0, x.pc, d1, x.mode, d2, x.dfd, d3, x.value, d4, D, _, dc, d5, L, _, lc, d6, O, _, oc, d7, fun q2 _ => ⟨d0, d1, d2, d3, d4, d5, d6, d7, hF, hF, ?_⟩⟩
  obtain ⟨f', q, C', c', hf', hq, c0, c1, c2, c3, hcode⟩ := prog_at h.prog.prog (i := x.f.toNat) (by omega)
  rw [hpf] at hf'; cases hf'
  subst hq
  have hpc0 := hx.pc.1
  obtain ⟨y, a, hy, ha, i0, i1, i2⟩ := RowAt.at hcode (i := x.pc.toNat) (by omega)
  have hyi : insAt f x.pc = y := by unfold insAt; rw [hy]; rfl
  rw [hyi]
  refine ⟨_, _, _, h.cell (i := 0) rfl, q, rfl, by omega, by omega, C', _, c', c3, a, ha, by omega, by omega, y.op, i0, y.a, i1, y.b, i2, ret_is (Below.refl _ _) rfl⟩
theorem dfrsC_get : ∀ {ds : List Dfr} {vs : List Value} {i : Nat} {d : Dfr} {a : Value}, ds[i]? = some d → vs[i]? = some a → (dfrsC ds vs)[i * 2]? = some (.int .i64 d.f) ∧ (dfrsC ds vs)[i * 2 + 1]? = some a
  | [], vs, i, d, a, h, _ => by simp at h
  | y :: r, [], i, d, a, _, h => by simp at h
  | y :: r, b :: u, 0, d, a, h, h2 => by simp at h h2; subst h; subst h2; exact ⟨rfl, rfl⟩
  | y :: r, b :: u, i + 1, d, a, h, h2 => by
    obtain ⟨h3, h4⟩ := dfrsC_get (ds := r) (vs := u) (i := i) (by simpa using h) (by simpa using h2)
    have e : dfrsC (y :: r) (b :: u) = .int .i64 y.f :: b :: dfrsC r u := rfl
    rw [e, show (i + 1) * 2 = i * 2 + 2 by omega, show i * 2 + 2 + 1 = i * 2 + 1 + 2 by omega]
    exact ⟨h3, h4⟩
theorem getLast_ix {α : Type} {l : List α} {d : α} (h : l.getLast? = some d) : l[l.length - 1]? = some d ∧ 0 < l.length := by
  rw [List.getLast?_eq_getElem?] at h
  exact ⟨h, by have := (List.getElem?_eq_some_iff.1 h).1; omega⟩
end
end Go.Proofs.Ytidcpndlloppdaa

/-
  Layer 21: a frame put on top of a machine's others.
  Conditions: the machine lies in memory as told.
-/
set_option linter.unusedVariables false
set_option linter.unusedSimpArgs false
set_option maxRecDepth 20000
namespace Go.Proofs.Ytidcpndlloppdaa
open Go.RowKit
theorem own_row {w : World} {B G : Nat} {xs : List Int} (ho : OwnI w G .u64 28 xs) (hb : B ≤ G) (hl : xs.length ≤ 1000000) : w.ownsRow B 28 1 (.slice (some ⟨G, 0, none⟩) xs.length xs.length) xs.length (u64s xs) :=
  ⟨by simp [u64s], .inr ⟨G, xs.length, _, rfl, hb, ho, Nat.le_refl _, by simp only [maxLen]; omega, by simp, by show List.take _ _ = _; rw [List.take_of_length_le (by simp)]; simp [u64s]⟩⟩
theorem copy_new {B : Nat} {w : World} {bs : List Nat} {K : Value → World → Prop} {b al ac : Nat} {A : Option Addr} {zs args : List Int} (ho : OwnI w b .u64 28 zs) (hB : B ≤ w.heap.size) (ha : Nums .u64 w A al args) (hal : al ≤ zs.length)
    (hk : ∀ w', ExtS B (fun j => j = b) w w' → OwnI w' b .u64 28 (args ++ zs.drop al) → K (.int .i64 (al : Int)) w') :
    RunK Try.prog (Builtin.copy_ #[49, 49] 3 ⟨[.slice (some ⟨b, 0, none⟩) zs.length zs.length, .slice A al ac]⟩) B w bs K := by
  intro w1 he hxx
  have hB1 : B ≤ w1.heap.size := Nat.le_trans hB he.size
  have ho1 := ho.ext he
  have hgb : b ∉ bs := fun h => (hxx b h).2.1 _ _ _ ho
  have hlen := ha.len
  by_cases h0 : al = 0
  · subst h0
    have hz : args = [] := List.eq_nil_of_length_eq_zero hlen
    subst hz
    have hr := run_copy_none (P := Try.prog) w1 49 49 3 28 (some ⟨b, 0, none⟩) A zs.length zs.length 0 ac (by kernel_rfl) (by kernel_rfl) (Nat.zero_min _)
    refine ⟨_, w1, hr, ⟨Nat.le_refl _, fun _ _ => rfl⟩, hide_any fun w' hm => ?_⟩
    have h1 := masked he hxx hB1 (Below.refl _ _) hm
    exact hk w' h1.toS (by rw [List.drop_zero, List.nil_append]; exact ho.ext h1)
  · obtain ⟨x0, a, _, hA, _⟩ := ha.at (i := 0) (by omega)
    subst hA
    have hcs : (args.map (Value.int .u64)).length = Nat.min al zs.length := by rw [List.length_map, hlen]; exact (Nat.min_eq_left hal).symm
    have hsrc := nums_cells ha
    have hr := run_copy_row (P := Try.prog) w1 49 49 3 28 b 0 zs.length zs.length a al ac (zs.map (Value.int .u64)).toArray 28 (args.map (.int .u64)) (by kernel_rfl) (by kernel_rfl) (show w1.heap[b]? = some (.cells (zs.map (.int .u64)).toArray 28 (0, 0)) from ho1) hcs (fun j v hj => he.cell (hsrc j v hj)) (by simp [hlen]; exact hal) (fun v hv => by obtain ⟨x, _, rfl⟩ := List.mem_map.1 hv; rfl)
    have hgrow : w1.grownBy (w1.setRow b (((zs.map (Value.int .u64)).toArray).toList.take 0 ++ args.map (Value.int .u64) ++ ((zs.map (Value.int .u64)).toArray).toList.drop (0 + (args.map (Value.int .u64)).length)).toArray) (some b) := ⟨rfl, rfl, rfl, by simp [World.setRow], fun j _ hj => setRow_other w1 b j _ (fun e => hj (by simp [e]))⟩
    refine ⟨_, _, hr, ⟨hgrow.size, fun x hxb => hgrow.block x (hxx x hxb).1 (fun e => hgb (by cases e; exact hxb))⟩, hide_any fun w' hm => ?_⟩
    have hrow := hk w' (maskedS he hxx hgrow (fun j hj => by cases hj; rfl) hm hB1) (by
      unfold OwnI
      rw [hm.block b hgb, setRow_heap w1 b _ _ 28 (0, 0) ho1]
      congr 2
      simp only [List.toList_toArray, List.take_zero, List.nil_append, Nat.zero_add, List.length_map, hlen, List.map_append, List.map_drop])
    have e : goInt (args.map (Value.int .u64)).length = .int .i64 (al : Int) := by rw [List.length_map, hlen]; rfl
    rw [e]
    exact hrow
theorem locM_eq {n : Nat} {args : List Int} (h : args.length ≤ n) : args ++ (List.replicate n (0 : Int)).drop args.length = locM (n : Int) args := by
  unfold locM
  rw [Int.toNat_natCast, List.take_append, List.take_of_length_le h, List.drop_replicate, List.take_replicate, Nat.min_eq_left (by omega)]
section
variable {w : World} {B g : Nat} {C : Option Addr} {c : Nat} {p : List Fnc} {m : Mach} {F T : Value} {ss : List Sl}
def enterM (p : List Fnc) (m : Mach) (f : Int) (args : List Int) (dfd : Bool) : Mach := { m with frames := newF p f args dfd :: m.frames }
theorem turns41 (hr : Rt p) (h : MachAt w B g C c p m F T ss) (hlen : m.frames.length ≤ 1000000000) {f : Int} {fn : Fnc} (hf : fnAt p f = some fn) {A : Option Addr} {al ac : Nat} {args : List Int} (ha : Nums .u64 w A al args) (hpar : (al : Int) ≤ fn.locals) (dfd : Bool) :
    MachT 41 [.pointer (some ⟨g, 0, none⟩), .int .i64 f, .slice A al ac, .bool dfd] w B g C c p F T ss (.tuple ⟨[]⟩) (enterM p m f args dfd) := by
  refine turns_of (V41.sound ?_)
  unfold V41.vc
  simp only [own_add, bx_add, Nat.add_zero, Nat.zero_add]
  obtain ⟨hfm, h0, hpf, hfl⟩ := fnAt_mem hf
  have hsz := sized_bd (hr.sized fn hfm)
  obtain ⟨f', q, C', c', hf', hq, c0, c1, c2, c3, hcode⟩ := prog_at h.prog.prog (i := f.toNat) (by omega)
  rw [hpf] at hf'; cases hf'
  refine ⟨_, _, _, h.cell (i := 0) rfl, q, hq, by omega, by omega, fn.locals, c1, ?_⟩
  obtain ⟨n, hn⟩ := Int.eq_ofNat_of_zero_le (show 0 ≤ fn.locals by omega)
  rw [hn]
  have hb28 : Try.t28.bytes = 8 := by kernel_rfl
  refine make_own (t := 49) (e := 28) (i := Try.t28) (z := .int .u64 0) (size := 1) (n := n) (by kernel_rfl) (by kernel_rfl) (by kernel_rfl) (by kernel_rfl) (by rw [hb28]; omega) (by simp only [maxLen]; omega) (Nat.le_refl _) fun G1 w1 hG1 e1 ho1 => ⟨_, _, _, rfl, ?_⟩
  rw [zeros_cells] at ho1
  have hz : (List.replicate n (0 : Int)).length = n := by simp
  have hcopy := copy_new (bs := []) (B := w.heap.size) (w := w1) (b := G1) (zs := List.replicate n 0) (A := A) (al := al) (ac := ac) (args := args) ho1 e1.size (RowAt.keep (NumE.kept _) ha (ext_keeps e1)) (by rw [hz]; omega)
    (K := fun t x => ∃ y : Int, t = .int .i64 y ∧
      ∃ (z : Option Addr) (zl zc : Nat), x.cell? ⟨g, 6, none⟩ = some (.slice z zl zc) ∧
      Expo w.heap.size x [] fun D => 
      let E := D.alloc (.cells ⟨[.int .i64 f, .int .i64 0, .int .i64 0, .bool dfd, .int .u64 0, .slice none 0 0, .slice (some ⟨G1, 0, none⟩) n n, .slice none 0 0]⟩ 66);
      RunK Try.prog (Builtin.append_ #[52, 52] 52 ⟨[.slice z zl zc, .slice (some ⟨D.heap.size, 0, none⟩) 1 1]⟩) w.heap.size E [] fun F' G => 
      ∃ (I : Option Addr) (J L : Nat), F' = .slice I J L ∧
      (∃ u, G.cell? ⟨g, 6, none⟩ = some u) ∧ G.frozen? ⟨g, 6, none⟩ = false ∧
      Ret w.heap.size (G.setCell ⟨g, 6, none⟩ (.slice I J L)) (IsT w (Foot g F T ss) (fun u w' => u = .tuple ⟨[]⟩ ∧ MachQ w B g C c p F T ss (enterM p m f args dfd) w') (.tuple ⟨[]⟩))) ?_
  · rw [hz] at hcopy
    exact hcopy
  intro w2 e2 ho2
  have hargs := ha.len
  rw [← hargs, locM_eq (by omega)] at ho2
  have h1 := h.ext e1
  have hg1 : ∀ k, Foot g F T ss k → k ≠ G1 := fun k hk e => by have := (h.ty hk).2.1; omega
  -- the new row alone has turned
  have same : ∀ k, Foot g F T ss k → w2.heap[k]? = w1.heap[k]? := fun k hk => by
    obtain ⟨_, _, cc, e, ff, hh⟩ := h1.ty hk
    rw [hh]; exact e2.row _ _ _ _ (fun e => hg1 k hk e) hh
  have h2 : MachAt w2 B g C c p m F T ss := ⟨h1.base, by rw [same g (.inl rfl)]; exact h1.head, h1.pcs.same fun k hk => same k (.inr hk), h.prog.keep (fun q v hq hs => e2.cell (e1.cell hq) (fun e => by have := cell_lt hq; omega)) fun k hk => .inl hk⟩
  refine ⟨_, rfl, ?_⟩
  obtain ⟨FA, cap, hF⟩ := owns_slice0 h2.pcs.frames
  subst hF
  refine ⟨FA, _, cap, h2.cell (i := 6) rfl, ?_⟩
  intro w3 e3 _
  obtain ⟨e4, ho4⟩ := alloc1 (.cells ⟨[.int .i64 f, .int .i64 0, .int .i64 0, .bool dfd, .int .u64 0, .slice none 0 0, .slice (some ⟨G1, 0, none⟩) n n, .slice none 0 0]⟩ 66) e3 (show w.heap.size ≤ w2.heap.size from Nat.le_trans e1.size e2.size)
  have hlt4 := lt_of_some ho4
  simp only
  generalize w3.alloc (.cells ⟨[.int .i64 f, .int .i64 0, .int .i64 0, .bool dfd, .int .u64 0, .slice none 0 0, .slice (some ⟨G1, 0, none⟩) n n, .slice none 0 0]⟩ 66) = w4 at *
  have h4 := h2.ext e4
  have hBG : B ≤ G1 := Nat.le_trans h.base (Nat.le_trans (Nat.le_of_lt (h.ty (.inl rfl)).2.1) hG1)
  have hll : (locM (n : Int) args).length = n := by have := locM_len (n := (n : Int)) (by omega) args; omega
  have hx : FrmM w4 B (newF p f args dfd) ⟨.slice none 0 0, .slice (some ⟨G1, 0, none⟩) n n, .slice none 0 0, []⟩ := by
    refine ⟨World.ownsRow_nil _ _ _ _, trivial, ?_, World.ownsRow_nil _ _ _ _⟩
    have := own_row (B := B) (ho2.ext e4) hBG (by omega)
    rw [hll] at this
    show w4.ownsRow B 28 1 _ (locM (fnD p f).locals args).length (u64s (locM (fnD p f).locals args))
    rw [fnD_eq hf, hn, hll]
    exact this
  have hb66 : Try.t66.bytes = 112 := by kernel_rfl
  have hle : B ≤ w4.heap.size := Nat.le_trans h4.base (Nat.le_of_lt (h4.ty (.inl rfl)).2.1)
  refine append_own (bs := []) (t := 52) (e := 66) (i := Try.t66) (z := .agg ⟨[.int .i64 0, .int .i64 0, .int .i64 0, .bool false, .int .u64 0, .slice none 0 0, .slice none 0 0, .slice none 0 0]⟩) (size := 8) (bytes := 112) (by kernel_rfl) (by kernel_rfl) (by kernel_rfl) (by kernel_rfl) hb66 rfl (by omega) h4.pcs.frames (news := frmC (newF p f args dfd) ⟨.slice none 0 0, .slice (some ⟨G1, 0, none⟩) n n, .slice none 0 0, []⟩) rfl (fun j v hj => ?_) (fun v hv => ?_) (by simp only [maxLen]; omega) (by omega) (Nat.le_trans (Nat.le_trans e1.size e2.size) e4.size) hle fun F' w5 he ho' hnw => ?_
  · rw [own_add]; exact at_cell (L := frmC (newF p f args dfd) ⟨.slice none 0 0, .slice (some ⟨G1, 0, none⟩) n n, .slice none 0 0, []⟩) ho4 hj
  · simp only [frmC, List.mem_cons, List.not_mem_nil, or_false] at hv
    rcases hv with rfl | rfl | rfl | rfl | rfl | rfl | rfl | rfl <;> rfl
  obtain ⟨A', cap', hF'⟩ := owns_slice0 ho'
  subst hF'
  have hc1 := chg1_exts he h4.pcs.frames
  have hg5 : w5.heap[g]? = some (.cells ⟨headC (.slice C p.length c) (.slice FA m.frames.length cap) T m⟩ 76 (0, 0)) := he.row _ _ _ _ (fun e => by
    obtain ⟨_, cc, f, hh⟩ := owns_ty h4.pcs.frames e
    rw [h4.head] at hh; cases hh) h4.head
  have fresh : ∀ k, InSl ⟨.slice none 0 0, .slice (some ⟨G1, 0, none⟩) n n, .slice none 0 0, []⟩ k → k = G1 := fun k hk => by
    rcases hk with hk | hk | hk | ⟨a, ha, _⟩
    · cases hk
    · cases hk; rfl
    · cases hk
    · cases ha
  have hp5 := h4.pcs.push hc1 ho' hx ⟨fun k _ e => (by cases e), fun a ha => (by cases ha), fun a ha => (by cases ha)⟩ fun k hk hk' => hg1 k (.inr (.inr (.inr hk'))) (fresh k hk)
  have hft : ∀ j, Foot g (.slice A' (m.frames.length + 1) cap') T (⟨.slice none 0 0, .slice (some ⟨G1, 0, none⟩) n n, .slice none 0 0, []⟩ :: ss) j → Foot g (.slice FA m.frames.length cap) T ss j ∨ j = G1 ∨ w4.heap.size ≤ j := fun j hj => by
    rcases hj with hj | hj | hj | ⟨s, hs, hj⟩
    · exact .inl (.inl hj)
    · rcases hnw j hj with hj | hj
      · exact .inl (.inr (.inl hj))
      · exact .inr (.inr hj)
    · exact .inl (.inr (.inr (.inl hj)))
    · rcases List.mem_cons.1 hs with rfl | hs
      · exact .inr (.inl (fresh j hj))
      · exact .inl (.inr (.inr (.inr ⟨s, hs, hj⟩)))
  have hsz14 : w.heap.size ≤ w4.heap.size := Nat.le_trans (Nat.le_trans e1.size e2.size) e4.size
  have hft0 : ∀ j, Foot g (.slice A' (m.frames.length + 1) cap') T (⟨.slice none 0 0, .slice (some ⟨G1, 0, none⟩) n n, .slice none 0 0, []⟩ :: ss) j → Foot g (.slice FA m.frames.length cap) T ss j ∨ w.heap.size ≤ j := fun j hj => (hft j hj).imp id fun h => h.elim (fun e => e ▸ hG1) fun h => Nat.le_trans hsz14 h
  refine ⟨A', _, cap', rfl, ⟨_, at_cell (i := 6) hg5 rfl⟩, at_frozen hg5 6, ?_⟩
  have hP : POff (Foot g (.slice A' (m.frames.length + 1) cap') T (⟨.slice none 0 0, .slice (some ⟨G1, 0, none⟩) n n, .slice none 0 0, []⟩ :: ss)) w5 C p :=
    h.prog.keep (fun q v hq hs => he.cell (e4.cell (e2.cell (e1.cell hq) (fun e => by have := cell_lt hq; omega))) fun e => hs (.inr (.inl e))) hft0
  have hchg : Chg (Foot g (.slice FA m.frames.length cap) T ss) w w5 :=
    he.chg ((e4.toS (S := fun _ => False)).chg (e2.chg ((e1.toS (S := fun _ => False)).chg (Chg.refl _ _) (fun _ _ h => h.elim)) fun j hj e => by omega) (fun _ _ h => h.elim)) fun j _ hj => .inr (.inl hj)
  exact mach_ret (m' := enterM p m f args dfd) (hchg.setCell _ fun _ => .inl rfl) (mach_set (m := enterM p m f args dfd) hg5 rfl hp5 h.base hP) hft0
end
end Go.Proofs.Ytidcpndlloppdaa
