/-
  Layer 18: the law's function FrameNone returns true.
  Conditions: the numbers, and the words, lie in memory as told.
-/
import Derived.Test.YtlccbaemcfjdoaaZX18
import Derived.Test.YtlccbaemcfjdoaaZW15
import Derived.Test.YtlccbaemcfjdoaaZWF
set_option linter.unusedVariables false
set_option linter.unusedSimpArgs false
namespace Go.Proofs.Ytlccbaemcfjdoaa
open Go.RowKit
theorem gives105n (w : World) (at_ n : Int) : Gives Try.prog 105 [.pointer none, .int .i64 at_, .int .i64 n] w (.tuple ⟨[.slice none 0 0, .int .i64 2]⟩) := gives_of (V105n.sound (ret_is (Below.refl _ _) rfl))
theorem gives124n (w : World) : Gives Try.prog 124 [.slice none 0 0] w (.slice none 0 0) := by
  refine gives_of (V124.sound ?_)
  unfold V124.vc
  simp only [Option.isNone_none, if_true]
  exact ret_is (Below.refl _ _) rfl
theorem gives94n (w : World) (at_ n : Int) : Gives Try.prog 94 [.pointer none, .int .i64 at_, .int .i64 n] w (.tuple ⟨[.slice none 0 0, .int .i64 2]⟩) := by
  refine gives_of (V94n.sound ?_)
  unfold V94n.vc
  refine call_gives (Below.refl _ _) (fun w1 _ _ => gives105n w1 at_ n) fun w1 e1 hw1 => ⟨_, _, _, _, rfl, ?_⟩
  exact call_gives hw1 (fun w2 e2 _ => gives124n w2) fun w2 e2 hw2 => ⟨_, _, _, rfl, ret_is hw2 rfl⟩
theorem gives42n (w : World) (at_ : Int) : Gives Try.prog 42 [.pointer none, .int .i64 at_] w (.tuple ⟨[hdV hd0, .int .i64 2]⟩) := by
  refine gives_of (V42n.sound ?_)
  intro q4 _
  refine call_gives (Below.refl _ _) (fun w1 _ _ => gives94n w1 at_ 7) fun w1 e1 hw1 => ⟨_, _, _, _, rfl, ?_⟩
  rw [if_pos (by simp)]
  exact ret_is hw1 rfl
theorem gives54n (w : World) (P : Option Addr) (pl pc : Nat) (at_ : Int) : Gives Try.prog 54 [.pointer none, .agg ⟨[.slice P pl pc]⟩, .int .i64 at_] w (.tuple ⟨[frm0V, .int .i64 0, .int .i64 2]⟩) := by
  refine gives_of (V54n.sound ?_)
  intro q4 _ q6 _
  refine call_gives (Below.refl _ _) (fun w1 _ _ => gives42n w1 at_) fun w1 e1 hw1 => ⟨_, _, _, _, _, _, _, _, _, rfl, ?_⟩
  intro q9 _
  rw [if_pos (by simp)]
  exact ret_is hw1 rfl
theorem gives59n (w : World) (P : Option Addr) (pl pc : Nat) (top : Int) : Gives Try.prog 59 [.pointer none, .agg ⟨[.slice P pl pc]⟩, .int .i64 top] w (.tuple ⟨[.slice none 0 0, .int .i64 2]⟩) := by
  refine gives_of (V59n.sound ?_)
  intro q4 _
  exact ret_is (Below.refl _ _) rfl
theorem gives44n (w : World) (at_ : Int) (h : Hd) : Gives Try.prog 44 [.pointer none, .int .i64 at_, hdV h] w (.int .i64 2) := by
  refine gives_of (V44n.sound ?_)
  intro q4 _
  exact ret_is (Below.refl _ _) rfl
theorem gives52n (w : World) (P : Option Addr) (pl pc : Nat) (at_ below : Int) (x : Frm) (s : Sls) : Gives Try.prog 52 [.pointer none, .agg ⟨[.slice P pl pc]⟩, .int .i64 at_, .int .i64 below, frmV x s] w (.int .i64 2) := by
  refine gives_of (V52n.sound ?_)
  intro q4 _ q9 _
  exact ret_is (Below.refl _ _) rfl
theorem extS_same {B b : Nat} {w w' : World} {k : IntKind} {e : TypeId} {xs : List Int} (h : ExtS B (fun j => j = b) w w') (ho : OwnI w b k e xs) (ho' : OwnI w' b k e xs) : Ext B w w' :=
  ⟨h.os, h.tape, h.output, h.size, fun j c t f hj => by
    by_cases hb : j = b
    · subst hb; unfold OwnI at ho ho'; rw [ho'] ; rw [ho] at hj; exact hj
    · exact h.row j c t f hb hj, fun j hj => by
    by_cases hb : j = b
    · subst hb; unfold OwnI at ho ho'; rw [ho', ho]
    · exact h.low j hj hb⟩
theorem call_write_no {w0 w : World} {bs : List Nat} {g b : Nat} {mem : List Int} {P : Option Addr} {cap : Nat} {p : List Fnc} {at_ below : Int} {x : Frm} {s : Sls} {K : Value → World → Prop} (hB : w0.heap.size ≤ w.heap.size) (h : ArenaAt w g b mem) (hp : ProgAt (off b w) P p.length p) (hs : Sized p) (hpl : p.length ≤ 1000) (hx : FrmAt (off b w) x s) (hxw : FrmWd x)
    (hno : writeOk p mem.length at_ below x = false) (hk : ∀ w', Ext w0.heap.size w w' → K (.int .i64 1) w') :
    CallK Try.prog 52 [.pointer (some ⟨g, 0, none⟩), .agg ⟨[.slice P p.length cap]⟩, .int .i64 at_, .int .i64 below, frmV x s] w0.heap.size w bs K := by
  have hE : writeE p mem.length at_ below x = 1 := by unfold writeE; rw [hno]; rfl
  have hM : writeM p mem at_ below x = mem := by unfold writeM; rw [hno]; rfl
  refine call_write hB h hp hs hpl hx hxw (by rw [hM]; exact h.wd) fun w' e ha => ?_
  rw [hE]
  rw [hM] at ha
  exact hk w' (extS_same e h.words ha.words)
theorem call_put_no {w0 w : World} {bs : List Nat} {g b : Nat} {mem : List Int} {at_ : Int} {hd : Hd} {K : Value → World → Prop} (hB : w0.heap.size ≤ w.heap.size) (h : ArenaAt w g b mem) (hv : 0 ≤ hd.value ∧ hd.value < 18446744073709551616) (hno : putOk mem.length at_ hd = false)
    (hk : ∀ w', Ext w0.heap.size w w' → K (.int .i64 1) w') : CallK Try.prog 44 [.pointer (some ⟨g, 0, none⟩), .int .i64 at_, hdV hd] w0.heap.size w bs K := by
  have hE : putE mem.length at_ hd = 1 := by unfold putE; rw [hno]; rfl
  have hM : putM mem at_ hd = mem := by unfold putM; rw [hno]; rfl
  refine call_puts hB h.words (fun w1 e1 => puts44 (h.ext e1) at_ hv) fun w' e ho => ?_
  rw [hE]
  rw [hM] at ho
  exact hk w' (extS_same e h.words ho)
theorem append_words {w0 w : World} {bs : List Nat} {g : Nat} {A : Option Addr} {l c : Nat} {xs : List Int} {K : Value → World → Prop} (hB : w0.heap.size ≤ w.heap.size) (hg : w.heap[g]? = some (.cells ⟨[]⟩ 51 (0, 0))) {b0 : Nat} (hb : b0 ≤ g)
    (hx : Nums .u64 w A l xs) (hA : A = none → c = 0) (hl : l ≤ 17592186044416) (hk : ∀ v w', ExtS w0.heap.size (fun k => k = g) w w' → (∀ q u, w.cell? q = some u → w'.cell? q = some u) → OwnWs w' b0 v xs → K v w') :
    RunK Try.prog (Builtin.append_ #[50, 50] 50 ⟨[.slice (some ⟨g, 0, none⟩) 0 0, .slice A l c]⟩) w0.heap.size w bs K := by
  have hb8 : Try.t51.bytes = 8 := by kernel_rfl
  have hlg := lt_of_some hg
  have hlx := hx.len
  cases A with
  | none =>
    have hn : xs = [] := by
      cases xs with
      | nil => rfl
      | cons x r => obtain ⟨p, hp, _⟩ := hx.get 0 x rfl; cases hp
    subst hn
    obtain rfl := hA rfl
    obtain rfl : 0 = l := hlx
    intro w1 he hxx
    have hr := run_append_owned_none (P := Try.prog) (w := w1) b0 50 50 51 Try.t51 1 (by kernel_rfl) (by kernel_rfl) _ 0 [] (owns_empty (he.row _ _ _ _ hg) hb)
    refine ⟨_, w1, hr, ⟨Nat.le_refl _, fun _ _ => rfl⟩, hide_any fun w' hm => ?_⟩
    have h1 := masked he hxx (Nat.le_trans hB he.size) (Below.refl _ _) hm
    exact hk _ w' h1.toS (ext_keeps h1) (owns_empty (h1.row _ _ _ _ hg) hb)
  | some a =>
    refine append_nums (t := 50) (e := 51) (i := Try.t51) (k := .u64) (bytes := 8) (n := 0) (xs := []) (b0 := b0) (by kernel_rfl) (by kernel_rfl) (by kernel_rfl) (by kernel_rfl) hb8 (Nat.le_refl _) (owns_empty hg hb) hx (by omega) hB (by omega) fun v' w' he ho hn => ?_
    have he' : ExtS w0.heap.size (fun k => k = g) w w' := ⟨he.os, he.tape, he.output, he.size, fun k c t f hk => he.row k c t f (fun e => hk (by cases e; rfl)), fun k hk hn => he.low k hk (fun e => hn (by cases e; rfl))⟩
    refine hk v' w' he' (exts_keeps he rfl hg) ?_
    rw [Nat.zero_add, List.nil_append] at ho
    subst hlx
    exact ho
theorem wd_frm {x : Frm} (h : FrmWd x) {ls : List Int} (hl : Wd ls) : FrmWd { x with locals := ls } := ⟨h.value, hl, h.ops, h.args⟩
theorem b1_15 {w w1 : World} {p : List Fnc} {P : Option Addr} {cap : Nat} {g b m : Nat} {mem : List Int} {at_ : Int} (hat : -9223372036854775808 ≤ at_ ∧ at_ ≤ 9223372036854775807) {x : Frm} {s : Sls} {q11 q9 : Nat} (hs : Sized p) (hpl : p.length ≤ 1000) (hw1 : Below w.heap.size w w1) (ha : ArenaAt w1 g b mem) (hl : mem.length = 64) (hm : OwnI w1 m .u64 51 mem) (hp : ProgAt (off b w1) P p.length p)
    (hmx : mayM p x = true) (hxw : FrmWd x) (hx : FrmAt (off b w1) x s) (hlc : s.L = none → s.lc = 0) :
    V15.b1 w.heap.size (IsV w (.bool true)) at_ ⟨g, 0, none⟩ (some ⟨m, 0, none⟩) 64 64 q11 x.f x.pc x.mode x.dfd x.value s.D x.dfs.length s.dc s.L x.locals.length s.lc s.O x.ops.length s.oc q9 P p.length cap w1 := by
  unfold V15.b1
  intro q21 _
  obtain ⟨G, hfn, f0, hG, hsx, z0, z1, hGs⟩ := size_may hs hmx
  have hfl := (List.getElem?_eq_some_iff.1 hG).1
  obtain ⟨G', _, hG', hfn', a1, a2, a3, a4, a5, a6, a7, a8⟩ := may_some hmx
  refine expo_alloc hw1.size fun w2 w3 hs2 e3 _ ho3 => ?_
  have hw3 := e3.after hw1
  have hxl := hx.locals.len
  have hx1 := hx.keep off_in
  have hbd := sized_bd hGs
  rw [hfn] at hfn'; cases hfn'
  refine append_words (b0 := w2.heap.size) hw3.size ho3 (Nat.le_refl _) (RowAt.keep (NumE.kept _) hx1.locals (ext_keeps e3)) hlc (by omega) fun v w4 e4 k4 hv4 => ?_
  obtain ⟨A4, c4, rfl⟩ := owns_slice0 hv4
  refine ⟨A4, _, c4, rfl, ?_⟩
  have hb2 : ∀ j, w2.heap.size ≤ j → w.heap.size ≤ j := fun j hj => Nat.le_trans (Nat.le_trans hw1.size hs2) hj
  have hw4 := e4.after (fun j hj => by subst hj; exact hb2 _ (Nat.le_refl _)) hw3
  have hs4 : w2.heap.size ≤ w4.heap.size := Nat.le_trans (Nat.le_of_lt (lt_of_some ho3)) e4.size
  refine push_word hw4.size hs4 hv4 (by omega) fun v5 w5 e5 ho5 => ?_
  obtain ⟨A5, c5, rfl⟩ := owns_slice0 ho5
  refine ⟨A5, _, c5, rfl, ?_⟩
  have hvb : ∀ j, (Value.slice A4 x.locals.length c4).ownBlock = some j → w2.heap.size ≤ j := fun j hj => (hv4.lt j hj).1
  have hw5 := e5.after (fun j hj => hb2 _ (hvb j hj)) hw4
  -- what there was is as it was
  have hlt : ∀ j, j < w1.heap.size → ∀ c t f, w1.heap[j]? = some (Obj.cells c t f) → w5.heap[j]? = some (Obj.cells c t f) := fun j hj c t f hc => e5.row j c t f (fun e => by have := hvb j e; omega) (e4.row j c t f (by omega) (e3.row j c t f hc))
  have k5 : ∀ q v, w1.cell? q = some v → w5.cell? q = some v := fun q v hq => by
    obtain ⟨c, t, f, hc⟩ := cell_block hq
    have hlt' := lt_of_some hc
    have := hlt q.block hlt' c t f hc
    rw [← hq]
    exact cell_same (by rw [this, hc])
  have ko : ∀ q v, (off b w1).cell? q = some v → (off b w5).cell? q = some v := fun q v hq => by
    obtain ⟨h1, h2⟩ := off_cell.1 hq
    exact off_cell.2 ⟨k5 q v h1, h2⟩
  have ha5 : ArenaAt w5 g b mem := ⟨hlt g (lt_of_some ha.head) _ _ _ ha.head, hlt b ha.words.lt _ _ _ ha.words, ha.wd, ha.len⟩
  have hm5 : OwnI w5 m .u64 51 mem := hlt m hm.lt _ _ _ hm
  have hp5 := RowAt.keep FncE.kept hp ko
  have hX5 := hx.keep ko
  have hbw := ha.words.lt
  have hZ5 : FrmAt (off b w5) { x with locals := x.locals ++ [1] } ⟨s.D, s.dc, A5, c5, s.O, s.oc⟩ := by
    have hn := owns_newk (w := w5) (B := w2.heap.size) (A := A5) (c := c5) (xs := x.locals ++ [1]) (by simpa using ho5) (by simp; omega)
    exact ⟨hX5.dfs, RowAt.keep (NumE.kept _) hn (newW_off (by omega)), hX5.ops⟩
  obtain ⟨G', q, C, cc, hG', hq, c0, cl1, cl2, c3, hcode⟩ := prog_at (RowAt.keep FncE.kept hp5 off_in) (i := x.f.toNat) (by omega)
  rw [hG] at hG'; cases hG'
  refine ⟨q, hq, by omega, by omega, G.params, c0, G.locals, cl1, G.refs, cl2, C, G.code.length, cc, c3, ?_⟩
  refine call_gives hw5 (fun w6 e6 _ => gives33 (RowAt.keep InsE.kept hcode (ext_keeps e6)) _ _ _) fun w6 e6 hw6 => ⟨_, rfl, by omega, ?_⟩
  have hlz : (x.locals ++ [1]).length = x.locals.length + 1 := by simp
  have noz : writeOk p mem.length 0 (-1) { x with locals := x.locals ++ [1] } = false := by
    have : mayM p { x with locals := x.locals ++ [1] } = false := by
      unfold mayM
      simp only [hfn]
      rw [decide_eq_false (fun h => by have := h.2.2.2.2.1; simp at this; omega)]
      rfl
    unfold writeOk; rw [this]; rfl
  have hzw : FrmWd { x with locals := x.locals ++ [1] } := wd_frm hxw fun y hy => by
    rcases List.mem_append.1 hy with hy | hy
    · exact hxw.locals y hy
    · simp at hy; subst hy; omega
  rw [← hlz]
  refine call_write_no (x := { x with locals := x.locals ++ [1] }) (s := ⟨s.D, s.dc, A5, c5, s.O, s.oc⟩) hw6.size (ha5.ext e6) (RowAt.keep FncE.kept hp5 (ext_off e6)) hs hpl (hZ5.keep (ext_off e6)) hzw noz fun w7 e7 => ⟨_, rfl, ?_⟩
  rw [if_pos (by simp)]
  have hw7 := e7.after hw6
  have no : ∀ (at2 below : Int), belowM mem.length below = false ∨ inM mem.length at2 (sizeF G) = false → writeOk p mem.length at2 below x = false := fun at2 below h => by
    unfold writeOk
    rw [hfn]
    rcases h with h | h
    · rw [h]; simp
    · simp only [h]; simp
  have bno : ∀ below : Int, (below < -1 ∨ 64 ≤ below) → belowM mem.length below = false := fun below h => by unfold belowM; rw [hl]; exact decide_eq_false (by omega)
  have E7 := e6.trans e7
  refine call_write_no (x := x) (s := s) hw7.size (ha5.ext E7) (RowAt.keep FncE.kept hp5 (ext_off E7)) hs hpl (hX5.keep (ext_off E7)) hxw (no 0 (-2) (.inl (bno _ (by omega)))) fun w8 e8 => ⟨_, rfl, ?_⟩
  rw [if_pos (by simp)]
  have hw8 := e8.after hw7
  have E8 := E7.trans e8
  refine call_write_no (x := x) (s := s) hw8.size (ha5.ext E8) (RowAt.keep FncE.kept hp5 (ext_off E8)) hs hpl (hX5.keep (ext_off E8)) hxw (no 0 64 (.inl (bno _ (by omega)))) fun w9 e9 => ⟨_, rfl, ?_⟩
  rw [if_pos (by simp)]
  have hw9 := e9.after hw8
  have E9 := E8.trans e9
  show CallK Try.prog 52 [_, _, .int .i64 (IntKind.wrap .i64 (IntKind.wrap .i64 (IntKind.wrap .i64 (64 - sizeF G) + 1) + Int.tmod (if 0 > at_ then 0 else at_) 500)), _, _] _ _ _ _
  obtain ⟨far, hfar, hf0, hf1⟩ : ∃ far : Int, IntKind.wrap .i64 (IntKind.wrap .i64 (IntKind.wrap .i64 (64 - sizeF G) + 1) + Int.tmod (if 0 > at_ then 0 else at_) 500) = far ∧ 64 - sizeF G < far ∧ far ≤ 1000 := by
    have tm : ∀ y : Int, 0 ≤ y → 0 ≤ Int.tmod y 500 ∧ Int.tmod y 500 < 500 := fun y hy => ⟨Int.tmod_nonneg _ hy, Int.tmod_lt_of_pos _ (by omega)⟩
    have := tm (if 0 > at_ then 0 else at_) (by split <;> omega)
    generalize Int.tmod (if 0 > at_ then 0 else at_) 500 = y at this ⊢
    refine ⟨_, rfl, ?_, ?_⟩
    · rw [wrap_id (n := 64 - sizeF G) (by omega) (by omega), wrap_id (n := 64 - sizeF G + 1) (by omega) (by omega), wrap_id (by omega) (by omega)]; omega
    · rw [wrap_id (n := 64 - sizeF G) (by omega) (by omega), wrap_id (n := 64 - sizeF G + 1) (by omega) (by omega), wrap_id (by omega) (by omega)]; omega
  rw [hfar]
  refine call_write_no (x := x) (s := s) hw9.size (ha5.ext E9) (RowAt.keep FncE.kept hp5 (ext_off E9)) hs hpl (hX5.keep (ext_off E9)) hxw (no far (-1) (.inr (by unfold inM; rw [hl]; exact decide_eq_false (by omega)))) fun w10 e10 => ⟨_, rfl, ?_⟩
  rw [if_pos (by simp)]
  have hw10 := e10.after hw9
  have E10 := E9.trans e10
  refine call_put_no (hd := hd0) hw10.size (ha5.ext E10) ⟨by decide, by decide⟩ (by rw [hl]; decide) fun w11 e11 => ⟨_, rfl, ?_⟩
  rw [if_pos (by simp)]
  have hw11 := e11.after hw10
  have E11 := E10.trans e11
  refine call_put_no (hd := ⟨0, 0, 0, 3, false, 0, 0, 0⟩) hw11.size (ha5.ext E11) ⟨by decide, by decide⟩ (by rw [hl]; decide) fun w12 e12 => ⟨_, rfl, ?_⟩
  rw [if_pos (by simp)]
  have hw12 := e12.after hw11
  have E12 := E11.trans e12
  refine call_put_no (hd := ⟨0, -1, 0, 0, false, 0, 0, 0⟩) hw12.size (ha5.ext E12) ⟨by decide, by decide⟩ (by rw [hl]; decide) fun w13 e13 => ⟨_, rfl, ?_⟩
  rw [if_pos (by simp)]
  have hw13 := e13.after hw12
  have E13 := E12.trans e13
  have hM13 : WordsAt w13 (some ⟨m, 0, none⟩) 64 64 mem := own_words (hm5.ext E13) ha.wd hl (by decide)
  refine call_gives hw13 (fun w14 e14 _ => gives46 ((ha5.ext E13).ext e14) (hM13.keep (ext_keeps e14)).nums) fun w14 e14 hw14 => ⟨_, rfl, ?_⟩
  rw [if_pos (by simp)]
  exact call_gives hw14 (fun w15 _ _ => gives47 w15) fun w15 _ hw15 => ⟨_, rfl, ret_is hw15 rfl⟩
theorem gives15 {w : World} {A A1 A2 : Option Addr} {l c l1 c1 l2 c2 : Nat} {ns fs ws : List Int} (hns : BytesAt w A l c ns) (hfs : BytesAt w A1 l1 c1 fs) (hws : Nums .u64 w A2 l2 ws) (hwd : Wd ws) {at_ : Int} (hat : -9223372036854775808 ≤ at_ ∧ at_ ≤ 9223372036854775807) :
    Gives Try.prog 15 [.slice A l c, .slice A1 l1 c1, .slice A2 l2 c2, .int .i64 at_] w (.bool true) := by
  refine gives_of (V15.sound ?_)
  unfold V15.vc
  refine call_madeN (Below.refl _ _) hns fun p C c' w1 hmade hp hc he hw => ⟨C, p.length, c', rfl, ?_⟩
  intro q9 _
  have hs : Sized p := hmade.sized
  have hpl : 1 ≤ p.length ∧ p.length ≤ 1000 := ⟨hmade.pos, by have := hmade.few; omega⟩
  refine expo_alloc hw.size fun w3 w4 hs3 e4 hl4 ho4 => ?_
  have hw4 := e4.after hw
  have hn4 : NumsIn w w4 w3.heap.size := ⟨A1, l1, c1, fs, ho4, hfs⟩
  have hB3 : w.heap.size ≤ w3.heap.size := Nat.le_trans hw.size hs3
  have hp1 : ProgAt w1 C p.length p := RowAt.keep FncE.kept hp newW_in
  refine call_frame hw4 hn4 hB3 (RowAt.keep FncE.kept hp1 (off_old hs3 fun q v hq => e4.cell hq)) hs hpl fun x s w5 hmay hxw hown e5 hn5 hw5 => ⟨_, _, _, _, _, _, _, _, _, _, _, _, _, _, rfl, ?_⟩
  intro q11 _
  have hp5 : ProgAt w5 C p.length p := RowAt.keep FncE.kept hp1 fun q v hq => e5.cell (e4.cell hq) (by have := cell_lt hq; omega)
  have b0 : ∀ at2 : Int, -9223372036854775808 ≤ at2 ∧ at2 ≤ 9223372036854775807 → V15.b0 w.heap.size (IsV w (.bool true)) A2 l2 c2 at2 q11 x.f x.pc x.mode x.dfd x.value s.D x.dfs.length s.dc s.L x.locals.length s.lc s.O x.ops.length s.oc q9 C p.length c' w5 := by
    intro at2 hat2
    unfold V15.b0
    refine call_gives hw5 (fun w6 _ _ => gives42n w6 at2) fun w6 e6 hw6 => ⟨_, _, _, _, _, _, _, _, _, rfl, ?_⟩
    intro q12 _
    refine call_gives hw6 (fun w7 _ _ => gives54n w7 _ _ _ at2) fun w7 e7 hw7 => ⟨_, _, _, _, _, _, _, _, _, _, _, _, _, _, _, _, rfl, ?_⟩
    intro q14 _
    refine call_gives hw7 (fun w8 _ _ => gives59n w8 _ _ _ at2) fun w8 e8 hw8 => ⟨_, _, _, _, rfl, ?_⟩
    refine call_gives hw8 (fun w9 _ _ => gives44n w9 0 hd0) fun w9 e9 hw9 => ⟨_, rfl, ?_⟩
    rw [if_pos (by simp)]
    refine call_gives hw9 (fun w10 _ _ => gives52n w10 _ _ _ 0 (-1) x s) fun w10 e10 hw10 => ⟨_, rfl, ?_⟩
    rw [if_pos (by simp), if_pos (by simp [hd0]), if_pos (by simp)]
    refine call_gives hw10 (fun w11 _ _ => gives56 (x := frm0) (s := ⟨none, 0, none, 0, none, 0⟩) (t := ⟨none, 0, none, 0, none, 0⟩) (frm0_at w11) (frm0_at w11)) fun w11 e11 hw11 => ⟨_, rfl, ?_⟩
    rw [if_pos (by simp), if_pos (by simp), if_pos (by simp), if_pos (by simp), if_neg (by simp)]
    have E11 := ((((e6.trans e7).trans e8).trans e9).trans e10).trans e11
    refine call_laid (pages := 1) (by decide) hw11 (RowAt.keep (NumE.kept _) hws (below_keeps hw11)) hwd fun g b m mem w12 e12 hw12 ha hm hl hg hb hm0 hmb => ⟨_, _, _, _, rfl, ?_⟩
    have E12 := E11.trans e12
    have hlc : s.L = none → s.lc = 0 := fun hn => by
      rcases hown.locals.2 with ⟨hv, _⟩ | ⟨_, _, _, hv, _⟩
      · injection hv
      · rw [hn] at hv; cases hv
    have hs11 := E11.size
    exact b1_15 (w := w) hat2 hs hpl.2 hw12 ha hl hm (RowAt.keep FncE.kept hp5 (off_old (by omega) fun q v hq => E12.cell hq)) hmay hxw ((hown.mayAt hs hmay).keep fun q v hq => off_old (by omega) (fun q v hq => E12.cell hq) q v (newW_in _ _ hq)) hlc
  by_cases h1 : at_ = -1
  · rw [if_pos (by simpa using h1)]; exact b0 0 (by omega)
  · rw [if_neg (by simpa using h1)]; exact b0 at_ hat
end Go.Proofs.Ytlccbaemcfjdoaa
