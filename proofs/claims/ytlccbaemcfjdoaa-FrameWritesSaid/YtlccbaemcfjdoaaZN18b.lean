/-
  Layer 18: the law's function FrameWrites returns true.
  Conditions: the numbers, and the words, lie in memory as told.
-/
import Derived.Test.YtlccbaemcfjdoaaZV18
import Derived.Test.YtlccbaemcfjdoaaZW11
set_option linter.unusedVariables false
set_option linter.unusedSimpArgs false
namespace Go.Proofs.Ytlccbaemcfjdoaa
open Go.RowKit
section
variable {w0 : World} {p : List Fnc} {P : Option Addr} {cap : Nat}
theorem b1_11 (hmade : MadeOk p) {at_ below : Int} {g b m : Nat} {mem : List Int} {q17 q13 : Nat} {x : Frm} {s : Sls} (hxw : FrmWd x) {w : World} (hw : Below w0.heap.size w0 w) (ha : ArenaAt w g b mem) (hb : w0.heap.size ≤ b) (hm : OwnI w m .u64 51 mem) (hl : mem.length = 128) (hmb : m ≠ b) (hp : ProgAt (off b w) P p.length p) (hx : FrmAt (off b w) x s) :
    V11.b1 w0.heap.size (IsV w0 (.bool true)) at_ below ⟨g, 0, none⟩ (some ⟨m, 0, none⟩) 128 128 q17 x.f x.pc x.mode x.dfd x.value s.D x.dfs.length s.dc s.L x.locals.length s.lc s.O x.ops.length s.oc q13 P p.length cap w := by
  have hpl : p.length ≤ 1000 := by have := hmade.few; omega
  have hs : Sized p := hmade.sized
  unfold V11.b1
  refine call_write (x := x) (s := s) hw.size ha hp hs hpl hx hxw (writeM_wd ha.wd (by omega) hpl at_ below hxw) fun w1 e1 ha1 => ⟨_, rfl, ?_⟩
  have hw1 := e1.after (fun k h => by subst h; exact hb) hw
  have hM1 : WordsAt w1 (some ⟨m, 0, none⟩) 128 128 mem := own_words (e1.row _ _ _ _ hmb hm) ha.wd hl (by decide)
  have hp1 := RowAt.keep FncE.kept hp (extS_off e1)
  refine call_rwrite (x := x) (s := s) hw1.size hM1 (RowAt.keep FncE.kept hp1 off_in) hs hpl at_ below ((hx.keep (extS_off e1)).keep off_in) hxw fun A2 c2 w2 e2 hM2 _ => ⟨_, _, _, _, rfl, ?_⟩
  have hw2 := e2.after hw1
  have hp2 := RowAt.keep FncE.kept hp1 (ext_off e2)
  refine call_read hw2.size (ha1.ext e2) (RowAt.keep FncE.kept hp2 off_in) hs hpl fun s3 w3 e3 hf3 => ⟨_, _, _, _, _, _, _, _, _, _, _, _, _, _, _, _, rfl, ?_⟩
  intro q21 _
  have hw3 := e3.after hw2
  have hp3 := RowAt.keep FncE.kept hp2 (ext_off e3)
  refine call_rread hw3.size (hM2.keep (ext_keeps e3)) (RowAt.keep FncE.kept hp3 off_in) hs hpl fun s4 w4 e4 hf4 => ⟨_, _, _, _, _, _, _, _, _, _, _, _, _, _, _, _, rfl, ?_⟩
  intro q24 _
  have hw4 := e4.after hw3
  rw [if_pos (by simp)]
  have hX := (hf3.keep newW_in).keep (ext_keeps e4)
  have hY := hf4.keep newW_in
  refine call_gives hw4 (fun w5 e5 _ => gives56 (x := (readM p (writeM p mem at_ below x) at_).1) (s := s3) (t := s4) (hX.keep (ext_keeps e5)) (hY.keep (ext_keeps e5))) fun w5 e5 hw5 => ⟨_, rfl, ?_⟩
  rw [if_pos rfl, if_pos (by simp), if_pos (by simp)]
  have ha5 := (((ha1.ext e2).ext e3).ext e4).ext e5
  have hM5 := ((hM2.keep (ext_keeps e3)).keep (ext_keeps e4)).keep (ext_keeps e5)
  refine call_gives hw5 (fun w6 e6 _ => gives46 (ha5.ext e6) (hM5.keep (ext_keeps e6)).nums) fun w6 e6 hw6 => ⟨_, rfl, ?_⟩
  rw [if_pos (by simp)]
  exact call_gives hw6 (fun w7 _ _ => gives47 w7) fun w7 _ hw7 => ⟨_, rfl, ret_is hw7 rfl⟩
end
theorem gives11 {w : World} {A A1 A2 : Option Addr} {l c l1 c1 l2 c2 : Nat} {ns fs ws : List Int} (hns : BytesAt w A l c ns) (hfs : BytesAt w A1 l1 c1 fs) (hws : Nums .u64 w A2 l2 ws) (hwd : Wd ws) (at_ below : Int) {more : Int} (hmore : 0 ≤ more ∧ more < 256) :
    Gives Try.prog 11 [.slice A l c, .slice A1 l1 c1, .slice A2 l2 c2, .int .i64 at_, .int .i64 below, .int .u8 more] w (.bool true) := by
  refine gives_of (V11.sound ?_)
  unfold V11.vc
  refine call_madeN (Below.refl _ _) hns fun p C c' w1 hmade hp hc he hw => ⟨C, p.length, c', rfl, ?_⟩
  intro q13 _
  refine call_laid (pages := 2) (by decide) hw (RowAt.keep (NumE.kept _) hws (below_keeps hw)) hwd fun g b m mem w2 e2 hw2 ha hm hl hg hb hm0 hmb => ⟨_, _, _, _, rfl, ?_⟩
  show V11.b0 _ _ A1 l1 c1 at_ below more ⟨g, 0, none⟩ (some ⟨m, 0, none⟩) 128 128 q13 C p.length c' w2
  unfold V11.b0
  have hs : Sized p := hmade.sized
  have hpl : 1 ≤ p.length ∧ p.length ≤ 1000 := ⟨hmade.pos, by have := hmade.few; omega⟩
  refine expo_alloc hw2.size fun w3 w4 hs3 e4 hl4 ho4 => ?_
  have hw4 := e4.after hw2
  have hn4 : NumsIn w w4 w3.heap.size := ⟨A1, l1, c1, fs, ho4, hfs⟩
  have hB3 : w.heap.size ≤ w3.heap.size := Nat.le_trans hw2.size hs3
  have hb0 : w.heap.size ≤ b := Nat.le_trans hw.size hb
  have hp1 : ProgAt w1 C p.length p := RowAt.keep FncE.kept hp newW_in
  -- the program lies ahead of the arena, and of the numbers
  have hp4 : ∀ j, w1.heap.size ≤ j → ProgAt (off j w4) C p.length p := fun j hj => RowAt.keep FncE.kept hp1 (off_old hj fun q v hq => e4.cell (e2.cell hq))
  have hw1s := e2.size
  refine call_frame hw4 hn4 hB3 (hp4 _ (by omega)) hs hpl fun x s w5 hmay hxw hown e5 hn5 hw5 => ⟨_, _, _, _, _, _, _, _, _, _, _, _, _, _, rfl, ?_⟩
  intro q17 _
  have ha4 := ha.ext e4
  have hbl : b < w2.heap.size := ha.words.lt
  have hgl : g < w2.heap.size := lt_of_some ha.head
  have hml : m < w2.heap.size := hm.lt
  have hneb : ¬ b = w3.heap.size := by omega
  have ha5 : ArenaAt w5 g b mem := ⟨e5.row _ _ _ _ (by omega) ha4.head, e5.row _ _ _ _ hneb ha4.words, ha.wd, ha.len⟩
  have hm5 : OwnI w5 m .u64 51 mem := e5.row _ _ _ _ (by omega) (hm.ext e4)
  have hp5 : ProgAt (off b w5) C p.length p := by
    refine RowAt.keep FncE.kept hp1 (off_old hb fun q v hq => ?_)
    have := cell_lt hq
    exact e5.cell (e4.cell (e2.cell hq)) (by omega)
  obtain ⟨h1, h2, h3, h4, h5, h6⟩ := may_small hs hmay
  by_cases hmr : more > 240
  · rw [if_pos (by simpa using hmr)]
    refine ⟨by omega, ?_⟩
    rw [wrap_id (n := more) (by omega) (by omega)]
    have t10 : 0 ≤ Int.tmod more 10 ∧ Int.tmod more 10 < 10 := ⟨Int.tmod_nonneg _ hmore.1, Int.tmod_lt_of_pos _ (by omega)⟩
    obtain ⟨k, hk⟩ : ∃ k : Nat, Int.tmod more 10 = k := ⟨(Int.tmod more 10).toNat, by omega⟩
    rw [hk]
    have hb8 : Try.t51.bytes = 8 := by kernel_rfl
    refine append_zeros (t := 50) (tn := 3) (e := 51) (i := Try.t51) (k := .u64) (kn := .i64) (bytes := 8) (b0 := w4.heap.size) (by kernel_rfl) (by kernel_rfl) (by kernel_rfl) (by kernel_rfl) (by kernel_rfl) hb8 (Nat.le_refl _) hown.ops (by omega) hw5.size e5.size fun v6 w6 e6 ho6 => ?_
    obtain ⟨O6, c6, hv6⟩ := owns_slice0 ho6
    refine ⟨O6, x.ops.length + k, c6, hv6, ?_⟩
    subst hv6
    have hxw' : FrmWd { x with ops := x.ops ++ List.replicate k 0 } := ⟨hxw.value, hxw.locals, fun y hy => by
      rcases List.mem_append.1 hy with hy | hy
      · exact hxw.ops y hy
      · rw [(List.mem_replicate.1 hy).2]; omega, hxw.args⟩
    have hlen' : (x.ops ++ List.replicate k 0).length = x.ops.length + k := by simp
    have hopb : ∀ j, (Value.slice s.O x.ops.length s.oc).ownBlock = some j → w4.heap.size ≤ j := fun j hj => (hown.ops.lt j hj).1
    have hw6 := e6.after (fun j hj => Nat.le_trans hw4.size (hopb j hj)) hw5
    obtain ⟨vs, hv, hva⟩ := hown.dfs
    have hl5 : w2.heap.size ≤ w4.heap.size := Nat.le_trans hs3 (Nat.le_of_lt hl4)
    have hown6 : FrmAt (newW w4.heap.size w6) { x with ops := x.ops ++ List.replicate k 0 } ⟨s.D, s.dc, s.L, s.lc, O6, c6⟩ := by
      have hv6 : OwnDs w6 w4.heap.size (.slice s.D x.dfs.length s.dc) x.dfs vs :=
        ⟨e6.owns hv.row fun j hj => owns_ne hv.row hown.ops (by decide) hj, hv.len, fun i d u hd hu => e6.owns (hv.args i d u hd hu) fun j hj => (hva i u hu j hj).2⟩
      have hL6 : OwnWs w6 w4.heap.size (.slice s.L x.locals.length s.lc) x.locals := e6.owns hown.locals fun j hj => hown.apart j hj
      have hO6 : OwnWs w6 w4.heap.size (.slice O6 (x.ops.length + k) c6) (x.ops ++ List.replicate k 0) := by unfold OwnWs; rw [hlen']; exact ho6
      obtain ⟨_, _, q1, n1⟩ := hv6.dfs (by omega) (fun d hd => by have := h2 d hd; omega)
      obtain ⟨_, _, q2, n2⟩ := ownws_new hL6 (by omega)
      obtain ⟨_, _, q3, n3⟩ := ownws_new hO6 (by rw [hlen']; omega)
      rw [hlen'] at q3
      cases q1; cases q2; cases q3
      exact ⟨n1, n2, n3⟩
    have hnop : ∀ j, j < w4.heap.size → ¬ (Value.slice s.O x.ops.length s.oc).ownBlock = some j := fun j hj e => by have := hopb j e; omega
    have ha6 : ArenaAt w6 g b mem := ⟨e6.row _ _ _ _ (hnop g (by omega)) ha5.head, e6.row _ _ _ _ (hnop b (by omega)) ha5.words, ha.wd, ha.len⟩
    have hm6 : OwnI w6 m .u64 51 mem := e6.row _ _ _ _ (hnop m (by omega)) hm5
    have hp6 : ProgAt (off b w6) C p.length p := by
      refine RowAt.keep FncE.kept hp1 (off_old hb fun q v hq => ?_)
      have := cell_lt hq
      exact e6.cell (e5.cell (e4.cell (e2.cell hq)) (by omega)) (hnop _ (by omega))
    have := b1_11 (x := { x with ops := x.ops ++ List.replicate k 0 }) (s := ⟨s.D, s.dc, s.L, s.lc, O6, c6⟩) (at_ := at_) (below := below) (q17 := q17) (q13 := q13) (cap := c') hmade hxw' hw6 ha6 hb0 hm6 hl hmb hp6 (hown6.keep (newW_off (by omega)))
    simp only [hlen'] at this
    exact this
  · rw [if_neg (by simpa using hmr)]
    exact b1_11 (s := s) hmade hxw hw5 ha5 hb0 hm5 hl hmb hp5 ((hown.mayAt hs hmay).keep (newW_off (by omega)))
end Go.Proofs.Ytlccbaemcfjdoaa
