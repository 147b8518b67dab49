/-
  Layers 19 and 20: a yard of frames by numbers; the document's example of layer 20.
  Conditions: the numbers, and the words, lie in memory as told.
-/
import Derived.Test.YtlccbaemcfjdoaaZR20
import Derived.Test.YtlccbaemcfjdoaaZN18g
set_option linter.unusedVariables false
set_option linter.unusedSimpArgs false
namespace Go.Proofs.Ytlccbaemcfjdoaa
open Go.RowKit
def yardWords (lo fin room : Int) : Int := if 1024 - lo < (if 1 > fin - lo + room then 1 else fin - lo + room) then 1024 - lo else (if 1 > fin - lo + room then 1 else fin - lo + room)
structure YardAt (w : World) (p : List Fnc) (mem0 : List Int) (lo : Int) (xs : List Frm) (P FA TA : Option Addr) (g b m : Nat) : Prop where
  prog : ProgAt (off b w) P p.length p
  arena : ArenaAt w g b (stk p mem0 lo xs).mem
  words : OwnI w m .u64 51 (stk p mem0 lo xs).mem
  frms : Frms (off b w) FA xs.length xs
  ats : Nums .i64 (off b w) TA xs.length (stk p mem0 lo xs).ats
  made : MadeOk p
  ok : StkOk p mem0 lo xs
  len : mem0.length = 1024
  wd : Wd mem0
  lo0 : 0 ≤ lo ∧ lo ≤ 510
  mb : m ≠ b
def yardV (p : List Fnc) (mem0 : List Int) (lo room : Int) (xs : List Frm) (P : Option Addr) (pc : Nat) (FA : Option Addr) (fc : Nat) (TA : Option Addr) (tc g m : Nat) : Value :=
  .agg ⟨[.slice P p.length pc, .pointer (some ⟨g, 0, none⟩), .slice (some ⟨m, 0, none⟩) 1024 1024, .slice FA xs.length fc, .slice TA xs.length tc, .int .i64 lo, .int .i64 (yardWords lo (stk p mem0 lo xs).fin room), .int .i64 (stk p mem0 lo xs).below]⟩
section
variable {w w' : World} {p : List Fnc} {mem0 : List Int} {lo : Int} {xs : List Frm} {P FA TA : Option Addr} {g b m : Nat}
theorem YardAt.sized (h : YardAt w p mem0 lo xs P FA TA g b m) : Sized p := h.made.sized
theorem YardAt.pl (h : YardAt w p mem0 lo xs P FA TA g b m) : 1 ≤ p.length ∧ p.length ≤ 1000 := ⟨h.made.pos, by have := h.made.few; omega⟩
theorem YardAt.mlen (h : YardAt w p mem0 lo xs P FA TA g b m) : (stk p mem0 lo xs).mem.length = 1024 := by rw [stk_mem_len]; exact h.len
theorem YardAt.all (h : YardAt w p mem0 lo xs P FA TA g b m) : StkAll p mem0 lo xs := stk_all h.sized h.pl.2 h.lo0.1 xs h.ok.may h.ok.wd h.ok.fin
theorem YardAt.ext {B : Nat} (h : YardAt w p mem0 lo xs P FA TA g b m) (he : Ext B w w') : YardAt w' p mem0 lo xs P FA TA g b m :=
  { h with prog := RowAt.keep FncE.kept h.prog (ext_off he), arena := h.arena.ext he, words := h.words.ext he, frms := RowAt.keep FrmE.kept h.frms (ext_off he), ats := RowAt.keep (NumE.kept _) h.ats (ext_off he) }
end
theorem newW_row {B k : Nat} {w : World} {c : Array Value} {t : TypeId} {f : Nat × Nat} (h : (newW B w).heap[k]? = some (.cells c t f)) : B ≤ k ∧ w.heap[k]? = some (.cells c t f) := by
  by_cases hb : B ≤ k
  · exact ⟨hb, by rw [← newW_heap hb]; exact h⟩
  · exact absurd h ((mask_msk (List.range B) w).hid k (List.mem_range.2 (by omega)) c t f)
theorem row_newW {B k : Nat} {w : World} {c : Array Value} {t : TypeId} {f : Nat × Nat} (hb : B ≤ k) (h : w.heap[k]? = some (.cells c t f)) : (newW B w).heap[k]? = some (.cells c t f) := by rw [newW_heap hb]; exact h
def YardQ (mem0 : List Int) (lo room : Int) (w1 : World) : Value → World → Prop := fun v w2 => ∃ p P pc xs FA fc TA tc g b m, v = .tuple ⟨[yardV p mem0 lo room xs P pc FA fc TA tc g m, .bool true]⟩ ∧ YardAt (newW w1.heap.size w2) p mem0 lo xs P FA TA g b m
theorem yields62 {w : World} {A A1 A2 : Option Addr} {l c l1 c1 l2 c2 : Nat} {ns fs ws : List Int} (hns : BytesAt w A l c ns) (hfs : BytesAt w A1 l1 c1 fs) (hws : Nums .u64 w A2 l2 ws) (hwd : Wd ws) {lo room : Int} (hlo : 0 ≤ lo ∧ lo < 256) (hroom : 0 ≤ room ∧ room < 256) :
    Yields Try.prog 62 [.slice A l c, .slice A1 l1 c1, .slice A2 l2 c2, .int .u8 lo, .int .u8 room] w (YardQ (padM 1024 ws) (2 * lo) room w) := by
  refine yields_of (V62.sound ?_)
  intro q10 _
  refine call_madeN (Below.refl _ _) hns fun p C c' w1 hmade hp hc he hw => ⟨C, p.length, c', rfl, ?_⟩
  intro q12 _
  have hs : Sized p := hmade.sized
  have hpl : 1 ≤ p.length ∧ p.length ≤ 1000 := ⟨hmade.pos, by have := hmade.few; omega⟩
  have hp1 : ProgAt w1 C p.length p := RowAt.keep FncE.kept hp newW_in
  have hb8 : Try.t51.bytes = 8 := by kernel_rfl
  refine make_own (t := 50) (e := 51) (i := Try.t51) (z := .int .u64 0) (size := 1) (n := 1024) (by kernel_rfl) (by kernel_rfl) (by kernel_rfl) (by kernel_rfl) (by rw [hb8]; omega) (by simp only [maxLen]; omega) hw.size fun m w2 hm e2 ho => ⟨_, _, _, rfl, ?_⟩
  rw [zeros_cells] at ho
  have hw2 := e2.after hw
  have hll := hws.len
  have hls := hws.small
  simp only [maxLen] at hls
  refine copy_nums (t := 50) (e := 51) (k := .u64) (by kernel_rfl) (by kernel_rfl) (g := m) (n := 1024) (zs := List.replicate 1024 0) ho (by rw [List.length_replicate]) (RowAt.keep (NumE.kept _) hws (below_keeps hw2)) hw2.size fun w3 e3 ho3 => ⟨_, rfl, ?_⟩
  have hpad : ws.take 1024 ++ (List.replicate 1024 (0 : Int)).drop l2 = padM 1024 ws := by unfold padM; rw [List.drop_replicate, hll]
  rw [hpad] at ho3
  have hpl512 : (padM 1024 ws).length = 1024 := by unfold padM; simp; omega
  have hpwd : Wd (padM 1024 ws) := fun x hx => by
    unfold padM at hx
    rcases List.mem_append.1 hx with h | h
    · exact hwd x (List.mem_of_mem_take h)
    · rw [(List.mem_replicate.1 h).2]; omega
  generalize padM 1024 ws = mem at *
  have hw3 := e3.after (fun j hj => by subst hj; exact Nat.le_trans hw.size hm) hw2
  have hW3 : WordsAt w3 (some ⟨m, 0, none⟩) mem.length 1024 mem := ⟨OwnI.nums (e := 51) ho3 (by simp only [maxLen]; omega), hpwd, by omega, by omega⟩
  have k3 : ∀ q v, (newW w.heap.size w1).cell? q = some v → (newW w.heap.size w3).cell? q = some v := newW_keep (Nat.le_refl _) fun q v hq => e3.cell (e2.cell hq) (by have := cell_lt hq; omega)
  have hp3 := RowAt.keep FncE.kept hp k3
  rw [wrap_id (n := lo) (by omega) (by omega), wrap_id (n := 2 * lo) (by omega) (by omega), wrap_id (n := room) (by omega) (by omega), wrap_id (n := 1024 - 2 * lo) (by omega) (by omega)]
  generalize hlo2 : 2 * lo = L at *
  have := call_stacked (w0 := w) (bs := [q12, q10]) (P := C) (cap := c') hw3.size (RowAt.keep FncE.kept hp3 newW_in) hs hpl (hfs.keep (below_keeps hw3)) (lo := L) (by omega) hW3 (by omega) (K := fun v_3 w_4 =>
    ∃ (A35 : Option Addr) (A35l A35c : Nat) (A35_1 : Option Addr) (A35_1l A35_1c : Nat) (A35_2 : Option Addr) (A35_2l A35_2c : Nat) (x35 : Int), v_3 = .tuple ⟨[.slice A35 A35l A35c, .slice A35_1 A35_1l A35_1c, .slice A35_2 A35_2l A35_2c, .int .i64 x35]⟩ ∧
  if (decide ((A35_1l : Int) > 0)) = true
  then (∃ p70 : Addr, A35_1 = some p70 ∧ (0 : Int) ≤ IntKind.wrap .i64 ((A35_1l : Int) - 1) ∧ IntKind.wrap .i64 ((A35_1l : Int) - 1) < (A35_1l : Int) ∧
  ∃ x71 : Int, w_4.cell? (p70.add ((IntKind.wrap .i64 ((A35_1l : Int) - 1)).toNat)) = some (.int .i64 x71) ∧
  V62.b0 w.heap.size (IsQ w (YardQ mem L room w)) A35_2 A35_2l A35_2c q12 C p.length c' (.pointer none) none 0 0 A35 A35l A35c A35_1 A35_1l A35_1c L (if 1024 - L < (if 1 > IntKind.wrap .i64 (IntKind.wrap .i64 (x35 - L) + room) then 1 else IntKind.wrap .i64 (IntKind.wrap .i64 (x35 - L) + room)) then 1024 - L else (if 1 > IntKind.wrap .i64 (IntKind.wrap .i64 (x35 - L) + room) then 1 else IntKind.wrap .i64 (IntKind.wrap .i64 (x35 - L) + room))) x71 q10 none 0 0 (.pointer none) none 0 0 none 0 0 none 0 0 0 0 0 w_4)
  else (V62.b0 w.heap.size (IsQ w (YardQ mem L room w)) A35_2 A35_2l A35_2c q12 C p.length c' (.pointer none) none 0 0 A35 A35l A35c A35_1 A35_1l A35_1c L (if 1024 - L < (if 1 > IntKind.wrap .i64 (IntKind.wrap .i64 (x35 - L) + room) then 1 else IntKind.wrap .i64 (IntKind.wrap .i64 (x35 - L) + room)) then 1024 - L else (if 1 > IntKind.wrap .i64 (IntKind.wrap .i64 (x35 - L) + room) then 1 else IntKind.wrap .i64 (IntKind.wrap .i64 (x35 - L) + room))) (-1) q10 none 0 0 (.pointer none) none 0 0 none 0 0 none 0 0 0 0 0 w_4)) ?_
  · rw [hpl512] at this
    exact this
  intro xs FA fc TA tc MA mc w4 e4 hok hF hM hT
  refine ⟨_, _, _, _, _, _, _, _, _, _, rfl, ?_⟩
  have hw4 := e4.after hw3
  have hal := stk_ats_len p mem L xs
  have hfew := hok.few
  have hall := stk_all hs hpl.2 (by omega) xs hok.may hok.wd hok.fin
  have h0 := hall.fin0
  have hfin := hok.fin
  have hMl := stk_mem_len p mem L xs
  have hMw := stk_wd hpwd (by omega) hpl.2 L xs hok.wd
  rw [wrap_id (n := (stk p mem L xs).fin - L) (by omega) (by omega), wrap_id (n := (stk p mem L xs).fin - L + room) (by omega) (by omega)]
  have hT4 : Nums .i64 (newW w.heap.size w4) TA xs.length (stk p mem L xs).ats := by
    have := owns_newk (A := TA) (c := tc) (xs := (stk p mem L xs).ats) (e := 3) (B := w.heap.size) (w := w4) (by rw [hal]; exact owns_base hT hw3.size) (by omega)
    rwa [hal] at this
  obtain ⟨gm, hMA, hM4⟩ : ∃ gm, MA = some ⟨gm, 0, none⟩ ∧ w4.ownsRow w.heap.size 51 1 (.slice MA 1024 mc) 1024 ((stk p mem L xs).mem.map (.int .u64)) := by
    rcases hM with ⟨rfl, rfl, rfl⟩ | h
    · exact ⟨m, rfl, owns_of (k := .u64) (ho3.ext e4) hpl512 (Nat.le_trans hw.size hm) (by simp only [maxLen]; omega)⟩
    · unfold OwnWs at h
      rw [hMl, hpl512] at h
      obtain ⟨gm, cap, hv, hb, hle⟩ := owns_some h (by omega)
      cases hv
      exact ⟨gm, rfl, owns_base h hw3.size⟩
  subst hMA
  have hb0 : ∀ (x71 : Int), x71 = (stk p mem L xs).below → V62.b0 w.heap.size (IsQ w (YardQ mem L room w)) (some ⟨gm, 0, none⟩) mem.length mc q12 C p.length c' (.pointer none) none 0 0 FA xs.length fc TA xs.length tc L (if 1024 - L < (if 1 > (stk p mem L xs).fin - L + room then 1 else (stk p mem L xs).fin - L + room) then 1024 - L else (if 1 > (stk p mem L xs).fin - L + room then 1 else (stk p mem L xs).fin - L + room)) x71 q10 none 0 0 (.pointer none) none 0 0 none 0 0 none 0 0 0 0 0 w4 := by
    intro x71 hx71
    subst hx71
    unfold V62.b0
    obtain ⟨Am, cm, hv, hN, hb⟩ := owns_nums hM4 (by simp only [maxLen]; omega)
    cases hv
    rw [hpl512]
    refine call_laidE (pages := 16) (by decide) hw4 hN hMw fun g b m2 mem2 w5 e5 hw5 ha hm2 hl hg hb' hm0 hmb hmem => ⟨_, _, _, _, rfl, ?_⟩
    rw [padM_eq (by omega)] at hmem
    subst hmem
    have hg5 := Nat.le_trans hw4.size hg
    have hb5 := Nat.le_trans hw4.size hb'
    have hm5 := Nat.le_trans hw4.size hm0
    refine ret_q hw5 fun w6 e6 => ⟨p, C, c', xs, FA, fc, TA, tc, g, b, m2, rfl, ?_⟩
    have E : ∀ {q v}, (newW w.heap.size w4).cell? q = some v → (off b (newW w.heap.size w6)).cell? q = some v := fun {q v} hq => by
      obtain ⟨h1, h2⟩ := newW_cell.1 hq
      exact off_cell.2 ⟨newW_cell.2 ⟨e6.cell (e5.cell h1), h2⟩, by have := cell_lt h1; omega⟩
    refine ⟨RowAt.keep FncE.kept hp3 fun q v hq => E (newW_keep (Nat.le_refl _) (ext_keeps e4) q v hq), ?_, row_newW hm5 (hm2.ext e6), RowAt.keep FrmE.kept hF fun q v hq => E (newW_keep (B := w3.heap.size) hw3.size (fun _ _ h => h) q v hq), RowAt.keep (NumE.kept _) hT4 fun q v hq => E hq, hmade, hok, hpl512, hpwd, by omega, hmb⟩
    exact ⟨row_newW hg5 (ha.ext e6).head, row_newW hb5 (ha.ext e6).words, ha.wd, ha.len⟩
  by_cases hn : xs.length > 0
  · rw [if_pos (by simpa using hn)]
    have hi : IntKind.wrap .i64 ((xs.length : Int) - 1) = ((xs.length - 1 : Nat) : Int) := by rw [wrap_id (by omega) (by omega)]; omega
    rw [hi]
    obtain ⟨n, q, hnn, hq, hcq⟩ := Nums.at hT4 (i := xs.length - 1) (by omega)
    refine ⟨q, hq, by omega, by omega, n, by rw [Int.toNat_natCast]; exact newW_in _ _ hcq, hb0 n ?_⟩
    rw [stk_below]
    unfold prevA
    rw [if_neg (by omega)]
    simp [List.getD, hnn]
  · rw [if_neg (by simpa using hn)]
    have : xs = [] := List.eq_nil_of_length_eq_zero (by omega)
    subst this
    exact hb0 (-1) rfl
end Go.Proofs.Ytlccbaemcfjdoaa
