/-
  The maker's function that makes one function's code: what its calls leave.
  Conditions: the maker lies in memory as told; the functions ahead are done, those behind have no code.
-/
import Derived.Test.YtlccbaemcfjdoaaM17f
set_option linter.unusedVariables false
set_option linter.unusedSimpArgs false
namespace Go.Proofs.Ytlccbaemcfjdoaa
open Go.RowKit

theorem now_eq {s : MSt} {n : Int} (h : s.now = n) : { s with now := n } = s := by subst h; rfl
theorem MakerAt.put_zero {B g : Nat} {w : World} {s : MSt} {A : Option Addr} {ln cn : Nat} {vF vD : Value} {cs : List Value} (h : MakerAt B w g s A ln cn vF vD cs) (h0 : s.now = 0) : MakerAt B (w.setCell ⟨g, 4, none⟩ (.int .i64 0)) g s A ln cn vF vD cs := by
  have := h.put_now 0
  rwa [now_eq h0] at this
theorem Cur.ns {s : MSt} {E : List Int} (h : Cur s E) (l : List Int) : Cur { s with ns := l } E := ⟨h.pos, h.few, h.f, h.heads, h.zero, h.done, h.todo, h.run, h.start, h.now⟩
theorem Step.ns {s : MSt} (h : Cur s []) (l : List Int) : Step 0 s { s with ns := l } := ⟨h.ns l, rfl, rfl, rfl, Nat.le_refl _⟩
def CodeQ (s : MSt) : Value → MSt → Prop := fun v s' => v = .tuple ⟨[]⟩ ∧ Ph s'.p (s.f + 1) ∧ s'.p.length = s.p.length
section
variable {B g : Nat} {w0 : World} {vF0 vD0 : Value} {cs0 : List Value}
theorem b2_86 {S : Nat → Prop} {s0 s : MSt} {w : World} {A : Option Addr} {ln cn : Nat} {vF vD : Value} {cs : List Value} (h : MK B g S w0 w s A ln cn vF vD cs) (hc : Cur s []) (hf : s.f = s0.f) (hp : s.p.length = s0.p.length) (hl : s.depth.length ≤ 60) :
    V86.b2 w0.heap.size (IsT w0 S (MkQ B g S w0 (CodeQ s0))) ⟨g, 0, none⟩ w := by
  unfold V86.b2
  simp only [own_add]
  have hn := hc.now
  refine ⟨_, h.mem.c4, ?_⟩
  by_cases h0 : s.now = 0
  · rw [if_pos (by simpa using h0)]
    obtain ⟨c1, n1⟩ := push_cur hc (by omega) (a := 7) (by omega)
    have d1 := add_len s 1 7 0
    refine call_add h hc (by omega) fun w1 A1 ln1 cn1 vF1 vD1 cs1 h1 => ⟨rfl, ?_⟩
    refine fin_add h1 c1 (by omega) ⟨rfl, ?_, by rw [add_plen, add_plen, hp]⟩
    have := c1.finish (by omega) (by omega)
    rw [add_f, hf] at this
    exact this
  · rw [if_neg (by simpa using h0)]
    refine fin_add h hc (by omega) ⟨rfl, ?_, by rw [add_plen, hp]⟩
    have := hc.finish (by omega) (by omega)
    rw [hf] at this
    exact this
theorem l1_86 {S : Nat → Prop} {s0 : MSt} {n : Nat} (hn : n ≤ 16) : ∀ (k i : Nat) (w : World) (s : MSt) (A : Option Addr) (ln cn : Nat) (vF vD : Value) (cs : List Value), n < i + k → i ≤ n → MK B g S w0 w s A ln cn vF vD cs → Cur s [] → s.f = s0.f → s.p.length = s0.p.length → s.depth.length ≤ 60 →
    V86.l1 w0.heap.size (IsT w0 S (MkQ B g S w0 (CodeQ s0))) k ⟨g, 0, none⟩ n i w := by
  intro k
  induction k with
  | zero => intros; omega
  | succ k ih =>
    intro i w s A ln cn vF vD cs hk hi h hc hf hp hl
    dsimp -zeta only [V86.l1]
    by_cases hlt : i < n
    · rw [if_pos (by simpa using hlt)]
      refine call_mk h (works116 (by omega)) fun v s' w1 A1 ln1 cn1 vF1 vD1 cs1 hR h1 => ?_
      obtain ⟨rfl, rfl⟩ := hR
      refine ⟨_, rfl, ?_⟩
      by_cases h54 : s'.depth.length < 54
      · rw [if_pos (by simp; omega)]
        refine call_mk h1 works85 fun v s2 w2 A2 ln2 cn2 vF2 vD2 cs2 hR h2 => ?_
        obtain ⟨x, rfl, hx0, hx1, l2, rfl⟩ := hR
        refine ⟨x, rfl, by omega, ?_⟩
        refine call_mk h2 works85 fun v s3 w3 A3 ln3 cn3 vF3 vD3 cs3 hR h3 => ?_
        obtain ⟨b, rfl, hb0, hb1, l3, rfl⟩ := hR
        refine ⟨b, rfl, ?_⟩
        have c3 : Cur { s' with ns := l3 } [] := hc.ns l3
        refine call_mk h3 (works117 (kind := Int.tmod x 20) c3 ⟨hb0, hb1⟩ (by show s'.depth.length ≤ 60; omega)) fun v s4 w4 A4 ln4 cn4 vF4 vD4 cs4 hR h4 => ?_
        have hwi : IntKind.wrap .i64 ((i : Int) + 1) = ((i + 1 : Nat) : Int) := by rw [wrap_id (by omega) (by omega)]; rfl
        rcases hR with ⟨rfl, hst⟩ | ⟨rfl, rfl⟩
        · refine ⟨true, rfl, ?_⟩
          rw [if_pos rfl, hwi]
          have hd := hst.dep
          exact ih (i + 1) w4 s4 A4 ln4 cn4 vF4 vD4 cs4 (by omega) (by omega) h4 hst.cur (by rw [hst.f]; exact hf) (by rw [hst.p]; exact hp) (by have : s4.depth.length ≤ s'.depth.length + 6 := hd; omega)
        · refine ⟨false, rfl, ?_⟩
          rw [if_neg (by simp)]
          simp only [own_add]
          refine ⟨_, h4.mem.c4, ?_⟩
          have hcn : 0 ≤ s'.now ∧ s'.now ≤ 8 := hc.now
          by_cases h8 : s'.now < 8
          · rw [if_pos (by simpa using h8)]
            have t9 := tm hb0 (n := 9) (by omega)
            obtain ⟨c5, n5⟩ := push_cur c3 h8 (a := Int.tmod b 9) (by omega)
            refine ⟨by omega, call_add h4 c3 (by show s'.depth.length ≤ 100; omega) fun w5 A5 ln5 cn5 vF5 vD5 cs5 h5 => ⟨rfl, ?_⟩⟩
            rw [hwi]
            exact ih (i + 1) w5 _ A5 ln5 cn5 vF5 vD5 cs5 (by omega) (by omega) h5 c5 hf (by rw [add_plen]; exact hp) (by rw [add_len]; show s'.depth.length + 1 ≤ 60; omega)
          · rw [if_neg (by simpa using h8)]
            obtain ⟨c5, n5⟩ := row_cur c3 (op := 27) (n := 1) (m := 0) (by simp [rowT]) (by omega) (by omega) (by show 1 ≤ s'.now; omega) (by show s'.now - 1 + 0 ≤ 8; omega)
            refine call_add h4 c3 (by show s'.depth.length ≤ 100; omega) fun w5 A5 ln5 cn5 vF5 vD5 cs5 h5 => ⟨rfl, ?_⟩
            rw [hwi]
            exact ih (i + 1) w5 _ A5 ln5 cn5 vF5 vD5 cs5 (by omega) (by omega) h5 c5 hf (by rw [add_plen]; exact hp) (by rw [add_len]; show s'.depth.length + 1 ≤ 60; omega)
      · rw [if_neg (by simp; omega)]
        exact b2_86 h1 hc hf hp hl
    · rw [if_neg (by simpa using hlt)]
      exact b2_86 h hc hf hp hl
theorem b0_86 {S : Nat → Prop} {s0 s : MSt} {w : World} {A : Option Addr} {ln cn : Nat} {vF vD : Value} {cs : List Value} (h : MK B g S w0 w s A ln cn vF vD cs) (hc : Cur s []) (hf : s.f = s0.f) (hp : s.p.length = s0.p.length) (hl : s.depth.length ≤ 60) :
    V86.b0 w0.heap.size (IsT w0 S (MkQ B g S w0 (CodeQ s0))) ⟨g, 0, none⟩ w := by
  unfold V86.b0
  refine call_mk h works85 fun v s2 w2 A2 ln2 cn2 vF2 vD2 cs2 hR h2 => ?_
  obtain ⟨x, rfl, hx0, hx1, l2, rfl⟩ := hR
  have t := tm hx0 (n := 16) (by omega)
  have hxn : ((Int.tmod x 16).toNat : Int) = Int.tmod x 16 := Int.toNat_of_nonneg t.1
  refine ⟨x, rfl, by omega, (Int.tmod x 16).toNat + 1, ?_⟩
  have := l1_86 (B := B) (g := g) (w0 := w0) (S := S) (s0 := s0) (n := (Int.tmod x 16).toNat) (by omega) ((Int.tmod x 16).toNat + 1) 0 w2 _ A2 ln2 cn2 vF2 vD2 cs2 (by omega) (by omega) h2 (hc.ns l2) hf hp hl
  rw [hxn] at this
  exact this
end
theorem works86 {B g : Nat} {s : MSt} (hph : Ph s.p s.f) (hf : s.f < s.p.length) : Works 86 [.pointer (some ⟨g, 0, none⟩)] B g s (CodeQ s) := by
  intro w A ln cn vF vD cs hm hB
  refine turns_of (V86.sound ?_)
  unfold V86.vc
  simp only [own_add, bx_add, Nat.add_zero, Nat.zero_add]
  refine ⟨⟨_, hm.c3⟩, hm.fz 3, ?_⟩
  have hc0 : Chg (fun k => some k ∈ ownO g vF vD cs) w w := Chg.refl _ _
  have hm1 : MakerAt B (w.setCell ⟨g, 3, none⟩ (.slice none 0 0)) g { s with depth := [] } A ln cn vF (.slice none 0 0) cs :=
    hm.put_dep (w1 := w) (B' := w.heap.size) (v := .slice none 0 0) (ds := []) hB ⟨rfl, rfl, rfl, Nat.le_refl _, fun k c t f _ hk => hk, fun k _ _ => rfl⟩ (World.ownsRow_nil _ _ _ _) (fun k hk => by cases hk)
  have hc1 : Chg (fun k => some k ∈ ownO g vF vD cs) w (w.setCell ⟨g, 3, none⟩ (.slice none 0 0)) := hc0.setCell _ fun _ => by simp [ownO]
  have hb1 : ∀ k, some k ∈ ownO g vF (.slice none 0 0) cs → some k ∈ ownO g vF vD cs ∨ w.heap.size ≤ k := fun k hk => ownO_dep (fun k hk => by cases hk) hk
  generalize (w.setCell ⟨g, 3, none⟩ (.slice none 0 0)) = w1 at *
  refine ⟨⟨_, hm1.c4⟩, hm1.fz 4, ?_⟩
  have hm2 := hm1.put_now 0
  have hc2 : Chg (fun k => some k ∈ ownO g vF vD cs) w (w1.setCell ⟨g, 4, none⟩ (.int .i64 0)) := hc1.setCell _ fun _ => by simp [ownO]
  generalize (w1.setCell ⟨g, 4, none⟩ (.int .i64 0)) = w2 at *
  have h2 : MK B g (fun k => some k ∈ ownO g vF vD cs) w w2 { s with depth := [], now := 0 } A ln cn vF (.slice none 0 0) cs := ⟨hm2, hc2, hb1, hB⟩
  have cur2 : Cur { s with depth := [], now := 0 } [] := hph.begin hf s.ns
  obtain ⟨gF, cap, hv, hbF, hbB⟩ := owns_some hm2.fns (by show 0 < s.p.length; omega)
  have hfn := hm2.fns
  rw [hv] at hfn
  obtain ⟨x, c, hx, hcc⟩ := hm2.at hf
  have kx := owns_cell hfn (fncs_get hx hcc).1
  obtain ⟨a1, a2, a3, a4, a5, a6⟩ := cur2.heads x (List.mem_of_getElem? hx)
  refine ⟨some ⟨gF, 0, none⟩, s.p.length, cap, by rw [show (Value.slice (some ⟨gF, 0, none⟩) s.p.length cap) = vF from hv.symm]; exact hm2.c1, (s.f : Int), hm2.c2, ⟨gF, 0, none⟩, rfl, by omega, by omega, x.params, by simpa only [own_add, bx_add, Int.toNat_natCast, Nat.zero_add, Nat.add_zero] using kx, ?_⟩
  have hpl : s.p.length ≤ 5 := cur2.few
  split
  · rename_i hpos
    have hpos : x.params > 0 := by simpa using hpos
    have hat : ∀ y, s.p[s.f]? = some y → 0 < y.params := fun y hy => by rw [show s.p[s.f]? = some x from hx] at hy; cases hy; exact hpos
    obtain ⟨c1, c2, c3, c4, n4⟩ := cur2.header rfl rfl hat (c := (s.f : Int)) (by omega)
    refine call_add h2 cur2 (by simp) fun w3 A3 ln3 cn3 vF3 vD3 cs3 h3 => ⟨rfl, ?_⟩
    refine call_add h3 c1 (by simp [MSt.add]) fun w4 A4 ln4 cn4 vF4 vD4 cs4 h4 => ⟨rfl, ?_⟩
    refine ⟨_, h4.mem.c2, ?_⟩
    refine call_add h4 c2 (by simp [MSt.add]) fun w5 A5 ln5 cn5 vF5 vD5 cs5 h5 => ⟨rfl, ?_⟩
    refine call_add h5 c3 (by simp [MSt.add]) fun w6 A6 ln6 cn6 vF6 vD6 cs6 h6 => ⟨rfl, ?_⟩
    refine ⟨⟨_, h6.mem.c4⟩, h6.mem.fz 4, ?_⟩
    have h7 : MK B g (fun k => some k ∈ ownO g vF vD cs) w (w6.setCell ⟨g, 4, none⟩ (.int .i64 0)) _ A6 ln6 cn6 vF6 vD6 cs6 := ⟨h6.mem.put_zero n4, h6.chg.setCell _ (fun hk => by simp [ownO]), h6.blk, hB⟩
    exact b0_86 h7 c4 rfl (by simp [MSt.add]) (by simp [MSt.add])
  · exact b0_86 h2 cur2 rfl rfl (by simp)
end Go.Proofs.Ytlccbaemcfjdoaa
