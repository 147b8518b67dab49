import Derived.Test.YtidcpndlloppdaaZM21f
/-
  Layer 21: what recovers, what leaves; words of two.
  Conditions: the machine lies in memory as told.
-/
set_option linter.unusedVariables false
set_option linter.unusedSimpArgs false
set_option maxRecDepth 20000
namespace Go.Proofs.Ytidcpndlloppdaa
open Go.RowKit
section
variable {w : World}
theorem gives94 (b : Bool) : Gives Try.prog 94 [.bool b] w (.int .u64 (bW b : Nat)) := by
  refine gives_of (V94.sound ?_)
  unfold V94.vc bW
  split
  · exact call_gives (Below.refl _ _) (fun _ _ _ => gives10 1) fun w1 _ h1 => ⟨_, rfl, ret_is h1 rfl⟩
  · exact call_gives (Below.refl _ _) (fun _ _ _ => gives10 0) fun w1 _ h1 => ⟨_, rfl, ret_is h1 rfl⟩
theorem gives71 {op : Int} {a b : Nat} (ha : a < 2 * SW) (hb : b < 2 * SW) : Gives Try.prog 71 [.int .i64 op, .int .u64 (a : Int), .int .u64 (b : Int)] w (.int .u64 (twoN op a b : Nat)) := by
  refine gives_of (V71.sound ?_)
  unfold V71.vc twoN
  by_cases h5 : op = 5
  · rw [if_pos (by simpa using h5), if_pos h5]; exact call_gives (Below.refl _ _) (fun _ _ _ => gives89 a b) fun w1 _ h1 => ⟨_, rfl, ret_is h1 rfl⟩
  rw [if_neg (by simpa using h5), if_neg h5]
  by_cases h6 : op = 6
  · rw [if_pos (by simpa using h6), if_pos h6]; exact call_gives (Below.refl _ _) (fun _ _ _ => gives90 a b) fun w1 _ h1 => ⟨_, rfl, ret_is h1 rfl⟩
  rw [if_neg (by simpa using h6), if_neg h6]
  by_cases h7 : op = 7
  · rw [if_pos (by simpa using h7), if_pos h7]; exact call_gives (Below.refl _ _) (fun _ _ _ => gives91 a b) fun w1 _ h1 => ⟨_, rfl, ret_is h1 rfl⟩
  rw [if_neg (by simpa using h7), if_neg h7]
  by_cases h8 : op = 8
  · rw [if_pos (by simpa using h8), if_pos h8]; exact call_gives (Below.refl _ _) (fun _ _ _ => gives17 a b) fun w1 _ h1 => ⟨_, rfl, ret_is h1 rfl⟩
  rw [if_neg (by simpa using h8), if_neg h8]
  by_cases h11 : op = 11
  · rw [if_pos (by simpa using h11), if_pos h11]; exact call_gives (Below.refl _ _) (fun _ _ _ => gives92 ha hb) fun w1 _ h1 => ⟨_, rfl, ret_is h1 rfl⟩
  rw [if_neg (by simpa using h11), if_neg h11]
  by_cases h12 : op = 12
  · rw [if_pos (by simpa using h12), if_pos h12]; exact call_gives (Below.refl _ _) (fun _ _ _ => gives93 ha hb) fun w1 _ h1 => ⟨_, rfl, ret_is h1 rfl⟩
  rw [if_neg (by simpa using h12), if_neg h12]
  by_cases h13 : op = 13
  · rw [if_pos (by simpa using h13), if_pos h13]
    exact call_gives (Below.refl _ _) (fun _ _ _ => gives95 a b) fun w1 _ h1 => ⟨_, rfl, call_gives h1 (fun _ _ _ => gives94 _) fun w2 _ h2 => ⟨_, rfl, ret_is h2 rfl⟩⟩
  · rw [if_neg (by simpa using h13), if_neg h13]
    exact call_gives (Below.refl _ _) (fun _ _ _ => gives96 a b) fun w1 _ h1 => ⟨_, rfl, call_gives h1 (fun _ _ _ => gives94 _) fun w2 _ h2 => ⟨_, rfl, ret_is h2 rfl⟩⟩
theorem gives85 : Gives Try.prog 85 [] w (.float .f64 9221120237041090561) := by
  refine gives_of (V85.sound ?_)
  unfold V85.vc
  exact run_lone (Nat.le_refl _) (lone_from 9221120237041090561) fun v w' he hv => ⟨_, hv, ret_is he.below rfl⟩
theorem gives86 (a : Int) : Gives Try.prog 86 [.int .i64 a] w (.float .f64 (if a ≥ 0 then 9218868437227405312 else 18442240474082181120)) := by
  refine gives_of (V86.sound ?_)
  unfold V86.vc
  by_cases h : a ≥ 0
  · rw [if_pos (by simpa using h), if_pos h]
    exact run_lone (Nat.le_refl _) (lone_from 9218868437227405312) fun v w' he hv => ⟨_, hv, ret_is he.below rfl⟩
  · rw [if_neg (by simpa using h), if_neg h]
    exact run_lone (Nat.le_refl _) (lone_from 18442240474082181120) fun v w' he hv => ⟨_, hv, ret_is he.below rfl⟩
theorem copysign_bits : IntKind.wrap .u64 (((BitVec.ofInt 64 (IntKind.wrap .u64 (((BitVec.ofInt 64 ((0 : Nat) : Int) &&& ~~~ BitVec.ofInt 64 9223372036854775808).toNat : Nat) : Int)) ||| BitVec.ofInt 64 (IntKind.wrap .u64 (((BitVec.ofInt 64 ((13830554455654793216 : Nat) : Int) &&& BitVec.ofInt 64 9223372036854775808).toNat : Nat) : Int))).toNat : Nat) : Int) = ((9223372036854775808 : Nat) : Int) := by decide
theorem gives87 : Gives Try.prog 87 [.float .f64 0, .float .f64 13830554455654793216] w (.float .f64 9223372036854775808) := by
  refine gives_of (V87.sound ?_)
  unfold V87.vc
  refine run_lone (Nat.le_refl _) (lone_bits 0) fun v w1 h1 hv => ⟨_, hv, ?_⟩
  refine run_lone h1.size (lone_bits 13830554455654793216) fun v w2 h2 hv => ⟨_, hv, ?_⟩
  rw [copysign_bits]
  exact run_lone (Nat.le_trans h1.size h2.size) (lone_from _) fun v w3 h3 hv => ⟨_, hv, ret_is (h3.after (h2.after h1.below)) rfl⟩
theorem odd_word : ∀ n : Fin 6, cn (([9221120237041090561, 9218868437227405312, 18442240474082181120, 9223372036854775808, 9218868437227405311, 1] : List Nat).getD n.val 0) = oddN (n.val : Int) := by decide
theorem gives65 {n : Int} (h : 0 ≤ n ∧ n < 6) : Gives Try.prog 65 [.int .i64 n] w (.int .u64 (oddN n : Nat)) := by
  refine gives_of (V65.sound ?_)
  unfold V65.vc
  refine call_gives (Below.refl _ _) (fun _ _ _ => gives85) fun w1 _ h1 => ⟨_, rfl, ?_⟩
  refine call_gives h1 (fun _ _ _ => gives86 1) fun w2 _ h2 => ⟨_, rfl, ?_⟩
  refine call_gives h2 (fun _ _ _ => gives86 (-1)) fun w3 _ h3 => ⟨_, rfl, ?_⟩
  refine call_gives h3 (fun _ _ _ => gives87) fun w4 _ h4 => ⟨_, rfl, h.1, h.2, ?_⟩
  refine call_gives h4 (fun _ _ _ => gives32 _) fun w5 _ h5 => ⟨_, rfl, ret_is h5 ?_⟩
  have := odd_word ⟨n.toNat, by omega⟩
  simp only at this
  rw [show ((n.toNat : Nat) : Int) = n by omega] at this
  rw [← this]
  rfl
end
end Go.Proofs.Ytidcpndlloppdaa

/-
  Layer 21: recover, leave.
  Conditions: the machine lies in memory as told.
-/
set_option linter.unusedVariables false
set_option linter.unusedSimpArgs false
set_option maxRecDepth 20000
namespace Go.Proofs.Ytidcpndlloppdaa
open Go.RowKit
def recW (x : Frm) (r : List Frm) : List Int := match r with
  | u :: _ => if x.dfd = true ∧ u.mode = 2 then [u.value, (nw 1 : Nat)] else [(nw 0 : Nat), (nw 0 : Nat)]
  | [] => [(nw 0 : Nat), (nw 0 : Nat)]
def recMach (m : Mach) (x : Frm) (r : List Frm) : Mach := match r with
  | u :: r' => if x.dfd = true ∧ u.mode = 2 then { m with frames := x :: { u with mode := 1, value := (nw 0 : Nat) } :: r', trace := m.trace ++ [⟨2, u.value.toNat⟩] } else m
  | [] => m
def recR (x : Frm) (r : List Frm) : List Frm := match r with
  | u :: r' => if x.dfd = true ∧ u.mode = 2 then { u with mode := 1, value := (nw 0 : Nat) } :: r' else u :: r'
  | [] => []
section
variable {w : World} {B g : Nat} {C : Option Addr} {c : Nat} {p : List Fnc} {m : Mach} {T : Value} {x : Frm} {r : List Frm} {s : Sl} {t : List Sl} {G cap : Nat}
def RecQ (w : World) (B g : Nat) (C : Option Addr) (c : Nat) (p : List Fnc) (F T : Value) (ss : List Sl) (m' : Mach) (ws : List Int) (u : Value) (w' : World) : Prop :=
  (∃ A, u = .slice A 2 2 ∧ w'.ownsRow w.heap.size 28 1 (.slice A 2 2) 2 (u64s ws)) ∧ MachTQ w B g C c p F T ss m' w'
theorem two_row {w0 w : World} {g : Nat} {F0 T0 : Value} {ss0 : List Sl} {F' T' : Value} {m' : Mach} {ss : List Sl} {a b : Nat} {u : Value} {P : World → Prop} (hchg : Chg (Foot g F0 T0 ss0) w0 w)
    (hQ : ∀ w2, Ext w0.heap.size w w2 → P w2) : Expo w0.heap.size w [] fun A =>
      let C' := A.alloc (.cells ⟨[.int .u64 (a : Int), .int .u64 (b : Int)]⟩ 28)
      Ret w0.heap.size C' (IsT w0 (Foot g F0 T0 ss0) (fun u w' => (∃ A, u = .slice A 2 2 ∧ w'.ownsRow w0.heap.size 28 1 (.slice A 2 2) 2 (u64s [(a : Int), (b : Int)])) ∧ P w') (.slice (some ⟨A.heap.size, 0, none⟩) 2 2)) := by
  intro w1 e1 _
  obtain ⟨e2, ho2⟩ := alloc1 (.cells ⟨[.int .u64 (a : Int), .int .u64 (b : Int)]⟩ 28) e1 hchg.size
  have hs : w0.heap.size ≤ w1.heap.size := Nat.le_trans hchg.size e1.size
  simp only
  generalize w1.alloc (.cells ⟨[.int .u64 (a : Int), .int .u64 (b : Int)]⟩ 28) = w2 at *
  have ho : OwnI w2 w1.heap.size .u64 28 [(a : Int), (b : Int)] := ho2
  exact ret_t (ext_chg hchg e2) fun w3 e3 => ⟨⟨_, rfl, own_row (ho.ext e3) hs (by simp)⟩, hQ w3 (e2.trans e3)⟩
theorem turns69 (h : MachAt w B g C c p m (.slice (some ⟨G, 0, none⟩) (r.length + 1) cap) T (s :: t)) (hm : m.frames = x :: r) (hch : Chn p (x :: r)) (hval : ∀ u ∈ r, 0 ≤ u.value) (hlen : r.length ≤ 1000000000) (htr : m.trace.length ≤ 1000000000) :
    Turns Try.prog 69 [.pointer (some ⟨g, 0, none⟩)] w (FootT g G cap r T (s :: t)) (RecQ w B g C c p (.slice (some ⟨G, 0, none⟩) (r.length + 1) cap) T (s :: t) (recMach m x r) (recW x r)) := by
  refine turns_of (V69.sound ?_)
  unfold V69.vc
  have hF := h.cell (i := 6) rfl
  have hp := h.pcs
  rw [hm] at hp
  have hl : t.length = r.length := by have := hp.len; simpa using this
  have cell : ∀ {j v}, (frmC x s)[j]? = some v → w.cell? ⟨G, r.length * 8 + j, none⟩ = some v := fun hv => owns_cell hp.frames (stackC_top hl hv)
  simp only [own_add]
  refine ⟨_, _, _, hF, _, _, _, hF, _, rfl, ?_⟩
  rw [top_ix hlen]
  simp only [Int.toNat_natCast, own_add, bx_add, Nat.add_zero, Nat.zero_add]
  refine ⟨by omega, by omega, x.dfd, cell (j := 3) rfl, ?_⟩
  -- nothing is recovered
  have zero : recW x r = [((nw 0 : Nat) : Int), ((nw 0 : Nat) : Int)] → recMach m x r = m → CallK Try.prog 10 [.int .i64 0] w.heap.size w [] fun v s_1 => ∃ t_1 : Int, v = .int .u64 t_1 ∧
      CallK Try.prog 10 [.int .i64 0] w.heap.size s_1 [] fun x_1 y => ∃ z : Int, x_1 = .int .u64 z ∧
      Expo w.heap.size y [] fun A =>
      let C_1 := A.alloc (.cells ⟨[.int .u64 t_1, .int .u64 z]⟩ 28);
      Ret w.heap.size C_1 (IsT w (FootT g G cap r T (s :: t)) (RecQ w B g C c p (.slice (some ⟨G, 0, none⟩) (r.length + 1) cap) T (s :: t) (recMach m x r) (recW x r)) (.slice (some ⟨A.heap.size, 0, none⟩) 2 2)) := fun e1 e2 => by
    rw [e1, e2]
    refine call_gives (Below.refl _ _) (fun _ _ _ => gives10 0) fun w1 e1 h1 => ⟨_, rfl, ?_⟩
    refine call_gives h1 (fun _ _ _ => gives10 0) fun w2 e2 h2 => ⟨_, rfl, ?_⟩
    refine two_row (m' := m) (ss := []) (u := .bool true) (F' := T) (T' := T) (((e1.trans e2).toS (S := fun _ => False)).chg (Chg.refl _ _) fun _ _ h => h.elim) fun w3 e3 => ⟨T, (((h.ext e1).ext e2).ext e3), fun k hk => .inl hk⟩
  cases hd : x.dfd with
  | false =>
    rw [if_neg (by simp)]
    refine zero ?_ ?_
    · cases r with
      | nil => rfl
      | cons u r' => simp only [recW]; rw [if_neg (by rw [hd]; simp)]
    · cases r with
      | nil => rfl
      | cons u r' => simp only [recMach]; rw [if_neg (by rw [hd]; simp)]
  | true =>
    rw [if_pos (show (!true) = false from rfl)]
    cases r with
    | nil => have : x.dfd = false := hch; rw [hd] at this; cases this
    | cons u r' =>
      cases t with
      | nil => simp at hl
      | cons su t' =>
        have hl' : t'.length = r'.length := by simpa using hl
        have ucell : ∀ {j v}, j < 8 → (frmC u su)[j]? = some v → w.cell? ⟨G, r'.length * 8 + j, none⟩ = some v := fun hj hv => owns_cell hp.frames (stackC_und hl' hj hv)
        have hix : IntKind.wrap .i64 ((((u :: r').length + 1 : Nat) : Int) - 2) = (r'.length : Int) := by
          simp only [List.length_cons] at hlen ⊢
          rw [wrap_id (by omega) (by omega)]; omega
        refine ⟨_, _, _, hF, _, rfl, ?_⟩
        rw [hix]
        simp only [Int.toNat_natCast, own_add, bx_add, Nat.add_zero, Nat.zero_add]
        refine ⟨by omega, by simp only [List.length_cons]; omega, u.mode, ucell (j := 2) (by omega) rfl, ?_⟩
        by_cases h2 : u.mode = 2
        · rw [if_neg (by simpa using h2)]
          have ew : recW x (u :: r') = [u.value, (nw 1 : Nat)] := by simp only [recW]; rw [if_pos ⟨hd, h2⟩]
          have em : recMach m x (u :: r') = { m with frames := x :: { u with mode := 1, value := (nw 0 : Nat) } :: r', trace := m.trace ++ [⟨2, u.value.toNat⟩] } := by simp only [recMach]; rw [if_pos ⟨hd, h2⟩]
          refine ⟨_, _, _, hF, _, rfl, ?_⟩
          have hv0 := hval u List.mem_cons_self
          have hv : ((u.value.toNat : Nat) : Int) = u.value := by omega
          simp only [Int.toNat_natCast, own_add, bx_add, Nat.add_zero, Nat.zero_add]
          refine ⟨by omega, by simp only [List.length_cons]; omega, u.value, ucell (j := 4) (by omega) rfl, ?_⟩
          rw [← hv]
          refine call_machT (m' := markM m 2 u.value.toNat) (Nat.le_refl _) h (fun w1 e1 h1 => turns70 h1 2 u.value.toNat htr) fun w1 T1 h1 e1 hf1 => ⟨rfl, ?_⟩
          refine call_givesX (Nat.le_trans (Nat.le_refl _) e1.size) (fun _ _ => gives10 0) fun w2 e2 => ⟨_, rfl, ?_⟩
          have h2' := h1.ext e2
          have hm2 : (markM m 2 u.value.toNat).frames = x :: u :: r' := hm
          have hp2 := h2'.pcs
          rw [hm2] at hp2
          have ucell2 : ∀ {j v}, j < 8 → (frmC u su)[j]? = some v → w2.cell? ⟨G, r'.length * 8 + j, none⟩ = some v := fun hj hv => owns_cell hp2.frames (stackC_und hl' hj hv)
          have hu2 := hp2.each.2.1
          have h3 := h2'.setUnd (u' := { u with mode := 1 }) hm2 ⟨hu2.D, hu2.args, hu2.L, hu2.O⟩ (j := 2) (v := .int .i64 1) (by omega) rfl
          refine ⟨⟨_, ucell2 (j := 2) (by omega) rfl⟩, owns_frozen hp2.frames _, ?_⟩
          have hp3 := h3.pcs
          have hu3 : FrmM _ B { u with mode := 1 } su := hp3.each.2.1
          have h4 := h3.setUnd (u' := { u with mode := 1, value := (nw 0 : Nat) }) rfl ⟨hu3.D, hu3.args, hu3.L, hu3.O⟩ (j := 4) (v := .int .u64 (nw 0 : Nat)) (by omega) rfl
          refine ⟨⟨_, owns_cell hp3.frames (stackC_und (x := x) (u := { u with mode := 1 }) (s := s) (su := su) hl' (j := 4) (by omega) rfl)⟩, owns_frozen hp3.frames _, ?_⟩
          have hsz : w.heap.size ≤ ((w2.setCell ⟨G, r'.length * 8 + 2, none⟩ (.int .i64 1)).setCell ⟨G, r'.length * 8 + 4, none⟩ (.int .u64 (nw 0 : Nat))).heap.size := by
            simp only [World.size_setCell]; exact Nat.le_trans e1.size e2.size
          refine call_givesX hsz (fun _ _ => gives10 1) fun w5 e5 => ⟨_, rfl, ?_⟩
          have h5 := h4.ext e5
          rw [ew, em]
          have inG : FootT g G cap (u :: r') T (s :: su :: t') G := .inr (.inl rfl)
          have hchg : Chg (FootT g G cap (u :: r') T (s :: su :: t')) w w5 := ext_chg ((((e2.toS (S := fun _ => False)).chg (e1.chg (Chg.refl _ _) fun _ _ h => h) (fun _ _ h => h.elim)).setCell _ fun _ => inG).setCell _ fun _ => inG) e5
          rw [← hv]
          exact two_row (m' := m) (ss := []) (u := .bool true) (F' := T) (T' := T) hchg fun w6 e6 => ⟨T1, h5.ext e6, hf1⟩
        · rw [if_pos (by simpa using h2)]
          refine zero ?_ ?_
          · simp only [recW]; rw [if_neg (by rintro ⟨_, e⟩; exact h2 e)]
          · simp only [recMach]; rw [if_neg (by rintro ⟨_, e⟩; exact h2 e)]
end
end Go.Proofs.Ytidcpndlloppdaa
