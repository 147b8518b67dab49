import Derived.Test.YtidcpndlloppdaaGreatDoorZFE
import Derived.Test.YtidcpndlloppdaaGreatDoorZFG
import Derived.Test.YtidcpndlloppdaaGreatDoorZEngG
import Derived.Shelf.Strings.Builder1
import Derived.Test.YtidcpndlloppdaaGreatDoorZF6
import Derived.Lib.ItoaNum
/-
  strings.Builder: what copyCheck and WriteString do to a builder of one's own.
  Conditions: none.
-/
set_option linter.unusedVariables false
set_option linter.unusedSimpArgs false
namespace Go.Proofs.YtidcpndlloppdaaGreatDoor
open Go.RowKit Go.Shelf
set_option maxHeartbeats 1000000 in
set_option maxRecDepth 100000 in
theorem copy_used (b : Nat) (w : World) (h0 : w.cell? ⟨b, 0, none⟩ = some (.pointer (some ⟨b, 0, none⟩))) :
    Calls Tryz.prog 50 #[.pointer (some ⟨b, 0, none⟩)] w fun e w' => e = .returned (.tuple #[]) ∧ w' = w := by
  have hj : Tryz.prog.info? 72 = some Tryz.t72 := by kernel_rfl
  have mixed : Tryz.prog.follows .mixedOrders = true := by kernel_rfl
  have t72 := Tryz.underlying72; have a72 := Tryz.isAgg72; have z72 := Tryz.sizeOf72; have v72 := Tryz.zeroValue72; have u72 := run_underlying Tryz.underlying72
  have t70 := Tryz.underlying70; have a70 := Tryz.isAgg70; have z70 := Tryz.sizeOf70; have v70 := Tryz.zeroValue70; have u70 := run_underlying Tryz.underlying70
  have t4 := Tryz.underlying4; have a4 := Tryz.isAgg4; have z4 := Tryz.sizeOf4; have v4 := Tryz.zeroValue4; have u4 := run_underlying Tryz.underlying4
  go_enter Tryz.func50, Tryz.ntmps50
  go_wp2
  rw [Lib.run_neq_ptr_same w _ t70 hj]
  go_wp2
  go_end0
  exact ⟨rfl, rfl⟩
set_option maxHeartbeats 1000000 in
set_option maxRecDepth 100000 in
theorem copy_fresh (b : Nat) (w : World) (h0 : w.cell? ⟨b, 0, none⟩ = some (.pointer none)) (hsh : w.shape? b = some (72, 2)) (hfz : w.frozen? ⟨b, 0, none⟩ = false) :
    Calls Tryz.prog 50 #[.pointer (some ⟨b, 0, none⟩)] w fun e w' => e = .returned (.tuple #[]) ∧ w' = w.setCell ⟨b, 0, none⟩ (.pointer (some ⟨b, 0, none⟩)) := by
  have hj : Tryz.prog.info? 72 = some Tryz.t72 := by kernel_rfl
  have hjs : Tryz.t72.size = 2 := by kernel_rfl
  have mixed : Tryz.prog.follows .mixedOrders = true := by kernel_rfl
  have lies : Go.liesAt Tryz.prog Tryz.prog.depth 72 (2 / Tryz.prog.cellsOf 72) 0 72 1 = true := by kernel_rfl
  have t72 := Tryz.underlying72; have a72 := Tryz.isAgg72; have z72 := Tryz.sizeOf72; have v72 := Tryz.zeroValue72; have u72 := run_underlying Tryz.underlying72
  have t70 := Tryz.underlying70; have a70 := Tryz.isAgg70; have z70 := Tryz.sizeOf70; have v70 := Tryz.zeroValue70; have u70 := run_underlying Tryz.underlying70
  have t4 := Tryz.underlying4; have a4 := Tryz.isAgg4; have z4 := Tryz.sizeOf4; have v4 := Tryz.zeroValue4; have u4 := run_underlying Tryz.underlying4
  have t164 := Tryz.underlying116; have a164 := Tryz.isAgg116; have z164 := Tryz.sizeOf116; have v164 := Tryz.zeroValue116; have u164 := run_underlying Tryz.underlying116
  go_enter Tryz.func50, Tryz.ntmps50
  go_wp2
  rw [Lib.run_to_unsafe w ⟨b, 0, none⟩ t70 t164 hj (by rw [hjs]; decide) hsh (Nat.zero_lt_succ 1)]
  simp only [Result.andThen]
  rw [Oper.upon_value]
  go_wp2
  rw [run_callFunc_extern Tryz.func76 (by kernel_rfl) (by kernel_rfl) (by kernel_rfl) (e := Extern.AbiNoEscape.same) (by kernel_rfl)]
  rw [Lib.run_noEscape]
  simp only [Result.andThen]
  rw [Oper.upon_value]
  go_wp2
  rw [Lib.run_from_unsafe w ⟨b, 0, none⟩ t164 t70 hj hsh lies]
  simp only [Result.andThen]
  rw [Oper.upon_value]
  go_wp2
  go_end0
  exact ⟨rfl, rfl⟩
structure BldAt (w : World) (B b : Nat) (v : Value) (bs : List UInt8) : Prop where
  base : B ≤ b
  head : ∃ p, (p = .pointer none ∨ p = .pointer (some ⟨b, 0, none⟩)) ∧ w.heap[b]? = some (.cells ⟨[p, v]⟩ 72 (0, 0))
  row : w.ownsRow B 5 1 v bs.length (byts bs)
theorem BldAt.ne {w : World} {B b : Nat} {v : Value} {bs : List UInt8} (h : BldAt w B b v bs) : v.ownBlock ≠ some b := by
  obtain ⟨p, _, hb⟩ := h.head
  exact Lib.ownBlock_ne h.row hb (by decide)
theorem BldAt.ext {B' : Nat} {w w' : World} {B b : Nat} {v : Value} {bs : List UInt8} (h : BldAt w B b v bs) (he : Ext B' w w') : BldAt w' B b v bs := by
  obtain ⟨p, hp, hb⟩ := h.head
  exact ⟨h.base, ⟨p, hp, he.row _ _ _ _ hb⟩, he.owns h.row⟩
theorem BldAt.own_ge {w : World} {B b : Nat} {v : Value} {bs : List UInt8} (h : BldAt w B b v bs) {k : Nat} (hk : k = b ∨ v.ownBlock = some k) : B ≤ k := by
  rcases hk with rfl | hk
  · exact h.base
  · exact (h.row.lt k hk).1
theorem turns50 {w : World} {b : Nat} {p v : Value} (hp : p = .pointer none ∨ p = .pointer (some ⟨b, 0, none⟩)) (hb : w.heap[b]? = some (.cells ⟨[p, v]⟩ 72 (0, 0))) :
    Turns Tryz.prog 50 [.pointer (some ⟨b, 0, none⟩)] w (fun k => k = b) fun u w' => u = .tuple ⟨[]⟩ ∧ w'.heap[b]? = some (.cells ⟨[.pointer (some ⟨b, 0, none⟩), v]⟩ 72 (0, 0)) := by
  rcases hp with rfl | rfl
  · refine Calls.mono (copy_fresh b w (at_cell (L := [.pointer none, v]) hb rfl) (by simp [World.shape?, hb]) (at_frozen hb 0)) fun e w' ⟨he, hw⟩ => ⟨_, he, ⟨rfl, ?_⟩, ?_⟩
    · rw [hw]; exact at_set (L := [.pointer none, v]) hb 0 _
    · rw [hw]; exact (Chg.refl _ w).setCell _ fun _ => rfl
  · exact Calls.mono (copy_used b w (at_cell (L := [.pointer (some ⟨b, 0, none⟩), v]) hb rfl)) fun e w' ⟨he, hw⟩ => ⟨_, he, ⟨rfl, by rw [hw]; exact hb⟩, by rw [hw]; exact Chg.refl _ _⟩
theorem turns31 {w : World} {B b : Nat} {v : Value} {bs s : List UInt8} (h : BldAt w B b v bs) (hs : bs.length + s.length ≤ 1000000000) (hB : B ≤ w.heap.size) :
    Turns Tryz.prog 31 [.pointer (some ⟨b, 0, none⟩), .string (bstr s)] w (fun k => k = b ∨ v.ownBlock = some k) fun u w' => u = .tuple ⟨[.int .i64 ((s.length : Nat) : Int), .nilIface]⟩ ∧ ∃ v', BldAt w' B b v' (bs ++ s) ∧ ∀ k, v'.ownBlock = some k → v.ownBlock = some k ∨ w.heap.size ≤ k := by
  refine turns_of (V31.sound ?_)
  unfold V31.vc
  obtain ⟨p, hp, hb⟩ := h.head
  have hne := h.ne
  refine call_turnsS (S := fun k => k = b) (Q := fun _ u w' => u = .tuple ⟨[]⟩ ∧ w'.heap[b]? = some (.cells ⟨[.pointer (some ⟨b, 0, none⟩), v]⟩ 72 (0, 0))) (Nat.le_refl _) (fun k hk => by subst hk; exact ⟨_, _, _, hb⟩)
    (fun w1 e1 => turns50 hp (e1.row _ _ _ _ hb)) fun w1 u w2 w3 hs1 hQ hsame he3 => ?_
  obtain ⟨rfl, hb2⟩ := hQ
  have hb3 : w3.heap[b]? = some (.cells ⟨[.pointer (some ⟨b, 0, none⟩), v]⟩ 72 (0, 0)) := by rw [hsame b (.inl rfl)]; exact hb2
  have hrow3 := he3.owns h.row fun g hg e => hne (by rw [hg, e])
  obtain ⟨A, c, rfl⟩ := owns_slice0 h.row
  refine ⟨rfl, A, _, c, by rw [own_add]; exact at_cell (L := [.pointer (some ⟨b, 0, none⟩), .slice A bs.length c]) hb3 rfl, ?_⟩
  have hcells : Lib.strCells (bstr s) = byts s := rfl
  have hsz : (bstr s).size = s.length := bstr_size s
  refine append_str (t := 36) (u := 9) (e := 5) (i := Tryz.t5) (b0 := B) (by kernel_rfl) (by kernel_rfl) (by kernel_rfl) (by kernel_rfl) (by kernel_rfl) (by kernel_rfl) hrow3 (by rw [hsz]; exact hs) he3.size (Nat.le_trans hB he3.size) fun v' w4 he4 ho4 hn4 => ?_
  rw [hcells, hsz] at ho4
  have hb4 : w4.heap[b]? = some (.cells ⟨[.pointer (some ⟨b, 0, none⟩), .slice A bs.length c]⟩ 72 (0, 0)) := he4.row _ _ _ _ (fun e => hne e) hb3
  obtain ⟨A', c', rfl⟩ := owns_slice0 ho4
  refine ⟨A', _, c', rfl, ⟨_, by rw [own_add, bx_add]; exact at_cell (L := [.pointer (some ⟨b, 0, none⟩), .slice A bs.length c]) hb4 rfl⟩, by rw [own_add, bx_add]; exact at_frozen hb4 1, ?_⟩
  have hch : Chg (fun k => k = b ∨ (Value.slice A bs.length c).ownBlock = some k) w w4 := he4.chg (he3.chg (Chg.refl _ w) fun k _ hk => .inl hk) fun k _ hk => .inr hk
  rw [own_add, bx_add]
  have hne4 := Lib.ownBlock_ne ho4 hb4 (by decide)
  refine ret_t (hch.setCell _ fun _ => .inl rfl) fun w5 e5 => ⟨by rw [hsz], .slice A' (bs.length + s.length) c', ?_, fun k hk => (hn4 k hk).imp id fun hk => Nat.le_trans he3.size hk⟩
  have e1 : byts (bs ++ s) = byts bs ++ byts s := by simp [byts]
  refine BldAt.ext (w := w4.setCell ⟨b, 0 + 1, none⟩ (.slice A' (bs.length + s.length) c')) ⟨h.base, ⟨_, .inr rfl, at_set (L := [.pointer (some ⟨b, 0, none⟩), .slice A bs.length c]) hb4 1 _⟩, ?_⟩ e5
  rw [e1, List.length_append]
  exact owns_other ho4 fun g hg => at_other (fun e => hne4 (by rw [hg, e]))
theorem call_write {w0 w : World} {b : Nat} {v : Value} {bs s : List UInt8} {bx : List Nat} {x : ByteArray} {K : Value → World → Prop} (hx : x = bstr s) (hB : w0.heap.size ≤ w.heap.size) (h : BldAt w w0.heap.size b v bs) (hs : bs.length + s.length ≤ 1000000000)
    (hk : ∀ v' w', ExtS w0.heap.size (fun k => k = b ∨ v.ownBlock = some k) w w' → BldAt w' w0.heap.size b v' (bs ++ s) → K (.tuple ⟨[.int .i64 ((s.length : Nat) : Int), .nilIface]⟩) w') :
    CallK Tryz.prog 31 [.pointer (some ⟨b, 0, none⟩), .string x] w0.heap.size w bx K := by
  subst hx
  refine call_turnsS (S := fun k => k = b ∨ v.ownBlock = some k) (Q := fun w1 u w' => u = .tuple ⟨[.int .i64 ((s.length : Nat) : Int), .nilIface]⟩ ∧ ∃ v', BldAt w' w0.heap.size b v' (bs ++ s) ∧ ∀ k, v'.ownBlock = some k → v.ownBlock = some k ∨ w1.heap.size ≤ k) hB (fun k hk => ?_) (fun w1 e1 => turns31 (h.ext e1) hs (Nat.le_trans hB e1.size)) fun w1 u w2 w' hs1 hQ hsame he => ?_
  · rcases hk with rfl | hk
    · obtain ⟨p, _, hb⟩ := h.head
      exact ⟨_, _, _, hb⟩
    · rcases h.row.2 with ⟨rfl, _⟩ | ⟨g, cap, cur, rfl, _, hg, _⟩
      · cases hk
      · cases hk; exact ⟨_, _, _, hg⟩
  · obtain ⟨rfl, v', hv', hn⟩ := hQ
    refine hk v' w' he ?_
    obtain ⟨p, hp, hb⟩ := hv'.head
    exact ⟨hv'.base, ⟨p, hp, by rw [hsame b (.inl (.inl rfl))]; exact hb⟩, owns_other hv'.row fun g hg => hsame g ((hn g hg).imp .inr id)⟩
theorem part_nil {K : Value → Prop} (h : K .nilIface) : partV .nilIface K := h
end Go.Proofs.YtidcpndlloppdaaGreatDoor

/-
  Layer 2: texts of numbers, and that they tell them apart.
  Conditions: none.
-/
set_option linter.unusedVariables false
set_option linter.unusedSimpArgs false
set_option exponentiation.threshold 3000
set_option maxRecDepth 20000
namespace Go.Proofs.YtidcpndlloppdaaGreatDoor
open Ieee
def hxd (d : Nat) : UInt8 := if d < 10 then UInt8.ofNat (48 + d) else UInt8.ofNat (87 + d)
def hexL : Nat → Nat → List UInt8
  | 0, _ => []
  | k + 1, u => hexL k (u / 16) ++ [hxd (u % 16)]
def hexN (u : Nat) : List UInt8 :=
  if h : u < 16 then [hxd u] else hexN (u / 16) ++ [hxd (u % 16)]
termination_by u
decreasing_by omega
theorem hexL_len : ∀ (k u : Nat), (hexL k u).length = k
  | 0, _ => rfl
  | k + 1, u => by simp [hexL, hexL_len k]
theorem hexN_len (u : Nat) : 1 ≤ (hexN u).length := by
  rw [hexN]; split <;> simp
theorem hexL_zero : ∀ k, hexL k 0 = List.replicate k 48
  | 0 => rfl
  | k + 1 => by
    simp only [hexL, Nat.zero_div, hexL_zero k, Nat.zero_mod]
    rw [List.replicate_succ']; rfl
theorem hex_pad : ∀ {k u : Nat}, u < 16 ^ (k + 1) → (hexN u).length ≤ k + 1 ∧ List.replicate (k + 1 - (hexN u).length) 48 ++ hexN u = hexL (k + 1) u
  | k, u, hu => by
    by_cases h : u < 16
    · rw [hexN, dif_pos h]
      simp only [List.length_singleton, hexL, Nat.div_eq_of_lt h, Nat.mod_eq_of_lt h, hexL_zero]
      exact ⟨by omega, by simp⟩
    · rw [hexN, dif_neg h]
      cases k with
      | zero => simp at hu; omega
      | succ k =>
        have hu2 : u / 16 < 16 ^ (k + 1) := by rw [Nat.pow_succ 16 (k + 1)] at hu; omega
        obtain ⟨h1, h2⟩ := hex_pad (k := k) hu2
        have h3 := hexN_len (u / 16)
        simp only [List.length_append, List.length_singleton]
        refine ⟨by omega, ?_⟩
        have e : hexL (k + 1 + 1) u = hexL (k + 1) (u / 16) ++ [hxd (u % 16)] := rfl
        rw [e, ← h2, show k + 1 + 1 - ((hexN (u / 16)).length + 1) = k + 1 - (hexN (u / 16)).length by omega, List.append_assoc]
def whB (w : Nat) : Bool := decide (rg w < 1076 * BN) && (decide (1074 ≤ up (rg w)) || decide (kp (rg w) % 2 ^ (1074 - up (rg w)) = 0))
theorem whB_iff (w : Nat) : whB w = true ↔ rg w < 1076 * BN ∧ wh w := by
  unfold whB wh; simp
def intF (w : Nat) : Int := ((double.read w).toInt .zero).getD 0
def textF (w : Nat) : List UInt8 :=
  if nanw w = true then [110, 97, 110] else if w = IR then [105, 110, 102] else if w = SW + IR then [45, 105, 110, 102] else if w = SW then [45, 48]
  else if whB w = true then Lib.itoa (intF w) else 48 :: 120 :: hexL 16 w
theorem whole_int {w : Nat} (hw : w < 2 * SW) (h : whB w = true) (hz : w ≠ SW) : ∃ z : Int, z.natAbs < 2 * BN ∧ w = Iw z ∧ (double.read w).toInt .zero = some z ∧ intF w = z := by
  obtain ⟨h1, h2⟩ := (whB_iff w).1 h
  obtain ⟨n, hn, e1, e2⟩ := whole_spec hw h1 h2
  refine ⟨sgn (ngw w) n, by unfold sgn; split <;> omega, ?_, e2, by unfold intF; rw [e2]; rfl⟩
  unfold Iw
  cases hs : ngw w
  · rw [hs] at e1
    have : ¬ (sgn false n < 0) := by simp [sgn]
    simp only [this, decide_false]
    rw [show (sgn false n).natAbs = n by simp [sgn]]
    exact e1
  · rw [hs] at e1
    by_cases h0 : n = 0
    · subst h0
      exact absurd e1 (fun e => hz (e.trans (by decide)))
    · have : (sgn true n < 0) := by simp [sgn]; omega
      simp only [this, decide_true]
      rw [show (sgn true n).natAbs = n by simp [sgn]]
      exact e1
end Go.Proofs.YtidcpndlloppdaaGreatDoor

/-
  Layer 29, plain: texts of traces, one trace ahead of another, traces by numbers.
  Conditions: none.
-/
set_option linter.unusedVariables false
set_option linter.unusedSimpArgs false
set_option maxRecDepth 20000
namespace Go.Proofs.YtidcpndlloppdaaGreatDoor
open Ieee
theorem dec_len : ∀ (k u : Nat), u < 10 ^ (k + 1) → (Lib.decDigits u).length ≤ k + 1
  | k, u, h => by
    by_cases h1 : u < 10
    · rw [Lib.decDigits, dif_pos h1]; simp
    · rw [Lib.decDigits, dif_neg h1]
      cases k with
      | zero => simp at h; omega
      | succ k =>
        have := dec_len k (u / 10) (by rw [Nat.pow_succ 10 (k + 1)] at h; omega)
        simp; omega
theorem itoa_len {n : Int} (h : n.natAbs < 10 ^ 20) : (Lib.itoa n).length ≤ 21 := by
  unfold Lib.itoa
  split
  · have := dec_len 19 n.natAbs h; simp; omega
  · have := dec_len 19 n.toNat (by omega); omega
theorem text_len {a : Nat} (ha : a < 2 * SW) : (textF a).length ≤ 24 := by
  unfold textF
  split
  · decide
  split
  · decide
  split
  · decide
  split
  · decide
  rename_i hz
  split
  · rename_i hw
    obtain ⟨z, h1, _, _, h2⟩ := whole_int ha hw hz
    rw [h2]
    have h3 : 2 * BN < 10 ^ 20 := by decide
    have := itoa_len (n := z) (by omega)
    omega
  · simp [hexL_len]
structure Mk where
  k : Int
  w : Nat
def wordM (k : Int) : List UInt8 :=
  if k = 1 then [111, 117, 116] else if k = 2 then [103, 111, 116] else if k = 3 then [100, 111, 110, 101] else if k = 4 then [102, 101, 108, 108] else if k = 5 then [111, 111, 109] else if k = 6 then [108, 105, 109, 105, 116] else [63]
def moreM (k : Int) : Bool := decide (1 ≤ k ∧ k ≤ 4)
def tailM (m : Mk) : List UInt8 := if moreM m.k = true then 32 :: textF m.w else []
def lineM (m : Mk) : List UInt8 := wordM m.k ++ tailM m ++ [10]
def traceM (l : List Mk) : List UInt8 := l.flatMap lineM
theorem traceM_app (a b : List Mk) : traceM (a ++ b) = traceM a ++ traceM b := by simp [traceM, List.flatMap_append]
theorem traceM_snoc (a : List Mk) (m : Mk) : traceM (a ++ [m]) = traceM a ++ lineM m := by rw [traceM_app]; simp [traceM]
theorem wordM_facts (k : Int) : (wordM k).length ≤ 5 ∧ ∀ c ∈ wordM k, c.toNat ≠ 10 := by
  unfold wordM
  repeat' split
  all_goals decide
theorem lineM_len {m : Mk} (h : m.w < 2 * SW) : (lineM m).length ≤ 31 := by
  have h1 := (wordM_facts m.k).1
  have h2 := text_len h
  unfold lineM tailM
  split <;> simp <;> omega
def OkMs (l : List Mk) : Prop := ∀ m ∈ l, m.w < 2 * SW
theorem traceM_len : ∀ {l : List Mk}, OkMs l → (traceM l).length ≤ 31 * l.length
  | [], _ => by simp [traceM]
  | m :: l, h => by
    have h1 := lineM_len (h m List.mem_cons_self)
    have h2 := traceM_len (l := l) fun x hx => h x (List.mem_cons_of_mem _ hx)
    have e : traceM (m :: l) = lineM m ++ traceM l := by simp [traceM]
    rw [e]; simp; omega
def eqM (a b : Mk) : Bool := a.k == b.k && a.w == b.w
theorem eqM_iff (a b : Mk) : eqM a b = true ↔ a = b := by
  cases a; cases b
  simp [eqM]
def eqMs : List Mk → List Mk → Bool
  | [], [] => true
  | a :: l, b :: m => eqM a b && eqMs l m
  | _, _ => false
theorem eqMs_iff : ∀ (l m : List Mk), eqMs l m = true ↔ l = m
  | [], [] => by simp [eqMs]
  | [], _ :: _ => by simp [eqMs]
  | _ :: _, [] => by simp [eqMs]
  | a :: l, b :: m => by simp [eqMs, eqM_iff, eqMs_iff l m]
def begM (a b : List Mk) : Bool := decide (a.length ≤ b.length) && eqMs a (b.take a.length)
theorem begM_true {a b : List Mk} (h : a = b.take a.length) : begM a b = true := by
  have hl : a.length ≤ b.length := by have := congrArg List.length h; simp at this; omega
  unfold begM
  rw [decide_eq_true hl, (eqMs_iff _ _).2 h]; rfl
theorem beg_nil (c : List Mk) : begM [] c = true := begM_true (by simp)
end Go.Proofs.YtidcpndlloppdaaGreatDoor
