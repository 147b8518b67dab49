/-
  strings.Builder: what copyCheck and WriteString do to a builder of one's own.
  Conditions: none.
-/
import Derived.Test.YtofblkmibghmbaaDoorZB29
import Derived.Test.YtofblkmibghmbaaDoorZVG
import Derived.Test.YtofblkmibghmbaaDoorZEngG
import Derived.Shelf.Strings.Builder1
set_option linter.unusedVariables false
set_option linter.unusedSimpArgs false
namespace Go.Proofs.YtofblkmibghmbaaDoor
open Go.RowKit Go.Shelf
set_option maxHeartbeats 1000000 in
set_option maxRecDepth 100000 in
theorem copy_used (b : Nat) (w : World) (h0 : w.cell? ⟨b, 0, none⟩ = some (.pointer (some ⟨b, 0, none⟩))) :
    Calls Tryd.prog 134 #[.pointer (some ⟨b, 0, none⟩)] w fun e w' => e = .returned (.tuple #[]) ∧ w' = w := by
  have hj : Tryd.prog.info? 107 = some Tryd.t107 := by kernel_rfl
  have mixed : Tryd.prog.follows .mixedOrders = true := by kernel_rfl
  have t72 := Tryd.underlying107; have a72 := Tryd.isAgg107; have z72 := Tryd.sizeOf107; have v72 := Tryd.zeroValue107; have u72 := run_underlying Tryd.underlying107
  have t70 := Tryd.underlying105; have a70 := Tryd.isAgg105; have z70 := Tryd.sizeOf105; have v70 := Tryd.zeroValue105; have u70 := run_underlying Tryd.underlying105
  have t4 := Tryd.underlying4; have a4 := Tryd.isAgg4; have z4 := Tryd.sizeOf4; have v4 := Tryd.zeroValue4; have u4 := run_underlying Tryd.underlying4
  go_enter Tryd.func134, Tryd.ntmps134
  go_wp2
  rw [Lib.run_neq_ptr_same w _ t70 hj]
  go_wp2
  go_end0
  exact ⟨rfl, rfl⟩
set_option maxHeartbeats 1000000 in
set_option maxRecDepth 100000 in
theorem copy_fresh (b : Nat) (w : World) (h0 : w.cell? ⟨b, 0, none⟩ = some (.pointer none)) (hsh : w.shape? b = some (107, 2)) (hfz : w.frozen? ⟨b, 0, none⟩ = false) :
    Calls Tryd.prog 134 #[.pointer (some ⟨b, 0, none⟩)] w fun e w' => e = .returned (.tuple #[]) ∧ w' = w.setCell ⟨b, 0, none⟩ (.pointer (some ⟨b, 0, none⟩)) := by
  have hj : Tryd.prog.info? 107 = some Tryd.t107 := by kernel_rfl
  have hjs : Tryd.t107.size = 2 := by kernel_rfl
  have mixed : Tryd.prog.follows .mixedOrders = true := by kernel_rfl
  have lies : Go.liesAt Tryd.prog Tryd.prog.depth 107 (2 / Tryd.prog.cellsOf 107) 0 107 1 = true := by kernel_rfl
  have t72 := Tryd.underlying107; have a72 := Tryd.isAgg107; have z72 := Tryd.sizeOf107; have v72 := Tryd.zeroValue107; have u72 := run_underlying Tryd.underlying107
  have t70 := Tryd.underlying105; have a70 := Tryd.isAgg105; have z70 := Tryd.sizeOf105; have v70 := Tryd.zeroValue105; have u70 := run_underlying Tryd.underlying105
  have t4 := Tryd.underlying4; have a4 := Tryd.isAgg4; have z4 := Tryd.sizeOf4; have v4 := Tryd.zeroValue4; have u4 := run_underlying Tryd.underlying4
  have t164 := Tryd.underlying157; have a164 := Tryd.isAgg157; have z164 := Tryd.sizeOf157; have v164 := Tryd.zeroValue157; have u164 := run_underlying Tryd.underlying157
  go_enter Tryd.func134, Tryd.ntmps134
  go_wp2
  rw [Lib.run_to_unsafe w ⟨b, 0, none⟩ t70 t164 hj (by rw [hjs]; decide) hsh (Nat.zero_lt_succ 1)]
  simp only [Result.andThen]
  rw [Oper.upon_value]
  go_wp2
  rw [run_callFunc_extern Tryd.func163 (by kernel_rfl) (by kernel_rfl) (by kernel_rfl) (e := Extern.AbiNoEscape.same) (by kernel_rfl)]
  rw [Lib.run_noEscape]
  simp only [Result.andThen]
  rw [Oper.upon_value]
  go_wp2
  rw [Lib.run_from_unsafe w ⟨b, 0, none⟩ t164 t70 hj hsh lies]
  simp only [Result.andThen]
  rw [Oper.upon_value]
  go_wp2
  go_end0
  exact ⟨rfl, rfl⟩
structure BldAt (w : World) (B b : Nat) (v : Value) (bs : List UInt8) : Prop where
  base : B ≤ b
  head : ∃ p, (p = .pointer none ∨ p = .pointer (some ⟨b, 0, none⟩)) ∧ w.heap[b]? = some (.cells ⟨[p, v]⟩ 107 (0, 0))
  row : w.ownsRow B 5 1 v bs.length (byts bs)
theorem BldAt.ne {w : World} {B b : Nat} {v : Value} {bs : List UInt8} (h : BldAt w B b v bs) : v.ownBlock ≠ some b := by
  obtain ⟨p, _, hb⟩ := h.head
  exact Lib.ownBlock_ne h.row hb (by decide)
theorem BldAt.ext {B' : Nat} {w w' : World} {B b : Nat} {v : Value} {bs : List UInt8} (h : BldAt w B b v bs) (he : Ext B' w w') : BldAt w' B b v bs := by
  obtain ⟨p, hp, hb⟩ := h.head
  exact ⟨h.base, ⟨p, hp, he.row _ _ _ _ hb⟩, he.owns h.row⟩
theorem BldAt.own_ge {w : World} {B b : Nat} {v : Value} {bs : List UInt8} (h : BldAt w B b v bs) {k : Nat} (hk : k = b ∨ v.ownBlock = some k) : B ≤ k := by
  rcases hk with rfl | hk
  · exact h.base
  · exact (h.row.lt k hk).1
theorem BldAt.lt {w : World} {B b : Nat} {v : Value} {bs : List UInt8} (h : BldAt w B b v bs) : b < w.heap.size := by
  obtain ⟨p, _, hb⟩ := h.head
  exact lt_of_some hb
theorem turns134 {w : World} {b : Nat} {p v : Value} (hp : p = .pointer none ∨ p = .pointer (some ⟨b, 0, none⟩)) (hb : w.heap[b]? = some (.cells ⟨[p, v]⟩ 107 (0, 0))) :
    Turns Tryd.prog 134 [.pointer (some ⟨b, 0, none⟩)] w (fun k => k = b) fun u w' => u = .tuple ⟨[]⟩ ∧ w'.heap[b]? = some (.cells ⟨[.pointer (some ⟨b, 0, none⟩), v]⟩ 107 (0, 0)) := by
  rcases hp with rfl | rfl
  · refine Calls.mono (copy_fresh b w (at_cell (L := [.pointer none, v]) hb rfl) (by simp [World.shape?, hb]) (at_frozen hb 0)) fun e w' ⟨he, hw⟩ => ⟨_, he, ⟨rfl, ?_⟩, ?_⟩
    · rw [hw]; exact at_set (L := [.pointer none, v]) hb 0 _
    · rw [hw]; exact (Chg.refl _ w).setCell _ fun _ => rfl
  · exact Calls.mono (copy_used b w (at_cell (L := [.pointer (some ⟨b, 0, none⟩), v]) hb rfl)) fun e w' ⟨he, hw⟩ => ⟨_, he, ⟨rfl, by rw [hw]; exact hb⟩, by rw [hw]; exact Chg.refl _ _⟩
theorem turns104 {w : World} {B b : Nat} {v : Value} {bs s : List UInt8} (h : BldAt w B b v bs) (hs : bs.length + s.length ≤ 1000000000) (hB : B ≤ w.heap.size) :
    Turns Tryd.prog 104 [.pointer (some ⟨b, 0, none⟩), .string (bstr s)] w (fun k => k = b ∨ v.ownBlock = some k) fun u w' => u = .tuple ⟨[.int .i64 ((s.length : Nat) : Int), .nilIface]⟩ ∧ ∃ v', BldAt w' B b v' (bs ++ s) ∧ ∀ k, v'.ownBlock = some k → v.ownBlock = some k ∨ w.heap.size ≤ k := by
  refine turns_of (V104.sound ?_)
  unfold V104.vc
  obtain ⟨p, hp, hb⟩ := h.head
  have hne := h.ne
  refine call_turnsS (S := fun k => k = b) (Q := fun _ u w' => u = .tuple ⟨[]⟩ ∧ w'.heap[b]? = some (.cells ⟨[.pointer (some ⟨b, 0, none⟩), v]⟩ 107 (0, 0))) (Nat.le_refl _) (fun k hk => by subst hk; exact ⟨_, _, _, hb⟩)
    (fun w1 e1 => turns134 hp (e1.row _ _ _ _ hb)) fun w1 u w2 w3 hs1 hQ hsame he3 => ?_
  obtain ⟨rfl, hb2⟩ := hQ
  have hb3 : w3.heap[b]? = some (.cells ⟨[.pointer (some ⟨b, 0, none⟩), v]⟩ 107 (0, 0)) := by rw [hsame b (.inl rfl)]; exact hb2
  have hrow3 := he3.owns h.row fun g hg e => hne (by rw [hg, e])
  obtain ⟨A, c, rfl⟩ := owns_slice0 h.row
  refine ⟨rfl, A, _, c, by rw [own_add]; exact at_cell (L := [.pointer (some ⟨b, 0, none⟩), .slice A bs.length c]) hb3 rfl, ?_⟩
  have hcells : Lib.strCells (bstr s) = byts s := rfl
  have hsz : (bstr s).size = s.length := bstr_size s
  refine append_str (t := 48) (u := 9) (e := 5) (i := Tryd.t5) (b0 := B) (by kernel_rfl) (by kernel_rfl) (by kernel_rfl) (by kernel_rfl) (by kernel_rfl) (by kernel_rfl) hrow3 (by rw [hsz]; exact hs) he3.size (Nat.le_trans hB he3.size) fun v' w4 he4 ho4 hn4 => ?_
  rw [hcells, hsz] at ho4
  have hb4 : w4.heap[b]? = some (.cells ⟨[.pointer (some ⟨b, 0, none⟩), .slice A bs.length c]⟩ 107 (0, 0)) := he4.row _ _ _ _ (fun e => hne e) hb3
  obtain ⟨A', c', rfl⟩ := owns_slice0 ho4
  refine ⟨A', _, c', rfl, ⟨_, by rw [own_add, bx_add]; exact at_cell (L := [.pointer (some ⟨b, 0, none⟩), .slice A bs.length c]) hb4 rfl⟩, by rw [own_add, bx_add]; exact at_frozen hb4 1, ?_⟩
  have hch : Chg (fun k => k = b ∨ (Value.slice A bs.length c).ownBlock = some k) w w4 := he4.chg (he3.chg (Chg.refl _ w) fun k _ hk => .inl hk) fun k _ hk => .inr hk
  rw [own_add, bx_add]
  have hne4 := Lib.ownBlock_ne ho4 hb4 (by decide)
  refine ret_t (hch.setCell _ fun _ => .inl rfl) fun w5 e5 => ⟨by rw [hsz], .slice A' (bs.length + s.length) c', ?_, fun k hk => (hn4 k hk).imp id fun hk => Nat.le_trans he3.size hk⟩
  have e1 : byts (bs ++ s) = byts bs ++ byts s := by simp [byts]
  refine BldAt.ext (w := w4.setCell ⟨b, 0 + 1, none⟩ (.slice A' (bs.length + s.length) c')) ⟨h.base, ⟨_, .inr rfl, at_set (L := [.pointer (some ⟨b, 0, none⟩), .slice A bs.length c]) hb4 1 _⟩, ?_⟩ e5
  rw [e1, List.length_append]
  exact owns_other ho4 fun g hg => at_other (fun e => hne4 (by rw [hg, e]))
theorem call_write {w0 w : World} {b : Nat} {v : Value} {bs s : List UInt8} {bx : List Nat} {x : ByteArray} {K : Value → World → Prop} (hx : x = bstr s) (hB : w0.heap.size ≤ w.heap.size) (h : BldAt w w0.heap.size b v bs) (hs : bs.length + s.length ≤ 1000000000)
    (hk : ∀ v' w', ExtS w0.heap.size (fun k => k = b ∨ v.ownBlock = some k) w w' → BldAt w' w0.heap.size b v' (bs ++ s) → K (.tuple ⟨[.int .i64 ((s.length : Nat) : Int), .nilIface]⟩) w') :
    CallK Tryd.prog 104 [.pointer (some ⟨b, 0, none⟩), .string x] w0.heap.size w bx K := by
  subst hx
  refine call_turnsS (S := fun k => k = b ∨ v.ownBlock = some k) (Q := fun w1 u w' => u = .tuple ⟨[.int .i64 ((s.length : Nat) : Int), .nilIface]⟩ ∧ ∃ v', BldAt w' w0.heap.size b v' (bs ++ s) ∧ ∀ k, v'.ownBlock = some k → v.ownBlock = some k ∨ w1.heap.size ≤ k) hB (fun k hk => ?_) (fun w1 e1 => turns104 (h.ext e1) hs (Nat.le_trans hB e1.size)) fun w1 u w2 w' hs1 hQ hsame he => ?_
  · rcases hk with rfl | hk
    · obtain ⟨p, _, hb⟩ := h.head
      exact ⟨_, _, _, hb⟩
    · rcases h.row.2 with ⟨rfl, _⟩ | ⟨g, cap, cur, rfl, _, hg, _⟩
      · cases hk
      · cases hk; exact ⟨_, _, _, hg⟩
  · obtain ⟨rfl, v', hv', hn⟩ := hQ
    refine hk v' w' he ?_
    obtain ⟨p, hp, hb⟩ := hv'.head
    exact ⟨hv'.base, ⟨p, hp, by rw [hsame b (.inl (.inl rfl))]; exact hb⟩, owns_other hv'.row fun g hg => hsame g ((hn g hg).imp .inr id)⟩
theorem part_nil {K : Value → Prop} (h : K .nilIface) : partV .nilIface K := h
end Go.Proofs.YtofblkmibghmbaaDoor
