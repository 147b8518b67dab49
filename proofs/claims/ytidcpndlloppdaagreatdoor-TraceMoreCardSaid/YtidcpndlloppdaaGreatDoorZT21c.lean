import Derived.Test.YtidcpndlloppdaaGreatDoorZT21b
/-
  Layer 29: cutTrace; TraceMore's function returns true.
  Conditions: the arguments' memory says what their values are.
-/
set_option linter.unusedVariables false
set_option linter.unusedSimpArgs false
set_option maxRecDepth 20000
namespace Go.Proofs.YtidcpndlloppdaaGreatDoor
open Go.RowKit
def CutQ (xs : List Mk) (w : World) : Value → World → Prop := fun v w' => ∃ A c, v = .slice A xs.length c ∧ OwnMs w' w.heap.size (.slice A xs.length c) xs
theorem mcs_setw : ∀ {xs : List Mk} {k : Nat} {d : Mk} {u : Nat}, xs[k]? = some d → (mcs xs).set (k * 2 + 1) (.int .u64 (u : Int)) = mcs (xs.set k { d with w := u })
  | x :: r, 0, d, u, h => by simp at h; subst h; rfl
  | x :: r, k + 1, d, u, h => by
    have := mcs_setw (xs := r) (k := k) (d := d) (u := u) (by simpa using h)
    show ([Value.int .i64 x.k, .int .u64 (x.w : Int)] ++ mcs r).set ((k + 1) * 2 + 1) _ = [Value.int .i64 x.k, .int .u64 (x.w : Int)] ++ mcs (r.set k { d with w := u })
    rw [← this, show (k + 1) * 2 + 1 = k * 2 + 1 + 1 + 1 by omega]
    rfl
  | [], k, d, u, h => by simp at h
theorem yields11 {w : World} {A A' : Option Addr} {l c l' c' : Nat} {t ms : List Mk} (ht : Marks w A l t) (hc : l ≤ c) (hA : A = none → c = 0) (hlen : l ≤ 5000) (hms : Marks w A' l' ms) (hA' : A' = none → c' = 0) (hlen' : l' ≤ 100) {cut how : Int} (hcut : 0 ≤ cut ∧ cut < 256) (hhow : 0 ≤ how ∧ how < 256)
    (hwd : ∀ d ∈ t, d.w < 18446744073709551616) : Yields Tryz.prog 11 [.slice A l c, .int .u8 cut, .slice A' l' c', .int .u8 how] w (CutQ (cutM t cut ms how) w) := by
  refine yields_of (V11.sound ?_)
  unfold V11.vc
  obtain rfl := ht.len
  obtain rfl := hms.len
  rw [wrap_id (n := ((t.length : Nat) : Int) + 1) (by omega) (by omega), wrap_id (n := cut) (by omega) (by omega)]
  have e1 : Int.tmod cut ((t.length : Int) + 1) = cut % ((t.length : Int) + 1) := Int.tmod_eq_emod_of_nonneg hcut.1
  have e2 : Int.tmod how 6 = how % 6 := Int.tmod_eq_emod_of_nonneg hhow.1
  rw [e1, e2]
  have k0 : 0 ≤ cut % ((t.length : Int) + 1) := Int.emod_nonneg _ (by omega)
  have k1 : cut % ((t.length : Int) + 1) < (t.length : Int) + 1 := Int.emod_lt_of_pos _ (by omega)
  unfold cutM
  obtain ⟨K, hK⟩ : ∃ K : Nat, cut % ((t.length : Int) + 1) = (K : Int) := ⟨(cut % ((t.length : Int) + 1)).toNat, by omega⟩
  rw [hK] at k0 k1 ⊢
  simp only [Int.toNat_natCast]
  rw [sub_same, Nat.sub_zero, Nat.sub_zero]
  refine ⟨by omega, ?_⟩
  intro w1 x1 _
  obtain ⟨x2, ho2⟩ := alloc1 (.cells ⟨[]⟩ 41) x1 (Nat.le_refl _)
  have hs1 := x1.size
  have hlt2 := lt_of_some ho2
  generalize w1.alloc (.cells ⟨[]⟩ 41) = w2 at *
  have hw2 := x2.after (Below.refl _ _)
  refine ⟨by omega, by omega, ?_⟩
  have htk : Marks w2 A K (t.take K) := Marks.take (RowAt.keep MarkE.kept ht (ext_keeps x2)) (by omega)
  refine append_ms (xs := []) hw2.size (b0 := w1.heap.size) (Nat.le_of_lt hlt2) (owns_empty ho2 (Nat.le_refl _)) htk hA (by simp; omega) fun v3 w3 x3 ho3 => ?_
  rw [List.nil_append] at ho3
  have hkl : (t.take K).length = K := by rw [List.length_take]; omega
  have hw3 := x3.after (fun j hj => by cases hj; exact hs1) hw2
  have hold3 : ∀ q u, w.cell? q = some u → w3.cell? q = some u := fun q u hq => x3.cell (x2.cell hq) fun hj => by have hj' : w1.heap.size = q.block := Option.some.inj hj; have := cell_lt hq; omega
  obtain ⟨A3, c3, hv3⟩ := owns_slice0 ho3
  subst hv3
  refine ⟨A3, _, c3, rfl, by omega, ?_⟩
  have done : ∀ {w4 : World} {A4 : Option Addr} {c4 n4 : Nat} {xs : List Mk}, Below w.heap.size w w4 → OwnMs w4 w1.heap.size (.slice A4 n4 c4) xs → Ret w.heap.size w4 (IsQ w (CutQ xs w) (.slice A4 n4 c4)) := fun {w4 A4 c4 n4 xs} hw4 ho4 => by
    obtain ⟨A5, c5, hv5⟩ := owns_slice0 ho4
    cases hv5
    exact ret_q hw4 fun w5 x5 => ⟨A4, c4, rfl, owns_down (x5.owns ho4) hs1⟩
  have app : ∀ {ys : List Mk} {A4 : Option Addr} {n4 c4 : Nat} {w4 : World}, Ext w.heap.size w3 w4 → Marks w4 A4 n4 ys → (A4 = none → c4 = 0) → n4 ≤ 100 →
      RunK Tryz.prog (Builtin.append_ #[27, 27] 27 ⟨[.slice A3 (t.take K).length c3, .slice A4 n4 c4]⟩) w.heap.size w4 [] fun t_1 x => ∃ (y : Option Addr) (z A : Nat), t_1 = .slice y z A ∧ Ret w.heap.size x (IsQ w (CutQ (t.take K ++ ys) w) (.slice y z A)) := fun {ys A4 n4 c4 w4} x4 hy hn hl => by
    have ho4 : OwnMs w4 w1.heap.size (.slice A3 (t.take K).length c3) (t.take K) := x4.owns ho3
    have hw4 := x4.after hw3
    refine append_ms hw4.size (Nat.le_trans (Nat.le_of_lt hlt2) (Nat.le_trans x3.size x4.size)) ho4 hy hn (by omega) fun v5 w5 x5 ho5 => ?_
    obtain ⟨A5, c5, hv5⟩ := owns_slice0 ho5
    subst hv5
    exact ⟨A5, _, c5, rfl, done (x5.after (fun j hj => by have := (ho4.lt j hj).1; omega) hw4) ho5⟩
  have none_ : ∀ {a : Addr} {c : Nat}, (some a = none → c = 0) := fun h => by cases h
  have m0 : 0 ≤ how % 6 ∧ how % 6 < 6 := by omega
  by_cases c0 : how % 6 = 0
  · rw [if_pos (by simpa using c0), if_pos c0]
    exact app (Ext.refl _ _) (RowAt.keep MarkE.kept hms hold3) hA' hlen'
  rw [if_neg (by simpa using c0), if_neg c0]
  by_cases c1' : how % 6 = 1
  · rw [if_pos (by simpa using c1'), if_pos c1']
    by_cases hk0 : 0 < K
    · rw [if_pos (by simp; omega), if_pos hk0, wrap_id (n := (K : Int) - 1) (by omega) (by omega)]
      have hix : ((K : Int) - 1).toNat = K - 1 := by omega
      rw [hix]
      obtain ⟨g, cap, hv, hown, hbg⟩ := owns_some ho3 (by omega)
      cases hv
      obtain ⟨d, hd⟩ : ∃ d, (t.take K)[K - 1]? = some d := ⟨_, List.getElem?_eq_getElem (by omega)⟩
      obtain ⟨g1, g2⟩ := mcs_get hd
      have hc2 := owns_cell ho3 g2
      have hdw := hwd d (List.mem_of_mem_take (List.mem_of_getElem? hd))
      have ea : ((((⟨g, 0, none⟩ : Addr).add ((K - 1) * 2)).add 1).add 0) = ⟨g, (K - 1) * 2 + 1, none⟩ := by simp only [own_add, bx_add, Nat.add_zero, Nat.zero_add]
      have eb : (((⟨g, 0, none⟩ : Addr).add ((K - 1) * 2)).add 1) = ⟨g, (K - 1) * 2 + 1, none⟩ := by simp only [own_add, bx_add, Nat.zero_add]
      refine ⟨⟨g, 0, none⟩, rfl, by omega, by rw [hkl]; omega, (d.w : Int), by rw [eb]; exact hc2, ⟨g, 0, none⟩, rfl, by omega, by rw [hkl]; omega, ⟨_, by rw [ea]; exact hc2⟩, by rw [ea]; exact owns_frozen ho3 _, ?_⟩
      rw [ea]
      have hwr : IntKind.wrap .u64 ((d.w : Int) + 1) = (((d.w + 1) % 18446744073709551616 : Nat) : Int) := by
        rw [IntKind.wrap]; simp [IntKind.bits, IntKind.signed]
      rw [hwr]
      have hset := owns_set ho3 ((K - 1) * 2 + 1) (.int .u64 (((d.w + 1) % 18446744073709551616 : Nat) : Int)) (by omega)
      rw [mcs_setw hd] at hset
      have hbump : bumpM (t.take K) (K - 1) = (t.take K).set (K - 1) { d with w := (d.w + 1) % 18446744073709551616 } := by unfold bumpM; rw [hd]
      rw [hbump]
      have hset' : OwnMs (w3.setCell ⟨g, (K - 1) * 2 + 1, none⟩ (.int .u64 (((d.w + 1) % 18446744073709551616 : Nat) : Int))) w1.heap.size (.slice (some ⟨g, 0, none⟩) (t.take K).length c3) ((t.take K).set (K - 1) { d with w := (d.w + 1) % 18446744073709551616 }) := by
        unfold OwnMs
        rw [List.length_set]; exact hset
      exact done (hw3.setCell (by show w.heap.size ≤ g; omega) _) hset'
    · rw [if_neg (by simp; omega), if_neg hk0]
      exact done hw3 ho3
  rw [if_neg (by simpa using c1'), if_neg c1']
  have one : ∀ k : Int, Expo w.heap.size w3 [] fun x =>
      let F := x.alloc (.cells ⟨[.int .i64 k, .int .u64 0]⟩ 41);
      RunK Tryz.prog (Builtin.append_ #[27, 27] 27 ⟨[.slice A3 (t.take K).length c3, .slice (some ⟨x.heap.size, 0, none⟩) 1 1]⟩) w.heap.size F [] fun t_1 G =>
      ∃ (I : Option Addr) (J L : Nat), t_1 = .slice I J L ∧ Ret w.heap.size G (IsQ w (CutQ (t.take K ++ [⟨k, 0⟩]) w) (.slice I J L)) := fun k => by
    intro w4 x4 _
    obtain ⟨x5, ho5⟩ := alloc1 (.cells ⟨[.int .i64 k, .int .u64 0]⟩ 41) x4 hw3.size
    simp only
    generalize w4.alloc (.cells ⟨[.int .i64 k, .int .u64 0]⟩ 41) = w5 at *
    exact app x5 (marks_block (ms := [⟨k, 0⟩]) ho5 (by simp)) none_ (by omega)
  by_cases c2 : how % 6 = 2
  · rw [if_pos (by simpa using c2), if_pos c2]
    exact one 5
  rw [if_neg (by simpa using c2), if_neg c2]
  by_cases c3' : how % 6 = 3
  · rw [if_pos (by simpa using c3'), if_pos c3']
    exact one 6
  rw [if_neg (by simpa using c3'), if_neg c3']
  by_cases c4 : how % 6 = 4
  · rw [if_pos (by simpa using c4), if_pos c4]
    intro w4 x4 _
    obtain ⟨x5, ho5⟩ := alloc1 (.cells ⟨[]⟩ 41) x4 hw3.size
    have hs4 := x4.size
    have hlt5 := lt_of_some ho5
    try simp only
    generalize w4.alloc (.cells ⟨[]⟩ 41) = w5 at *
    have hw5 := x5.after hw3
    have hww : w.heap.size ≤ w4.heap.size := Nat.le_trans hw3.size hs4
    refine append_ms (xs := []) hw5.size (b0 := w4.heap.size) (Nat.le_of_lt hlt5) (owns_empty ho5 (Nat.le_refl _)) (RowAt.keep MarkE.kept ht fun q v hq => x5.cell (hold3 q v hq)) hA (by simp; omega) fun v6 w6 x6 ho6 => ?_
    rw [List.nil_append] at ho6
    obtain ⟨A6, c6, hv6⟩ := owns_slice0 ho6
    subst hv6
    refine ⟨A6, _, c6, rfl, ?_⟩
    exact ret_q (x6.after (fun j hj => by cases hj; exact hww) hw5) fun w7 x7 => ⟨A6, c6, rfl, owns_down (x7.owns ho6) hww⟩
  rw [if_neg (by simpa using c4), if_neg c4]
  exact done hw3 ho3
theorem call_cut {w0 w : World} {bs : List Nat} {A A' : Option Addr} {l c l' c' : Nat} {t ms : List Mk} {K : Value → World → Prop} (hB : w0.heap.size ≤ w.heap.size) (ht : Marks w A l t) (hc : l ≤ c) (hA : A = none → c = 0) (hlen : l ≤ 5000) (hms : Marks w A' l' ms) (hA' : A' = none → c' = 0) (hlen' : l' ≤ 100) {cut how : Int} (hcut : 0 ≤ cut ∧ cut < 256) (hhow : 0 ≤ how ∧ how < 256)
    (hwd : ∀ d ∈ t, d.w < 18446744073709551616) (hk : ∀ A c w', Ext w0.heap.size w w' → OwnMs w' w.heap.size (.slice A (cutM t cut ms how).length c) (cutM t cut ms how) → K (.slice A (cutM t cut ms how).length c) w') : CallK Tryz.prog 11 [.slice A l c, .int .u8 cut, .slice A' l' c', .int .u8 how] w0.heap.size w bs K := by
  refine call_yieldsX (Q := fun w1 => CutQ (cutM t cut ms how) w1) hB (fun w1 e1 => yields11 (RowAt.keep MarkE.kept ht (ext_keeps e1)) hc hA hlen (RowAt.keep MarkE.kept hms (ext_keeps e1)) hA' hlen' hcut hhow hwd) fun w1 v w2 w' hs hQ hnew he => ?_
  obtain ⟨A, c, rfl, ho⟩ := hQ
  exact hk A c w' he (owns_down (owns_other ho fun j hj => hnew j (ho.lt j hj).1) hs)
theorem cutM_len (t : List Mk) (cut : Int) (ms : List Mk) (how : Int) : (cutM t cut ms how).length ≤ t.length + ms.length + 1 := by
  have hb : ∀ (x : List Mk) k, (bumpM x k).length = x.length := fun x k => by unfold bumpM; split <;> simp
  unfold cutM
  split
  · rw [List.length_append, List.length_take]; omega
  split
  · split
    · rw [hb, List.length_take]; omega
    · rw [List.length_take]; omega
  split
  · rw [List.length_append, List.length_take]; simp only [List.length_cons, List.length_nil]; omega
  split
  · rw [List.length_append, List.length_take]; simp only [List.length_cons, List.length_nil]; omega
  split
  · omega
  · rw [List.length_take]; omega
theorem gives5 {w : World} (htab : Tabs w) {A A' : Option Addr} {l c l' c' : Nat} {ns ms : List Int} (hns : BytesAt w A l c ns) (hms : BytesAt w A' l' c' ms) {most more cut how : Int} (hmost : 0 ≤ most ∧ most < 256) (hmore : 0 ≤ more ∧ more < 256) (hcut : 0 ≤ cut ∧ cut < 256) (hhow : 0 ≤ how ∧ how < 256) :
    Gives Tryz.prog 5 [.slice A l c, .int .u8 most, .int .u8 more, .int .u8 cut, .slice A' l' c', .int .u8 how] w (.bool true) := by
  refine gives_of (V5.sound ?_)
  unfold V5.vc
  refine call_made (Below.refl _ _) hns fun p P cap w1 hmade hp hcap hq e1 hw1 => ⟨_, _, _, rfl, fun o _ => ?_⟩
  obtain ⟨fn, hf, hf0⟩ : ∃ fn, fnAt p 0 = some fn ∧ fn.params = 0 := by
    obtain ⟨fn, hfn⟩ := fnAt_in (p := p) (f := 0) (by omega) (by have := hmade.pos; omega)
    exact ⟨fn, hfn, hmade.zero fn (fnAt_mem hfn).2.2.1⟩
  have hr : Rt p := rt_of (by rw [hmade.check])
  rw [wrap_id (n := most) (by omega) (by omega), wrap_id (n := more) (by omega) (by omega), wrap_id (n := most + more) (by omega) (by omega)]
  obtain ⟨n, rfl⟩ : ∃ n : Nat, most = (n : Int) := ⟨most.toNat, by omega⟩
  obtain ⟨d, rfl⟩ : ∃ d : Nat, more = (d : Int) := ⟨more.toNat, by omega⟩
  have a1 : Acts (n : Int) n := ⟨by omega, .inl rfl⟩
  have a2 : Acts ((n : Int) + (d : Int)) (n + d) := ⟨by omega, .inl (by omega)⟩
  have hltn := (shown_ok hr hf hf0 n (by omega)).2.trace
  have hltm := (shown_ok hr hf hf0 (n + d) (by omega)).2.trace
  have htrn : TrOk (playM p (newM 0) n) := play_tr (newM_tr 0) n
  obtain ⟨t, ht⟩ := play_more (p := p) htrn d
  rw [← playM_add] at ht
  have hover : (playM p (newM 0) n).ended = true → (playM p (newM 0) (n + d)).ended = true ∧ t = [] := fun h => by
    obtain ⟨b1, b2, _⟩ := play_over (p := p) h d
    rw [← playM_add] at b1 b2
    rw [ht] at b1
    exact ⟨b2, by simpa using b1⟩
  refine call_show hr hf hf0 hw1.size hp a1 fun A3 c3 w3 e3 ho3 => ⟨_, _, _, _, rfl, ?_⟩
  have hw3 := e3.after hw1
  refine call_show hr hf hf0 hw3.size (RowAt.keep FncE.kept hp (ext_keeps e3)) a2 fun A4 c4 w4 e4 ho4 => ⟨_, _, _, _, rfl, ?_⟩
  have hw4 := e4.after hw3
  have ho34 := e4.owns ho3
  have k3 := marks_own ho34 (by omega)
  have k4 := marks_own ho4 (by omega)
  have cap3 := own_cap ho34
  have cap4 := own_cap ho4
  refine call_gives hw4 (fun w5 e5 _ => gives15 (RowAt.keep MarkE.kept k3 (ext_keeps e5)) (RowAt.keep MarkE.kept k4 (ext_keeps e5)) cap4.1) fun w5 e5 hw5 => ⟨_, rfl, ?_⟩
  have hpre : begM (playM p (newM 0) n).trace (playM p (newM 0) (n + d)).trace = true := by rw [ht]; exact beg_app _ _
  rw [hpre, if_pos (by rfl)]
  have hp5 : ProgAt w5 P p.length p := RowAt.keep FncE.kept hp (ext_keeps ((e3.trans e4).trans e5))
  have k35 := RowAt.keep MarkE.kept k3 (ext_keeps e5)
  have hwds : ∀ d ∈ (playM p (newM 0) n).trace, d.w < 18446744073709551616 := shown_wd hr hf hf0 n (by omega)
  have last : V5.b0 w.heap.size (IsV w (.bool true)) cut A' l' c' how (n : Int) ((n : Int) + (d : Int)) A3 (playM p (newM 0) n).trace.length c3 (playM p (newM 0) n).ended o P p.length cap w5 := by
    unfold V5.b0
    refine call_marks hw5 (BytesAt.keep hms (below_keeps hw5)) fun A6 c6 w6 e6 hm6 hc6 hn6 => ⟨_, _, _, rfl, ?_⟩
    have hw6 := e6.after hw5
    have hml : (marksM ms).length ≤ 31 := (marksF_ok hms.byte 31 0).1
    refine call_cut hw6.size (RowAt.keep MarkE.kept k35 (ext_keeps e6)) cap3.1 cap3.2 (by omega) hm6 hn6 (by omega) hcut hhow hwds fun A7 c7 w7 e7 ho7 => ⟨_, _, _, rfl, ?_⟩
    have hw7 := e7.after hw6
    have hcl := cutM_len (playM p (newM 0) n).trace cut (marksM ms) how
    have k7 := marks_own ho7 (by omega)
    have cap7 := own_cap ho7
    have hp7 := RowAt.keep FncE.kept hp5 (ext_keeps (e6.trans e7))
    refine call_gives hw7 (fun w8 e8 _ => gives12 hr hf hf0 (RowAt.keep FncE.kept hp7 (ext_keeps e8)) a1 (RowAt.keep MarkE.kept k7 (ext_keeps e8)) cap7.1 (by omega)) fun w8 e8 hw8 => ⟨_, rfl, ?_⟩
    have k38 := RowAt.keep MarkE.kept k35 (ext_keeps ((e6.trans e7).trans e8))
    have hp8 := RowAt.keep FncE.kept hp7 (ext_keeps e8)
    have fin : ∀ {w9 : World}, Ext w.heap.size w8 w9 → Below w.heap.size w w9 → V5.b1 w.heap.size (IsV w (.bool true)) (n : Int) A3 (playM p (newM 0) n).trace.length c3 (playM p (newM 0) n).ended o P p.length cap w9 := fun {w9} e9 hw9 => by
      unfold V5.b1
      have k39 := RowAt.keep MarkE.kept k38 (ext_keeps e9)
      refine call_gives hw9 (fun w10 e10 _ => gives12 hr hf hf0 (RowAt.keep FncE.kept hp8 (ext_keeps (e9.trans e10))) a1 (RowAt.keep MarkE.kept k39 (ext_keeps e10)) cap3.1 (by omega)) fun w10 e10 hw10 => ⟨_, rfl, ?_⟩
      rw [if_pos (agr_self htrn)]
      have aw : ∀ bs : List Nat, CallK Tryz.prog 7 [] w.heap.size w10 bs fun t u => ∃ x : Bool, t = .bool x ∧ Ret w.heap.size u (IsV w (.bool true) (.bool x)) := fun bs =>
        call_gives hw10 (fun w11 _ h11 => gives7 (htab.on h11)) fun w11 e11 hw11 => ⟨_, rfl, ret_is hw11 rfl⟩
      by_cases hz : (playM p (newM 0) n).trace.length = 0
      · rw [if_neg (by simp; simpa using hz)]
        exact aw _
      · rw [if_pos (by simpa using hz), wrap_id (n := (((playM p (newM 0) n).trace.length : Nat) : Int) - 1) (by omega) (by omega)]
        obtain ⟨e, q, he, hq, d0, d1⟩ := Marks.cells (RowAt.keep MarkE.kept k39 (ext_keeps e10)) (i := (playM p (newM 0) n).trace.length - 1) (by omega)
        have hlk := last_kind htrn he (by omega)
        have hix : ((((playM p (newM 0) n).trace.length : Nat) : Int) - 1).toNat = (playM p (newM 0) n).trace.length - 1 := by omega
        rw [hix]
        refine ⟨q, hq, by omega, by omega, e.k, d0, ?_⟩
        by_cases h3 : e.k = 3
        · rw [if_neg (by simp [h3]), if_pos (by rw [hlk.1 (.inl h3)]; rfl)]
          exact aw _
        · rw [if_pos (by simp [h3])]
          refine ⟨q, hq, by omega, by omega, e.k, d0, ?_⟩
          rw [if_pos (by
            by_cases h4 : e.k = 4
            · rw [hlk.1 (.inr h4)]; simp [h4]
            · have : (playM p (newM 0) n).ended = false := by
                cases hov : (playM p (newM 0) n).ended with
                | false => rfl
                | true => have := hlk.2 hov; omega
              rw [this]; simp [h4])]
          exact aw _
    cases hag : agrM (playM p (newM 0) n).trace (playM p (newM 0) n).ended (cutM (playM p (newM 0) n).trace cut (marksM ms) how) with
    | true =>
      rw [if_pos rfl]
      refine call_gives hw8 (fun w9 e9 _ => gives12 hr hf hf0 (RowAt.keep FncE.kept hp8 (ext_keeps e9)) a2 (RowAt.keep MarkE.kept k7 (ext_keeps (e8.trans e9))) cap7.1 (by omega)) fun w9 e9 hw9 => ⟨_, rfl, ?_⟩
      rw [agr_more ht hover hag, if_neg (by simp)]
      exact fin e9 hw9
    | false =>
      rw [if_neg (by simp)]
      exact fin (Ext.refl _ _) hw8
  by_cases hov : (playM p (newM 0) n).ended = true
  · obtain ⟨b1, b2⟩ := hover hov
    rw [if_pos hov, b1, if_pos (by rfl), if_neg (by rw [ht, b2, List.append_nil]; simp)]
    exact last
  · rw [if_neg hov]
    exact last
end Go.Proofs.YtidcpndlloppdaaGreatDoor
