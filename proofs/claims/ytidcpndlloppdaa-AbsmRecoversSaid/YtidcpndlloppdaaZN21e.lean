import Derived.Test.YtidcpndlloppdaaZN21
import Derived.Test.YtidcpndlloppdaaZP21h
import Derived.Test.YtidcpndlloppdaaZME
/-
  Layer 21: code and marks that grow; AbsmRecovers's function returns true.
  Conditions: the arguments' memory says what their values are.
-/
set_option linter.unusedVariables false
set_option linter.unusedSimpArgs false
set_option maxRecDepth 20000
namespace Go.Proofs.Ytidcpndlloppdaa
open Go.RowKit
theorem gives12 {w : World} {A : Option Addr} {p : List Fnc} {c : Nat} (hp : ProgAt w A p.length p) : Gives Try.prog 12 [.agg ⟨[.slice A p.length c]⟩] w (.bool ((checkM p).1 == 0)) := by
  refine gives_of (V12.sound ?_)
  intro q1 _
  exact call_gives (Below.refl _ _) (fun w1 _ hb => gives33 (hp.keep hb)) fun w1 _ hw1 => ⟨_, _, _, rfl, ret_is hw1 rfl⟩
theorem insV_one {xs : List Ins} : ∀ u ∈ xs.flatMap insV, u.oneCell' = true := fun u hu => by
  obtain ⟨x, _, hx⟩ := List.mem_flatMap.1 hu
  simp only [insV, List.mem_cons, List.not_mem_nil, or_false] at hx
  rcases hx with rfl | rfl | rfl <;> rfl
theorem insV_len : ∀ xs : List Ins, (xs.flatMap insV).length = xs.length * 3
  | [] => rfl
  | x :: r => by rw [List.flatMap_cons, List.length_append, insV_len r]; simp only [insV, List.length_cons, List.length_nil]; omega
structure GrowAt (w0 w : World) (xs : List Ins) (ms : List Mk) (vP vW : Value) (Q : World → Prop) : Prop where
  below : Below w0.heap.size w0 w
  code : w.ownsRow w0.heap.size 23 3 vP xs.length (xs.flatMap insV)
  marks : OwnMs w w0.heap.size vW ms
  aside : Aside Q (fun k => vP.ownBlock = some k ∨ vW.ownBlock = some k) w
section
variable {w0 w w' : World} {xs : List Ins} {ms : List Mk} {vP vW : Value} {Q : World → Prop}
theorem GrowAt.ext (h : GrowAt w0 w xs ms vP vW Q) (he : Ext w0.heap.size w w') : GrowAt w0 w' xs ms vP vW Q := ⟨he.after h.below, he.owns h.code, he.owns h.marks, h.aside.ext he⟩
theorem GrowAt.size (h : GrowAt w0 w xs ms vP vW Q) : w0.heap.size ≤ w.heap.size := h.below.size
theorem GrowAt.appCode (h : GrowAt w0 w xs ms vP vW Q) {bs : List Nat} {K : Value → World → Prop} {a : Addr} {n c : Nat} {ys : List Ins} (hn : ys.length = n) (hy : ∀ j u, (ys.flatMap insV)[j]? = some u → w.cell? (a.add j) = some u) (hl : xs.length + n ≤ 1000)
    (hk : ∀ A c' w', GrowAt w0 w' (xs ++ ys) ms (.slice A (xs.length + n) c') vW Q → K (.slice A (xs.length + n) c') w') : RunK Try.prog (Builtin.append_ #[24, 24] 24 ⟨[vP, .slice (some a) n c]⟩) w0.heap.size w bs K := by
  subst hn
  have hb : Try.t23.bytes = 24 := by kernel_rfl
  refine append_own (t := 24) (e := 23) (i := Try.t23) (z := .agg ⟨[.int .i64 0, .int .i64 0, .int .i64 0]⟩) (size := 3) (bytes := 24) (by kernel_rfl) (by kernel_rfl) (by kernel_rfl) (by kernel_rfl) hb rfl (by omega) h.code (news := ys.flatMap insV) (insV_len ys) hy insV_one (by simp only [maxLen]; omega) (by omega) h.size h.size fun v' w1 he ho hn => ?_
  obtain ⟨A, c', hv⟩ := owns_slice0 ho
  subst hv
  have hc := chg1_exts he h.code
  refine hk A c' w1 ⟨he.after (fun j hj => (h.code.lt j hj).1) h.below, ?_, hc.ownT h.marks (by decide), h.aside.keep ((keepsOff_exts he).mono fun k hk => .inl hk) fun k hk => ?_⟩
  · rw [List.length_append, List.flatMap_append]; exact ho
  · rcases hk with hk | hk
    · exact (hn k hk).imp .inl id
    · exact .inl (.inr hk)
theorem GrowAt.appMarks (h : GrowAt w0 w xs ms vP vW Q) {bs : List Nat} {K : Value → World → Prop} {a : Addr} {n c : Nat} {ys : List Mk} (hn : ys.length = n) (hy : Marks w (some a) n ys) (hl : ms.length + n ≤ 1000)
    (hk : ∀ A c' w', GrowAt w0 w' xs (ms ++ ys) vP (.slice A (ms.length + n) c') Q → ExtS w0.heap.size (fun k => vW.ownBlock = some k) w w' → K (.slice A (ms.length + n) c') w') : RunK Try.prog (Builtin.append_ #[27, 27] 27 ⟨[vW, .slice (some a) n c]⟩) w0.heap.size w bs K := by
  subst hn
  refine append_marks h.marks hy (by omega) h.size h.size fun v' w1 he ho hn => ?_
  obtain ⟨A, c', hv⟩ := owns_slice0 ho
  subst hv
  have hc := chg1_exts he h.marks
  have hlen : (ms ++ ys).length = ms.length + ys.length := List.length_append
  refine (hlen ▸ hk A c' w1) ⟨he.after (fun j hj => (h.marks.lt j hj).1) h.below, hc.ownT h.code (by decide), ?_, h.aside.keep ((keepsOff_exts he).mono fun k hk => .inr hk) fun k hk => ?_⟩ he
  · unfold OwnMs at ho ⊢; exact ho
  · rcases hk with hk | hk
    · exact .inl (.inl hk)
    · exact (hn k hk).imp .inr id
end
theorem GrowAt.mono {w0 w : World} {xs : List Ins} {ms : List Mk} {vP vW : Value} {Q Q' : World → Prop} (h : GrowAt w0 w xs ms vP vW Q) (hQ : ∀ w, Q w → Q' w) : GrowAt w0 w xs ms vP vW Q' := ⟨h.below, h.code, h.marks, by
  obtain ⟨w1, h1, h2⟩ := h.aside
  exact ⟨w1, hQ _ h1, h2⟩⟩
theorem Own.off {w w' : World} {n0 B g : Nat} {C : Option Addr} {c : Nat} {p : List Fnc} {m : Mach} {F T : Value} {ss : List Sl} (h : Own w n0 B g C c p m F T ss) (hs : ∀ (k : Nat) (c : Array Value) (e : TypeId) (f : Nat × Nat), n0 ≤ k → w.heap[k]? = some (.cells c e f) → w'.heap[k]? = some (.cells c e f)) : Own w' n0 B g C c p m F T ss := by
  have hcell : ∀ {q v}, w.cell? q = some v → n0 ≤ q.block → w'.cell? q = some v := fun {q v} hq hn => by
    obtain ⟨c, t, f, hb⟩ := cell_block hq
    exact (cell_same (by rw [hs _ _ _ _ hn hb, hb])).trans hq
  have hP : Aside (fun w => ProgAt w C p.length p) (fun k => k < n0 ∨ Foot g F T ss k) w' := by
    obtain ⟨w1, h1, h2⟩ := h.prog
    refine ⟨w1, h1, fun q v hq => ?_⟩
    obtain ⟨k1, k2⟩ := h2 q v hq
    exact ⟨hcell k1 (Nat.le_of_not_lt fun h => k2 (.inl h)), k2⟩
  have hf : ∀ k, Foot g F T ss k → w'.heap[k]? = w.heap[k]? := fun k hk => by
    obtain ⟨_, _, cc, e, ff, hh⟩ := h.mach.ty hk
    rw [hh]; exact hs _ _ _ _ (h.foot k hk) hh
  exact ⟨⟨h.mach.base, by rw [hf g (.inl rfl)]; exact h.mach.head, h.mach.pcs.same fun k hk => hf k (.inr hk), (hP.mono fun k hk => .inr hk).poff⟩, h.foot, hP⟩
theorem mark_one {w : World} {g : Nat} {k : Int} {u : Nat} {f : Nat × Nat} (h : w.heap[g]? = some (.cells ⟨[.int .i64 k, .int .u64 (u : Int)]⟩ 31 f)) : Marks w (some ⟨g, 0, none⟩) 1 [⟨k, u⟩] := ⟨rfl, by decide, fun j y hy => ⟨_, rfl, by
  match j, hy with
  | 0, hy => cases hy; exact ⟨at_cell (i := 0) h rfl, at_cell (i := 1) h rfl⟩
  | j + 1, hy => simp at hy⟩⟩
theorem mark_two {w : World} {g : Nat} {k k' : Int} {u u' : Nat} {f : Nat × Nat} (h : w.heap[g]? = some (.cells ⟨[.int .i64 k, .int .u64 (u : Int), .int .i64 k', .int .u64 (u' : Int)]⟩ 31 f)) : Marks w (some ⟨g, 0, none⟩) 2 [⟨k, u⟩, ⟨k', u'⟩] := ⟨rfl, by decide, fun j y hy => ⟨_, rfl, by
  match j, hy with
  | 0, hy => cases hy; exact ⟨at_cell (i := 0) h rfl, at_cell (i := 1) h rfl⟩
  | 1, hy => cases hy; exact ⟨at_cell (i := 2) h rfl, at_cell (i := 3) h rfl⟩
  | j + 2, hy => simp at hy⟩⟩
theorem code_row {w : World} {g : Nat} {xs : List Ins} {f : Nat × Nat} {n : Nat} (h : w.heap[g]? = some (.cells (xs.flatMap insV).toArray 23 f)) (hn : xs.length = n) (hl : xs.length ≤ 1000) : CodeAt w (some ⟨g, 0, none⟩) n xs := ⟨hn, by rw [← hn]; exact len_ok hl, fun i x hx => by
  obtain ⟨h1, h2, h3⟩ := flat_get hx
  refine ⟨_, rfl, ?_⟩
  have c : ∀ {j v}, (xs.flatMap insV)[j]? = some v → w.cell? ⟨g, j, none⟩ = some v := fun hv => by simp [World.cell?, h, hv]
  refine ⟨?_, ?_, ?_⟩
  · simp only [own_add, bx_add, Nat.add_zero, Nat.zero_add]; exact c h1
  · simp only [own_add, bx_add, Nat.zero_add]; exact c h2
  · simp only [own_add, bx_add, Nat.zero_add]; exact c h3⟩
def lstI (n : Nat) : List Int := List.map (fun k : Nat => (k : Int)) (List.range n)
theorem lstI_succ (n : Nat) : lstI (n + 1) = lstI n ++ [(n : Int)] := by unfold lstI; rw [List.range_succ, List.map_append]; rfl
theorem lstI_len (n : Nat) : (lstI n).length = n := by simp [lstI]
theorem outsC_app (a b : List Int) : outsC (a ++ b) = outsC a ++ outsC b := by unfold outsC; rw [List.flatMap_append]
theorem outsC_len : ∀ l : List Int, (outsC l).length = 2 * l.length
  | [] => rfl
  | a :: r => by
    have : outsC (a :: r) = [⟨1, a, 0⟩, ⟨22, 0, 0⟩] ++ outsC r := rfl
    rw [this, List.length_append, outsC_len r]; simp only [List.length_cons, List.length_nil]; omega
def recC (n : Nat) : List Ins := ⟨19, 1, 0⟩ :: outsC (lstI n)
def recW' (n : Nat) : List Mk := (lstI n).map fun a => ⟨1, nw a⟩
theorem recC_succ (n : Nat) : recC (n + 1) = recC n ++ [⟨1, (n : Int), 0⟩, ⟨22, 0, 0⟩] := by unfold recC; rw [lstI_succ, outsC_app]; rfl
theorem recC_len (n : Nat) : (recC n).length = 1 + 2 * n := by unfold recC; rw [List.length_cons, outsC_len, lstI_len]; omega
theorem recW'_succ (n : Nat) : recW' (n + 1) = recW' n ++ [⟨1, nw (n : Int)⟩] := by unfold recW'; rw [lstI_succ, List.map_append]; rfl
theorem recW'_len (n : Nat) : (recW' n).length = n := by unfold recW'; rw [List.length_map, lstI_len]
def CodesQ (Y : Option Addr) (d : Fnc) (G : Option Addr) (w : World) : Prop := CodeAt w Y d.code.length d.code ∧ CodeAt w G 3 hF.code
theorem codes_kept {Y : Option Addr} {d : Fnc} {G : Option Addr} : KeptP (CodesQ Y d G) := fun w w' hw h => ⟨RowAt.keep InsE.kept h.1 hw, RowAt.keep InsE.kept h.2 hw⟩
def gF (deep : Bool) : Fnc := if deep = true then dF else hF
theorem b3_3 {w0 w : World} {xs : List Ins} {ms : List Mk} {vP : Value} {A : Option Addr} {n c : Nat} {Q : World → Prop} (h : GrowAt w0 w xs ms vP (.slice A n c) Q) (hms : ms.length ≤ 1000) {n0 g : Nat} {C : Option Addr} {cc : Nat} {p : List Fnc} {m : Mach} {F T : Value} {ss : List Sl} (hO : Own w n0 w0.heap.size g C cc p m F T ss)
    (he : EndsT m ms) : V3.b3 w0.heap.size (IsV w0 (.bool true)) A n c ⟨g, 0, none⟩ w := by
  unfold V3.b3
  obtain ⟨h1, h2⟩ := he
  refine call_gives h.below (fun w1 e1 _ => gives13 (hO.mach.ext e1)) fun w1 e1 hw1 => ⟨_, rfl, ?_⟩
  rw [if_pos h1]
  refine call_trace hw1.size (hO.mach.ext e1) (by rw [h2]; omega) fun A2 c2 w2 e2 hm2 _ => ⟨_, _, _, rfl, ?_⟩
  have hw2 := e2.after hw1
  have k1 : Marks w2 A2 _ _ := RowAt.keep MarkE.kept hm2 fun q v hq => (newW_cell.1 hq).1
  have hm3 := (e1.trans e2).owns h.marks
  have k2 : Marks w2 A n ms := marks_own hm3 (by omega)
  refine call_gives hw2 (fun w3 e3 _ => gives14 (RowAt.keep MarkE.kept k1 (ext_keeps e3)) (RowAt.keep MarkE.kept k2 (ext_keeps e3))) fun w3 e3 hw3 => ⟨_, rfl, ?_⟩
  rw [if_pos ((eqMs_iff _ _).2 h2)]
  exact call_gives hw3 (fun _ _ _ => gives16) fun w4 e4 hw4 => ⟨_, rfl, ret_is hw4 rfl⟩
section
variable {w0 : World} {v : Int} (hv : -2147483648 ≤ v ∧ v ≤ 2147483647) {deep : Bool} {k0 : Nat} (hk0 : k0 < 5)
include hv hk0
theorem b2_3 {w : World} {xs : List Ins} {vP : Value} {A : Option Addr} {n c : Nat} {Q : World → Prop} (h : GrowAt w0 w xs (recW' k0) vP (.slice A n c) Q) (hn : n = k0) {n0 g j : Nat} {C : Option Addr} {cc : Nat} {F T : Value} {ss : List Sl} (hO : Own w n0 w0.heap.size g C cc (recP deep (lstI k0) v) (playM (recP deep (lstI k0) v) (newM 0) 60) F T ss)
    (hold : ∀ k, (Value.slice A n c).ownBlock = some k → k < n0) {R : Option Addr} {rc : Nat} (hp : ProgAt w R 3 (recP deep (lstI k0) v)) : V3.b2 w0.heap.size (IsV w0 (.bool true)) v deep A n c ⟨g, 0, none⟩ j R 3 rc w := by
  subst hn
  unfold V3.b2
  have hend := rec_end deep (lstI n) (by rw [lstI_len]; omega) v
  have hchk := rec_check deep (lstI n) (by rw [lstI_len]; omega) (fun a ha => by
    unfold lstI at ha
    obtain ⟨k, hk, rfl⟩ := List.mem_map.1 ha
    have := List.mem_range.1 hk
    omega) v hv
  refine call_gives h.below (fun w1 e1 _ => gives12 (p := recP deep (lstI n) v) (RowAt.keep FncE.kept hp (ext_keeps e1))) fun w1 e1 hw1 => ⟨_, rfl, ?_⟩
  rw [if_neg (by rw [hchk]; simp), wrap_id (n := v) (by omega) (by omega)]
  have h1 := h.ext e1
  have hO1 := hO.ext e1
  have hwl := recW'_len n
  cases deep with
  | true =>
    rw [if_pos rfl]
    refine call_gives hw1 (fun _ _ _ => gives10 v) fun w2 e2 hw2 => ⟨_, rfl, ?_⟩
    have h2 := h1.ext e2
    refine expo_alloc hw2.size fun w3 w4 hs3 e4 hlt4 ho4 => ?_
    have h4 := h2.ext e4
    refine h4.appMarks (ys := [⟨4, nw v⟩]) rfl (mark_one ho4) (by omega) fun A5 c5 w5 h5 e5 => ?_
    rw [hwl] at h5 ⊢
    refine ⟨A5, _, c5, rfl, ?_⟩
    refine b3_3 h5 (by simp; omega) (((hO1.ext e2).ext e4).off fun k cs e f hk hh => e5.row _ _ _ _ (fun hs => by have := hold k hs; omega) hh) ?_
    exact hend
  | false =>
    rw [if_neg (by simp)]
    refine call_gives hw1 (fun _ _ _ => gives10 v) fun w2 e2 hw2 => ⟨_, rfl, ?_⟩
    refine call_gives hw2 (fun _ _ _ => gives10 0) fun w3 e3 hw3 => ⟨_, rfl, ?_⟩
    have h3 := (h1.ext e2).ext e3
    refine expo_alloc hw3.size fun w4 w5 hs4 e5 hlt5 ho5 => ?_
    have h5 := h3.ext e5
    refine h5.appMarks (ys := [⟨2, nw v⟩, ⟨3, nw 0⟩]) rfl (mark_two ho5) (by omega) fun A6 c6 w6 h6 e6 => ?_
    rw [hwl] at h6 ⊢
    refine ⟨A6, _, c6, rfl, ?_⟩
    refine b3_3 h6 (by simp; omega) ((((hO1.ext e2).ext e3).ext e5).off fun k cs e f hk hh => e6.row _ _ _ _ (fun hs => by have := hold k hs; omega) hh) ?_
    exact hend
theorem l1_3 {before : Int} (hbf : 0 ≤ before ∧ before < 256) (hb5 : Int.tmod before 5 = k0) {Y G : Option Addr} {yl yc gc z q1 q2 : Nat} (hyl : (gF deep).code.length = yl) : ∀ (k i : Nat) (w : World) (A : Option Addr) (cA : Nat) (P : Option Addr) (cP : Nat) (nP : Nat), k0 < i + k → i ≤ k0 → nP = 1 + 2 * i →
    GrowAt w0 w (recC i) (recW' i) (.slice P nP cP) (.slice A i cA) (CodesQ Y (gF deep) G) →
    V3.l1 w0.heap.size (IsV w0 (.bool true)) k v deep before A i cA (i : Int) z 0 0 0 P nP cP q1 0 0 0 Y yl yc q2 0 0 0 G 3 gc w
  | 0, i, w, A, cA, P, cP, nP, hk, hi, hnP, _ => by omega
  | k + 1, i, w, A, cA, P, cP, nP, hk, hi, hnP, h => by
    subst hnP
    dsimp -zeta only [V3.l1]
    refine ⟨by omega, ?_⟩
    rw [wrap_id (n := before) (by omega) (by omega), hb5]
    have hcl := recC_len i
    have hwl := recW'_len i
    by_cases hlt : i < k0
    · rw [if_pos (by simp; omega)]
      refine expo_alloc h.size fun w1 w2 hs1 e2 hlt2 ho2 => ?_
      have h2 := h.ext e2
      refine h2.appCode (ys := [⟨1, (i : Int), 0⟩, ⟨22, 0, 0⟩]) rfl (fun j u hj => by rw [own_add]; exact at_cell ho2 hj) (by omega) fun A3 c3 w3 h3 => ?_
      rw [hcl] at h3 ⊢
      refine ⟨A3, _, c3, rfl, ?_⟩
      refine call_gives h3.below (fun _ _ _ => gives10 (i : Int)) fun w4 e4 hw4 => ⟨_, rfl, ?_⟩
      have h4 := h3.ext e4
      refine expo_alloc hw4.size fun w5 w6 hs5 e6 hlt6 ho6 => ?_
      have h6 := h4.ext e6
      refine h6.appMarks (ys := [⟨1, nw (i : Int)⟩]) rfl (mark_one ho6) (by omega) fun A7 c7 w7 h7 e7 => ?_
      rw [hwl] at h7 ⊢
      refine ⟨A7, _, c7, rfl, ?_⟩
      rw [wrap_id (n := (i : Int) + 1) (by omega) (by omega)]
      rw [← recC_succ, ← recW'_succ] at h7
      exact l1_3 hbf hb5 hyl k (i + 1) w7 A7 c7 A3 c3 (1 + 2 * i + 2) (by omega) (by omega) (by omega) h7
    · have : i = k0 := by omega
      subst this
      rw [if_neg (by simp), wrap_id (n := v) (by omega) (by omega)]
      refine expo_alloc h.size fun w1 w2 hs1 e2 hlt2 ho2 => ?_
      have h2 := h.ext e2
      refine h2.appCode (ys := [⟨1, v, 0⟩, ⟨20, 0, 0⟩]) rfl (fun j u hj => by rw [own_add]; exact at_cell ho2 hj) (by omega) fun A3 c3 w3 h3 => ?_
      rw [hcl] at h3 ⊢
      refine ⟨A3, _, c3, rfl, ?_⟩
      refine expo_alloc h3.size fun w4 w5 hs4 e5 hlt5 ho5 => ?_
      intro q3 _
      have h5 := h3.ext e5
      have hl3 : (recC i ++ ([⟨1, v, 0⟩, ⟨20, 0, 0⟩] : List Ins)).length = 1 + 2 * i + 2 := by rw [List.length_append, hcl]; rfl
      obtain ⟨A6, c6, hv6, hc6⟩ := owns_code h5.code (by omega)
      rw [hl3] at hv6
      cases hv6
      obtain ⟨hc1, hc2⟩ := h5.aside.get codes_kept
      have hmain : CodeAt w5 A3 (1 + 2 * i + 2) (recC i ++ [⟨1, v, 0⟩, ⟨20, 0, 0⟩]) := by rw [← hl3]; exact RowAt.keep InsE.kept hc6 fun q v hq => (newW_cell.1 hq).1
      have hprog : ProgAt w5 (some ⟨w4.heap.size, 0, none⟩) 3 (recP deep (lstI i) v) := ⟨rfl, by decide, fun j x hx => ⟨_, rfl, by
        match j, hx with
        | 0, hx => cases hx; exact ⟨at_cell (i := 0) ho5 rfl, at_cell (i := 1) ho5 rfl, at_cell (i := 2) ho5 rfl, A3, _, c3, at_cell (i := 3) ho5 rfl, hmain⟩
        | 1, hx =>
          have hx' : x = gF deep := by cases hx; rfl
          have hh : (gF deep).params = 0 ∧ (gF deep).locals = 0 ∧ (gF deep).refs = 0 := by cases deep <;> exact ⟨rfl, rfl, rfl⟩
          subst hx'
          obtain ⟨e1, e2, e3⟩ := hh
          refine ⟨?_, ?_, ?_, Y, yl, yc, at_cell (i := 7) ho5 rfl, by rw [hyl] at hc1; exact hc1⟩
          · rw [e1]; exact at_cell (i := 4) ho5 rfl
          · rw [e2]; exact at_cell (i := 5) ho5 rfl
          · rw [e3]; exact at_cell (i := 6) ho5 rfl
        | 2, hx => cases hx; exact ⟨at_cell (i := 8) ho5 rfl, at_cell (i := 9) ho5 rfl, at_cell (i := 10) ho5 rfl, G, 3, gc, at_cell (i := 11) ho5 rfl, hc2⟩
        | j + 3, hx => simp [recP] at hx⟩⟩
      have hchk := rec_check deep (lstI i) (by rw [lstI_len]; omega) (fun a ha => by
        unfold lstI at ha
        obtain ⟨k, hk, rfl⟩ := List.mem_map.1 ha
        have := List.mem_range.1 hk
        omega) v hv
      have hr : Rt (recP deep (lstI i) v) := rt_of (by rw [hchk])
      have hfst : fnAt (recP deep (lstI i) v) 0 = some ⟨0, 0, 0, (⟨19, 1, 0⟩ :: outsC (lstI i)) ++ [⟨1, v, 0⟩, ⟨20, 0, 0⟩]⟩ := rfl
      refine call_played (p := recP deep (lstI i) v) (n := 60) hr hfst rfl h5.size hprog (by omega) fun g Cm cm Fm Tm sm w7 h7 e7 => ⟨_, rfl, ?_⟩
      simp only [caseP]
      have hG7 := h5.ext e7
      exact b2_3 hv hk0 hG7 rfl h7 (fun k hk => (h5.marks.lt k hk).2) (RowAt.keep FncE.kept hprog (ext_keeps e7))
theorem b0_3 {before : Int} (hbf : 0 ≤ before ∧ before < 256) (hb5 : Int.tmod before 5 = k0) {Y G : Option Addr} {yl yc gc q1 q2 : Nat} (hyl : (gF deep).code.length = yl) {w : World} (hw : Below w0.heap.size w0 w) (hQ : CodesQ Y (gF deep) G w) :
    V3.b0 w0.heap.size (IsV w0 (.bool true)) v deep before q1 0 0 0 Y yl yc q2 0 0 0 G 3 gc w := by
  unfold V3.b0
  refine expo_alloc hw.size fun w1 w2 hs1 e2 hlt2 ho2 => ?_
  intro z _
  have hw2 := e2.after hw
  have hs2 := hw2.size
  refine expo_alloc hw2.size fun w3 w4 hs3 e4 hlt4 ho4 => ?_
  have hw4 := e4.after hw2
  have hs0 := hw.size
  refine ⟨k0 + 1, l1_3 hv hk0 hbf hb5 hyl (k0 + 1) 0 w4 _ 0 _ 1 1 (by omega) (by omega) rfl ⟨hw4, ?_, ?_, ?_⟩⟩
  · refine ⟨rfl, .inr ⟨w1.heap.size, 1, _, rfl, by omega, e4.row _ _ _ _ ho2, Nat.le_refl _, by decide, rfl, rfl⟩⟩
  · exact owns_empty ho4 (by omega)
  · refine (Aside.old hQ fun k hk => ?_ : Aside (CodesQ Y (gF deep) G) (fun k => w.heap.size ≤ k) w).keep (S' := fun k => (Value.slice (some ⟨w1.heap.size, 0, none⟩) 1 1).ownBlock = some k ∨ (Value.slice (some ⟨w3.heap.size, 0, none⟩) 0 0).ownBlock = some k) (keepsOff_ext (e2.trans e4)) fun k hk => ?_
    · exact hk
    · rcases hk with hk | hk
      · cases hk; exact .inl hs1
      · cases hk; have := e2.size; exact .inl (by show w.heap.size ≤ w3.heap.size; omega)
end
theorem gives3 {w : World} {v : Int} (hv : -2147483648 ≤ v ∧ v ≤ 2147483647) (deep : Bool) {before : Int} (hbf : 0 ≤ before ∧ before < 256) : Gives Try.prog 3 [.int .i32 v, .bool deep, .int .u8 before] w (.bool true) := by
  refine gives_of (V3.sound ?_)
  unfold V3.vc
  intro w1 e1 _
  obtain ⟨e2, ho2⟩ := alloc1 (.cells ⟨[.int .i64 21, .int .i64 0, .int .i64 0, .int .i64 27, .int .i64 0, .int .i64 0, .int .i64 18, .int .i64 0, .int .i64 0]⟩ 23) e1 (Nat.le_refl _)
  simp only
  generalize w1.alloc (.cells ⟨[.int .i64 21, .int .i64 0, .int .i64 0, .int .i64 27, .int .i64 0, .int .i64 0, .int .i64 18, .int .i64 0, .int .i64 0]⟩ 23) = w2 at *
  have hw2 := e2.after (Below.refl _ _)
  obtain ⟨t1, t2⟩ := tm hbf.1 (n := 5) (by omega)
  have hk0 : Int.tmod before 5 = ((Int.tmod before 5).toNat : Int) := by omega
  intro i _ j _
  have hh : CodeAt w2 (some ⟨w1.heap.size, 0, none⟩) 3 hF.code := code_row (xs := hF.code) ho2 rfl (by decide)
  cases deep with
  | true =>
    rw [if_pos rfl]
    refine expo_alloc hw2.size fun w3 w4 hs3 e4 hlt4 ho4 => ?_
    exact b0_3 hv (by omega) hbf hk0 (deep := true) rfl (e4.after hw2) ⟨code_row (xs := dF.code) ho4 rfl (by decide), RowAt.keep InsE.kept hh (ext_keeps e4)⟩
  | false =>
    rw [if_neg (by simp)]
    exact b0_3 hv (by omega) hbf hk0 (deep := false) rfl hw2 ⟨hh, hh⟩
end Go.Proofs.Ytidcpndlloppdaa
