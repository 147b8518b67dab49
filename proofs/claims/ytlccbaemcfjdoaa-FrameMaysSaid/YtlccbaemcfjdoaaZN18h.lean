/-
  Layer 18: the law's function FrameMays returns true.
  Conditions: the numbers, and the frame, lie in memory as told; the frame's lists are not too long.
-/
import Derived.Test.YtlccbaemcfjdoaaZX20
import Derived.Test.YtlccbaemcfjdoaaZW10
set_option linter.unusedVariables false
set_option linter.unusedSimpArgs false
set_option maxRecDepth 100000
namespace Go.Proofs.Ytlccbaemcfjdoaa
open Go.RowKit
section
variable {w0 : World} {p : List Fnc} {C : Option Addr} {c' q11 q9 : Nat}
theorem b0_10 {w : World} (hw : Below w0.heap.size w0 w) (hp : ProgAt w C p.length p) (hs : Sized p) {y : Frm} {sy : Sls} (hy : FrmAt w y sy) :
    V10.b0 w0.heap.size (IsV w0 (.bool true)) q11 y.f y.pc y.mode y.dfd y.value sy.D y.dfs.length sy.dc sy.L y.locals.length sy.lc sy.O y.ops.length sy.oc q9 C p.length c' w := by
  unfold V10.b0
  refine call_gives hw (fun w1 e1 _ => gives49 (x := y) (s := sy) (RowAt.keep FncE.kept hp (ext_keeps e1)) hs (hy.keep (ext_keeps e1))) fun w1 e1 hw1 => ⟨_, rfl, ?_⟩
  refine call_gives hw1 (fun w2 e2 _ => gives50 (x := y) (s := sy) (RowAt.keep FncE.kept hp (ext_keeps (e1.trans e2))) (hy.keep (ext_keeps (e1.trans e2)))) fun w2 e2 hw2 => ⟨_, rfl, ?_⟩
  rw [if_pos (by simp)]
  exact call_gives hw2 (fun w3 _ _ => gives47 w3) fun w3 _ hw3 => ⟨_, rfl, ret_is hw3 rfl⟩
end
theorem b0_10l {w0 : World} {p : List Fnc} {C : Option Addr} {c' q11 q9 : Nat} {w : World} (hw : Below w0.heap.size w0 w) (hp : ProgAt w C p.length p) (hs : Sized p) {y : Frm} {sy : Sls} (hy : FrmAt w y sy) {dl ll ol : Nat} (h1 : y.dfs.length = dl) (h2 : y.locals.length = ll) (h3 : y.ops.length = ol) {f pc mode value : Int} {dfd : Bool} {D L O : Option Addr} {dc lc oc : Nat} (e1 : y.f = f) (e2 : y.pc = pc) (e3 : y.mode = mode) (e4 : y.dfd = dfd) (e5 : y.value = value) (e6 : sy.D = D) (e7 : sy.dc = dc) (e8 : sy.L = L) (e9 : sy.lc = lc) (e10 : sy.O = O) (e11 : sy.oc = oc) :
    V10.b0 w0.heap.size (IsV w0 (.bool true)) q11 f pc mode dfd value D dl dc L ll lc O ol oc q9 C p.length c' w := by
  subst h1 h2 h3 e1 e2 e3 e4 e5 e6 e7 e8 e9 e10 e11
  exact b0_10 hw hp hs hy
theorem FrmOwn.locs {B B' : Nat} {w w' : World} {y : Frm} {sy : Sls} {p : List Fnc} (h : FrmOwn w B y sy) (hs : Sized p) (hm : mayM p y = true) (he : ExtS B' (fun k => (Value.slice sy.L y.locals.length sy.lc).ownBlock = some k) w w') {L' : Option Addr} {lc' : Nat} {ls : List Int} (hl : Nums .u64 w' L' ls.length ls) :
    FrmAt w' { y with locals := ls } { sy with L := L', lc := lc' } := by
  have h1 := (may_small hs hm).1
  have h2 := (may_small hs hm).2.1
  have h4 := (may_small hs hm).2.2.2.1
  obtain ⟨vs, hv, ha⟩ := h.dfs
  have hd : OwnDs w' B (.slice sy.D y.dfs.length sy.dc) y.dfs vs := ⟨he.owns hv.row fun k hk hS => owns_ne hv.row h.locals (by decide) hk hS, hv.len, fun i d u hdd huu => he.owns (hv.args i d u hdd huu) fun k hk hS => (ha i u huu k hk).1 hS⟩
  obtain ⟨A, c, hvv, hN⟩ := hd.dfs (by omega) (fun d hdd => by have := h2 d hdd; omega)
  cases hvv
  obtain ⟨A2, c2, hv2, hN2, _⟩ := ownws_nums (he.owns h.ops fun k hk hS => h.apart k hS hk) (by omega)
  cases hv2
  exact ⟨RowAt.keep DfrE.kept hN newW_in, hl, hN2⟩
theorem FrmOwn.dfrs {B B' : Nat} {w w' : World} {y : Frm} {sy : Sls} {p : List Fnc} (h : FrmOwn w B y sy) (hs : Sized p) (hm : mayM p y = true) (he : ExtS B' (fun k => (Value.slice sy.D y.dfs.length sy.dc).ownBlock = some k) w w') {D' : Option Addr} {dc' : Nat} {ds : List Dfr} (hd : Dfrs w' D' ds.length ds) :
    FrmAt w' { y with dfs := ds } { sy with D := D', dc := dc' } := by
  obtain ⟨h1, h2, h3, h4, _⟩ := may_small hs hm
  obtain ⟨vs, hv, ha⟩ := h.dfs
  have other : ∀ {v : Value} {n : Nat} {xs : List Value}, w.ownsRow B 51 1 v n xs → w'.ownsRow B 51 1 v n xs := fun ho => he.owns ho fun k hk hS => owns_ne ho hv.row (by decide) hk hS
  obtain ⟨A1, c1, hv1, hN1, _⟩ := ownws_nums (other h.locals) (by omega)
  cases hv1
  obtain ⟨A2, c2, hv2, hN2, _⟩ := ownws_nums (other h.ops) (by omega)
  cases hv2
  exact ⟨hd, hN1, hN2⟩
theorem dfrs_src {w : World} {a : Addr} {xs : List Dfr} (h : Dfrs w (some a) xs.length xs) : ∃ vs : List Value, vs.length = xs.length ∧ (∀ (i : Nat) (d : Dfr) (u : Value), xs[i]? = some d → vs[i]? = some u → ∃ A c, u = .slice A d.args.length c ∧ Nums .u64 w A d.args.length d.args) ∧ ∀ j u, (flatC (fun (d : Dfr) (v : Value) => [.int .i64 d.f, v]) xs vs)[j]? = some u → w.cell? (a.add j) = some u := by
  obtain ⟨vs, hl, hQ⟩ := each_some (Q := fun i (d : Dfr) (u : Value) => w.cell? ((a.add (i * 2)).add 0) = some (.int .i64 d.f) ∧ w.cell? ((a.add (i * 2)).add 1) = some u ∧ ∃ A c, u = .slice A d.args.length c ∧ Nums .u64 w A d.args.length d.args) (xs := xs) (fun i d hd => by
    obtain ⟨p, hp, h0, A, c, h1, hn⟩ := h.get i d hd
    cases hp
    exact ⟨_, h0, h1, A, c, rfl, hn⟩) xs.length (Nat.le_refl _)
  refine ⟨vs, hl, fun i d u hd hu => (hQ i d u hd hu).2.2, fun j u hj => ?_⟩
  obtain ⟨i, r, d, v, rfl, hd, hv, hu⟩ := flatC_inv (cs := fun (d : Dfr) (v : Value) => [.int .i64 d.f, v]) (sz := 2) (fun _ _ => rfl) hj
  obtain ⟨h0, h1, _⟩ := hQ i d v hd hv
  rw [← adr_add]
  match r, hu with
  | 0, hu => simp at hu; subst hu; exact h0
  | 1, hu => simp at hu; subst hu; exact h1
theorem dfsV_flat : ∀ (ds : List Dfr) (vs : List Value), dfsV ds vs = flatC (fun (d : Dfr) (v : Value) => [.int .i64 d.f, v]) ds vs
  | [], _ => by simp [dfsV, flatC]
  | _ :: _, [] => by simp [dfsV, flatC]
  | d :: ds, v :: vs => by simp [dfsV, flatC, dfsV_flat ds vs]
theorem dfs_append : ∀ {ds es : List Dfr} {vs us : List Value}, vs.length = ds.length → dfsV (ds ++ es) (vs ++ us) = dfsV ds vs ++ dfsV es us
  | [], es, [], us, _ => rfl
  | [], _, _ :: _, _, h => by simp at h
  | _ :: _, _, [], _, h => by simp at h
  | d :: ds, es, v :: vs, us, h => by
    have := dfs_append (ds := ds) (es := es) (vs := vs) (us := us) (by simpa using h)
    simp only [List.cons_append, dfsV, this]
theorem gives10 {w : World} {A A1 : Option Addr} {l c l1 c1 : Nat} {ns fs : List Int} (hns : BytesAt w A l c ns) (hfs : BytesAt w A1 l1 c1 fs) {x : Frm} {s : Sls} (hx : FrmAt w x s) (hdn : x.dfs.length = 0 → s.D = none → s.dc = 0) (hlen : (x.locals.length : Int) + x.ops.length + x.dfs.length ≤ 1000000000000000) {how : Int} (hhow : 0 ≤ how ∧ how < 256) :
    Gives Try.prog 10 [.slice A l c, .slice A1 l1 c1, frmV x s, .int .u8 how] w (.bool true) := by
  refine gives_of (V10.sound ?_)
  intro q6 _
  rw [wrap_id (n := (x.locals.length : Int) + x.ops.length) (by omega) (by omega), wrap_id (n := (x.locals.length : Int) + x.ops.length + x.dfs.length) (by omega) (by omega)]
  by_cases hbig : (x.locals.length : Int) + x.ops.length + x.dfs.length > 500
  · rw [if_pos (decide_eq_true hbig)]
    exact call_gives (Below.refl _ _) (fun w1 _ _ => gives47 w1) fun w1 _ hw1 => ⟨_, rfl, ret_is hw1 rfl⟩
  rw [if_neg (by simpa using hbig)]
  refine call_madeN (Below.refl _ _) hns fun p C cp w1 hmade hp hc he hw => ⟨C, p.length, cp, rfl, ?_⟩
  intro q9 _
  have hs : Sized p := hmade.sized
  have hpl : 1 ≤ p.length ∧ p.length ≤ 1000 := ⟨hmade.pos, by have := hmade.few; omega⟩
  refine expo_alloc hw.size fun w3 w4 hs3 e4 hl4 ho4 => ?_
  have hw4 := e4.after hw
  have hn4 : NumsIn w w4 w3.heap.size := ⟨A1, l1, c1, fs, ho4, hfs⟩
  have hB3 : w.heap.size ≤ w3.heap.size := Nat.le_trans hw.size hs3
  have hp1 : ProgAt w1 C p.length p := RowAt.keep FncE.kept hp newW_in
  have hp4 : ∀ j, w1.heap.size ≤ j → ProgAt (off j w4) C p.length p := fun j hj => RowAt.keep FncE.kept hp1 (off_old hj fun q v hq => e4.cell hq)
  refine call_frame hw4 hn4 hB3 (hp4 _ hs3) hs hpl fun y sy w5 hmay hyw hown e5 hn5 hw5 => ⟨_, _, _, _, _, _, _, _, _, _, _, _, _, _, rfl, ?_⟩
  intro q11 _
  have hp5 : ProgAt w5 C p.length p := RowAt.keep FncE.kept hp1 fun q v hq => e5.cell (e4.cell hq) (by have := cell_lt hq; omega)
  have hx5 := hx.keep (below_keeps hw5)
  refine call_gives hw5 (fun w6 e6 _ => gives49 (x := x) (s := s) (RowAt.keep FncE.kept hp5 (ext_keeps e6)) hs (hx5.keep (ext_keeps e6))) fun w6 e6 hw6 => ⟨_, rfl, ?_⟩
  refine call_gives hw6 (fun w7 e7 _ => gives50 (x := x) (s := s) (RowAt.keep FncE.kept hp5 (ext_keeps (e6.trans e7))) (hx5.keep (ext_keeps (e6.trans e7)))) fun w7 e7 hw7 => ⟨_, rfl, ?_⟩
  rw [if_pos (by simp)]
  have hown7 := (hown.ext e6).ext e7
  have hY7 := (hown7.mayAt hs hmay).keep newW_in
  have hp7 := RowAt.keep FncE.kept hp5 (ext_keeps (e6.trans e7))
  refine call_gives hw7 (fun w8 e8 _ => gives49 (x := y) (s := sy) (RowAt.keep FncE.kept hp7 (ext_keeps e8)) hs (hY7.keep (ext_keeps e8))) fun w8 e8 hw8 => ⟨_, rfl, ?_⟩
  rw [hmay, if_neg (by simp)]
  have hown8 := hown7.ext e8
  have hY8 := hY7.keep (ext_keeps e8)
  have hp8 := RowAt.keep FncE.kept hp7 (ext_keeps e8)
  have E8 := (e6.trans e7).trans e8
  have hx8 := hx5.keep (ext_keeps E8)
  have hn8 := hn5.ext E8
  obtain ⟨m1, m2, m3, m4, m5, m6⟩ := may_small hs hmay
  have hs4 := hw4.size
  have hs5 := e5.size
  have hs8 := E8.size
  have hB4 : w4.heap.size ≤ w8.heap.size := by omega
  refine ⟨by omega, ?_⟩
  by_cases c0 : Int.tmod how 8 = 0
  · rw [if_pos (by simpa using c0)]
    exact b0_10l (y := { y with f := x.f }) (sy := sy) hw8 hp8 hs ⟨hY8.dfs, hY8.locals, hY8.ops⟩ rfl rfl rfl rfl rfl rfl rfl rfl rfl rfl rfl rfl rfl rfl
  rw [if_neg (by simpa using c0)]
  by_cases c1 : Int.tmod how 8 = 1
  · rw [if_pos (by simpa using c1)]
    exact b0_10l (y := { y with pc := x.pc }) (sy := sy) hw8 hp8 hs ⟨hY8.dfs, hY8.locals, hY8.ops⟩ rfl rfl rfl rfl rfl rfl rfl rfl rfl rfl rfl rfl rfl rfl
  rw [if_neg (by simpa using c1)]
  by_cases c2 : Int.tmod how 8 = 2
  · rw [if_pos (by simpa using c2)]
    exact b0_10l (y := { y with mode := x.mode }) (sy := sy) hw8 hp8 hs ⟨hY8.dfs, hY8.locals, hY8.ops⟩ rfl rfl rfl rfl rfl rfl rfl rfl rfl rfl rfl rfl rfl rfl
  rw [if_neg (by simpa using c2)]
  by_cases c3 : Int.tmod how 8 = 3
  · rw [if_pos (by simpa using c3)]
    refine push_wordO hw8.size hB4 hown8.locals (by omega) fun v w9 e9 ho9 _ => ?_
    obtain ⟨A9, c9, rfl⟩ := owns_slice0 ho9
    refine ⟨A9, _, c9, rfl, ?_⟩
    have hl9 : (y.locals ++ [0]).length = y.locals.length + 1 := by simp
    obtain ⟨A', c'', hv, hN, _⟩ := owns_nums ho9 (by simp only [maxLen]; omega)
    cases hv
    have hw9 := e9.after (fun k hk => by have := (hown8.locals.lt k hk).1; omega) hw8
    have hp9 : ProgAt w9 C p.length p := RowAt.keep FncE.kept hp1 fun q v hq => e9.cell (E8.cell (e5.cell (e4.cell hq) (by have := cell_lt hq; omega))) fun hk => by have := (hown8.locals.lt _ hk).1; have := cell_lt hq; have := e4.size; omega
    have hF9 := hown8.locs hs hmay e9 (L' := A9) (lc' := c9) (ls := y.locals ++ [0]) (by rw [hl9]; exact hN)
    exact b0_10l hw9 hp9 hs hF9 rfl hl9 rfl rfl rfl rfl rfl rfl rfl rfl rfl rfl rfl rfl
  rw [if_neg (by simpa using c3)]
  by_cases c4 : Int.tmod how 8 = 4
  · rw [if_pos (by simpa using c4)]
    exact b0_10l (y := { y with ops := x.ops }) (sy := { sy with O := s.O, oc := s.oc }) hw8 hp8 hs ⟨hY8.dfs, hY8.locals, hx8.ops⟩ rfl rfl rfl rfl rfl rfl rfl rfl rfl rfl rfl rfl rfl rfl
  rw [if_neg (by simpa using c4)]
  obtain ⟨vs, hv, ha⟩ := hown8.dfs
  by_cases c5 : Int.tmod how 8 = 5
  · rw [if_pos (by simpa using c5)]
    have hDx := hx8.dfs
    have fin : ∀ (D' : Option Addr) (dc' : Nat) (w9 : World), ExtS w.heap.size (fun k => (Value.slice sy.D y.dfs.length sy.dc).ownBlock = some k) w8 w9 → Dfrs w9 D' (y.dfs ++ x.dfs).length (y.dfs ++ x.dfs) → V10.b0 w.heap.size (IsV w (.bool true)) q11 y.f y.pc y.mode y.dfd y.value D' (y.dfs ++ x.dfs).length dc' sy.L y.locals.length sy.lc sy.O y.ops.length sy.oc q9 C p.length cp w9 := fun D' dc' w9 e9 hd => by
      have hw9 := e9.after (fun k hk => by have := (hv.row.lt k hk).1; omega) hw8
      exact b0_10l hw9 (RowAt.keep FncE.kept hp1 fun q v hq => e9.cell (E8.cell (e5.cell (e4.cell hq) (by have := cell_lt hq; omega))) fun hk => by have := (hv.row.lt _ hk).1; have := cell_lt hq; have := e4.size; omega) hs (hown8.dfrs hs hmay e9 (dc' := dc') hd) rfl rfl rfl rfl rfl rfl rfl rfl rfl rfl rfl rfl rfl rfl
    have hb32 : Try.t75.bytes = 32 := by kernel_rfl
    cases hD : s.D with
    | none =>
      have hxn : x.dfs = [] := by
        cases hxd : x.dfs with
        | nil => rfl
        | cons d r =>
          rw [hxd, hD] at hDx
          obtain ⟨q, hq, _⟩ := hDx.get 0 d rfl
          cases hq
      have hdc := hdn (by rw [hxn]; rfl) hD
      rw [hxn, hdc]
      intro w9 he9 hxx
      have hr := run_append_owned_none (P := Try.prog) (w := w9) w4.heap.size 65 65 75 Try.t75 2 (by kernel_rfl) (by kernel_rfl) (.slice sy.D y.dfs.length sy.dc) y.dfs.length _ (he9.owns hv.row)
      refine ⟨_, w9, hr, ⟨Nat.le_refl _, fun _ _ => rfl⟩, hide_any fun w10 hm => ?_⟩
      have h1 := masked he9 hxx (Nat.le_trans hw8.size he9.size) (Below.refl _ _) hm
      refine ⟨_, _, _, rfl, ?_⟩
      have := fin sy.D sy.dc w10 h1.toS (by rw [hxn, List.append_nil]; exact RowAt.keep DfrE.kept hY8.dfs (ext_keeps h1))
      rw [hxn, List.append_nil] at this
      exact this
    | some a =>
      rw [hD] at hDx
      obtain ⟨us, hul, hus, hsrc⟩ := dfrs_src hDx
      have hfl := flatC_len (cs := fun (d : Dfr) (v : Value) => [.int .i64 d.f, v]) (sz := 2) (fun _ _ => rfl) hul
      refine append_own (t := 65) (e := 75) (i := Try.t75) (z := .agg ⟨[.int .i64 0, .slice none 0 0]⟩) (size := 2) (bytes := 32) (b0 := w4.heap.size) (by kernel_rfl) (by kernel_rfl) (by kernel_rfl) (by kernel_rfl) hb32 rfl (by omega) hv.row (m := x.dfs.length) hfl hsrc (fun u hu => ?_) (by simp only [maxLen]; omega) (by omega) hw8.size hB4 fun v' w9 e9 ho9 _ => ?_
      · obtain ⟨j, hj, he⟩ := List.getElem_of_mem hu
        obtain ⟨i, r, d, v, _, hd, hvv, h⟩ := flatC_inv (cs := fun (d : Dfr) (v : Value) => [.int .i64 d.f, v]) (sz := 2) (fun _ _ => rfl) (List.getElem?_eq_some_iff.2 ⟨hj, he⟩)
        have hmem := List.mem_of_getElem? h
        simp only [List.mem_cons, List.not_mem_nil, or_false] at hmem
        rcases hmem with rfl | rfl
        · rfl
        · obtain ⟨A', c', rfl, _⟩ := hus i d _ hd hvv; rfl
      · rw [← dfsV_flat, ← dfs_append hv.len] at ho9
        obtain ⟨A9, c9, rfl⟩ := owns_slice0 ho9
        refine ⟨A9, _, c9, rfl, ?_⟩
        have hla : (y.dfs ++ x.dfs).length = y.dfs.length + x.dfs.length := by simp
        rw [← hla] at ho9 ⊢
        refine fin A9 c9 w9 e9 ⟨rfl, by simp only [maxLen]; omega, fun i d hd => ?_⟩
        have hi := (List.getElem?_eq_some_iff.1 hd).1
        have hvl := hv.len
        have hu : (vs ++ us)[i]? = some ((vs ++ us)[i]'(by rw [List.length_append]; omega)) := List.getElem?_eq_getElem _
        generalize (vs ++ us)[i]'(by rw [List.length_append]; omega) = u at hu
        obtain ⟨k1, k2⟩ := dfs_get hd hu
        obtain ⟨g9, cap9, hv9, _, _⟩ := owns_some ho9 (by omega)
        cases hv9
        have d1 := owns_cell ho9 k1
        have d2 := owns_cell ho9 k2
        obtain ⟨A', c', rfl, hN⟩ : ∃ A c, u = .slice A d.args.length c ∧ Nums .u64 w9 A d.args.length d.args := by
          by_cases hlt : i < y.dfs.length
          · rw [List.getElem?_append_left hlt] at hd
            rw [List.getElem?_append_left (by omega)] at hu
            have harg := hv.args i d u hd hu
            obtain ⟨A', c', hvv, hn, _⟩ := ownws_nums (e9.owns harg fun k hk hS => owns_ne harg hv.row (by decide) hk hS) (by have := m2 d (List.mem_of_getElem? hd); omega)
            exact ⟨A', c', hvv, hn⟩
          · rw [List.getElem?_append_right (by omega)] at hd
            rw [List.getElem?_append_right (by omega), hvl] at hu
            obtain ⟨A', c', hvv, _⟩ := hus _ d u hd hu
            subst hvv
            -- the arguments' words lie where they lay
            obtain ⟨q, hq, _, A0, c0', hc0, hn0⟩ := hx.dfs.get _ d hd
            have hA0 := (hx8.dfs.get _ d hd)
            rw [hD] at hq
            cases hq
            have hcell := below_keeps hw8 _ _ hc0
            have hsame : w8.cell? ((a.add ((i - y.dfs.length) * 2)).add 1) = some (.slice A' d.args.length c') := by
              have h2 := flatC_get (cs := fun (d : Dfr) (v : Value) => [.int .i64 d.f, v]) (sz := 2) (fun _ _ => rfl) hd hu (j := 1) rfl
              have := hsrc _ _ h2
              rwa [← adr_add] at this
            rw [hcell] at hsame
            obtain ⟨rfl, _, rfl⟩ := Value.slice.inj (Option.some.inj hsame)
            exact ⟨_, _, rfl, RowAt.keep (NumE.kept _) hn0 fun q v hq => e9.cell (below_keeps hw8 q v hq) fun hk => by have := (hv.row.lt _ hk).1; have := cell_lt hq; omega⟩
        refine ⟨_, rfl, ?_⟩
        unfold DfrE
        simp only [own_add, bx_add, Nat.zero_add]
        exact ⟨d1, A', c', d2, hN⟩
  rw [if_neg (by simpa using c5)]
  by_cases c6 : Int.tmod how 8 = 6
  · rw [if_pos (by simpa using c6)]
    refine call_n hw8.size hn8 (fun w9 e9 => turns51 (hn8.ext e9) fun q v hq => e9.cell (below_keeps hw8 q v hq)) fun v w9 hR e9 hn9 => ?_
    obtain ⟨n, rfl, hn0, hn1⟩ := hR
    have hw9 := e9.after (fun k hk => by subst hk; exact hB3) hw8
    rw [wrap_id (n := (p.length : Int) + 1) (by omega) (by omega)]
    refine ⟨n, rfl, by omega, ?_⟩
    have hown9 := hown8.extS e9 (fun k hk hS => by omega)
    obtain ⟨vs9, hv9, ha9⟩ := hown9.dfs
    have hs9 := e9.size
    refine push_dfr (d := ⟨Int.tmod n ((p.length : Int) + 1), []⟩) (u := .slice none 0 0) hw9.size (by omega) hv9 (World.ownsRow_nil _ _ _ _) (by omega) fun v w10 e10 ho10 => ?_
    obtain ⟨A10, c10, hvv, hN10⟩ := ho10.dfs (by simp; omega) (fun d hd => by
      rcases List.mem_append.1 hd with hd | hd
      · have := m2 d hd; omega
      · simp at hd; subst hd; simp)
    subst hvv
    have hl10 : (y.dfs ++ [(⟨Int.tmod n ((p.length : Int) + 1), []⟩ : Dfr)]).length = y.dfs.length + 1 := by simp
    refine ⟨A10, _, c10, rfl, ?_⟩
    have hw10 := e10.after (fun k hk => by have := (hv9.row.lt k hk).1; omega) hw9
    have hp10 : ProgAt w10 C p.length p := RowAt.keep FncE.kept hp1 fun q v hq => e10.cell (e9.cell (E8.cell (e5.cell (e4.cell hq) (by have := cell_lt hq; omega))) (by have := cell_lt hq; omega)) fun hk => by have := (hv9.row.lt _ hk).1; have := cell_lt hq; have := e4.size; omega
    have hd10 : Dfrs w10 A10 (y.dfs ++ [(⟨Int.tmod n ((p.length : Int) + 1), []⟩ : Dfr)]).length (y.dfs ++ [(⟨Int.tmod n ((p.length : Int) + 1), []⟩ : Dfr)]) := RowAt.keep DfrE.kept hN10 newW_in
    have hF10 := hown9.dfrs hs hmay e10 (dc' := c10) hd10
    rw [hl10]
    exact b0_10l hw10 hp10 hs hF10 hl10 rfl rfl rfl rfl rfl rfl rfl rfl rfl rfl rfl rfl rfl
  rw [if_neg (by simpa using c6)]
  exact b0_10l (y := { y with locals := x.locals }) (sy := { sy with L := s.L, lc := s.lc }) hw8 hp8 hs ⟨hY8.dfs, hx8.locals, hY8.ops⟩ rfl rfl rfl rfl rfl rfl rfl rfl rfl rfl rfl rfl rfl rfl
end Go.Proofs.Ytlccbaemcfjdoaa
