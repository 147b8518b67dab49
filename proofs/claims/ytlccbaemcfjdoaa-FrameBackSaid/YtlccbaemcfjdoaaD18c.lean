/-
  Layer 18: frames read by the document's own answer, by the plain rule.
  Conditions: the words, and the program, lie in memory as told; the program's functions are sized.
-/
import Derived.Test.YtlccbaemcfjdoaaD18b
set_option linter.unusedVariables false
set_option linter.unusedSimpArgs false
namespace Go.Proofs.Ytlccbaemcfjdoaa
open Go.RowKit

theorem take_snoc {l : List Int} {o j : Nat} (h : o + j < l.length) : (l.drop o).take j ++ [l.getD (o + j) 0] = (l.drop o).take (j + 1) := by
  have hg : (l.drop o)[j]? = some (l.getD (o + j) 0) := by rw [List.getElem?_drop]; exact getD_get h
  rw [List.take_add_one, hg]; rfl
theorem yields55 {w : World} {A P : Option Addr} {l c cap : Nat} {mem : List Int} (hm : WordsAt w A l c mem) {p : List Fnc} (hp : ProgAt w P p.length p) (hs : Sized p) (hpl : p.length ≤ 1000) (at_ : Int) :
    Yields Try.prog 55 [.slice A l c, .agg ⟨[.slice P p.length cap]⟩, .int .i64 at_] w (ReadQ (readM p mem at_) w) := by
  refine yields_of (V55.sound ?_)
  intro q4 _ q6 _
  obtain rfl := hm.nums.len
  have hml := hm.small
  have bad : ∀ {w2 : World} {e : Int}, Below w.heap.size w w2 → readM p mem at_ = (frm0, 0, e) → Ret w.heap.size w2 (IsQ w (ReadQ (readM p mem at_) w) (.tuple ⟨[frm0V, .int .i64 0, .int .i64 e]⟩)) := fun hw hr =>
    ret_q hw fun w3 _ => ⟨⟨none, 0, none, 0, none, 0⟩, by rw [hr]; rfl, by rw [hr]; exact frm0_at _⟩
  refine call_gives (Below.refl _ _) (fun w1 e1 _ => gives43 (hm.keep (ext_keeps e1)) at_) fun w1 e1 hw1 => ?_
  refine ⟨_, _, _, _, _, _, _, _, _, rfl, ?_⟩
  intro q9 _
  by_cases he : (getM mem at_).2 = 0
  case neg =>
    rw [if_pos (by simpa using he)]
    exact bad hw1 (by unfold readM; rw [if_pos he])
  rw [if_neg (by simpa using he)]
  have hR0 : readM p mem at_ = readH p mem at_ (getM mem at_).1 := by unfold readM; rw [if_neg (by simpa using he)]
  obtain ⟨hin7, f0, f1, pc0, pc1, d0, o0, m0, m1, v0, v1, b0, b1⟩ := get_zero hm.wd he
  generalize (getM mem at_).1 = hd at *
  have hw7 := of_decide_eq_true hin7
  by_cases hfl : hd.f ≥ p.length
  · rw [if_pos (by simpa using hfl)]
    exact bad hw1 (by rw [hR0, readH_none (fnAt_none (.inr (by omega)))])
  rw [if_neg (by simpa using hfl)]
  obtain ⟨G, q, C, cc, hG, hq, c0, c1, c2, c3, hcode⟩ := prog_at hp (i := hd.f.toNat) (by omega)
  subst hq
  have hsz := hs G (List.mem_of_getElem? hG)
  have hbd := sized_bd hsz
  have hfn := fnAt_some (p := p) (by omega) hG
  rw [readH_some hfn] at hR0
  refine ⟨q, rfl, by omega, by omega, G.params, e1.cell c0, G.locals, e1.cell c1, G.refs, e1.cell c2, C, G.code.length, cc, e1.cell c3, ?_⟩
  intro q11 _
  have six : ∀ {w4}, Below w.heap.size w w4 → ¬ (hd.pc ≤ G.code.length ∧ hd.dfs ≤ roomM G ∧ hd.ops ≤ 8) → Ret w.heap.size w4 (IsQ w (ReadQ (readM p mem at_) w) (.tuple ⟨[frm0V, .int .i64 0, .int .i64 6]⟩)) := fun hw hn => bad hw (by rw [hR0, if_neg hn])
  by_cases t0 : hd.pc > G.code.length
  · rw [if_neg (by simpa using t0)]; exact six hw1 (by omega)
  rw [if_pos (by simpa using t0)]
  have codeW : ∀ {w'}, Below w.heap.size w w' → CodeAt w' C G.code.length G.code := fun hb => RowAt.keep InsE.kept hcode (below_keeps hb)
  refine call_gives hw1 (fun w2 e2 _ => gives101 (RowAt.keep InsE.kept (codeW hw1) (ext_keeps e2))) fun w2 e2 hw2 => ⟨_, rfl, ?_⟩
  by_cases t1 : hd.dfs > roomM G
  · rw [if_neg (by simpa using t1)]; exact six hw2 (by omega)
  rw [if_pos (by simpa using t1)]
  by_cases t2 : hd.ops > 8
  · rw [if_pos (by simpa using t2)]; exact six hw2 (by omega)
  rw [if_neg (by simpa using t2)]
  have hcond : hd.pc ≤ G.code.length ∧ hd.dfs ≤ roomM G ∧ hd.ops ≤ 8 := by omega
  rw [if_pos hcond] at hR0
  refine call_gives hw2 (fun w3 e3 _ => gives33 (RowAt.keep InsE.kept (codeW hw2) (ext_keeps e3)) _ _ _) fun w3 e3 hw3 => ⟨_, rfl, ?_⟩
  refine call_gives hw3 (fun w4 _ _ => gives95 hm.nums.small at_ _) fun w4 e4 hw4 => ⟨_, rfl, ?_⟩
  have hsF := sizeF_eq hsz
  have hah : 7 ≤ aheadM G ∧ aheadM G ≤ 23 := by unfold aheadM; split <;> omega
  have heq : allM mem.length at_ (sizeM G.locals G.code) = inM mem.length at_ (sizeF G) := by
    show allM mem.length at_ (sizeF G) = _
    unfold allM inM; exact decide_eq_decide.2 (by omega)
  rw [heq]
  cases hin : inM mem.length at_ (sizeF G) with
  | false =>
    rw [hin] at hR0
    simp only [Bool.false_eq_true, if_false] at hR0
    rw [if_pos (by simp)]
    exact bad hw4 hR0
  | true =>
    rw [hin] at hR0
    simp only [if_true] at hR0
    rw [if_neg (by simp)]
    intro q12 _
    have hii := of_decide_eq_true hin
    have hat : ((at_.toNat : Nat) : Int) = at_ := Int.toNat_of_nonneg hii.1
    have hroom : hd.dfs.toNat ≠ 0 → roomM G = 4 ∧ aheadM G = 23 := fun hne => by
      have h7 := hcond.2.1
      unfold roomM at h7 ⊢
      unfold aheadM
      split at h7
      · rename_i hdd; rw [if_pos hdd, if_pos hdd]; exact ⟨rfl, rfl⟩
      · omega
    have hroomb : roomM G ≤ 4 := by unfold roomM; split <;> omega
    have hra : aheadM G = 7 + 4 * (roomM G : Int) := by unfold aheadM roomM; split <;> rfl
    have hnd : ((hd.dfs.toNat : Nat) : Int) = hd.dfs := Int.toNat_of_nonneg d0
    have hln : ((G.locals.toNat : Nat) : Int) = G.locals := Int.toNat_of_nonneg (by omega)
    have hop : ((hd.ops.toNat : Nat) : Int) = hd.ops := Int.toNat_of_nonneg o0
    obtain ⟨a, rfl⟩ : ∃ a, A = some a := by
      obtain ⟨_, p, _, hp, _⟩ := hm.nums.at (i := 0) (by omega)
      exact ⟨p, hp⟩
    have word : ∀ {w'} {j : Nat}, Below w.heap.size w w' → j < mem.length → w'.cell? (a.add j) = some (.int .u64 (mem.getD j 0)) := fun {w' j} hb hj => by
      obtain ⟨pa, hpa, hc⟩ := (hm.keep (below_keeps hb)).nums.get j _ (getD_get hj)
      cases hpa
      simpa [NumE] using hc
    have hk7 : IntKind.wrap .i64 (at_ + 7) = ((at_.toNat + 7 : Nat) : Int) := by rw [wrap_id (by omega) (by omega)]; push_cast; omega
    rw [hk7]
    -- the operands
    have loop3 : ∀ {D L : Option Addr} {dl dc ll lc : Nat} {vs : List Value} {locs : List Int} (ws : World), Below w.heap.size w ws → OwnDs ws w.heap.size (.slice D dl dc) (dfsR p mem (at_.toNat + 7) hd.dfs.toNat) vs → OwnWs ws w.heap.size (.slice L ll lc) locs → dl = hd.dfs.toNat → ll = locs.length → locs = (frmR p mem at_ hd G).locals →
        (∀ d ∈ dfsR p mem (at_.toNat + 7) hd.dfs.toNat, d.args.length ≤ 3) → readM p mem at_ = (frmR p mem at_ hd G, hd.below, 0) →
        ∀ (k i : Nat) (w' : World) (O : Option Addr) (oc : Nat), hd.ops.toNat < i + k → i ≤ hd.ops.toNat → Ext w.heap.size ws w' → w'.ownsRow ws.heap.size 51 1 (.slice O i oc) i (((mem.drop (at_.toNat + (aheadM G + G.locals).toNat)).take i).map (.int .u64)) →
          V55.l3 w.heap.size (IsQ w (ReadQ (readM p mem at_) w)) k (some a) mem.length c ((at_.toNat + (aheadM G + G.locals).toNat : Nat) : Int) i q12 hd.f hd.pc hd.mode hd.dfd hd.value D dl dc L ll lc O i oc q9 hd.below hd.f hd.pc hd.mode hd.dfd hd.value hd.dfs hd.ops q6 0 0 0 false 0 none 0 0 none 0 0 none 0 0 w' := by
      intro D L dl dc ll lc vs locs ws hws hds hlo hdl hll hlocs hargs hgood k
      induction k with
      | zero => intros; omega
      | succ k ih =>
        intro i w' O oc hk hi he' ho
        have hw' : Below w.heap.size w w' := he'.after hws
        dsimp -zeta only [V55.l3]
        by_cases hlt : i < hd.ops.toNat
        · rw [if_pos (by simp; omega)]
          have hki : IntKind.wrap .i64 (((at_.toNat + (aheadM G + G.locals).toNat : Nat) : Int) + (i : Int)) = ((at_.toNat + (aheadM G + G.locals).toNat + i : Nat) : Int) := by rw [wrap_id (by omega) (by omega)]; push_cast; rfl
          rw [hki]
          refine ⟨a, rfl, by omega, by omega, _, word (j := (at_.toNat + (aheadM G + G.locals).toNat + i)) hw' (by omega), ?_⟩
          refine push_word (b0 := ws.heap.size) hw'.size he'.size ho (by omega) fun v w6 e6 ho6 => ?_
          obtain ⟨A6, c6, hv6⟩ := owns_slice0 ho6
          subst hv6
          refine ⟨A6, i + 1, c6, rfl, ?_⟩
          have hwi : IntKind.wrap .i64 ((i : Int) + 1) = ((i + 1 : Nat) : Int) := by rw [wrap_id (by omega) (by omega)]; rfl
          rw [hwi]
          rw [take_snoc (by omega)] at ho6
          exact ih (i + 1) w6 A6 c6 (by omega) (by omega) (ext_then he' e6 (fun j hj => (ho.lt j hj).1) hws.size) ho6
        · rw [if_neg (by simp; omega)]
          have hii' : i = hd.ops.toNat := by omega
          have eops : (mem.drop (at_.toNat + (aheadM G + G.locals).toNat)).take i = (frmR p mem at_ hd G).ops := by
            simp only [frmR, sub]
            rw [hii', show (at_ + aheadM G + G.locals).toNat = at_.toNat + (aheadM G + G.locals).toNat by omega]
          have hol : ((mem.drop (at_.toNat + (aheadM G + G.locals).toNat)).take i).length = i := by simp; omega
          refine ret_q hw' fun w8 e8 => ?_
          obtain ⟨D8, c8, hv8, hn8⟩ := (hds.ext he').dfs (by rw [dfsR_len]; omega) (fun d hd' => by have := hargs d hd'; omega)
          rw [dfsR_len, hdl] at hv8
          cases hv8
          obtain ⟨L8, lc8, hvl, hnl⟩ := ownws_new (he'.owns hlo) (by rw [hlocs]; simp [frmR, sub]; omega)
          rw [hll] at hvl
          cases hvl
          have ho' : OwnWs w' w.heap.size (.slice O i oc) ((mem.drop (at_.toNat + (aheadM G + G.locals).toNat)).take i) := by
            unfold OwnWs; rw [hol]; exact owns_base ho hws.size
          obtain ⟨O8, oc8, hvo, hno⟩ := ownws_new ho' (by rw [hol]; omega)
          rw [hol] at hvo
          cases hvo
          have edfs : dfsR p mem (at_.toNat + 7) hd.dfs.toNat = (frmR p mem at_ hd G).dfs := rfl
          refine ⟨⟨D, dc, L, lc, O, oc⟩, ?_, ?_⟩
          · rw [hgood]
            unfold frmV
            simp only
            rw [← hlocs, ← eops, ← edfs, dfsR_len, hol, hdl, hll]
            rfl
          · rw [hgood]
            refine ⟨?_, ?_, ?_⟩
            · simp only
              rw [← edfs]
              exact RowAt.keep DfrE.kept hn8 (newW_keep (Nat.le_refl _) (ext_keeps e8))
            · simp only
              rw [← hlocs]
              exact RowAt.keep (NumE.kept _) hnl (newW_keep (Nat.le_refl _) (ext_keeps e8))
            · simp only
              rw [← eops]
              exact RowAt.keep (NumE.kept _) hno (newW_keep (Nat.le_refl _) (ext_keeps e8))
    -- the locals
    have loop2 : ∀ {D : Option Addr} {dl dc : Nat} {vs : List Value} (ws : World), Below w.heap.size w ws → OwnDs ws w.heap.size (.slice D dl dc) (dfsR p mem (at_.toNat + 7) hd.dfs.toNat) vs → dl = hd.dfs.toNat →
        (∀ d ∈ dfsR p mem (at_.toNat + 7) hd.dfs.toNat, d.args.length ≤ 3) → readM p mem at_ = (frmR p mem at_ hd G, hd.below, 0) →
        ∀ (k i : Nat) (w' : World) (L : Option Addr) (lc : Nat), G.locals.toNat < i + k → i ≤ G.locals.toNat → Ext w.heap.size ws w' → w'.ownsRow ws.heap.size 51 1 (.slice L i lc) i (((mem.drop (at_.toNat + (aheadM G).toNat)).take i).map (.int .u64)) →
          V55.l2 w.heap.size (IsQ w (ReadQ (readM p mem at_) w)) k (some a) mem.length c ((at_.toNat + (aheadM G).toNat : Nat) : Int) i q12 hd.f hd.pc hd.mode hd.dfd hd.value D dl dc L i lc none 0 0 q11 G.params G.locals G.refs C G.code.length cc q9 hd.below hd.f hd.pc hd.mode hd.dfd hd.value hd.dfs hd.ops q6 0 0 0 false 0 none 0 0 none 0 0 none 0 0 w' := by
      intro D dl dc vs ws hws hds hdl hargs hgood k
      induction k with
      | zero => intros; omega
      | succ k ih =>
        intro i w' L lc hk hi he' ho
        have hw' : Below w.heap.size w w' := he'.after hws
        dsimp -zeta only [V55.l2]
        by_cases hlt : i < G.locals.toNat
        · rw [if_pos (by simp; omega)]
          have hki : IntKind.wrap .i64 (((at_.toNat + (aheadM G).toNat : Nat) : Int) + (i : Int)) = ((at_.toNat + (aheadM G).toNat + i : Nat) : Int) := by rw [wrap_id (by omega) (by omega)]; push_cast; rfl
          rw [hki]
          refine ⟨a, rfl, by omega, by omega, _, word (j := (at_.toNat + (aheadM G).toNat + i)) hw' (by omega), ?_⟩
          refine push_word (b0 := ws.heap.size) hw'.size he'.size ho (by omega) fun v w6 e6 ho6 => ?_
          obtain ⟨A6, c6, hv6⟩ := owns_slice0 ho6
          subst hv6
          refine ⟨A6, i + 1, c6, rfl, ?_⟩
          have hwi : IntKind.wrap .i64 ((i : Int) + 1) = ((i + 1 : Nat) : Int) := by rw [wrap_id (by omega) (by omega)]; rfl
          rw [hwi]
          rw [take_snoc (by omega)] at ho6
          exact ih (i + 1) w6 A6 c6 (by omega) (by omega) (ext_then he' e6 (fun j hj => (ho.lt j hj).1) hws.size) ho6
        · rw [if_neg (by simp; omega)]
          have hii' : i = G.locals.toNat := by omega
          have hll : ((mem.drop (at_.toNat + (aheadM G).toNat)).take i).length = i := by simp; omega
          have hkl : IntKind.wrap .i64 (((at_.toNat + (aheadM G).toNat : Nat) : Int) + G.locals) = ((at_.toNat + (aheadM G + G.locals).toNat : Nat) : Int) := by
            rw [wrap_id (by omega) (by omega)]; push_cast; omega
          rw [hkl]
          have ho' : OwnWs w' w.heap.size (.slice L i lc) ((mem.drop (at_.toNat + (aheadM G).toNat)).take i) := by
            unfold OwnWs; rw [hll]; exact owns_base ho hws.size
          have eloc : (mem.drop (at_.toNat + (aheadM G).toNat)).take i = (frmR p mem at_ hd G).locals := by
            simp only [frmR, sub]
            rw [hii', show (at_ + aheadM G).toNat = at_.toNat + (aheadM G).toNat by omega]
          exact ⟨hd.ops.toNat + 1, loop3 w' hw' (hds.ext he') ho' hdl hll.symm eloc hargs hgood (hd.ops.toNat + 1) 0 w' none 0 (by omega) (by omega) (Ext.refl _ _) (World.ownsRow_nil _ _ _ _)⟩
    -- what is deferred
    have loop0 : ∀ (k i : Nat) (w' : World) (D : Option Addr) (dc : Nat) (vs : List Value), hd.dfs.toNat < i + k → i ≤ hd.dfs.toNat → Below w.heap.size w w' → OwnDs w' w.heap.size (.slice D i dc) (dfsR p mem (at_.toNat + 7) i) vs → (∀ j, j < i → mem.getD (at_.toNat + 7 + j * 4) 0 < p.length) → (∀ d ∈ dfsR p mem (at_.toNat + 7) i, d.args.length ≤ 3) →
        V55.l0 w.heap.size (IsQ w (ReadQ (readM p mem at_) w)) k (some a) mem.length c ((at_.toNat + 7 : Nat) : Int) i q12 hd.f hd.pc hd.mode hd.dfd hd.value D i dc none 0 0 none 0 0 q11 G.params G.locals G.refs C G.code.length cc q9 hd.below hd.f hd.pc hd.mode hd.dfd hd.value hd.dfs hd.ops q6 0 0 0 false 0 none 0 0 none 0 0 none 0 0 q4 (some q) p.length cap w' := by
      intro k
      induction k with
      | zero => intros; omega
      | succ k ih =>
        intro i w' D dc vs hk hi hw' hds hok hargs
        dsimp -zeta only [V55.l0]
        by_cases hlt : i < hd.dfs.toNat
        · rw [if_pos (by simp; omega)]
          obtain ⟨hr4, hr23⟩ := hroom (by omega)
          have hki : IntKind.wrap .i64 (((at_.toNat + 7 : Nat) : Int) + IntKind.wrap .i64 ((i : Int) * 4)) = ((at_.toNat + 7 + i * 4 : Nat) : Int) := by
            rw [wrap_id (n := (i : Int) * 4) (by omega) (by omega), wrap_id (by omega) (by omega)]; push_cast; rfl
          rw [hki]
          refine ⟨a, rfl, by omega, by omega, _, word (j := (at_.toNat + 7 + i * 4)) hw' (by omega), ?_⟩
          have hwb := getD_wd hm.wd (at_.toNat + 7 + i * 4)
          rw [wrap_u64 (n := (p.length : Int)) (by omega) (by omega)]
          by_cases hbig : mem.getD (at_.toNat + 7 + i * 4) 0 ≥ p.length
          · rw [if_pos (by simpa using hbig)]
            refine bad hw' ?_
            rw [hR0, if_neg]
            intro hall
            have := List.all_eq_true.1 hall i (List.mem_range.2 hlt)
            have := of_decide_eq_true this
            omega
          · rw [if_neg (by simpa using hbig)]
            intro q16 _
            obtain ⟨H, qh, CH, ch, hH, hqh, k0, _, _, _, _⟩ := prog_at hp (i := (mem.getD (at_.toNat + 7 + i * 4) 0).toNat) (by omega)
            cases hqh
            have hHb := sized_bd (hs H (List.mem_of_getElem? hH))
            generalize hwd : mem.getD (at_.toNat + 7 + i * 4) 0 = wd at *
            rw [wrap_id (n := wd) (by omega) (by omega)]
            have hpn : ((H.params.toNat : Nat) : Int) = H.params := Int.toNat_of_nonneg hHb.1
            have hdr : dfrR p mem (at_.toNat + 7 + i * 4) = ⟨wd, (mem.drop (at_.toNat + 7 + i * 4 + 1)).take H.params.toNat⟩ := by
              unfold dfrR
              rw [hwd, hH]
              simp only [sub]
              rw [show (((at_.toNat + 7 + i * 4 : Nat) : Int) + 1).toNat = at_.toNat + 7 + i * 4 + 1 by omega]
            refine ⟨H.params.toNat + 1, ?_⟩
            have loop1 : ∀ (m j : Nat) (w6 : World) (E : Option Addr) (ec : Nat), H.params.toNat < j + m → j ≤ H.params.toNat → Ext w.heap.size w' w6 → w6.ownsRow w'.heap.size 51 1 (.slice E j ec) j (((mem.drop (at_.toNat + 7 + i * 4 + 1)).take j).map (.int .u64)) →
                V55.l1 w.heap.size (IsQ w (ReadQ (readM p mem at_) w)) (V55.l0 w.heap.size (IsQ w (ReadQ (readM p mem at_) w)) k) m (some a) mem.length c ((at_.toNat + 7 : Nat) : Int) i j q16 wd E j ec q12 hd.f hd.pc hd.mode hd.dfd hd.value D i dc none 0 0 none 0 0 q11 G.params G.locals G.refs C G.code.length cc q9 hd.below hd.f hd.pc hd.mode hd.dfd hd.value hd.dfs hd.ops q6 0 0 0 false 0 none 0 0 none 0 0 none 0 0 q4 (some q) p.length cap w6 := by
              intro m
              induction m with
              | zero => intros; omega
              | succ m ihm =>
                intro j w6 E ec hmj hj e6 ho
                have hw6 : Below w.heap.size w w6 := e6.after hw'
                dsimp -zeta only [V55.l1]
                refine ⟨q, rfl, by omega, by omega, H.params, below_keeps hw6 _ _ k0, ?_⟩
                by_cases hjl : j < H.params.toNat
                · rw [if_pos (by simp; omega)]
                  have hkj : IntKind.wrap .i64 (IntKind.wrap .i64 (((at_.toNat + 7 + i * 4 : Nat) : Int) + 1) + (j : Int)) = ((at_.toNat + 7 + i * 4 + 1 + j : Nat) : Int) := by
                    rw [wrap_id (n := ((at_.toNat + 7 + i * 4 : Nat) : Int) + 1) (by omega) (by omega), wrap_id (by omega) (by omega)]; push_cast; rfl
                  rw [hki, hkj]
                  refine ⟨a, rfl, by omega, by omega, _, word (j := (at_.toNat + 7 + i * 4 + 1 + j)) hw6 (by omega), ?_⟩
                  refine push_word (b0 := w'.heap.size) hw6.size e6.size ho (by omega) fun v w7 e7 ho7 => ?_
                  obtain ⟨A7, c7, hv7⟩ := owns_slice0 ho7
                  subst hv7
                  refine ⟨A7, j + 1, c7, rfl, ?_⟩
                  have hwj : IntKind.wrap .i64 ((j : Int) + 1) = ((j + 1 : Nat) : Int) := by rw [wrap_id (by omega) (by omega)]; rfl
                  rw [hwj]
                  rw [take_snoc (by omega)] at ho7
                  exact ihm (j + 1) w7 A7 c7 (by omega) (by omega) (ext_then e6 e7 (fun x hx => (ho.lt x hx).1) hw'.size) ho7
                · rw [if_neg (by simp; omega)]
                  have hjj : j = H.params.toNat := by omega
                  have hjlen : ((mem.drop (at_.toNat + 7 + i * 4 + 1)).take j).length = j := by simp; omega
                  have hov : OwnWs w6 w.heap.size (.slice E j ec) ((mem.drop (at_.toNat + 7 + i * 4 + 1)).take H.params.toNat) := by
                    rw [← hjj]; unfold OwnWs; rw [hjlen]; exact owns_base ho hw'.size
                  refine push_dfr (b0 := w.heap.size) (d := ⟨wd, (mem.drop (at_.toNat + 7 + i * 4 + 1)).take H.params.toNat⟩) (ds := dfsR p mem (at_.toNat + 7) i) (vs := vs) hw6.size hw6.size (hds.ext e6) hov (by rw [dfsR_len]; omega) fun v7 w7 e7 hds7 => ?_
                  obtain ⟨D7, c7, hv7⟩ := owns_slice0 hds7.row
                  have hl7 : (dfsR p mem (at_.toNat + 7) i ++ [(⟨wd, (mem.drop (at_.toNat + 7 + i * 4 + 1)).take H.params.toNat⟩ : Dfr)]).length = i + 1 := by simp [dfsR_len]
                  rw [hl7] at hv7
                  refine ⟨D7, i + 1, c7, hv7, ?_⟩
                  have hwi : IntKind.wrap .i64 ((i : Int) + 1) = ((i + 1 : Nat) : Int) := by rw [wrap_id (by omega) (by omega)]; rfl
                  rw [hwi]
                  have hsame : dfsR p mem (at_.toNat + 7) i ++ [(⟨wd, (mem.drop (at_.toNat + 7 + i * 4 + 1)).take H.params.toNat⟩ : Dfr)] = dfsR p mem (at_.toNat + 7) (i + 1) := by rw [← hdr]; rfl
                  rw [hsame, hv7] at hds7
                  refine ih (i + 1) w7 D7 c7 _ (by omega) (by omega) (e7.after (fun x hx => (hds.row.lt x hx).1) hw6) hds7 (fun x hx => ?_) fun d hd' => ?_
                  · rcases Nat.lt_succ_iff_lt_or_eq.1 hx with hx | rfl
                    · exact hok x hx
                    · rw [hwd]; omega
                  · rw [← hsame] at hd'
                    rcases List.mem_append.1 hd' with hd' | hd'
                    · exact hargs d hd'
                    · simp at hd'; subst hd'
                      simp only [List.length_take]
                      omega
            exact loop1 (H.params.toNat + 1) 0 w' none 0 (by omega) (by omega) (Ext.refl _ _) (World.ownsRow_nil _ _ _ _)
        · rw [if_neg (by simp; omega)]
          have hii' : i = hd.dfs.toNat := by omega
          have hgood : readM p mem at_ = (frmR p mem at_ hd G, hd.below, 0) := by
            rw [hR0, if_pos]
            refine List.all_eq_true.2 fun j hj => decide_eq_true ?_
            have := List.mem_range.1 hj
            exact hok j (by omega)
          refine call_gives hw' (fun w7 e7 _ => gives101 (RowAt.keep InsE.kept (codeW hw') (ext_keeps e7))) fun w7 e7 hw7 => ⟨_, rfl, ?_⟩
          have hkr : IntKind.wrap .i64 (((at_.toNat + 7 : Nat) : Int) + IntKind.wrap .i64 ((roomM G : Int) * 4)) = ((at_.toNat + (aheadM G).toNat : Nat) : Int) := by
            rw [wrap_id (n := (roomM G : Int) * 4) (by omega) (by omega), wrap_id (by omega) (by omega)]; push_cast; omega
          rw [hkr]
          have hds' : OwnDs w7 w.heap.size (.slice D i dc) (dfsR p mem (at_.toNat + 7) hd.dfs.toNat) vs := by rw [← hii']; exact hds.ext e7
          exact ⟨G.locals.toNat + 1, loop2 w7 hw7 hds' hii' (by rw [← hii']; exact hargs) hgood (G.locals.toNat + 1) 0 w7 none 0 (by omega) (by omega) (Ext.refl _ _) (World.ownsRow_nil _ _ _ _)⟩
    exact ⟨hd.dfs.toNat + 1, loop0 (hd.dfs.toNat + 1) 0 w4 none 0 [] (by omega) (by omega) hw4 (OwnDs.nil _ _) (fun j hj => by omega) (fun d hd' => by simp [dfsR] at hd')⟩
end Go.Proofs.Ytlccbaemcfjdoaa
