/-
  Layer 18: frames read by the program, by the plain rule.
  Conditions: the arena, and the program, lie in memory as told; the program's functions are sized.
-/
import Derived.Test.YtlccbaemcfjdoaaD18
set_option linter.unusedVariables false
set_option linter.unusedSimpArgs false
namespace Go.Proofs.Ytlccbaemcfjdoaa
open Go.RowKit

theorem get_zero {mem : List Int} {at_ : Int} (hw : Wd mem) (h : (getM mem at_).2 = 0) : inM mem.length at_ 7 = true ∧ 0 ≤ (getM mem at_).1.f ∧ (getM mem at_).1.f ≤ 2147483648 ∧ 0 ≤ (getM mem at_).1.pc ∧ (getM mem at_).1.pc ≤ 2147483648 ∧ 0 ≤ (getM mem at_).1.dfs ∧ 0 ≤ (getM mem at_).1.ops ∧
    0 ≤ (getM mem at_).1.mode ∧ (getM mem at_).1.mode ≤ 2 ∧ 0 ≤ (getM mem at_).1.value ∧ (getM mem at_).1.value < 18446744073709551616 ∧ -1 ≤ (getM mem at_).1.below ∧ (getM mem at_).1.below < mem.length := by
  unfold getM at h ⊢
  by_cases hin : inM mem.length at_ 7 = true
  · rw [if_pos hin] at h ⊢
    by_cases hok : headOk mem.length (wordAt mem at_) = true
    · rw [if_pos hok] at h ⊢
      have h1 := of_decide_eq_true hok
      have b0 := wordAt_wd hw at_ 0
      have b1 := wordAt_wd hw at_ 1
      have b2 := wordAt_wd hw at_ 2
      have b3 := wordAt_wd hw at_ 3
      have b4 := wordAt_wd hw at_ 4
      have b5 := wordAt_wd hw at_ 5
      have b6 := wordAt_wd hw at_ 6
      simp only [headOf]
      refine ⟨hin, ?_⟩
      omega
    · rw [if_neg hok] at h; simp at h
  · rw [if_neg hin] at h; simp at h
theorem owns_cap {w : World} {B : Nat} {e : TypeId} {s l c n : Nat} {A : Option Addr} {xs : List Value} (h : w.ownsRow B e s (.slice A l c) n xs) : l = n ∧ n ≤ c := by
  rcases h.2 with ⟨hv, rfl⟩ | ⟨g, cap, cur, hv, _, _, hc, _⟩
  · cases hv; exact ⟨rfl, Nat.le_refl _⟩
  · cases hv; exact ⟨rfl, hc⟩
theorem yields104' {w : World} {A : Option Addr} {a : Addr} {l m c : Nat} {xs : List Int} (hA : A = some a) (hl : l = m) (hx : Nums .u64 w (some a) m xs) (hm : m ≤ 17592186044416) : Yields Try.prog 104 [.slice A l c] w (OwnQ xs w) := by
  subst hA; subst hl
  exact yields104 hx hm
theorem word_sub {mem : List Int} {a n j : Nat} (h : j < n) (hl : a + j < mem.length) : ((mem.drop a).take n)[j]? = some (mem.getD (a + j) 0) := by
  rw [List.getElem?_take, if_pos h, List.getElem?_drop]
  exact getD_get hl
theorem yields54 {w : World} {g b : Nat} {mem : List Int} (h : ArenaAt w g b mem) {P : Option Addr} {p : List Fnc} {cap : Nat} (hp : ProgAt w P p.length p) (hs : Sized p) (hpl : p.length ≤ 1000) (at_ : Int) :
    Yields Try.prog 54 [.pointer (some ⟨g, 0, none⟩), .agg ⟨[.slice P p.length cap]⟩, .int .i64 at_] w (ReadQ (readM p mem at_) w) := by
  refine yields_of (V54.sound ?_)
  intro q4 _ q6 _
  have hml := h.len
  have bad : ∀ {w2 : World} {e : Int}, Below w.heap.size w w2 → readM p mem at_ = (frm0, 0, e) → Ret w.heap.size w2 (IsQ w (ReadQ (readM p mem at_) w) (.tuple ⟨[frm0V, .int .i64 0, .int .i64 e]⟩)) := fun hw hr =>
    ret_q hw fun w3 _ => ⟨⟨none, 0, none, 0, none, 0⟩, by rw [hr]; rfl, by rw [hr]; exact frm0_at _⟩
  refine call_gives (Below.refl _ _) (fun w1 e1 _ => gives42 (h.ext e1) at_) fun w1 e1 hw1 => ?_
  refine ⟨_, _, _, _, _, _, _, _, _, rfl, ?_⟩
  intro q9 _
  by_cases he : (getM mem at_).2 = 0
  case neg =>
    rw [if_pos (by simpa using he)]
    exact bad hw1 (by unfold readM; rw [if_pos he])
  rw [if_neg (by simpa using he)]
  have hR0 : readM p mem at_ = readH p mem at_ (getM mem at_).1 := by unfold readM; rw [if_neg (by simpa using he)]
  obtain ⟨hin7, f0, f1, pc0, pc1, d0, o0, m0, m1, v0, v1, b0, b1⟩ := get_zero h.wd he
  generalize (getM mem at_).1 = hd at *
  have hw7 := of_decide_eq_true hin7
  by_cases hfl : hd.f < p.length
  case neg =>
    refine call_gives hw1 (fun w2 e2 _ => gives99_out (.inr (by omega))) fun w2 e2 hw2 => ⟨_, _, _, _, _, _, _, rfl, ?_⟩
    intro q11 _
    rw [if_pos (by simp)]
    exact bad hw2 (by rw [hR0, readH_none (fnAt_none (.inr (by omega)))])
  obtain ⟨G, q, C, cc, hG, hq, c0, c1, c2, c3, hcode⟩ := prog_at hp (i := hd.f.toNat) (by omega)
  subst hq
  have hsz := hs G (List.mem_of_getElem? hG)
  have hbd := sized_bd hsz
  have hfn := fnAt_some (p := p) (by omega) hG
  rw [readH_some hfn] at hR0
  have hff : ((hd.f.toNat : Nat) : Int) = hd.f := Int.toNat_of_nonneg f0
  have h99 := fun (w2 : World) (e2 : Ext w.heap.size w1 w2) => gives99 (w := w2) (l := p.length) (cap := cap) (f := hd.f.toNat) (x := G) (by omega) (e2.cell (e1.cell c0)) (e2.cell (e1.cell c1)) (e2.cell (e1.cell c2)) (e2.cell (e1.cell c3))
  rw [hff] at h99
  refine call_gives hw1 (fun w2 e2 _ => h99 w2 e2) fun w2 e2 hw2 => ⟨_, _, _, _, _, _, _, rfl, ?_⟩
  intro q11 _
  rw [hsz, if_neg (by simp)]
  have hcode2 : CodeAt w2 C G.code.length G.code := RowAt.keep InsE.kept hcode (below_keeps hw2)
  refine call_gives hw2 (fun w3 e3 _ => gives100 hsz (RowAt.keep InsE.kept hcode2 (ext_keeps e3))) fun w3 e3 hw3 => ⟨_, _, rfl, ?_⟩
  have hcode3 : CodeAt w3 C G.code.length G.code := RowAt.keep InsE.kept hcode (below_keeps hw3)
  have six : ∀ {w4}, Below w.heap.size w w4 → ¬ (hd.pc ≤ G.code.length ∧ hd.dfs ≤ roomM G ∧ hd.ops ≤ 8) → Ret w.heap.size w4 (IsQ w (ReadQ (readM p mem at_) w) (.tuple ⟨[frm0V, .int .i64 0, .int .i64 6]⟩)) := fun hw hn => bad hw (by rw [hR0, if_neg hn])
  by_cases t0 : hd.pc > G.code.length
  · rw [if_neg (by simpa using t0)]; exact six hw3 (by omega)
  rw [if_pos (by simpa using t0)]
  by_cases t1 : hd.dfs > 4
  · rw [if_neg (by simpa using t1)]; exact six hw3 (by unfold roomM; split <;> omega)
  rw [if_pos (by simpa using t1)]
  have body : (hd.pc ≤ G.code.length ∧ hd.dfs ≤ roomM G ∧ hd.ops ≤ 8) → V54.b0 w.heap.size (IsQ w (ReadQ (readM p mem at_) w)) ⟨g, 0, none⟩ at_ (aheadM G) q11 G.params G.locals G.refs C G.code.length cc q9 hd.below hd.f hd.pc hd.mode hd.dfd hd.value hd.dfs hd.ops q6 0 0 0 false 0 none 0 0 none 0 0 none 0 0 q4 (some q) p.length cap w3 := by
    intro hcond
    rw [if_pos hcond] at hR0
    unfold V54.b0
    refine call_gives hw3 (fun w4 e4 _ => gives32 (RowAt.keep InsE.kept hcode3 (ext_keeps e4)) _ _ _) fun w4 e4 hw4 => ⟨_, rfl, ?_⟩
    have h4 : ArenaAt w4 g b mem := (((h.ext e1).ext e2).ext e3).ext e4
    refine call_slice hw4 h4 fun A5 l5 c5 w5 e5 hw5 ho5 hn5 hfr5 => ?_
    unfold errV
    refine ⟨_, _, _, _, rfl, ?_⟩
    rw [show sizeM G.locals G.code = sizeF G from rfl] at *
    have hsF := sizeF_eq hsz
    have hah : 7 ≤ aheadM G ∧ aheadM G ≤ 23 := by unfold aheadM; split <;> omega
    cases hin : inM mem.length at_ (sizeF G) with
    | false =>
      rw [hin] at hR0
      simp only [Bool.false_eq_true, if_false] at hR0 ⊢
      rw [if_pos (by simp)]
      exact bad hw5 hR0
    | true =>
      rw [hin] at hR0
      rw [hin, if_pos rfl] at ho5
      simp only [if_true] at hR0 ⊢
      rw [if_neg (by simp)]
      intro q16 _
      have hii := of_decide_eq_true hin
      have hsubl : (sub mem at_ (sizeF G)).length = (sizeF G).toNat := sub_len hin
      obtain ⟨hl5, hc5⟩ := owns_cap ho5
      rw [hsubl] at hl5 hc5
      subst hl5
      obtain ⟨gw, capw, hvw, _, hgw⟩ := owns_some ho5 (by omega)
      rw [hsubl] at hvw
      cases hvw
      have ho5' : OwnWs w5 w.heap.size (.slice (some ⟨gw, 0, none⟩) (sizeF G).toNat c5) (sub mem at_ (sizeF G)) := owns_base ho5 hw4.size
      clear ho5 hn5 hfr5
      have hsl : ((sizeF G).toNat : Int) = sizeF G := Int.toNat_of_nonneg (by omega)
      have hat : ((at_.toNat : Nat) : Int) = at_ := Int.toNat_of_nonneg hii.1
      have hroom : hd.dfs.toNat ≠ 0 → roomM G = 4 ∧ aheadM G = 23 := fun hne => by
        have h7 := hcond.2.1
        unfold roomM at h7 ⊢
        unfold aheadM
        split at h7
        · rename_i hdd; rw [if_pos hdd, if_pos hdd]; exact ⟨rfl, rfl⟩
        · omega
      have hnd : ((hd.dfs.toNat : Nat) : Int) = hd.dfs := Int.toNat_of_nonneg d0
      -- words of the slice
      have rows : ∀ {w'}, OwnWs w' w.heap.size (.slice (some ⟨gw, 0, none⟩) (sizeF G).toNat c5) (sub mem at_ (sizeF G)) → Nums .u64 w' (some ⟨gw, 0, none⟩) (sizeF G).toNat (sub mem at_ (sizeF G)) := fun ho => by
        obtain ⟨A, c, hv, hn, _⟩ := ownws_nums ho (by rw [hsubl]; omega)
        rw [hsubl] at hv hn
        cases hv
        exact hn
      have part : ∀ {w'} {o m : Nat}, OwnWs w' w.heap.size (.slice (some ⟨gw, 0, none⟩) (sizeF G).toNat c5) (sub mem at_ (sizeF G)) → o + m ≤ (sizeF G).toNat → Nums .u64 w' (some ⟨gw, o, none⟩) m ((mem.drop (at_.toNat + o)).take m) := fun {w' o m} ho hom => by
        have h1 := nums_sub (rows ho) hom
        unfold sub at h1
        rw [sub_sub hom, bx_add, Nat.zero_add] at h1
        exact h1
      have loop : ∀ (k i : Nat) (w' : World) (D : Option Addr) (dc : Nat) (vs : List Value), hd.dfs.toNat < i + k → i ≤ hd.dfs.toNat → Below w.heap.size w w' → OwnWs w' w.heap.size (.slice (some ⟨gw, 0, none⟩) (sizeF G).toNat c5) (sub mem at_ (sizeF G)) →
          OwnDs w' w.heap.size (.slice D i dc) (dfsR p mem (at_.toNat + 7) i) vs → (∀ j, j < i → mem.getD (at_.toNat + 7 + j * 4) 0 < p.length) → (∀ d ∈ dfsR p mem (at_.toNat + 7) i, d.args.length ≤ 3) →
          V54.l1 w.heap.size (IsQ w (ReadQ (readM p mem at_) w)) k (aheadM G) (some ⟨gw, 0, none⟩) (sizeF G).toNat c5 hd.dfs i q16 hd.f hd.pc hd.mode hd.dfd hd.value D i dc none 0 0 none 0 0 q11 G.params G.locals G.refs C G.code.length cc q9 hd.below hd.f hd.pc hd.mode hd.dfd hd.value hd.dfs hd.ops q6 0 0 0 false 0 none 0 0 none 0 0 none 0 0 q4 (some q) p.length cap w' := by
        intro k
        induction k with
        | zero => intros; omega
        | succ k ih =>
          intro i w' D dc vs hk hi hw' ho hds hok hargs
          dsimp -zeta only [V54.l1]
          by_cases hlt : i < hd.dfs.toNat
          · rw [if_pos (by simp; omega)]
            obtain ⟨hr4, hr23⟩ := hroom (by omega)
            have hK : IntKind.wrap .i64 (7 + IntKind.wrap .i64 ((i : Int) * 4)) = ((7 + i * 4 : Nat) : Int) := by
              rw [wrap_id (n := (i : Int) * 4) (by omega) (by omega), wrap_id (by omega) (by omega)]; push_cast; rfl
            rw [hK]
            simp only [Int.toNat_natCast]
            refine ⟨by omega, by omega, by omega, by omega, ?_⟩
            have hptr : (if c5 - (7 + i * 4) = 0 then if c5 = 7 + i * 4 then (some ⟨gw, 0, none⟩ : Option Addr) else Option.map (fun a : Addr => a.add (7 + i * 4)) (some (⟨gw, 0, none⟩ : Addr)) else Option.map (fun a : Addr => a.add 0) (if c5 = 7 + i * 4 then (some ⟨gw, 0, none⟩ : Option Addr) else Option.map (fun a : Addr => a.add (7 + i * 4)) (some (⟨gw, 0, none⟩ : Addr)))) = some (⟨gw, 7 + i * 4, none⟩ : Addr) := by
              rw [if_neg (by omega), if_neg (by omega)]
              simp [bx_add]
            have hcellw := (part (o := 7 + i * 4) (m := 1) ho (by omega)).get 0 (mem.getD (at_.toNat + 7 + i * 4) 0) (by rw [show at_.toNat + 7 + i * 4 = at_.toNat + (7 + i * 4) + 0 by omega]; exact word_sub (by omega) (by omega))
            obtain ⟨pw, hpw, hcw⟩ := hcellw
            cases hpw
            have hwb := getD_wd h.wd (at_.toNat + 7 + i * 4)
            rw [hptr]
            refine ⟨_, rfl, by omega, by omega, _, hcw, ?_⟩
            rw [wrap_u64 (n := (p.length : Int)) (by omega) (by omega)]
            by_cases hbig : mem.getD (at_.toNat + 7 + i * 4) 0 ≥ p.length
            · rw [if_pos (by simpa using hbig)]
              refine bad hw' ?_
              rw [hR0, if_neg]
              intro hall
              have := List.all_eq_true.1 hall i (List.mem_range.2 hlt)
              have := of_decide_eq_true this
              omega
            · rw [if_neg (by simpa using hbig)]
              obtain ⟨H, qh, CH, ch, hH, hqh, k0, _, _, _, _⟩ := prog_at (RowAt.keep FncE.kept hp (below_keeps hw')) (i := (mem.getD (at_.toNat + 7 + i * 4) 0).toNat) (by omega)
              cases hqh
              have hHb := sized_bd (hs H (List.mem_of_getElem? hH))
              generalize hwd : mem.getD (at_.toNat + 7 + i * 4) 0 = wd at *
              refine ⟨_, rfl, by omega, by omega, _, hcw, q, rfl, ?_⟩
              rw [wrap_id (n := wd) (by omega) (by omega)]
              refine ⟨by omega, by omega, H.params, k0, ?_⟩
              rw [wrap_id (n := 1 + H.params) (by omega) (by omega)]
              refine ⟨by omega, by omega, by omega, by omega, ?_⟩
              have hpn : ((H.params.toNat : Nat) : Int) = H.params := Int.toNat_of_nonneg hHb.1
              refine call_own (xs := (mem.drop (at_.toNat + (7 + i * 4 + 1))).take H.params.toNat) hw' (fun w6 e6 _ => yields104' (a := ⟨gw, 7 + i * 4 + 1, none⟩) (m := H.params.toNat) ?_ ?_ (part (e6.owns ho) (by omega)) (by omega)) fun v w6 e6 hw6 hov => ?_
              · rw [if_neg (by omega)]
                simp [bx_add]
              · omega
              have hdr : dfrR p mem (at_.toNat + 7 + i * 4) = ⟨wd, (mem.drop (at_.toNat + (7 + i * 4 + 1))).take H.params.toNat⟩ := by
                unfold dfrR
                rw [hwd, hH]
                simp only [sub]
                rw [show (((at_.toNat + 7 + i * 4 : Nat) : Int) + 1).toNat = at_.toNat + (7 + i * 4 + 1) by omega]
              obtain ⟨Av, cv, hvv⟩ := owns_slice0 hov
              refine ⟨Av, _, cv, hvv, ?_⟩
              rw [← hvv]
              refine push_dfr (b0 := w.heap.size) (d := ⟨wd, (mem.drop (at_.toNat + (7 + i * 4 + 1))).take H.params.toNat⟩) (ds := dfsR p mem (at_.toNat + 7) i) (vs := vs) hw6.size hw6.size (by exact (hds.ext e6)) (owns_base hov hw'.size) (by rw [dfsR_len]; omega) fun v7 w7 e7 hds7 => ?_
              obtain ⟨D7, c7, hv7⟩ := owns_slice0 hds7.row
              have hl7 : (dfsR p mem (at_.toNat + 7) i ++ [(⟨wd, (mem.drop (at_.toNat + (7 + i * 4 + 1))).take H.params.toNat⟩ : Dfr)]).length = i + 1 := by simp [dfsR_len]
              rw [hl7] at hv7
              refine ⟨D7, i + 1, c7, hv7, ?_⟩
              have hwi : IntKind.wrap .i64 ((i : Int) + 1) = ((i + 1 : Nat) : Int) := by rw [wrap_id (by omega) (by omega)]; rfl
              rw [hwi]
              have hsame : dfsR p mem (at_.toNat + 7) i ++ [(⟨wd, (mem.drop (at_.toNat + (7 + i * 4 + 1))).take H.params.toNat⟩ : Dfr)] = dfsR p mem (at_.toNat + 7) (i + 1) := by rw [← hdr]; rfl
              rw [hsame, hv7] at hds7
              refine ih (i + 1) w7 D7 c7 _ (by omega) (by omega) (e7.after (fun j hj => (hds.row.lt j hj).1) hw6) (e7.owns (e6.owns ho) fun j hj => ?_) hds7 (fun j hj => ?_) fun d hd' => ?_
              · exact owns_ne (e6.owns ho) (e6.owns hds.row) (by decide) hj
              · rcases Nat.lt_succ_iff_lt_or_eq.1 hj with hj | rfl
                · exact hok j hj
                · rw [hwd]; omega
              · rw [← hsame] at hd'
                rcases List.mem_append.1 hd' with hd' | hd'
                · exact hargs d hd'
                · simp at hd'; subst hd'
                  simp only [List.length_take]
                  omega
          · rw [if_neg (by simp; omega)]
            have hii' : i = hd.dfs.toNat := by omega
            have hgood : readM p mem at_ = (frmR p mem at_ hd G, hd.below, 0) := by
              rw [hR0, if_pos]
              refine List.all_eq_true.2 fun j hj => decide_eq_true ?_
              have := List.mem_range.1 hj
              exact hok j (by omega)
            rw [wrap_id (n := aheadM G + G.locals) (by omega) (by omega)]
            refine ⟨by omega, by omega, by omega, by omega, ?_⟩
            have hln : ((G.locals.toNat : Nat) : Int) = G.locals := Int.toNat_of_nonneg (by omega)
            have han : ((aheadM G).toNat : Int) = aheadM G := Int.toNat_of_nonneg (by omega)
            have hop : ((hd.ops.toNat : Nat) : Int) = hd.ops := Int.toNat_of_nonneg o0
            refine call_own (xs := (mem.drop (at_.toNat + (aheadM G).toNat)).take G.locals.toNat) hw' (fun w6 e6 _ => yields104' (a := ⟨gw, (aheadM G).toNat, none⟩) (m := G.locals.toNat) ?_ ?_ (part (e6.owns ho) (by omega)) (by omega)) fun v6 w6 e6 hw6 hov6 => ?_
            · rw [if_neg (by omega)]
              simp [bx_add]
            · omega
            obtain ⟨L6, c6, hv6, hn6⟩ := ownws_new (owns_base hov6 hw'.size) (by simp; omega)
            refine ⟨L6, _, c6, hv6, by omega, by omega, by omega, by omega, ?_⟩
            refine call_own (xs := (mem.drop (at_.toNat + (aheadM G + G.locals).toNat)).take hd.ops.toNat) hw6 (fun w7 e7 _ => yields104' (a := ⟨gw, (aheadM G + G.locals).toNat, none⟩) (m := hd.ops.toNat) ?_ ?_ (part (e7.owns (e6.owns ho)) (by omega)) (by omega)) fun v7 w7 e7 hw7 hov7 => ?_
            · rw [if_neg (by omega), if_neg (by omega)]
              simp [bx_add]
            · omega
            obtain ⟨O7, c7, hv7, hn7⟩ := ownws_new (owns_base hov7 hw6.size) (by simp; omega)
            refine ⟨O7, _, c7, hv7, ret_q hw7 fun w8 e8 => ?_⟩
            obtain ⟨D8, c8, hv8, hn8⟩ := ((hds.ext e6).ext e7).dfs (by rw [dfsR_len]; omega) (fun d hd' => by have := hargs d hd'; omega)
            rw [dfsR_len] at hv8
            cases hv8
            have eloc : (mem.drop (at_.toNat + (aheadM G).toNat)).take G.locals.toNat = (frmR p mem at_ hd G).locals := by
              simp only [frmR, sub]
              rw [show (at_ + aheadM G).toNat = at_.toNat + (aheadM G).toNat by omega]
            have eops : (mem.drop (at_.toNat + (aheadM G + G.locals).toNat)).take hd.ops.toNat = (frmR p mem at_ hd G).ops := by
              simp only [frmR, sub]
              rw [show (at_ + aheadM G + G.locals).toNat = at_.toNat + (aheadM G + G.locals).toNat by omega]
            have edfs : dfsR p mem (at_.toNat + 7) i = (frmR p mem at_ hd G).dfs := by rw [hii']; rfl
            refine ⟨⟨D, dc, L6, c6, O7, c7⟩, ?_, ?_⟩
            · rw [hgood]
              unfold frmV
              simp only
              rw [← eloc, ← eops, ← edfs, dfsR_len]
              rfl
            · rw [hgood]
              refine ⟨?_, ?_, ?_⟩
              · simp only
                rw [← edfs]
                exact RowAt.keep DfrE.kept hn8 (newW_keep (Nat.le_refl _) (ext_keeps e8))
              · simp only
                rw [← eloc]
                exact RowAt.keep (NumE.kept _) hn6 (newW_keep (Nat.le_refl _) fun r u hr => e8.cell (e7.cell hr))
              · simp only
                rw [← eops]
                exact RowAt.keep (NumE.kept _) hn7 (newW_keep (Nat.le_refl _) (ext_keeps e8))
      exact ⟨hd.dfs.toNat + 1, loop (hd.dfs.toNat + 1) 0 w5 none 0 [] (by omega) (by omega) hw5 ho5' (OwnDs.nil _ _) (fun j hj => by omega) (fun d hd' => by simp [dfsR] at hd')⟩
  by_cases t2 : hd.dfs > 0
  · rw [if_pos (by simpa using t2)]
    cases hdf : hasDefer G.code with
    | false =>
      rw [if_neg (by simp)]
      exact six hw3 (by unfold roomM; rw [hdf]; simp; omega)
    | true =>
      rw [if_pos (by simp)]
      by_cases t3 : hd.ops > 8
      · rw [if_pos (by simpa using t3)]; exact six hw3 (by omega)
      · rw [if_neg (by simpa using t3)]
        exact body ⟨by omega, by unfold roomM; rw [hdf]; simp; omega, by omega⟩
  · rw [if_neg (by simpa using t2)]
    by_cases t3 : hd.ops > 8
    · rw [if_pos (by simpa using t3)]; exact six hw3 (by omega)
    · rw [if_neg (by simpa using t3)]
      exact body ⟨by omega, by omega, by omega⟩
end Go.Proofs.Ytlccbaemcfjdoaa
