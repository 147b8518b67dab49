/-
  Layer 18: frames written by the document's own answer, by one plain rule.
  Conditions: the words, the program, and the frame, lie in memory as told; the program's functions are sized.
-/
import Derived.Test.YtlccbaemcfjdoaaW18
set_option linter.unusedVariables false
set_option linter.unusedSimpArgs false
namespace Go.Proofs.Ytlccbaemcfjdoaa
open Go.RowKit

theorem own_put {w : World} {B g n cap : Nat} {L : List Int} (h : w.ownsRow B 51 1 (.slice (some ⟨g, 0, none⟩) n cap) n (L.map (.int .u64))) {j : Nat} (hj : j < n) (y : Int) :
    (∃ u, w.cell? ⟨g, j, none⟩ = some u) ∧ w.frozen? ⟨g, j, none⟩ = false ∧ (w.setCell ⟨g, j, none⟩ (.int .u64 y)).ownsRow B 51 1 (.slice (some ⟨g, 0, none⟩) n cap) n ((L.set j y).map (.int .u64)) := by
  have hl := h.1
  refine ⟨⟨_, owns_cell h (List.getElem?_eq_getElem (show j < (L.map (Value.int .u64)).length by omega))⟩, owns_frozen h j, ?_⟩
  have := owns_set h j (.int .u64 y) (by omega)
  rwa [← List.map_set] at this
def recN (mem : List Int) (k : Nat) (d : Dfr) : Nat → List Int
  | 0 => mem.set k d.f
  | j + 1 => (recN mem k d j).set (k + 1 + j) (d.args.getD j 0)
theorem recN_rec (mem : List Int) (k : Nat) (d : Dfr) : recN mem k d 3 = recM mem k d := rfl
theorem recN_len (mem : List Int) (k : Nat) (d : Dfr) : ∀ j, (recN mem k d j).length = mem.length
  | 0 => by simp [recN]
  | j + 1 => by simp [recN, recN_len mem k d j]
def RWriteQ (A : Option Addr) (l c : Nat) (p : List Fnc) (mem : List Int) (at_ below : Int) (x : Frm) (w1 : World) : Value → World → Prop := fun u w2 =>
  if writeOk p mem.length at_ below x = true then ∃ v, u = .tuple ⟨[v, .int .i64 0]⟩ ∧ OwnWs w2 w1.heap.size v (writeM p mem at_ below x) else u = .tuple ⟨[.slice A l c, .int .i64 1]⟩
section
variable {w0 : World} {Q : Value → World → Prop} {n cap g5 q9 : Nat} {x : Frm} {s : Sls}
theorem l3_53 (hx : FrmAt w0 x s) (hg : w0.heap.size ≤ g5) {k0 : Nat} {M : List Int} (hk0 : k0 + x.ops.length ≤ n) (hM : M.length = n) (hn : n ≤ 1000000000)
    (hR : ∀ w, Below w0.heap.size w0 w → w.ownsRow w0.heap.size 51 1 (.slice (some ⟨g5, 0, none⟩) n cap) n ((storesM M k0 x.ops x.ops.length).map (.int .u64)) → Ret w0.heap.size w (IsQ w0 Q (.tuple ⟨[.slice (some ⟨g5, 0, none⟩) n cap, .int .i64 0]⟩))) :
    ∀ (k i : Nat) (w : World), x.ops.length < i + k → i ≤ x.ops.length → Below w0.heap.size w0 w → w.ownsRow w0.heap.size 51 1 (.slice (some ⟨g5, 0, none⟩) n cap) n ((storesM M k0 x.ops i).map (.int .u64)) →
      V53.l3 w0.heap.size (IsQ w0 Q) k (some ⟨g5, 0, none⟩) n cap k0 i q9 x.f x.pc x.mode x.dfd x.value s.D x.dfs.length s.dc s.L x.locals.length s.lc s.O x.ops.length s.oc w := by
  intro k
  induction k with
  | zero => intros; omega
  | succ k ih =>
    intro i w hk hi hw ho
    dsimp -zeta only [V53.l3]
    by_cases hlt : i < x.ops.length
    · rw [if_pos (by simpa using hlt)]
      obtain ⟨y, p, hy, hp, hc⟩ := (hx.keep (below_keeps hw)).ops.at hlt
      have hki : IntKind.wrap .i64 ((k0 : Int) + (i : Int)) = ((k0 + i : Nat) : Int) := by rw [wrap_id (by omega) (by omega)]; rfl
      rw [hki]
      obtain ⟨p1, p2, p3⟩ := own_put ho (j := k0 + i) (by omega) y
      refine ⟨p, hp, by omega, by omega, y, hc, _, rfl, by omega, by omega, ?_⟩
      simp only [own_add, bx_add, Nat.add_zero, Nat.zero_add, Int.toNat_natCast]
      refine ⟨p1, p2, ?_⟩
      have hgd : x.ops.getD i 0 = y := by simp [List.getD, hy]
      have hst := storesM_set (mem := M) (at_ := (k0 : Int)) (ws := x.ops) (n := x.ops.length) ⟨by omega, by omega⟩ hlt
      rw [Int.toNat_natCast, hgd] at hst
      rw [← hst] at p3
      have hwi : IntKind.wrap .i64 ((i : Int) + 1) = ((i + 1 : Nat) : Int) := by rw [wrap_id (by omega) (by omega)]; rfl
      rw [hwi]
      exact ih (i + 1) _ (by omega) (by omega) (hw.setCell hg _) p3
    · rw [if_neg (by simpa using hlt)]
      have : i = x.ops.length := by omega
      subst this
      exact hR w hw ho
theorem l2_53 (hx : FrmAt w0 x s) (hg : w0.heap.size ≤ g5) {k0 : Nat} {M : List Int} (hk0 : k0 + x.locals.length ≤ n) (hM : M.length = n) (hn : n ≤ 1000000000)
    (hR : ∀ w, Below w0.heap.size w0 w → w.ownsRow w0.heap.size 51 1 (.slice (some ⟨g5, 0, none⟩) n cap) n ((storesM M k0 x.locals x.locals.length).map (.int .u64)) →
      ∃ k_1, V53.l3 w0.heap.size (IsQ w0 Q) k_1 (some ⟨g5, 0, none⟩) n cap (IntKind.wrap .i64 ((k0 : Int) + (x.locals.length : Int))) 0 q9 x.f x.pc x.mode x.dfd x.value s.D x.dfs.length s.dc s.L x.locals.length s.lc s.O x.ops.length s.oc w) :
    ∀ (k i : Nat) (w : World), x.locals.length < i + k → i ≤ x.locals.length → Below w0.heap.size w0 w → w.ownsRow w0.heap.size 51 1 (.slice (some ⟨g5, 0, none⟩) n cap) n ((storesM M k0 x.locals i).map (.int .u64)) →
      V53.l2 w0.heap.size (IsQ w0 Q) k (some ⟨g5, 0, none⟩) n cap k0 i q9 x.f x.pc x.mode x.dfd x.value s.D x.dfs.length s.dc s.L x.locals.length s.lc s.O x.ops.length s.oc w := by
  intro k
  induction k with
  | zero => intros; omega
  | succ k ih =>
    intro i w hk hi hw ho
    dsimp -zeta only [V53.l2]
    by_cases hlt : i < x.locals.length
    · rw [if_pos (by simpa using hlt)]
      obtain ⟨y, p, hy, hp, hc⟩ := (hx.keep (below_keeps hw)).locals.at hlt
      have hki : IntKind.wrap .i64 ((k0 : Int) + (i : Int)) = ((k0 + i : Nat) : Int) := by rw [wrap_id (by omega) (by omega)]; rfl
      rw [hki]
      obtain ⟨p1, p2, p3⟩ := own_put ho (j := k0 + i) (by omega) y
      refine ⟨p, hp, by omega, by omega, y, hc, _, rfl, by omega, by omega, ?_⟩
      simp only [own_add, bx_add, Nat.add_zero, Nat.zero_add, Int.toNat_natCast]
      refine ⟨p1, p2, ?_⟩
      have hgd : x.locals.getD i 0 = y := by simp [List.getD, hy]
      have hst := storesM_set (mem := M) (at_ := (k0 : Int)) (ws := x.locals) (n := x.locals.length) ⟨by omega, by omega⟩ hlt
      rw [Int.toNat_natCast, hgd] at hst
      rw [← hst] at p3
      have hwi : IntKind.wrap .i64 ((i : Int) + 1) = ((i + 1 : Nat) : Int) := by rw [wrap_id (by omega) (by omega)]; rfl
      rw [hwi]
      exact ih (i + 1) _ (by omega) (by omega) (hw.setCell hg _) p3
    · rw [if_neg (by simpa using hlt)]
      have : i = x.locals.length := by omega
      subst this
      exact hR w hw ho
theorem l1_53 {L0 : Option Addr → Nat → Nat → Int → Int → Nat → Int → Int → Int → Bool → Int → Option Addr → Nat → Nat → Option Addr → Nat → Nat → Option Addr → Nat → Nat → Nat → Option Addr → Nat → Nat → World → Prop} {q6 np cP : Nat} {P : Option Addr}
    (hx : FrmAt w0 x s) (hg : w0.heap.size ≤ g5) {k0 i : Nat} {M : List Int} (hk0 : k0 + i * 4 + 4 ≤ n) (hM : M.length = n) (hn : n ≤ 1000000000) {d : Dfr} (hd : x.dfs[i]? = some d) (h3 : d.args.length ≤ 3) (hi4 : i ≤ 4)
    (hR : ∀ w, Below w0.heap.size w0 w → w.ownsRow w0.heap.size 51 1 (.slice (some ⟨g5, 0, none⟩) n cap) n ((recM M (k0 + i * 4) d).map (.int .u64)) → L0 (some ⟨g5, 0, none⟩) n cap k0 (IntKind.wrap .i64 ((i : Int) + 1)) q9 x.f x.pc x.mode x.dfd x.value s.D x.dfs.length s.dc s.L x.locals.length s.lc s.O x.ops.length s.oc q6 P np cP w) :
    ∀ (k j : Nat) (w : World), 3 < j + k → j ≤ 3 → Below w0.heap.size w0 w → w.ownsRow w0.heap.size 51 1 (.slice (some ⟨g5, 0, none⟩) n cap) n ((recN M (k0 + i * 4) d j).map (.int .u64)) →
      V53.l1 w0.heap.size (IsQ w0 Q) L0 k (some ⟨g5, 0, none⟩) n cap k0 i j q9 x.f x.pc x.mode x.dfd x.value s.D x.dfs.length s.dc s.L x.locals.length s.lc s.O x.ops.length s.oc q6 P np cP w := by
  have hlt := (List.getElem?_eq_some_iff.1 hd).1
  intro k
  induction k with
  | zero => intros; omega
  | succ k ih =>
    intro j w hk hj hw ho
    dsimp -zeta only [V53.l1]
    by_cases h1 : j < 3
    · rw [if_pos (by simp; omega)]
      have hki : IntKind.wrap .i64 (IntKind.wrap .i64 (IntKind.wrap .i64 ((k0 : Int) + IntKind.wrap .i64 ((i : Int) * 4)) + 1) + (j : Int)) = ((k0 + i * 4 + 1 + j : Nat) : Int) := by
        rw [wrap_id (n := (i : Int) * 4) (by omega) (by omega), wrap_id (n := (k0 : Int) + (i : Int) * 4) (by omega) (by omega), wrap_id (n := (k0 : Int) + (i : Int) * 4 + 1) (by omega) (by omega), wrap_id (by omega) (by omega)]
        push_cast; rfl
      rw [hki]
      obtain ⟨p1, p2, p3⟩ := own_put ho (j := k0 + i * 4 + 1 + j) (by omega) 0
      refine ⟨_, rfl, by omega, by omega, ?_⟩
      simp only [own_add, bx_add, Nat.add_zero, Nat.zero_add, Int.toNat_natCast]
      refine ⟨p1, p2, ?_⟩
      have hw1 : Below w0.heap.size w0 (w.setCell ⟨g5, k0 + i * 4 + 1 + j, none⟩ (.int .u64 0)) := hw.setCell hg _
      generalize (w.setCell ⟨g5, k0 + i * 4 + 1 + j, none⟩ (.int .u64 0)) = w1 at *
      obtain ⟨d', a, hd', ha, d0, A', c', d1, hargs⟩ := (hx.keep (below_keeps hw1)).dfs.at hlt
      rw [hd] at hd'; cases hd'
      refine ⟨a, ha, by omega, by omega, A', d.args.length, c', d1, ?_⟩
      have hwj : IntKind.wrap .i64 ((j : Int) + 1) = ((j + 1 : Nat) : Int) := by rw [wrap_id (by omega) (by omega)]; rfl
      rw [hwj]
      by_cases hja : j < d.args.length
      · rw [if_pos (by simpa using hja)]
        obtain ⟨y, p, hy, hp, hc⟩ := hargs.at hja
        obtain ⟨r1, r2, r3⟩ := own_put p3 (j := k0 + i * 4 + 1 + j) (by omega) y
        refine ⟨a, ha, by omega, by omega, A', d.args.length, c', d1, p, hp, by omega, by omega, y, hc, _, rfl, by omega, by omega, ?_⟩
        simp only [own_add, bx_add, Nat.add_zero, Nat.zero_add, Int.toNat_natCast]
        refine ⟨r1, r2, ?_⟩
        have hgd : d.args.getD j 0 = y := by simp [List.getD, hy]
        rw [set_set] at r3
        refine ih (j + 1) _ (by omega) (by omega) (hw1.setCell hg _) ?_
        show World.ownsRow _ _ _ _ _ _ (((recN M (k0 + i * 4) d j).set (k0 + i * 4 + 1 + j) (d.args.getD j 0)).map (.int .u64))
        rw [hgd]
        exact r3
      · rw [if_neg (by simpa using hja)]
        refine ih (j + 1) _ (by omega) (by omega) hw1 ?_
        have hgd : d.args.getD j 0 = 0 := by rw [List.getD, List.getElem?_eq_none (by omega)]; rfl
        show World.ownsRow _ _ _ _ _ _ (((recN M (k0 + i * 4) d j).set (k0 + i * 4 + 1 + j) (d.args.getD j 0)).map (.int .u64))
        rw [hgd]
        exact p3
    · rw [if_neg (by simp; omega)]
      have : j = 3 := by omega
      subst this
      exact hR w hw ho
end
theorem yields53 {w : World} {A P : Option Addr} {l c cap : Nat} {mem : List Int} (hm : WordsAt w A l c mem) {p : List Fnc} (hp : ProgAt w P p.length p) (hs : Sized p) (hpl : p.length ≤ 1000) (at_ below : Int) {x : Frm} {s : Sls} (hx : FrmAt w x s) (hxw : FrmWd x) :
    Yields Try.prog 53 [.slice A l c, .agg ⟨[.slice P p.length cap]⟩, .int .i64 at_, .int .i64 below, frmV x s] w (RWriteQ A l c p mem at_ below x w) := by
  refine yields_of (V53.sound ?_)
  intro q6 _ q9 _
  obtain rfl := hm.nums.len
  have hsm := hm.small
  refine call_gives (Below.refl _ _) (fun w1 e1 _ => gives50 (RowAt.keep FncE.kept hp (ext_keeps e1)) (hx.keep (ext_keeps e1))) fun w1 e1 hw1 => ⟨_, rfl, ?_⟩
  have no : ∀ {w2}, Below w.heap.size w w2 → writeOk p mem.length at_ below x = false → Ret w.heap.size w2 (IsQ w (RWriteQ A mem.length c p mem at_ below x w) (.tuple ⟨[.slice A mem.length c, .int .i64 1]⟩)) := fun hw hn =>
    ret_q hw fun w3 _ => by unfold RWriteQ; rw [hn]; rfl
  cases hmay : mayM p x with
  | false =>
    rw [if_neg (by simp)]
    exact no hw1 (by unfold writeOk; rw [hmay]; rfl)
  | true =>
    rw [if_pos (by simp)]
    have nob : ∀ {w2}, Below w.heap.size w w2 → belowM mem.length below = false → Ret w.heap.size w2 (IsQ w (RWriteQ A mem.length c p mem at_ below x w) (.tuple ⟨[.slice A mem.length c, .int .i64 1]⟩)) := fun hw hn => no hw (by unfold writeOk; rw [hmay, hn]; rfl)
    by_cases b0 : below < -1
    · rw [if_neg (by simpa using b0)]; exact nob hw1 (by unfold belowM; exact decide_eq_false (by omega))
    rw [if_pos (by simpa using b0)]
    by_cases b1 : below ≥ mem.length
    · rw [if_neg (by simpa using b1)]; exact nob hw1 (by unfold belowM; exact decide_eq_false (by omega))
    rw [if_pos (by simpa using b1)]
    have hbl : belowM mem.length below = true := by unfold belowM; exact decide_eq_true (by omega)
    obtain ⟨G, hf0, hG, hfn, h1, h2, h3, h4, h5, h6, h7, h8⟩ := may_some hmay
    have hsz := hs G (List.mem_of_getElem? hG)
    have hbd := sized_bd hsz
    have hlt := (List.getElem?_eq_some_iff.1 hG).1
    obtain ⟨G', q, C, cc, hG', hq, c0, c1, c2, c3, hcode⟩ := prog_at hp (i := x.f.toNat) hlt
    rw [hG] at hG'; cases hG'
    subst hq
    refine ⟨q, rfl, by omega, by omega, G.params, e1.cell c0, G.locals, e1.cell c1, G.refs, e1.cell c2, C, G.code.length, cc, e1.cell c3, ?_⟩
    refine call_gives hw1 (fun w2 e2 _ => gives33 (RowAt.keep InsE.kept (RowAt.keep InsE.kept hcode (ext_keeps e1)) (ext_keeps e2)) _ _ _) fun w2 e2 hw2 => ⟨_, rfl, ?_⟩
    refine call_gives hw2 (fun w3 _ _ => gives95 hm.nums.small at_ _) fun w3 e3 hw3 => ⟨_, rfl, ?_⟩
    have hwo : writeOk p mem.length at_ below x = inM mem.length at_ (sizeF G) := by unfold writeOk; rw [hmay, hbl, hfn]; rfl
    have hsF := sizeF_eq hsz
    have hah : 7 ≤ aheadM G ∧ aheadM G ≤ 23 := by unfold aheadM; split <;> omega
    have heq : allM mem.length at_ (sizeM G.locals G.code) = inM mem.length at_ (sizeF G) := by
      show allM mem.length at_ (sizeF G) = _
      unfold allM inM; exact decide_eq_decide.2 (by omega)
    rw [heq]
    cases hin : inM mem.length at_ (sizeF G) with
    | false =>
      rw [if_pos (by simp)]
      exact no hw3 (by rw [hwo, hin])
    | true =>
      rw [if_neg (by simp)]
      have hii := of_decide_eq_true hin
      have hin7 : inM mem.length at_ 7 = true := by unfold inM; exact decide_eq_true (by omega)
      have hpok := put_may hmay hs hpl hbl hin7
      have hM : writeM p mem at_ below x = bodyM (putM mem at_ (hdOf below x)) at_ G x := by unfold writeM; rw [hwo, hin, hfn]; rfl
      have e13 := (e1.trans e2).trans e3
      have hm3 := hm.keep (ext_keeps e13)
      refine call_yieldsX (Q := RPutQ A mem.length c mem at_ (hdOf below x)) hw3.size (fun w4 e4 => yields45 (hm3.keep (ext_keeps e4)) at_ (hd := hdOf below x) hxw.value) fun w4 u w5 w6 hs4 hQ hnew e6 => ?_
      unfold RPutQ at hQ
      rw [if_pos hpok] at hQ
      obtain ⟨v, rfl, hov⟩ := hQ
      have hov6 : OwnWs w6 w.heap.size v (putM mem at_ (hdOf below x)) := owns_base (owns_other hov fun j hj => hnew j (hov.lt j hj).1) (Nat.le_trans hw3.size hs4)
      generalize hPP : putM mem at_ (hdOf below x) = PP at *
      have hPl : PP.length = mem.length := by rw [← hPP, putM_len]
      unfold OwnWs at hov6
      rw [hPl] at hov6
      obtain ⟨g5, cap5, hv5, hb5, hg5⟩ := owns_some hov6 (by omega)
      subst hv5
      refine ⟨_, mem.length, cap5, 0, rfl, ?_⟩
      rw [if_neg (by simp)]
      have hw6 : Below w.heap.size w w6 := e6.after hw3
      have hat : ((at_.toNat : Nat) : Int) = at_ := Int.toNat_of_nonneg hii.1
      have hk7 : IntKind.wrap .i64 (at_ + 7) = ((at_.toNat + 7 : Nat) : Int) := by rw [wrap_id (by omega) (by omega)]; push_cast; omega
      rw [hk7]
      have hroom : x.dfs.length ≠ 0 → roomM G = 4 ∧ aheadM G = 23 := fun hne => by
        unfold roomM at h7 ⊢
        unfold aheadM
        split at h7
        · rename_i hd; rw [if_pos hd, if_pos hd]; exact ⟨rfl, rfl⟩
        · omega
      have hroom4 : x.dfs.length ≤ 4 := by unfold roomM at h7; split at h7 <;> omega
      have hra : aheadM G = 7 + 4 * (roomM G : Int) := by unfold aheadM roomM; split <;> rfl
      have loop : ∀ (k i : Nat) (w' : World), x.dfs.length < i + k → i ≤ x.dfs.length → Below w.heap.size w w' → w'.ownsRow w.heap.size 51 1 (.slice (some ⟨g5, 0, none⟩) mem.length cap5) mem.length ((recsM PP (at_.toNat + 7) x.dfs i).map (.int .u64)) →
          V53.l0 w.heap.size (IsQ w (RWriteQ A mem.length c p mem at_ below x w)) k (some ⟨g5, 0, none⟩) mem.length cap5 ((at_.toNat + 7 : Nat) : Int) i q9 x.f x.pc x.mode x.dfd x.value s.D x.dfs.length s.dc s.L x.locals.length s.lc s.O x.ops.length s.oc q6 (some q) p.length cap w' := by
        intro k
        induction k with
        | zero => intros; omega
        | succ k ih =>
          intro i w' hk hi hw' ho
          dsimp -zeta only [V53.l0]
          by_cases hlt' : i < x.dfs.length
          · rw [if_pos (by simpa using hlt')]
            obtain ⟨d, a, hd, haa, d0, A', c', d1, hargs⟩ := (hx.keep (below_keeps hw')).dfs.at hlt'
            have hdm := h8 d (List.mem_of_getElem? hd)
            obtain ⟨H, hdf0, hH, hda⟩ := dfr_some hdm
            have hHb := sized_bd (hs H (List.mem_of_getElem? hH))
            have hHl := (List.getElem?_eq_some_iff.1 hH).1
            obtain ⟨hr4, hr23⟩ := hroom (by omega)
            have hki : IntKind.wrap .i64 (((at_.toNat + 7 : Nat) : Int) + IntKind.wrap .i64 ((i : Int) * 4)) = ((at_.toNat + 7 + i * 4 : Nat) : Int) := by
              rw [wrap_id (n := (i : Int) * 4) (by omega) (by omega), wrap_id (by omega) (by omega)]; push_cast; rfl
            rw [hki]
            obtain ⟨p1, p2, p3⟩ := own_put ho (j := at_.toNat + 7 + i * 4) (by omega) d.f
            refine ⟨a, haa, by omega, by omega, d.f, d0, _, rfl, by omega, by omega, ?_⟩
            rw [wrap_u64 (n := d.f) (by omega) (by omega)]
            simp only [own_add, bx_add, Nat.add_zero, Nat.zero_add, Int.toNat_natCast]
            refine ⟨p1, p2, 4, ?_⟩
            refine l1_53 hx hg5 (k0 := at_.toNat + 7) (i := i) (M := recsM PP (at_.toNat + 7) x.dfs i) (by omega) (by rw [recsM_len, hPl]) hsm hd (by omega) (by omega) (fun w8 hw8 ho8 => ?_) 4 0 _ (by omega) (by omega) (hw'.setCell hg5 _) p3
            have hgd : x.dfs.getD i ⟨0, []⟩ = d := by simp [List.getD, hd]
            have hrec : recM (recsM PP (at_.toNat + 7) x.dfs i) (at_.toNat + 7 + i * 4) d = recsM PP (at_.toNat + 7) x.dfs (i + 1) := by show _ = recM _ _ (x.dfs.getD i ⟨0, []⟩); rw [hgd]
            rw [hrec] at ho8
            have hwi : IntKind.wrap .i64 ((i : Int) + 1) = ((i + 1 : Nat) : Int) := by rw [wrap_id (by omega) (by omega)]; rfl
            rw [hwi]
            exact ih (i + 1) w8 (by omega) (by omega) hw8 ho8
          · rw [if_neg (by simpa using hlt')]
            have hii' : i = x.dfs.length := by omega
            subst hii'
            refine ⟨q, rfl, by omega, by omega, G.params, below_keeps hw' _ _ c0, G.locals, below_keeps hw' _ _ c1, G.refs, below_keeps hw' _ _ c2, C, G.code.length, cc, below_keeps hw' _ _ c3, ?_⟩
            refine call_gives hw' (fun w7 e7 _ => gives101 (RowAt.keep InsE.kept (RowAt.keep InsE.kept hcode (below_keeps hw')) (ext_keeps e7))) fun w7 e7 hw7 => ⟨_, rfl, ?_⟩
            have hroomb : roomM G ≤ 4 := by unfold roomM; split <;> omega
            have hkr : IntKind.wrap .i64 (((at_.toNat + 7 : Nat) : Int) + IntKind.wrap .i64 ((roomM G : Int) * 4)) = ((at_.toNat + 7 + roomM G * 4 : Nat) : Int) := by
              rw [wrap_id (n := (roomM G : Int) * 4) (by omega) (by omega), wrap_id (by omega) (by omega)]; push_cast; rfl
            rw [hkr]
            have hae : ((at_.toNat + 7 + roomM G * 4 : Nat) : Int) = at_ + aheadM G := by rw [hra]; push_cast; omega
            refine ⟨x.locals.length + 1, l2_53 hx hg5 (k0 := at_.toNat + 7 + roomM G * 4) (M := recsM PP (at_.toNat + 7) x.dfs x.dfs.length) (by omega) (by rw [recsM_len, hPl]) hsm (fun w8 hw8 ho8 => ?_) (x.locals.length + 1) 0 w7 (by omega) (by omega) hw7 (e7.owns ho)⟩
            have hkl : IntKind.wrap .i64 (((at_.toNat + 7 + roomM G * 4 : Nat) : Int) + (x.locals.length : Int)) = ((at_.toNat + 7 + roomM G * 4 + x.locals.length : Nat) : Int) := by
              rw [wrap_id (by omega) (by omega)]; push_cast; rfl
            rw [hkl]
            refine ⟨x.ops.length + 1, l3_53 hx hg5 (k0 := at_.toNat + 7 + roomM G * 4 + x.locals.length) (M := storesM (recsM PP (at_.toNat + 7) x.dfs x.dfs.length) ((at_.toNat + 7 + roomM G * 4 : Nat) : Int) x.locals x.locals.length) (by omega) (by rw [storesM_len, recsM_len, hPl]) hsm (fun w9 hw9 ho9 => ?_) (x.ops.length + 1) 0 w8 (by omega) (by omega) hw8 ho8⟩
            refine ret_q hw9 fun w10 e10 => ?_
            unfold RWriteQ
            rw [hwo, if_pos hin]
            refine ⟨_, rfl, ?_⟩
            unfold OwnWs
            rw [hM]
            have hbl' : (bodyM PP at_ G x).length = mem.length := by unfold bodyM; rw [storesM_len, storesM_len, recsM_len, hPl]
            rw [hbl']
            have hae2 : ((at_.toNat + 7 + roomM G * 4 + x.locals.length : Nat) : Int) = at_ + aheadM G + G.locals := by rw [← hae, ← h5]; push_cast; rfl
            unfold bodyM
            rw [hae, hae2] at ho9
            exact e10.owns ho9
      exact ⟨x.dfs.length + 1, loop (x.dfs.length + 1) 0 w6 (by omega) (by omega) hw6 hov6⟩
end Go.Proofs.Ytlccbaemcfjdoaa
