/-
  Layer 18: frames written by the program, by one plain rule.
  Conditions: the arena, the program, and the frame, lie in memory as told; the program's functions are sized.
-/
import Derived.Test.YtlccbaemcfjdoaaZA18
set_option linter.unusedVariables false
set_option linter.unusedSimpArgs false
namespace Go.Proofs.Ytlccbaemcfjdoaa
open Go.RowKit
def recM (mem : List Int) (k : Nat) (d : Dfr) : List Int := (((mem.set k d.f).set (k + 1) (d.args.getD 0 0)).set (k + 2) (d.args.getD 1 0)).set (k + 3) (d.args.getD 2 0)
def recsM (mem : List Int) (k : Nat) (ds : List Dfr) : Nat → List Int
  | 0 => mem
  | i + 1 => recM (recsM mem k ds i) (k + i * 4) (ds.getD i ⟨0, []⟩)
def hdOf (below : Int) (x : Frm) : Hd := ⟨below, x.f, x.pc, x.mode, x.dfd, x.value, x.dfs.length, x.ops.length⟩
def sizeF (g : Fnc) : Int := sizeM g.locals g.code
def writeOk (p : List Fnc) (n : Nat) (at_ below : Int) (x : Frm) : Bool := mayM p x && belowM n below && match fnAt p x.f with
  | some g => inM n at_ (sizeF g)
  | none => false
def bodyM (mem : List Int) (at_ : Int) (g : Fnc) (x : Frm) : List Int :=
  storesM (storesM (recsM mem (at_.toNat + 7) x.dfs x.dfs.length) (at_ + aheadM g) x.locals x.locals.length) (at_ + aheadM g + g.locals) x.ops x.ops.length
def writeM (p : List Fnc) (mem : List Int) (at_ below : Int) (x : Frm) : List Int :=
  if writeOk p mem.length at_ below x = true then (match fnAt p x.f with
    | some g => bodyM (putM mem at_ (hdOf below x)) at_ g x
    | none => mem) else mem
def writeE (p : List Fnc) (n : Nat) (at_ below : Int) (x : Frm) : Int := if writeOk p n at_ below x = true then 0 else 1
structure FrmWd (x : Frm) : Prop where
  value : 0 ≤ x.value ∧ x.value < 18446744073709551616
  locals : Wd x.locals
  ops : Wd x.ops
  args : ∀ d ∈ x.dfs, Wd d.args
theorem recM_len (mem : List Int) (k : Nat) (d : Dfr) : (recM mem k d).length = mem.length := by simp [recM]
theorem recsM_len (mem : List Int) (k : Nat) (ds : List Dfr) : ∀ i, (recsM mem k ds i).length = mem.length
  | 0 => rfl
  | i + 1 => by rw [recsM, recM_len, recsM_len mem k ds i]
theorem recM_wd {mem : List Int} (h : Wd mem) (k : Nat) {d : Dfr} (hf : 0 ≤ d.f ∧ d.f < 18446744073709551616) (ha : Wd d.args) : Wd (recM mem k d) := (((h.set _ hf).set _ (getD_wd ha _)).set _ (getD_wd ha _)).set _ (getD_wd ha _)
theorem set_set {α : Type} (l : List α) (i : Nat) (x y : α) : (l.set i x).set i y = l.set i y := by simp
theorem set_swap {α : Type} (l : List α) {i j : Nat} (h : i ≠ j) (x y : α) : (l.set i x).set j y = (l.set j y).set i x := List.set_comm x y h
theorem rec_prog {mem : List Int} {k : Nat} {d : Dfr} (hk : k + 4 ≤ mem.length) (ha : d.args.length ≤ 3) : storesM (storeV (fillV mem (k : Int) 4 0) (k : Int) d.f) ((k : Int) + 1) d.args d.args.length = recM mem k d := by
  have e1 : fillV mem (k : Int) 4 0 = (((mem.set k 0).set (k + 1) 0).set (k + 2) 0).set (k + 3) 0 := by
    unfold fillV
    rw [if_pos (by unfold inM; exact decide_eq_true (by omega))]
    rfl
  have e2 : storeV (fillV mem (k : Int) 4 0) (k : Int) d.f = (((mem.set k d.f).set (k + 1) 0).set (k + 2) 0).set (k + 3) 0 := by
    unfold storeV
    rw [if_pos (by unfold inM; rw [fillV_len]; exact decide_eq_true (by omega)), e1, Int.toNat_natCast]
    rw [set_swap _ (show k + 3 ≠ k by omega), set_swap _ (show k + 2 ≠ k by omega), set_swap _ (show k + 1 ≠ k by omega), set_set]
  have hin : (0 : Int) ≤ (k : Int) + 1 ∧ (k : Int) + 1 + (3 : Nat) ≤ ((((mem.set k d.f).set (k + 1) 0).set (k + 2) 0).set (k + 3) 0).length := by simp; omega
  rw [e2]
  have ht : ((k : Int) + 1).toNat = k + 1 := by omega
  unfold recM
  match hargs : d.args with
  | [] => rfl
  | [a] =>
    rw [show [a].length = 0 + 1 from rfl, storesM_set (n := 3) hin (by omega)]
    simp only [storesM, ht, List.getD_cons_zero, List.getD_cons_succ, List.getD_nil, Nat.add_zero]
    rw [set_swap _ (show k + 3 ≠ k + 1 by omega), set_swap _ (show k + 2 ≠ k + 1 by omega), set_set]
  | [a, b] =>
    rw [show [a, b].length = 0 + 1 + 1 from rfl, storesM_set (n := 3) hin (by omega), storesM_set (n := 3) hin (by omega)]
    simp only [storesM, ht, List.getD_cons_zero, List.getD_cons_succ, List.getD_nil, Nat.add_zero, Nat.zero_add, Nat.add_assoc, Nat.reduceAdd]
    rw [set_swap _ (show k + 3 ≠ k + 1 by omega), set_swap _ (show k + 2 ≠ k + 1 by omega), set_set, set_swap _ (show k + 3 ≠ k + 2 by omega), set_set]
  | [a, b, c] =>
    rw [show [a, b, c].length = 0 + 1 + 1 + 1 from rfl, storesM_set (n := 3) hin (by omega), storesM_set (n := 3) hin (by omega), storesM_set (n := 3) hin (by omega)]
    simp only [storesM, ht, List.getD_cons_zero, List.getD_cons_succ, List.getD_nil, Nat.add_zero, Nat.zero_add, Nat.add_assoc, Nat.reduceAdd]
    rw [set_swap _ (show k + 3 ≠ k + 1 by omega), set_swap _ (show k + 2 ≠ k + 1 by omega), set_set, set_swap _ (show k + 3 ≠ k + 2 by omega), set_set, set_set]
  | a :: b :: c :: e :: r => rw [hargs] at ha; simp at ha
theorem may_some {p : List Fnc} {x : Frm} (h : mayM p x = true) : ∃ g, ¬ x.f < 0 ∧ p[x.f.toNat]? = some g ∧ fnAt p x.f = some g ∧ 0 ≤ x.pc ∧ x.pc ≤ g.code.length ∧ 0 ≤ x.mode ∧ x.mode ≤ 2 ∧ (x.locals.length : Int) = g.locals ∧ x.ops.length ≤ 8 ∧ x.dfs.length ≤ roomM g ∧ ∀ d ∈ x.dfs, dfrM p d = true := by
  unfold mayM at h
  cases hf : fnAt p x.f with
  | none => rw [hf] at h; cases h
  | some g =>
    rw [hf] at h
    simp only [Bool.and_eq_true] at h
    obtain ⟨h1, h2⟩ := h
    obtain ⟨a1, a2, a3, a4, a5, a6, a7⟩ := of_decide_eq_true h1
    have hfa := hf
    unfold fnAt at hf
    split at hf
    · cases hf
    · rename_i hneg
      exact ⟨g, hneg, hf, rfl, a1, a2, a3, a4, a5, a6, a7, fun d hd => List.all_eq_true.1 h2 d hd⟩
theorem dfr_some {p : List Fnc} {d : Dfr} (h : dfrM p d = true) : ∃ g, ¬ d.f < 0 ∧ p[d.f.toNat]? = some g ∧ (d.args.length : Int) = g.params := by
  unfold dfrM at h
  cases hf : fnAt p d.f with
  | none => rw [hf] at h; cases h
  | some g =>
    rw [hf] at h
    unfold fnAt at hf
    split at hf
    · cases hf
    · rename_i hneg
      exact ⟨g, hneg, hf, by simpa using h⟩
theorem sizeF_eq {g : Fnc} (h : sizedF g = true) : sizeF g = 8 + g.locals + aheadM g := by
  unfold sizeF aheadM
  rw [sizeM_sized h]; omega
theorem put_may {p : List Fnc} {mem : List Int} {at_ below : Int} {x : Frm} (hm : mayM p x = true) (hs : Sized p) (hp : p.length ≤ 1000) (hb : belowM mem.length below = true) (hin : inM mem.length at_ 7 = true) : putOk mem.length at_ (hdOf below x) = true := by
  obtain ⟨g, h0, hg, _, h1, h2, h3, h4, h5, h6, h7, h8⟩ := may_some hm
  have hbd := sized_bd (hs g (List.mem_of_getElem? hg))
  have hbb := of_decide_eq_true hb
  have hlt := (List.getElem?_eq_some_iff.1 hg).1
  have hroom : roomM g ≤ 4 := by unfold roomM; split <;> omega
  unfold putOk hdOf
  rw [hin, Bool.true_and]
  simp only
  exact decide_eq_true (by omega)
section
variable {w : World} {g b : Nat} {mem : List Int}
theorem puts52 (h : ArenaAt w g b mem) {A : Option Addr} {p : List Fnc} {cap : Nat} (hp : ProgAt (off b w) A p.length p) (hs : Sized p) (hpl : p.length ≤ 1000) (at_ below : Int) {x : Frm} {s : Sls} (hx : FrmAt (off b w) x s) (hxw : FrmWd x) :
    Puts Try.prog 52 [.pointer (some ⟨g, 0, none⟩), .agg ⟨[.slice A p.length cap]⟩, .int .i64 at_, .int .i64 below, frmV x s] w b (.int .i64 (writeE p mem.length at_ below x)) .u64 51 (writeM p mem at_ below x) := by
  refine puts_of (V52.sound ?_)
  intro q6 _ q9 _
  have hl := h.len
  have hp0 : ProgAt w A p.length p := RowAt.keep FncE.kept hp off_in
  refine call_gives (Below.refl _ _) (fun w1 e1 _ => gives49 (RowAt.keep FncE.kept hp0 (ext_keeps e1)) hs ((hx.keep off_in).keep (ext_keeps e1))) fun w1 e1 hw1 => ⟨_, rfl, ?_⟩
  have no : ∀ {w2}, Ext w.heap.size w w2 → writeOk p mem.length at_ below x = false → Ret w.heap.size w2 (IsP w b (.int .i64 (writeE p mem.length at_ below x)) .u64 51 (writeM p mem at_ below x) (.int .i64 1)) := fun he hn =>
    ret_p (ext_chg (Chg.refl _ _) he) (by unfold writeE; rw [hn]; rfl) (by unfold writeM; rw [hn]; exact h.words.ext he)
  cases hm : mayM p x with
  | false =>
    rw [if_neg (by simp)]
    exact no e1 (by unfold writeOk; rw [hm]; rfl)
  | true =>
    rw [if_pos (by simp)]
    refine call_gives hw1 (fun w2 e2 _ => gives96 ((h.ext e1).ext e2) below) fun w2 e2 hw2 => ⟨_, rfl, ?_⟩
    cases hbl : belowM mem.length below with
    | false =>
      rw [if_pos (by simp)]
      exact no (e1.trans e2) (by unfold writeOk; rw [hm, hbl]; rfl)
    | true =>
      rw [if_neg (by simp)]
      obtain ⟨G, hf0, hG, hfn, h1, h2, h3, h4, h5, h6, h7, h8⟩ := may_some hm
      have hsz := hs G (List.mem_of_getElem? hG)
      have hbd := sized_bd hsz
      have hlt := (List.getElem?_eq_some_iff.1 hG).1
      have e12 := e1.trans e2
      obtain ⟨G', q, C, c, hG', hq, c0, c1, c2, c3, hcode⟩ := prog_at (RowAt.keep FncE.kept hp (ext_off e12)) (i := x.f.toNat) hlt
      rw [hG] at hG'; cases hG'
      subst hq
      have hcodeW : CodeAt (off b w) C G.code.length G.code := by
        obtain ⟨G', q', C', c', hG', hq', k0, k1, k2, k3, hcode'⟩ := prog_at hp (i := x.f.toNat) hlt
        rw [hG] at hG'; cases hG'
        cases hq'
        have := ext_off e12 _ _ k3
        rw [c3] at this
        cases this
        exact hcode'
      have o0 := off_in _ _ c0
      have o1 := off_in _ _ c1
      have o2 := off_in _ _ c2
      have o3 := off_in _ _ c3
      have hcode2 : CodeAt w2 C G.code.length G.code := RowAt.keep InsE.kept hcode off_in
      refine ⟨q, rfl, by omega, by omega, G.params, o0, G.locals, o1, G.refs, o2, C, G.code.length, c, o3, ?_⟩
      intro q11 _
      refine call_gives hw2 (fun w3 e3 _ => gives32 (RowAt.keep InsE.kept hcode2 (ext_keeps e3)) _ _ _) fun w3 e3 hw3 => ⟨_, rfl, ?_⟩
      have e13 := e12.trans e3
      refine call_slice hw3 (h.ext e13) fun A4 l4 c4 w4 e4 hw4 _ _ _ => ?_
      unfold errV
      refine ⟨_, _, _, _, rfl, ?_⟩
      have e14 := e13.trans e4
      have hwo : writeOk p mem.length at_ below x = inM mem.length at_ (sizeF G) := by unfold writeOk; rw [hm, hbl, hfn]; rfl
      cases hin : inM mem.length at_ (sizeF G) with
      | false =>
        rw [show sizeM G.locals G.code = sizeF G from rfl, hin]
        simp only [Bool.false_eq_true, if_false]
        rw [if_pos (by simp)]
        exact no e14 (by rw [hwo, hin])
      | true =>
        rw [show sizeM G.locals G.code = sizeF G from rfl, hin]
        simp only [if_true]
        rw [if_neg (by simp)]
        have hii := of_decide_eq_true hin
        have hsF := sizeF_eq hsz
        have hah : 7 ≤ aheadM G ∧ aheadM G ≤ 23 := by unfold aheadM; split <;> omega
        have hin7 : inM mem.length at_ 7 = true := by unfold inM; exact decide_eq_true (by omega)
        have hpok := put_may hm hs hpl hbl hin7
        have hE : writeE p mem.length at_ below x = 0 := by unfold writeE; rw [hwo, hin]; rfl
        have hM : writeM p mem at_ below x = bodyM (putM mem at_ (hdOf below x)) at_ G x := by unfold writeM; rw [hwo, hin, hfn]; rfl
        rw [hE, hM]
        have h14 := h.ext e14
        refine call_puts hw4.size h14.words (fun w5 e5 => puts44 (h14.ext e5) at_ (hd := hdOf below x) hxw.value) fun w5 e5 ho5 => ⟨_, rfl, ?_⟩
        have hc5 : Chg (fun j => j = b) w w5 := e5.chgS (ext_chg (Chg.refl _ _) e14)
        have ha5 : ArenaAt w5 g b (putM mem at_ (hdOf below x)) := h14.turned e5 ho5 (putM_len _ _ _) (putM_wd h.wd at_ (h := hdOf below x) hxw.value (by omega))
        generalize hP : putM mem at_ (hdOf below x) = P at *
        have hPl : P.length = mem.length := by rw [← hP, putM_len]
        have hroom : x.dfs.length ≠ 0 → roomM G = 4 ∧ aheadM G = 23 := fun hne => by
          unfold roomM at h7 ⊢
          unfold aheadM
          split at h7
          · rename_i hd; rw [if_pos hd, if_pos hd]; exact ⟨rfl, rfl⟩
          · omega
        have hroom4 : x.dfs.length ≤ 4 := by unfold roomM at h7; split at h7 <;> omega
        have hat : ((at_.toNat : Nat) : Int) = at_ := Int.toNat_of_nonneg hii.1
        have loop : ∀ (k i : Nat) (w' : World), x.dfs.length < i + k → i ≤ x.dfs.length → Chg (fun j => j = b) w w' → ArenaAt w' g b (recsM P (at_.toNat + 7) x.dfs i) →
            V52.l0 w.heap.size (IsP w b (.int .i64 0) .u64 51 (bodyM P at_ G x)) k ⟨g, 0, none⟩ at_ s.D x.dfs.length s.dc x.dfs.length i q11 G.params G.locals G.refs C G.code.length c q9 x.f x.pc x.mode x.dfd x.value s.D x.dfs.length s.dc s.L x.locals.length s.lc s.O x.ops.length s.oc w' := by
          intro k
          induction k with
          | zero => intros; omega
          | succ k ih =>
            intro i w' hk hi hc ha
            dsimp -zeta only [V52.l0]
            have hxo := hx.keep (chg_off hc)
            by_cases hlt : i < x.dfs.length
            · rw [if_pos (by simpa using hlt)]
              obtain ⟨d, a, hd, haa, d0, A', c', d1, hargs⟩ := hxo.dfs.at hlt
              have hdm := h8 d (List.mem_of_getElem? hd)
              obtain ⟨H, hdf0, hH, hda⟩ := dfr_some hdm
              have hHb := sized_bd (hs H (List.mem_of_getElem? hH))
              have hHl := (List.getElem?_eq_some_iff.1 hH).1
              obtain ⟨hr4, hr23⟩ := hroom (by omega)
              refine ⟨a, haa, by omega, by omega, d.f, off_in _ _ d0, A', d.args.length, c', off_in _ _ d1, ?_⟩
              intro q15 _
              have hk1 : IntKind.wrap .i64 (IntKind.wrap .i64 (at_ + 7) + IntKind.wrap .i64 ((i : Int) * 4)) = ((at_.toNat + 7 + i * 4 : Nat) : Int) := by
                rw [wrap_id (n := at_ + 7) (by omega) (by omega), wrap_id (n := (i : Int) * 4) (by omega) (by omega), wrap_id (by omega) (by omega)]
                push_cast; omega
              rw [hk1]
              have hrl : (recsM P (at_.toNat + 7) x.dfs i).length = mem.length := by rw [recsM_len, hPl]
              refine call_puts hc.size ha.words (fun w6 e6 => puts102 (ha.ext e6) _ 4 0) fun w6 e6 ho6 => ?_
              unfold errV
              refine ⟨_, rfl, ?_⟩
              have ha6 := ha.turned e6 ho6 (fillV_len _ _ _ _) (fillV_wd ha.wd _ _ (by omega))
              have hc6 := e6.chgS hc
              rw [wrap_u64 (n := d.f) (by omega) (by omega)]
              refine call_puts hc6.size ha6.words (fun w7 e7 => puts70 (ha6.ext e7) _ d.f) fun w7 e7 ho7 => ?_
              unfold errV
              refine ⟨_, rfl, ?_⟩
              have ha7 := ha6.turned e7 ho7 (storeV_len _ _ _) (storeV_wd ha6.wd _ (by omega))
              have hc7 := e7.chgS hc6
              have hk2 : IntKind.wrap .i64 (((at_.toNat + 7 + i * 4 : Nat) : Int) + 1) = ((at_.toNat + 7 + i * 4 : Nat) : Int) + 1 := wrap_id (by omega) (by omega)
              rw [hk2]
              have hargs7 : Nums .u64 (off b w7) A' d.args.length d.args := RowAt.keep (NumE.kept _) (RowAt.keep (NumE.kept _) hargs (extS_off e6)) (extS_off e7)
              have hdw := hxw.args d (List.mem_of_getElem? hd)
              refine call_puts hc7.size ha7.words (fun w8 e8 => puts103 (ha7.ext e8) (RowAt.keep (NumE.kept _) hargs7 (ext_off e8)) hdw (by omega) (by omega)) fun w8 e8 ho8 => ⟨rfl, ?_⟩
              rw [rec_prog (by rw [hrl]; omega) (by omega)] at ho8
              have hgd : x.dfs.getD i ⟨0, []⟩ = d := by simp [List.getD, hd]
              have hrec : recM (recsM P (at_.toNat + 7) x.dfs i) (at_.toNat + 7 + i * 4) d = recsM P (at_.toNat + 7) x.dfs (i + 1) := by show _ = recM _ _ (x.dfs.getD i ⟨0, []⟩); rw [hgd]
              rw [hrec] at ho8
              have ha8 := ha7.turned e8 ho8 (by rw [storeV_len, fillV_len, recsM_len, recsM_len]) (by rw [← hrec]; exact recM_wd ha.wd _ (by omega) hdw)
              have hwi : IntKind.wrap .i64 ((i : Int) + 1) = ((i + 1 : Nat) : Int) := by rw [wrap_id (by omega) (by omega)]; rfl
              rw [hwi]
              exact ih (i + 1) w8 (by omega) (by omega) (e8.chgS hc7) ha8
            · rw [if_neg (by simpa using hlt)]
              have hii' : i = x.dfs.length := by omega
              have hcodeN : CodeAt (off b w') C G.code.length G.code := RowAt.keep InsE.kept hcodeW (chg_off hc)
              refine call_givesX hc.size (fun w6 e6 => gives100 hsz (RowAt.keep InsE.kept (RowAt.keep InsE.kept hcodeN off_in) (ext_keeps e6))) fun w6 e6 => ⟨_, _, rfl, ?_⟩
              have hc6 := ext_chg hc e6
              have ha6 := ha.ext e6
              rw [wrap_id (n := at_ + aheadM G) (by omega) (by omega)]
              have hx6 := hx.keep (chg_off hc6)
              refine call_puts hc6.size ha6.words (fun w7 e7 => puts103 (ha6.ext e7) (RowAt.keep (NumE.kept _) hx6.locals (ext_off e7)) hxw.locals (by omega) (by omega)) fun w7 e7 ho7 => ⟨rfl, ?_⟩
              have ha7 := ha6.turned e7 ho7 (storesM_len _ _ _ _) (storesM_wd ha6.wd _ hxw.locals _)
              have hc7 := e7.chgS hc6
              rw [wrap_id (n := at_ + aheadM G + G.locals) (by omega) (by omega)]
              have hx7 := hx.keep (chg_off hc7)
              refine call_puts hc7.size ha7.words (fun w8 e8 => puts103 (ha7.ext e8) (RowAt.keep (NumE.kept _) hx7.ops (ext_off e8)) hxw.ops (by omega) (by omega)) fun w8 e8 ho8 => ⟨rfl, ?_⟩
              refine ret_p (e8.chgS hc7) rfl ?_
              unfold bodyM
              rw [← hii']
              rw [hii'] at ho8 ⊢
              exact ho8
        exact ⟨x.dfs.length + 1, loop (x.dfs.length + 1) 0 w5 (by omega) (by omega) hc5 ha5⟩
end
end Go.Proofs.Ytlccbaemcfjdoaa
set_option linter.unusedVariables false
set_option linter.unusedSimpArgs false
namespace Go.Proofs.Ytlccbaemcfjdoaa
open Go.RowKit
theorem own_put {w : World} {B g n cap : Nat} {L : List Int} (h : w.ownsRow B 51 1 (.slice (some ⟨g, 0, none⟩) n cap) n (L.map (.int .u64))) {j : Nat} (hj : j < n) (y : Int) :
    (∃ u, w.cell? ⟨g, j, none⟩ = some u) ∧ w.frozen? ⟨g, j, none⟩ = false ∧ (w.setCell ⟨g, j, none⟩ (.int .u64 y)).ownsRow B 51 1 (.slice (some ⟨g, 0, none⟩) n cap) n ((L.set j y).map (.int .u64)) := by
  have hl := h.1
  refine ⟨⟨_, owns_cell h (List.getElem?_eq_getElem (show j < (L.map (Value.int .u64)).length by omega))⟩, owns_frozen h j, ?_⟩
  have := owns_set h j (.int .u64 y) (by omega)
  rwa [← List.map_set] at this
def recN (mem : List Int) (k : Nat) (d : Dfr) : Nat → List Int
  | 0 => mem.set k d.f
  | j + 1 => (recN mem k d j).set (k + 1 + j) (d.args.getD j 0)
def RWriteQ (A : Option Addr) (l c : Nat) (p : List Fnc) (mem : List Int) (at_ below : Int) (x : Frm) (w1 : World) : Value → World → Prop := fun u w2 =>
  if writeOk p mem.length at_ below x = true then ∃ v, u = .tuple ⟨[v, .int .i64 0]⟩ ∧ OwnWs w2 w1.heap.size v (writeM p mem at_ below x) else u = .tuple ⟨[.slice A l c, .int .i64 1]⟩
section
variable {w0 : World} {Q : Value → World → Prop} {n cap g5 q9 : Nat} {x : Frm} {s : Sls}
theorem l3_53 (hx : FrmAt w0 x s) (hg : w0.heap.size ≤ g5) {k0 : Nat} {M : List Int} (hk0 : k0 + x.ops.length ≤ n) (hM : M.length = n) (hn : n ≤ 1000000000)
    (hR : ∀ w, Below w0.heap.size w0 w → w.ownsRow w0.heap.size 51 1 (.slice (some ⟨g5, 0, none⟩) n cap) n ((storesM M k0 x.ops x.ops.length).map (.int .u64)) → Ret w0.heap.size w (IsQ w0 Q (.tuple ⟨[.slice (some ⟨g5, 0, none⟩) n cap, .int .i64 0]⟩))) :
    ∀ (k i : Nat) (w : World), x.ops.length < i + k → i ≤ x.ops.length → Below w0.heap.size w0 w → w.ownsRow w0.heap.size 51 1 (.slice (some ⟨g5, 0, none⟩) n cap) n ((storesM M k0 x.ops i).map (.int .u64)) →
      V53.l3 w0.heap.size (IsQ w0 Q) k (some ⟨g5, 0, none⟩) n cap k0 i q9 x.f x.pc x.mode x.dfd x.value s.D x.dfs.length s.dc s.L x.locals.length s.lc s.O x.ops.length s.oc w := by
  intro k
  induction k with
  | zero => intros; omega
  | succ k ih =>
    intro i w hk hi hw ho
    dsimp -zeta only [V53.l3]
    by_cases hlt : i < x.ops.length
    · rw [if_pos (by simpa using hlt)]
      obtain ⟨y, p, hy, hp, hc⟩ := (hx.keep (below_keeps hw)).ops.at hlt
      have hki : IntKind.wrap .i64 ((k0 : Int) + (i : Int)) = ((k0 + i : Nat) : Int) := by rw [wrap_id (by omega) (by omega)]; rfl
      rw [hki]
      obtain ⟨p1, p2, p3⟩ := own_put ho (j := k0 + i) (by omega) y
      refine ⟨p, hp, by omega, by omega, y, hc, _, rfl, by omega, by omega, ?_⟩
      simp only [own_add, bx_add, Nat.add_zero, Nat.zero_add, Int.toNat_natCast]
      refine ⟨p1, p2, ?_⟩
      have hgd : x.ops.getD i 0 = y := by simp [List.getD, hy]
      have hst := storesM_set (mem := M) (at_ := (k0 : Int)) (ws := x.ops) (n := x.ops.length) ⟨by omega, by omega⟩ hlt
      rw [Int.toNat_natCast, hgd] at hst
      rw [← hst] at p3
      have hwi : IntKind.wrap .i64 ((i : Int) + 1) = ((i + 1 : Nat) : Int) := by rw [wrap_id (by omega) (by omega)]; rfl
      rw [hwi]
      exact ih (i + 1) _ (by omega) (by omega) (hw.setCell hg _) p3
    · rw [if_neg (by simpa using hlt)]
      have : i = x.ops.length := by omega
      subst this
      exact hR w hw ho
theorem l2_53 (hx : FrmAt w0 x s) (hg : w0.heap.size ≤ g5) {k0 : Nat} {M : List Int} (hk0 : k0 + x.locals.length ≤ n) (hM : M.length = n) (hn : n ≤ 1000000000)
    (hR : ∀ w, Below w0.heap.size w0 w → w.ownsRow w0.heap.size 51 1 (.slice (some ⟨g5, 0, none⟩) n cap) n ((storesM M k0 x.locals x.locals.length).map (.int .u64)) →
      ∃ k_1, V53.l3 w0.heap.size (IsQ w0 Q) k_1 (some ⟨g5, 0, none⟩) n cap (IntKind.wrap .i64 ((k0 : Int) + (x.locals.length : Int))) 0 q9 x.f x.pc x.mode x.dfd x.value s.D x.dfs.length s.dc s.L x.locals.length s.lc s.O x.ops.length s.oc w) :
    ∀ (k i : Nat) (w : World), x.locals.length < i + k → i ≤ x.locals.length → Below w0.heap.size w0 w → w.ownsRow w0.heap.size 51 1 (.slice (some ⟨g5, 0, none⟩) n cap) n ((storesM M k0 x.locals i).map (.int .u64)) →
      V53.l2 w0.heap.size (IsQ w0 Q) k (some ⟨g5, 0, none⟩) n cap k0 i q9 x.f x.pc x.mode x.dfd x.value s.D x.dfs.length s.dc s.L x.locals.length s.lc s.O x.ops.length s.oc w := by
  intro k
  induction k with
  | zero => intros; omega
  | succ k ih =>
    intro i w hk hi hw ho
    dsimp -zeta only [V53.l2]
    by_cases hlt : i < x.locals.length
    · rw [if_pos (by simpa using hlt)]
      obtain ⟨y, p, hy, hp, hc⟩ := (hx.keep (below_keeps hw)).locals.at hlt
      have hki : IntKind.wrap .i64 ((k0 : Int) + (i : Int)) = ((k0 + i : Nat) : Int) := by rw [wrap_id (by omega) (by omega)]; rfl
      rw [hki]
      obtain ⟨p1, p2, p3⟩ := own_put ho (j := k0 + i) (by omega) y
      refine ⟨p, hp, by omega, by omega, y, hc, _, rfl, by omega, by omega, ?_⟩
      simp only [own_add, bx_add, Nat.add_zero, Nat.zero_add, Int.toNat_natCast]
      refine ⟨p1, p2, ?_⟩
      have hgd : x.locals.getD i 0 = y := by simp [List.getD, hy]
      have hst := storesM_set (mem := M) (at_ := (k0 : Int)) (ws := x.locals) (n := x.locals.length) ⟨by omega, by omega⟩ hlt
      rw [Int.toNat_natCast, hgd] at hst
      rw [← hst] at p3
      have hwi : IntKind.wrap .i64 ((i : Int) + 1) = ((i + 1 : Nat) : Int) := by rw [wrap_id (by omega) (by omega)]; rfl
      rw [hwi]
      exact ih (i + 1) _ (by omega) (by omega) (hw.setCell hg _) p3
    · rw [if_neg (by simpa using hlt)]
      have : i = x.locals.length := by omega
      subst this
      exact hR w hw ho
theorem l1_53 {L0 : Option Addr → Nat → Nat → Int → Int → Nat → Int → Int → Int → Bool → Int → Option Addr → Nat → Nat → Option Addr → Nat → Nat → Option Addr → Nat → Nat → Nat → Option Addr → Nat → Nat → World → Prop} {q6 np cP : Nat} {P : Option Addr}
    (hx : FrmAt w0 x s) (hg : w0.heap.size ≤ g5) {k0 i : Nat} {M : List Int} (hk0 : k0 + i * 4 + 4 ≤ n) (hM : M.length = n) (hn : n ≤ 1000000000) {d : Dfr} (hd : x.dfs[i]? = some d) (h3 : d.args.length ≤ 3) (hi4 : i ≤ 4)
    (hR : ∀ w, Below w0.heap.size w0 w → w.ownsRow w0.heap.size 51 1 (.slice (some ⟨g5, 0, none⟩) n cap) n ((recM M (k0 + i * 4) d).map (.int .u64)) → L0 (some ⟨g5, 0, none⟩) n cap k0 (IntKind.wrap .i64 ((i : Int) + 1)) q9 x.f x.pc x.mode x.dfd x.value s.D x.dfs.length s.dc s.L x.locals.length s.lc s.O x.ops.length s.oc q6 P np cP w) :
    ∀ (k j : Nat) (w : World), 3 < j + k → j ≤ 3 → Below w0.heap.size w0 w → w.ownsRow w0.heap.size 51 1 (.slice (some ⟨g5, 0, none⟩) n cap) n ((recN M (k0 + i * 4) d j).map (.int .u64)) →
      V53.l1 w0.heap.size (IsQ w0 Q) L0 k (some ⟨g5, 0, none⟩) n cap k0 i j q9 x.f x.pc x.mode x.dfd x.value s.D x.dfs.length s.dc s.L x.locals.length s.lc s.O x.ops.length s.oc q6 P np cP w := by
  have hlt := (List.getElem?_eq_some_iff.1 hd).1
  intro k
  induction k with
  | zero => intros; omega
  | succ k ih =>
    intro j w hk hj hw ho
    dsimp -zeta only [V53.l1]
    by_cases h1 : j < 3
    · rw [if_pos (by simp; omega)]
      have hki : IntKind.wrap .i64 (IntKind.wrap .i64 (IntKind.wrap .i64 ((k0 : Int) + IntKind.wrap .i64 ((i : Int) * 4)) + 1) + (j : Int)) = ((k0 + i * 4 + 1 + j : Nat) : Int) := by
        rw [wrap_id (n := (i : Int) * 4) (by omega) (by omega), wrap_id (n := (k0 : Int) + (i : Int) * 4) (by omega) (by omega), wrap_id (n := (k0 : Int) + (i : Int) * 4 + 1) (by omega) (by omega), wrap_id (by omega) (by omega)]
        push_cast; rfl
      rw [hki]
      obtain ⟨p1, p2, p3⟩ := own_put ho (j := k0 + i * 4 + 1 + j) (by omega) 0
      refine ⟨_, rfl, by omega, by omega, ?_⟩
      simp only [own_add, bx_add, Nat.add_zero, Nat.zero_add, Int.toNat_natCast]
      refine ⟨p1, p2, ?_⟩
      have hw1 : Below w0.heap.size w0 (w.setCell ⟨g5, k0 + i * 4 + 1 + j, none⟩ (.int .u64 0)) := hw.setCell hg _
      generalize (w.setCell ⟨g5, k0 + i * 4 + 1 + j, none⟩ (.int .u64 0)) = w1 at *
      obtain ⟨d', a, hd', ha, d0, A', c', d1, hargs⟩ := (hx.keep (below_keeps hw1)).dfs.at hlt
      rw [hd] at hd'; cases hd'
      refine ⟨a, ha, by omega, by omega, A', d.args.length, c', d1, ?_⟩
      have hwj : IntKind.wrap .i64 ((j : Int) + 1) = ((j + 1 : Nat) : Int) := by rw [wrap_id (by omega) (by omega)]; rfl
      rw [hwj]
      by_cases hja : j < d.args.length
      · rw [if_pos (by simpa using hja)]
        obtain ⟨y, p, hy, hp, hc⟩ := hargs.at hja
        obtain ⟨r1, r2, r3⟩ := own_put p3 (j := k0 + i * 4 + 1 + j) (by omega) y
        refine ⟨a, ha, by omega, by omega, A', d.args.length, c', d1, p, hp, by omega, by omega, y, hc, _, rfl, by omega, by omega, ?_⟩
        simp only [own_add, bx_add, Nat.add_zero, Nat.zero_add, Int.toNat_natCast]
        refine ⟨r1, r2, ?_⟩
        have hgd : d.args.getD j 0 = y := by simp [List.getD, hy]
        rw [set_set] at r3
        refine ih (j + 1) _ (by omega) (by omega) (hw1.setCell hg _) ?_
        show World.ownsRow _ _ _ _ _ _ (((recN M (k0 + i * 4) d j).set (k0 + i * 4 + 1 + j) (d.args.getD j 0)).map (.int .u64))
        rw [hgd]
        exact r3
      · rw [if_neg (by simpa using hja)]
        refine ih (j + 1) _ (by omega) (by omega) hw1 ?_
        have hgd : d.args.getD j 0 = 0 := by rw [List.getD, List.getElem?_eq_none (by omega)]; rfl
        show World.ownsRow _ _ _ _ _ _ (((recN M (k0 + i * 4) d j).set (k0 + i * 4 + 1 + j) (d.args.getD j 0)).map (.int .u64))
        rw [hgd]
        exact p3
    · rw [if_neg (by simp; omega)]
      have : j = 3 := by omega
      subst this
      exact hR w hw ho
end
theorem yields53 {w : World} {A P : Option Addr} {l c cap : Nat} {mem : List Int} (hm : WordsAt w A l c mem) {p : List Fnc} (hp : ProgAt w P p.length p) (hs : Sized p) (hpl : p.length ≤ 1000) (at_ below : Int) {x : Frm} {s : Sls} (hx : FrmAt w x s) (hxw : FrmWd x) :
    Yields Try.prog 53 [.slice A l c, .agg ⟨[.slice P p.length cap]⟩, .int .i64 at_, .int .i64 below, frmV x s] w (RWriteQ A l c p mem at_ below x w) := by
  refine yields_of (V53.sound ?_)
  intro q6 _ q9 _
  obtain rfl := hm.nums.len
  have hsm := hm.small
  refine call_gives (Below.refl _ _) (fun w1 e1 _ => gives50 (RowAt.keep FncE.kept hp (ext_keeps e1)) (hx.keep (ext_keeps e1))) fun w1 e1 hw1 => ⟨_, rfl, ?_⟩
  have no : ∀ {w2}, Below w.heap.size w w2 → writeOk p mem.length at_ below x = false → Ret w.heap.size w2 (IsQ w (RWriteQ A mem.length c p mem at_ below x w) (.tuple ⟨[.slice A mem.length c, .int .i64 1]⟩)) := fun hw hn =>
    ret_q hw fun w3 _ => by unfold RWriteQ; rw [hn]; rfl
  cases hmay : mayM p x with
  | false =>
    rw [if_neg (by simp)]
    exact no hw1 (by unfold writeOk; rw [hmay]; rfl)
  | true =>
    rw [if_pos (by simp)]
    have nob : ∀ {w2}, Below w.heap.size w w2 → belowM mem.length below = false → Ret w.heap.size w2 (IsQ w (RWriteQ A mem.length c p mem at_ below x w) (.tuple ⟨[.slice A mem.length c, .int .i64 1]⟩)) := fun hw hn => no hw (by unfold writeOk; rw [hmay, hn]; rfl)
    by_cases b0 : below < -1
    · rw [if_neg (by simpa using b0)]; exact nob hw1 (by unfold belowM; exact decide_eq_false (by omega))
    rw [if_pos (by simpa using b0)]
    by_cases b1 : below ≥ mem.length
    · rw [if_neg (by simpa using b1)]; exact nob hw1 (by unfold belowM; exact decide_eq_false (by omega))
    rw [if_pos (by simpa using b1)]
    have hbl : belowM mem.length below = true := by unfold belowM; exact decide_eq_true (by omega)
    obtain ⟨G, hf0, hG, hfn, h1, h2, h3, h4, h5, h6, h7, h8⟩ := may_some hmay
    have hsz := hs G (List.mem_of_getElem? hG)
    have hbd := sized_bd hsz
    have hlt := (List.getElem?_eq_some_iff.1 hG).1
    obtain ⟨G', q, C, cc, hG', hq, c0, c1, c2, c3, hcode⟩ := prog_at hp (i := x.f.toNat) hlt
    rw [hG] at hG'; cases hG'
    subst hq
    refine ⟨q, rfl, by omega, by omega, G.params, e1.cell c0, G.locals, e1.cell c1, G.refs, e1.cell c2, C, G.code.length, cc, e1.cell c3, ?_⟩
    refine call_gives hw1 (fun w2 e2 _ => gives33 (RowAt.keep InsE.kept (RowAt.keep InsE.kept hcode (ext_keeps e1)) (ext_keeps e2)) _ _ _) fun w2 e2 hw2 => ⟨_, rfl, ?_⟩
    refine call_gives hw2 (fun w3 _ _ => gives95 hm.nums.small at_ _) fun w3 e3 hw3 => ⟨_, rfl, ?_⟩
    have hwo : writeOk p mem.length at_ below x = inM mem.length at_ (sizeF G) := by unfold writeOk; rw [hmay, hbl, hfn]; rfl
    have hsF := sizeF_eq hsz
    have hah : 7 ≤ aheadM G ∧ aheadM G ≤ 23 := by unfold aheadM; split <;> omega
    have heq : allM mem.length at_ (sizeM G.locals G.code) = inM mem.length at_ (sizeF G) := by
      show allM mem.length at_ (sizeF G) = _
      unfold allM inM; exact decide_eq_decide.2 (by omega)
    rw [heq]
    cases hin : inM mem.length at_ (sizeF G) with
    | false =>
      rw [if_pos (by simp)]
      exact no hw3 (by rw [hwo, hin])
    | true =>
      rw [if_neg (by simp)]
      have hii := of_decide_eq_true hin
      have hin7 : inM mem.length at_ 7 = true := by unfold inM; exact decide_eq_true (by omega)
      have hpok := put_may hmay hs hpl hbl hin7
      have hM : writeM p mem at_ below x = bodyM (putM mem at_ (hdOf below x)) at_ G x := by unfold writeM; rw [hwo, hin, hfn]; rfl
      have e13 := (e1.trans e2).trans e3
      have hm3 := hm.keep (ext_keeps e13)
      refine call_yieldsX (Q := RPutQ A mem.length c mem at_ (hdOf below x)) hw3.size (fun w4 e4 => yields45 (hm3.keep (ext_keeps e4)) at_ (hd := hdOf below x) hxw.value) fun w4 u w5 w6 hs4 hQ hnew e6 => ?_
      unfold RPutQ at hQ
      rw [if_pos hpok] at hQ
      obtain ⟨v, rfl, hov⟩ := hQ
      have hov6 : OwnWs w6 w.heap.size v (putM mem at_ (hdOf below x)) := owns_base (owns_other hov fun j hj => hnew j (hov.lt j hj).1) (Nat.le_trans hw3.size hs4)
      generalize hPP : putM mem at_ (hdOf below x) = PP at *
      have hPl : PP.length = mem.length := by rw [← hPP, putM_len]
      unfold OwnWs at hov6
      rw [hPl] at hov6
      obtain ⟨g5, cap5, hv5, hb5, hg5⟩ := owns_some hov6 (by omega)
      subst hv5
      refine ⟨_, mem.length, cap5, 0, rfl, ?_⟩
      rw [if_neg (by simp)]
      have hw6 : Below w.heap.size w w6 := e6.after hw3
      have hat : ((at_.toNat : Nat) : Int) = at_ := Int.toNat_of_nonneg hii.1
      have hk7 : IntKind.wrap .i64 (at_ + 7) = ((at_.toNat + 7 : Nat) : Int) := by rw [wrap_id (by omega) (by omega)]; push_cast; omega
      rw [hk7]
      have hroom : x.dfs.length ≠ 0 → roomM G = 4 ∧ aheadM G = 23 := fun hne => by
        unfold roomM at h7 ⊢
        unfold aheadM
        split at h7
        · rename_i hd; rw [if_pos hd, if_pos hd]; exact ⟨rfl, rfl⟩
        · omega
      have hroom4 : x.dfs.length ≤ 4 := by unfold roomM at h7; split at h7 <;> omega
      have hra : aheadM G = 7 + 4 * (roomM G : Int) := by unfold aheadM roomM; split <;> rfl
      have loop : ∀ (k i : Nat) (w' : World), x.dfs.length < i + k → i ≤ x.dfs.length → Below w.heap.size w w' → w'.ownsRow w.heap.size 51 1 (.slice (some ⟨g5, 0, none⟩) mem.length cap5) mem.length ((recsM PP (at_.toNat + 7) x.dfs i).map (.int .u64)) →
          V53.l0 w.heap.size (IsQ w (RWriteQ A mem.length c p mem at_ below x w)) k (some ⟨g5, 0, none⟩) mem.length cap5 ((at_.toNat + 7 : Nat) : Int) i q9 x.f x.pc x.mode x.dfd x.value s.D x.dfs.length s.dc s.L x.locals.length s.lc s.O x.ops.length s.oc q6 (some q) p.length cap w' := by
        intro k
        induction k with
        | zero => intros; omega
        | succ k ih =>
          intro i w' hk hi hw' ho
          dsimp -zeta only [V53.l0]
          by_cases hlt' : i < x.dfs.length
          · rw [if_pos (by simpa using hlt')]
            obtain ⟨d, a, hd, haa, d0, A', c', d1, hargs⟩ := (hx.keep (below_keeps hw')).dfs.at hlt'
            have hdm := h8 d (List.mem_of_getElem? hd)
            obtain ⟨H, hdf0, hH, hda⟩ := dfr_some hdm
            have hHb := sized_bd (hs H (List.mem_of_getElem? hH))
            have hHl := (List.getElem?_eq_some_iff.1 hH).1
            obtain ⟨hr4, hr23⟩ := hroom (by omega)
            have hki : IntKind.wrap .i64 (((at_.toNat + 7 : Nat) : Int) + IntKind.wrap .i64 ((i : Int) * 4)) = ((at_.toNat + 7 + i * 4 : Nat) : Int) := by
              rw [wrap_id (n := (i : Int) * 4) (by omega) (by omega), wrap_id (by omega) (by omega)]; push_cast; rfl
            rw [hki]
            obtain ⟨p1, p2, p3⟩ := own_put ho (j := at_.toNat + 7 + i * 4) (by omega) d.f
            refine ⟨a, haa, by omega, by omega, d.f, d0, _, rfl, by omega, by omega, ?_⟩
            rw [wrap_u64 (n := d.f) (by omega) (by omega)]
            simp only [own_add, bx_add, Nat.add_zero, Nat.zero_add, Int.toNat_natCast]
            refine ⟨p1, p2, 4, ?_⟩
            refine l1_53 hx hg5 (k0 := at_.toNat + 7) (i := i) (M := recsM PP (at_.toNat + 7) x.dfs i) (by omega) (by rw [recsM_len, hPl]) hsm hd (by omega) (by omega) (fun w8 hw8 ho8 => ?_) 4 0 _ (by omega) (by omega) (hw'.setCell hg5 _) p3
            have hgd : x.dfs.getD i ⟨0, []⟩ = d := by simp [List.getD, hd]
            have hrec : recM (recsM PP (at_.toNat + 7) x.dfs i) (at_.toNat + 7 + i * 4) d = recsM PP (at_.toNat + 7) x.dfs (i + 1) := by show _ = recM _ _ (x.dfs.getD i ⟨0, []⟩); rw [hgd]
            rw [hrec] at ho8
            have hwi : IntKind.wrap .i64 ((i : Int) + 1) = ((i + 1 : Nat) : Int) := by rw [wrap_id (by omega) (by omega)]; rfl
            rw [hwi]
            exact ih (i + 1) w8 (by omega) (by omega) hw8 ho8
          · rw [if_neg (by simpa using hlt')]
            have hii' : i = x.dfs.length := by omega
            subst hii'
            refine ⟨q, rfl, by omega, by omega, G.params, below_keeps hw' _ _ c0, G.locals, below_keeps hw' _ _ c1, G.refs, below_keeps hw' _ _ c2, C, G.code.length, cc, below_keeps hw' _ _ c3, ?_⟩
            refine call_gives hw' (fun w7 e7 _ => gives101 (RowAt.keep InsE.kept (RowAt.keep InsE.kept hcode (below_keeps hw')) (ext_keeps e7))) fun w7 e7 hw7 => ⟨_, rfl, ?_⟩
            have hroomb : roomM G ≤ 4 := by unfold roomM; split <;> omega
            have hkr : IntKind.wrap .i64 (((at_.toNat + 7 : Nat) : Int) + IntKind.wrap .i64 ((roomM G : Int) * 4)) = ((at_.toNat + 7 + roomM G * 4 : Nat) : Int) := by
              rw [wrap_id (n := (roomM G : Int) * 4) (by omega) (by omega), wrap_id (by omega) (by omega)]; push_cast; rfl
            rw [hkr]
            have hae : ((at_.toNat + 7 + roomM G * 4 : Nat) : Int) = at_ + aheadM G := by rw [hra]; push_cast; omega
            refine ⟨x.locals.length + 1, l2_53 hx hg5 (k0 := at_.toNat + 7 + roomM G * 4) (M := recsM PP (at_.toNat + 7) x.dfs x.dfs.length) (by omega) (by rw [recsM_len, hPl]) hsm (fun w8 hw8 ho8 => ?_) (x.locals.length + 1) 0 w7 (by omega) (by omega) hw7 (e7.owns ho)⟩
            have hkl : IntKind.wrap .i64 (((at_.toNat + 7 + roomM G * 4 : Nat) : Int) + (x.locals.length : Int)) = ((at_.toNat + 7 + roomM G * 4 + x.locals.length : Nat) : Int) := by
              rw [wrap_id (by omega) (by omega)]; push_cast; rfl
            rw [hkl]
            refine ⟨x.ops.length + 1, l3_53 hx hg5 (k0 := at_.toNat + 7 + roomM G * 4 + x.locals.length) (M := storesM (recsM PP (at_.toNat + 7) x.dfs x.dfs.length) ((at_.toNat + 7 + roomM G * 4 : Nat) : Int) x.locals x.locals.length) (by omega) (by rw [storesM_len, recsM_len, hPl]) hsm (fun w9 hw9 ho9 => ?_) (x.ops.length + 1) 0 w8 (by omega) (by omega) hw8 ho8⟩
            refine ret_q hw9 fun w10 e10 => ?_
            unfold RWriteQ
            rw [hwo, if_pos hin]
            refine ⟨_, rfl, ?_⟩
            unfold OwnWs
            rw [hM]
            have hbl' : (bodyM PP at_ G x).length = mem.length := by unfold bodyM; rw [storesM_len, storesM_len, recsM_len, hPl]
            rw [hbl']
            have hae2 : ((at_.toNat + 7 + roomM G * 4 + x.locals.length : Nat) : Int) = at_ + aheadM G + G.locals := by rw [← hae, ← h5]; push_cast; rfl
            unfold bodyM
            rw [hae, hae2] at ho9
            exact e10.owns ho9
      exact ⟨x.dfs.length + 1, loop (x.dfs.length + 1) 0 w6 (by omega) (by omega) hw6 hov6⟩
end Go.Proofs.Ytlccbaemcfjdoaa
set_option linter.unusedVariables false
set_option linter.unusedSimpArgs false
namespace Go.Proofs.Ytlccbaemcfjdoaa
open Go.RowKit
theorem ext_then {B : Nat} {S : Nat → Prop} {ws w w' : World} (h : Ext B ws w) (k : ExtS B S w w') (hS : ∀ j, S j → ws.heap.size ≤ j) (hB : B ≤ ws.heap.size) : Ext B ws w' :=
  ⟨k.os.trans h.os, k.tape.trans h.tape, k.output.trans h.output, Nat.le_trans h.size k.size, fun i c t f hi => k.row i c t f (fun e => by have := hS i e; have := lt_of_some hi; omega) (h.row i c t f hi),
    fun i hi => (k.low i hi (fun e => by have := hS i e; omega)).trans (h.low i hi)⟩
theorem ExtS.ofExt {B : Nat} {S : Nat → Prop} {a b c : World} (h : Ext B a b) (k : ExtS B S b c) : ExtS B S a c := h.toS.trans k
theorem owns_ne {w : World} {B B' : Nat} {e e' : TypeId} {s s' : Nat} {v v' : Value} {n n' : Nat} {xs xs' : List Value} (h : w.ownsRow B e s v n xs) (h' : w.ownsRow B' e' s' v' n' xs') (he : e ≠ e') {k : Nat} (hk : v.ownBlock = some k) : v'.ownBlock ≠ some k := fun hk' => by
  rcases h.2 with ⟨rfl, _⟩ | ⟨g, cap, cur, rfl, _, hg, _⟩
  · cases hk
  · rcases h'.2 with ⟨rfl, _⟩ | ⟨g', cap', cur', rfl, _, hg', _⟩
    · cases hk'
    · cases hk; cases hk'
      rw [hg] at hg'
      cases hg'
      exact he rfl
theorem push_word {B b0 : Nat} {w : World} {bs : List Nat} {v : Value} {n : Nat} {xs : List Int} {x : Int} {K : Value → World → Prop} (hB : B ≤ w.heap.size) (hb0 : b0 ≤ w.heap.size) (ho : w.ownsRow b0 51 1 v n (xs.map (.int .u64))) (hn : n ≤ 1000000000)
    (hk : ∀ v' w', ExtS B (fun k => v.ownBlock = some k) w w' → w'.ownsRow b0 51 1 v' (n + 1) ((xs ++ [x]).map (.int .u64)) → K v' w') :
    Expo B w bs fun w1 => Hide bs (w1.alloc (.cells ⟨[.int .u64 x]⟩ 51)) fun w2 => RunK Try.prog (Builtin.append_ #[50, 50] 50 ⟨[v, .slice (some ⟨w1.heap.size, 0, none⟩) 1 1]⟩) B w2 bs K := by
  refine expo_alloc hB fun w1 w2 hs e2 _ ho2 => ?_
  have hb8 : Try.t51.bytes = 8 := by kernel_rfl
  have hx : Nums .u64 w2 (some ⟨w1.heap.size, 0, none⟩) 1 [x] := OwnI.nums (xs := [x]) (e := 51) ho2 (by simp only [List.length_cons, List.length_nil, maxLen]; omega)
  refine append_nums (t := 50) (e := 51) (i := Try.t51) (k := .u64) (bytes := 8) (b0 := b0) (by kernel_rfl) (by kernel_rfl) (by kernel_rfl) (by kernel_rfl) hb8 (Nat.le_refl _) (e2.owns ho) hx (by omega) (Nat.le_trans hB e2.size) (Nat.le_trans hb0 e2.size) fun v' w' he ho' _ => hk v' w' (he.ofExt e2) ho'
def dfsV : List Dfr → List Value → List Value
  | d :: ds, v :: vs => .int .i64 d.f :: v :: dfsV ds vs
  | _, _ => []
theorem dfs_get : ∀ {ds : List Dfr} {vs : List Value} {i : Nat} {d : Dfr} {v : Value}, ds[i]? = some d → vs[i]? = some v → (dfsV ds vs)[i * 2]? = some (.int .i64 d.f) ∧ (dfsV ds vs)[i * 2 + 1]? = some v
  | [], vs, i, d, v, h, _ => by simp at h
  | y :: ds, [], i, d, v, _, h => by simp at h
  | y :: ds, u :: vs, 0, d, v, h, hv => by
    simp at h hv; subst h; subst hv
    exact ⟨rfl, rfl⟩
  | y :: ds, u :: vs, i + 1, d, v, h, hv => by
    obtain ⟨h1, h2⟩ := dfs_get (ds := ds) (vs := vs) (i := i) (by simpa using h) (by simpa using hv)
    rw [show (i + 1) * 2 = i * 2 + 2 by omega, show i * 2 + 2 + 1 = i * 2 + 1 + 2 by omega]
    exact ⟨h1, h2⟩
theorem dfs_snoc (d : Dfr) (v : Value) : ∀ {ds : List Dfr} {vs : List Value}, vs.length = ds.length → dfsV (ds ++ [d]) (vs ++ [v]) = dfsV ds vs ++ [.int .i64 d.f, v]
  | [], [], h => rfl
  | [], u :: vs, h => by simp at h
  | y :: ds, [], h => by simp at h
  | y :: ds, u :: vs, h => by
    have := dfs_snoc d v (ds := ds) (vs := vs) (by simpa using h)
    simp only [List.cons_append, dfsV, this]
structure OwnDs (w : World) (B : Nat) (v : Value) (ds : List Dfr) (vs : List Value) : Prop where
  row : w.ownsRow B 75 2 v ds.length (dfsV ds vs)
  len : vs.length = ds.length
  args : ∀ (i : Nat) (d : Dfr) (u : Value), ds[i]? = some d → vs[i]? = some u → OwnWs w B u d.args
theorem OwnDs.ext {B B' : Nat} {w w' : World} {v : Value} {ds : List Dfr} {vs : List Value} (h : OwnDs w B v ds vs) (he : Ext B' w w') : OwnDs w' B v ds vs :=
  ⟨he.owns h.row, h.len, fun i d u hd hu => he.owns (h.args i d u hd hu)⟩
theorem OwnDs.nil (w : World) (B : Nat) : OwnDs w B (.slice none 0 0) [] [] := ⟨World.ownsRow_nil _ _ _ _, rfl, fun i d u h => by simp at h⟩
theorem push_dfr {B b0 : Nat} {w : World} {bs : List Nat} {v u : Value} {ds : List Dfr} {vs : List Value} {d : Dfr} {K : Value → World → Prop} (hB : B ≤ w.heap.size) (hb0 : b0 ≤ w.heap.size) (ho : OwnDs w b0 v ds vs) (hu : OwnWs w b0 u d.args) (hn : ds.length ≤ 1000000)
    (hk : ∀ v' w', ExtS B (fun k => v.ownBlock = some k) w w' → OwnDs w' b0 v' (ds ++ [d]) (vs ++ [u]) → K v' w') :
    Expo B w bs fun w1 => Hide bs (w1.alloc (.cells ⟨[.int .i64 d.f, u]⟩ 75)) fun w2 => RunK Try.prog (Builtin.append_ #[65, 65] 65 ⟨[v, .slice (some ⟨w1.heap.size, 0, none⟩) 1 1]⟩) B w2 bs K := by
  refine expo_alloc hB fun w1 w2 hs e2 _ ho2 => ?_
  have hb32 : Try.t75.bytes = 32 := by kernel_rfl
  have hone : u.oneCell' = true := by
    obtain ⟨A, c, rfl⟩ := owns_slice0 hu; rfl
  refine append_own (t := 65) (e := 75) (i := Try.t75) (z := .agg ⟨[.int .i64 0, .slice none 0 0]⟩) (size := 2) (bytes := 32) (b0 := b0) (by kernel_rfl) (by kernel_rfl) (by kernel_rfl) (by kernel_rfl) hb32 rfl (by omega) (e2.owns ho.row) (news := [.int .i64 d.f, u]) rfl (fun j y hj => by rw [own_add]; exact at_cell (L := [.int .i64 d.f, u]) ho2 hj) (fun y hy => ?_) (by simp only [maxLen]; omega) (by omega) (Nat.le_trans hB e2.size) (Nat.le_trans hb0 e2.size) fun v' w' he ho' _ => hk v' w' (he.ofExt e2) ⟨?_, by simp [ho.len], fun i y z hy hz => ?_⟩
  · simp only [List.mem_cons, List.not_mem_nil, or_false] at hy
    rcases hy with rfl | rfl
    · rfl
    · exact hone
  · rw [dfs_snoc d u ho.len]
    simpa using ho'
  · have hall : OwnWs w b0 z y.args := by
      by_cases hi : i < ds.length
      · rw [List.getElem?_append_left hi] at hy
        rw [List.getElem?_append_left (by rw [ho.len]; exact hi)] at hz
        exact ho.args i y z hy hz
      · have hi' : i = ds.length := by have := (List.getElem?_eq_some_iff.1 hy).1; simp at this; omega
        subst hi'
        have h1 : y = d := by simpa using hy.symm
        have h2 : z = u := by rw [← ho.len] at hz; simpa using hz.symm
        subst h1; subst h2
        exact hu
    have h2 := e2.owns hall
    exact he.owns h2 fun k hk => owns_ne h2 (e2.owns ho.row) (by decide) hk
theorem OwnDs.dfs {w : World} {B : Nat} {v : Value} {ds : List Dfr} {vs : List Value} (h : OwnDs w B v ds vs) (hl : ds.length ≤ 1000000) (ha : ∀ d ∈ ds, d.args.length ≤ 1000000) : ∃ A c, v = .slice A ds.length c ∧ Dfrs (newW B w) A ds.length ds := by
  rcases h.row.2 with ⟨rfl, h0⟩ | ⟨g, cap, cur, rfl, hb, _⟩
  · have : ds = [] := List.eq_nil_of_length_eq_zero h0
    subst this
    exact ⟨none, 0, rfl, rfl, Nat.zero_le _, fun i x h => by simp at h⟩
  · refine ⟨_, cap, rfl, rfl, by simp only [maxLen]; omega, fun i d hd => ⟨_, rfl, ?_⟩⟩
    have hi := (List.getElem?_eq_some_iff.1 hd).1
    have hv : vs[i]? = some (vs[i]'(by rw [h.len]; exact hi)) := List.getElem?_eq_getElem _
    obtain ⟨k1, k2⟩ := dfs_get hd hv
    have c1 := owns_cell h.row k1
    have c2 := owns_cell h.row k2
    have harg := h.args i d _ hd hv
    obtain ⟨A, c, hvv, hn, hbl⟩ := ownws_nums harg (by have := ha d (List.mem_of_getElem? hd); omega)
    rw [hvv] at c2
    unfold DfrE
    simp only [own_add, bx_add, Nat.add_zero, Nat.zero_add]
    refine ⟨newW_cell.2 ⟨c1, hb⟩, A, c, newW_cell.2 ⟨c2, hb⟩, hn.len, hn.small, fun j y hj => ?_⟩
    obtain ⟨p, hp, he⟩ := hn.get j y hj
    refine ⟨p, hp, ?_⟩
    unfold NumE at he ⊢
    exact newW_cell.2 ⟨he, by rw [add_block]; exact hbl p hp⟩
theorem ownws_new {w : World} {B : Nat} {v : Value} {xs : List Int} (h : OwnWs w B v xs) (hl : xs.length ≤ 1000000000) : ∃ A c, v = .slice A xs.length c ∧ Nums .u64 (newW B w) A xs.length xs := by
  obtain ⟨A, c, hv, hn, hb⟩ := ownws_nums h (by omega)
  refine ⟨A, c, hv, hn.len, hn.small, fun i x hx => ?_⟩
  obtain ⟨p, hp, he⟩ := hn.get i x hx
  refine ⟨p, hp, ?_⟩
  unfold NumE at he ⊢
  exact newW_cell.2 ⟨he, by rw [add_block]; exact hb p hp⟩
def frm0 : Frm := ⟨0, 0, 0, false, 0, [], [], []⟩
def dfrR (p : List Fnc) (mem : List Int) (k : Nat) : Dfr := ⟨mem.getD k 0, match p[(mem.getD k 0).toNat]? with
  | some g => sub mem ((k : Int) + 1) g.params
  | none => []⟩
def dfsR (p : List Fnc) (mem : List Int) (k : Nat) : Nat → List Dfr
  | 0 => []
  | n + 1 => dfsR p mem k n ++ [dfrR p mem (k + n * 4)]
def dfsOk (p : List Fnc) (mem : List Int) (k n : Nat) : Bool := (List.range n).all fun i => decide (mem.getD (k + i * 4) 0 < p.length)
theorem dfsR_len (p : List Fnc) (mem : List Int) (k : Nat) : ∀ n, (dfsR p mem k n).length = n
  | 0 => rfl
  | n + 1 => by simp [dfsR, dfsR_len p mem k n]
def frmR (p : List Fnc) (mem : List Int) (at_ : Int) (h : Hd) (g : Fnc) : Frm :=
  ⟨h.f, h.pc, h.mode, h.dfd, h.value, dfsR p mem (at_.toNat + 7) h.dfs.toNat, sub mem (at_ + aheadM g) g.locals, sub mem (at_ + aheadM g + g.locals) h.ops⟩
def readH (p : List Fnc) (mem : List Int) (at_ : Int) (h : Hd) : Frm × Int × Int :=
  match fnAt p h.f with
  | none => (frm0, 0, 6)
  | some g =>
    if (h.pc ≤ g.code.length ∧ h.dfs ≤ roomM g ∧ h.ops ≤ 8) then
      (if inM mem.length at_ (sizeF g) = true then
        (if dfsOk p mem (at_.toNat + 7) h.dfs.toNat = true then (frmR p mem at_ h g, h.below, 0) else (frm0, 0, 6))
       else (frm0, 0, 1))
    else (frm0, 0, 6)
theorem readH_none {p : List Fnc} {mem : List Int} {at_ : Int} {h : Hd} (hf : fnAt p h.f = none) : readH p mem at_ h = (frm0, 0, 6) := by unfold readH; rw [hf]
theorem readH_some {p : List Fnc} {mem : List Int} {at_ : Int} {h : Hd} {g : Fnc} (hf : fnAt p h.f = some g) : readH p mem at_ h = if (h.pc ≤ g.code.length ∧ h.dfs ≤ roomM g ∧ h.ops ≤ 8) then
      (if inM mem.length at_ (sizeF g) = true then
        (if dfsOk p mem (at_.toNat + 7) h.dfs.toNat = true then (frmR p mem at_ h g, h.below, 0) else (frm0, 0, 6))
       else (frm0, 0, 1))
    else (frm0, 0, 6) := by unfold readH; rw [hf]
def readM (p : List Fnc) (mem : List Int) (at_ : Int) : Frm × Int × Int :=
  if (getM mem at_).2 ≠ 0 then (frm0, 0, (getM mem at_).2) else readH p mem at_ (getM mem at_).1
def frm0V : Value := .agg ⟨[.int .i64 0, .int .i64 0, .int .i64 0, .bool false, .int .u64 0, .slice none 0 0, .slice none 0 0, .slice none 0 0]⟩
def ReadQ (r : Frm × Int × Int) (w1 : World) : Value → World → Prop := fun u w2 => ∃ s, u = .tuple ⟨[frmV r.1 s, .int .i64 r.2.1, .int .i64 r.2.2]⟩ ∧ FrmAt (newW w1.heap.size w2) r.1 s
theorem frm0_at (w : World) : FrmAt w frm0 ⟨none, 0, none, 0, none, 0⟩ := ⟨⟨rfl, Nat.zero_le _, fun i x h => by simp [frm0] at h⟩, nums_nil _ _, nums_nil _ _⟩
theorem sub_sub {mem : List Int} {a o m n : Nat} (h : o + m ≤ n) : (((mem.drop a).take n).drop o).take m = (mem.drop (a + o)).take m := by
  rw [List.drop_take, List.take_take, List.drop_drop, Nat.min_eq_left (by omega)]
theorem nums_sub {k : IntKind} {w : World} {a : Addr} {l : Nat} {xs : List Int} (h : Nums k w (some a) l xs) {o m : Nat} (hom : o + m ≤ l) : Nums k w (some (a.add o)) m ((xs.drop o).take m) := by
  refine ⟨by simp [h.len]; omega, by have := h.small; omega, fun i x hx => ?_⟩
  rw [List.getElem?_take] at hx
  split at hx
  · rw [List.getElem?_drop] at hx
    obtain ⟨p, hp, he⟩ := h.get _ x hx
    cases hp
    refine ⟨_, rfl, ?_⟩
    unfold NumE at he ⊢
    rw [Nat.mul_one] at he ⊢
    rw [adr_add]; exact he
  · cases hx
end Go.Proofs.Ytlccbaemcfjdoaa
set_option linter.unusedVariables false
set_option linter.unusedSimpArgs false
namespace Go.Proofs.Ytlccbaemcfjdoaa
open Go.RowKit
theorem get_zero {mem : List Int} {at_ : Int} (hw : Wd mem) (h : (getM mem at_).2 = 0) : inM mem.length at_ 7 = true ∧ 0 ≤ (getM mem at_).1.f ∧ (getM mem at_).1.f ≤ 2147483648 ∧ 0 ≤ (getM mem at_).1.pc ∧ (getM mem at_).1.pc ≤ 2147483648 ∧ 0 ≤ (getM mem at_).1.dfs ∧ 0 ≤ (getM mem at_).1.ops ∧
    0 ≤ (getM mem at_).1.mode ∧ (getM mem at_).1.mode ≤ 2 ∧ 0 ≤ (getM mem at_).1.value ∧ (getM mem at_).1.value < 18446744073709551616 ∧ -1 ≤ (getM mem at_).1.below ∧ (getM mem at_).1.below < mem.length := by
  unfold getM at h ⊢
  by_cases hin : inM mem.length at_ 7 = true
  · rw [if_pos hin] at h ⊢
    by_cases hok : headOk mem.length (wordAt mem at_) = true
    · rw [if_pos hok] at h ⊢
      have h1 := of_decide_eq_true hok
      have b0 := wordAt_wd hw at_ 0
      have b1 := wordAt_wd hw at_ 1
      have b2 := wordAt_wd hw at_ 2
      have b3 := wordAt_wd hw at_ 3
      have b4 := wordAt_wd hw at_ 4
      have b5 := wordAt_wd hw at_ 5
      have b6 := wordAt_wd hw at_ 6
      simp only [headOf]
      refine ⟨hin, ?_⟩
      omega
    · rw [if_neg hok] at h; simp at h
  · rw [if_neg hin] at h; simp at h
theorem owns_cap {w : World} {B : Nat} {e : TypeId} {s l c n : Nat} {A : Option Addr} {xs : List Value} (h : w.ownsRow B e s (.slice A l c) n xs) : l = n ∧ n ≤ c := by
  rcases h.2 with ⟨hv, rfl⟩ | ⟨g, cap, cur, hv, _, _, hc, _⟩
  · cases hv; exact ⟨rfl, Nat.le_refl _⟩
  · cases hv; exact ⟨rfl, hc⟩
theorem yields104' {w : World} {A : Option Addr} {a : Addr} {l m c : Nat} {xs : List Int} (hA : A = some a) (hl : l = m) (hx : Nums .u64 w (some a) m xs) (hm : m ≤ 17592186044416) : Yields Try.prog 104 [.slice A l c] w (OwnQ xs w) := by
  subst hA; subst hl
  exact yields104 hx hm
theorem word_sub {mem : List Int} {a n j : Nat} (h : j < n) (hl : a + j < mem.length) : ((mem.drop a).take n)[j]? = some (mem.getD (a + j) 0) := by
  rw [List.getElem?_take, if_pos h, List.getElem?_drop]
  exact getD_get hl
theorem yields54 {w : World} {g b : Nat} {mem : List Int} (h : ArenaAt w g b mem) {P : Option Addr} {p : List Fnc} {cap : Nat} (hp : ProgAt w P p.length p) (hs : Sized p) (hpl : p.length ≤ 1000) (at_ : Int) :
    Yields Try.prog 54 [.pointer (some ⟨g, 0, none⟩), .agg ⟨[.slice P p.length cap]⟩, .int .i64 at_] w (ReadQ (readM p mem at_) w) := by
  refine yields_of (V54.sound ?_)
  intro q4 _ q6 _
  have hml := h.len
  have bad : ∀ {w2 : World} {e : Int}, Below w.heap.size w w2 → readM p mem at_ = (frm0, 0, e) → Ret w.heap.size w2 (IsQ w (ReadQ (readM p mem at_) w) (.tuple ⟨[frm0V, .int .i64 0, .int .i64 e]⟩)) := fun hw hr =>
    ret_q hw fun w3 _ => ⟨⟨none, 0, none, 0, none, 0⟩, by rw [hr]; rfl, by rw [hr]; exact frm0_at _⟩
  refine call_gives (Below.refl _ _) (fun w1 e1 _ => gives42 (h.ext e1) at_) fun w1 e1 hw1 => ?_
  refine ⟨_, _, _, _, _, _, _, _, _, rfl, ?_⟩
  intro q9 _
  by_cases he : (getM mem at_).2 = 0
  case neg =>
    rw [if_pos (by simpa using he)]
    exact bad hw1 (by unfold readM; rw [if_pos he])
  rw [if_neg (by simpa using he)]
  have hR0 : readM p mem at_ = readH p mem at_ (getM mem at_).1 := by unfold readM; rw [if_neg (by simpa using he)]
  obtain ⟨hin7, f0, f1, pc0, pc1, d0, o0, m0, m1, v0, v1, b0, b1⟩ := get_zero h.wd he
  generalize (getM mem at_).1 = hd at *
  have hw7 := of_decide_eq_true hin7
  by_cases hfl : hd.f < p.length
  case neg =>
    refine call_gives hw1 (fun w2 e2 _ => gives99_out (.inr (by omega))) fun w2 e2 hw2 => ⟨_, _, _, _, _, _, _, rfl, ?_⟩
    intro q11 _
    rw [if_pos (by simp)]
    exact bad hw2 (by rw [hR0, readH_none (fnAt_none (.inr (by omega)))])
  obtain ⟨G, q, C, cc, hG, hq, c0, c1, c2, c3, hcode⟩ := prog_at hp (i := hd.f.toNat) (by omega)
  subst hq
  have hsz := hs G (List.mem_of_getElem? hG)
  have hbd := sized_bd hsz
  have hfn := fnAt_some (p := p) (by omega) hG
  rw [readH_some hfn] at hR0
  have hff : ((hd.f.toNat : Nat) : Int) = hd.f := Int.toNat_of_nonneg f0
  have h99 := fun (w2 : World) (e2 : Ext w.heap.size w1 w2) => gives99 (w := w2) (l := p.length) (cap := cap) (f := hd.f.toNat) (x := G) (by omega) (e2.cell (e1.cell c0)) (e2.cell (e1.cell c1)) (e2.cell (e1.cell c2)) (e2.cell (e1.cell c3))
  rw [hff] at h99
  refine call_gives hw1 (fun w2 e2 _ => h99 w2 e2) fun w2 e2 hw2 => ⟨_, _, _, _, _, _, _, rfl, ?_⟩
  intro q11 _
  rw [hsz, if_neg (by simp)]
  have hcode2 : CodeAt w2 C G.code.length G.code := RowAt.keep InsE.kept hcode (below_keeps hw2)
  refine call_gives hw2 (fun w3 e3 _ => gives100 hsz (RowAt.keep InsE.kept hcode2 (ext_keeps e3))) fun w3 e3 hw3 => ⟨_, _, rfl, ?_⟩
  have hcode3 : CodeAt w3 C G.code.length G.code := RowAt.keep InsE.kept hcode (below_keeps hw3)
  have six : ∀ {w4}, Below w.heap.size w w4 → ¬ (hd.pc ≤ G.code.length ∧ hd.dfs ≤ roomM G ∧ hd.ops ≤ 8) → Ret w.heap.size w4 (IsQ w (ReadQ (readM p mem at_) w) (.tuple ⟨[frm0V, .int .i64 0, .int .i64 6]⟩)) := fun hw hn => bad hw (by rw [hR0, if_neg hn])
  by_cases t0 : hd.pc > G.code.length
  · rw [if_neg (by simpa using t0)]; exact six hw3 (by omega)
  rw [if_pos (by simpa using t0)]
  by_cases t1 : hd.dfs > 4
  · rw [if_neg (by simpa using t1)]; exact six hw3 (by unfold roomM; split <;> omega)
  rw [if_pos (by simpa using t1)]
  have body : (hd.pc ≤ G.code.length ∧ hd.dfs ≤ roomM G ∧ hd.ops ≤ 8) → V54.b0 w.heap.size (IsQ w (ReadQ (readM p mem at_) w)) ⟨g, 0, none⟩ at_ (aheadM G) q11 G.params G.locals G.refs C G.code.length cc q9 hd.below hd.f hd.pc hd.mode hd.dfd hd.value hd.dfs hd.ops q6 0 0 0 false 0 none 0 0 none 0 0 none 0 0 q4 (some q) p.length cap w3 := by
    intro hcond
    rw [if_pos hcond] at hR0
    unfold V54.b0
    refine call_gives hw3 (fun w4 e4 _ => gives32 (RowAt.keep InsE.kept hcode3 (ext_keeps e4)) _ _ _) fun w4 e4 hw4 => ⟨_, rfl, ?_⟩
    have h4 : ArenaAt w4 g b mem := (((h.ext e1).ext e2).ext e3).ext e4
    refine call_slice hw4 h4 fun A5 l5 c5 w5 e5 hw5 ho5 hn5 hfr5 => ?_
    unfold errV
    refine ⟨_, _, _, _, rfl, ?_⟩
    rw [show sizeM G.locals G.code = sizeF G from rfl] at *
    have hsF := sizeF_eq hsz
    have hah : 7 ≤ aheadM G ∧ aheadM G ≤ 23 := by unfold aheadM; split <;> omega
    cases hin : inM mem.length at_ (sizeF G) with
    | false =>
      rw [hin] at hR0
      simp only [Bool.false_eq_true, if_false] at hR0 ⊢
      rw [if_pos (by simp)]
      exact bad hw5 hR0
    | true =>
      rw [hin] at hR0
      rw [hin, if_pos rfl] at ho5
      simp only [if_true] at hR0 ⊢
      rw [if_neg (by simp)]
      intro q16 _
      have hii := of_decide_eq_true hin
      have hsubl : (sub mem at_ (sizeF G)).length = (sizeF G).toNat := sub_len hin
      obtain ⟨hl5, hc5⟩ := owns_cap ho5
      rw [hsubl] at hl5 hc5
      subst hl5
      obtain ⟨gw, capw, hvw, _, hgw⟩ := owns_some ho5 (by omega)
      rw [hsubl] at hvw
      cases hvw
      have ho5' : OwnWs w5 w.heap.size (.slice (some ⟨gw, 0, none⟩) (sizeF G).toNat c5) (sub mem at_ (sizeF G)) := owns_base ho5 hw4.size
      clear ho5 hn5 hfr5
      have hsl : ((sizeF G).toNat : Int) = sizeF G := Int.toNat_of_nonneg (by omega)
      have hat : ((at_.toNat : Nat) : Int) = at_ := Int.toNat_of_nonneg hii.1
      have hroom : hd.dfs.toNat ≠ 0 → roomM G = 4 ∧ aheadM G = 23 := fun hne => by
        have h7 := hcond.2.1
        unfold roomM at h7 ⊢
        unfold aheadM
        split at h7
        · rename_i hdd; rw [if_pos hdd, if_pos hdd]; exact ⟨rfl, rfl⟩
        · omega
      have hnd : ((hd.dfs.toNat : Nat) : Int) = hd.dfs := Int.toNat_of_nonneg d0
      -- words of the slice
      have rows : ∀ {w'}, OwnWs w' w.heap.size (.slice (some ⟨gw, 0, none⟩) (sizeF G).toNat c5) (sub mem at_ (sizeF G)) → Nums .u64 w' (some ⟨gw, 0, none⟩) (sizeF G).toNat (sub mem at_ (sizeF G)) := fun ho => by
        obtain ⟨A, c, hv, hn, _⟩ := ownws_nums ho (by rw [hsubl]; omega)
        rw [hsubl] at hv hn
        cases hv
        exact hn
      have part : ∀ {w'} {o m : Nat}, OwnWs w' w.heap.size (.slice (some ⟨gw, 0, none⟩) (sizeF G).toNat c5) (sub mem at_ (sizeF G)) → o + m ≤ (sizeF G).toNat → Nums .u64 w' (some ⟨gw, o, none⟩) m ((mem.drop (at_.toNat + o)).take m) := fun {w' o m} ho hom => by
        have h1 := nums_sub (rows ho) hom
        unfold sub at h1
        rw [sub_sub hom, bx_add, Nat.zero_add] at h1
        exact h1
      have loop : ∀ (k i : Nat) (w' : World) (D : Option Addr) (dc : Nat) (vs : List Value), hd.dfs.toNat < i + k → i ≤ hd.dfs.toNat → Below w.heap.size w w' → OwnWs w' w.heap.size (.slice (some ⟨gw, 0, none⟩) (sizeF G).toNat c5) (sub mem at_ (sizeF G)) →
          OwnDs w' w.heap.size (.slice D i dc) (dfsR p mem (at_.toNat + 7) i) vs → (∀ j, j < i → mem.getD (at_.toNat + 7 + j * 4) 0 < p.length) → (∀ d ∈ dfsR p mem (at_.toNat + 7) i, d.args.length ≤ 3) →
          V54.l1 w.heap.size (IsQ w (ReadQ (readM p mem at_) w)) k (aheadM G) (some ⟨gw, 0, none⟩) (sizeF G).toNat c5 hd.dfs i q16 hd.f hd.pc hd.mode hd.dfd hd.value D i dc none 0 0 none 0 0 q11 G.params G.locals G.refs C G.code.length cc q9 hd.below hd.f hd.pc hd.mode hd.dfd hd.value hd.dfs hd.ops q6 0 0 0 false 0 none 0 0 none 0 0 none 0 0 q4 (some q) p.length cap w' := by
        intro k
        induction k with
        | zero => intros; omega
        | succ k ih =>
          intro i w' D dc vs hk hi hw' ho hds hok hargs
          dsimp -zeta only [V54.l1]
          by_cases hlt : i < hd.dfs.toNat
          · rw [if_pos (by simp; omega)]
            obtain ⟨hr4, hr23⟩ := hroom (by omega)
            have hK : IntKind.wrap .i64 (7 + IntKind.wrap .i64 ((i : Int) * 4)) = ((7 + i * 4 : Nat) : Int) := by
              rw [wrap_id (n := (i : Int) * 4) (by omega) (by omega), wrap_id (by omega) (by omega)]; push_cast; rfl
            rw [hK]
            simp only [Int.toNat_natCast]
            refine ⟨by omega, by omega, by omega, by omega, ?_⟩
            have hptr : (if c5 - (7 + i * 4) = 0 then if c5 = 7 + i * 4 then (some ⟨gw, 0, none⟩ : Option Addr) else Option.map (fun a : Addr => a.add (7 + i * 4)) (some (⟨gw, 0, none⟩ : Addr)) else Option.map (fun a : Addr => a.add 0) (if c5 = 7 + i * 4 then (some ⟨gw, 0, none⟩ : Option Addr) else Option.map (fun a : Addr => a.add (7 + i * 4)) (some (⟨gw, 0, none⟩ : Addr)))) = some (⟨gw, 7 + i * 4, none⟩ : Addr) := by
              rw [if_neg (by omega), if_neg (by omega)]
              simp [bx_add]
            have hcellw := (part (o := 7 + i * 4) (m := 1) ho (by omega)).get 0 (mem.getD (at_.toNat + 7 + i * 4) 0) (by rw [show at_.toNat + 7 + i * 4 = at_.toNat + (7 + i * 4) + 0 by omega]; exact word_sub (by omega) (by omega))
            obtain ⟨pw, hpw, hcw⟩ := hcellw
            cases hpw
            have hwb := getD_wd h.wd (at_.toNat + 7 + i * 4)
            rw [hptr]
            refine ⟨_, rfl, by omega, by omega, _, hcw, ?_⟩
            rw [wrap_u64 (n := (p.length : Int)) (by omega) (by omega)]
            by_cases hbig : mem.getD (at_.toNat + 7 + i * 4) 0 ≥ p.length
            · rw [if_pos (by simpa using hbig)]
              refine bad hw' ?_
              rw [hR0, if_neg]
              intro hall
              have := List.all_eq_true.1 hall i (List.mem_range.2 hlt)
              have := of_decide_eq_true this
              omega
            · rw [if_neg (by simpa using hbig)]
              obtain ⟨H, qh, CH, ch, hH, hqh, k0, _, _, _, _⟩ := prog_at (RowAt.keep FncE.kept hp (below_keeps hw')) (i := (mem.getD (at_.toNat + 7 + i * 4) 0).toNat) (by omega)
              cases hqh
              have hHb := sized_bd (hs H (List.mem_of_getElem? hH))
              generalize hwd : mem.getD (at_.toNat + 7 + i * 4) 0 = wd at *
              refine ⟨_, rfl, by omega, by omega, _, hcw, q, rfl, ?_⟩
              rw [wrap_id (n := wd) (by omega) (by omega)]
              refine ⟨by omega, by omega, H.params, k0, ?_⟩
              rw [wrap_id (n := 1 + H.params) (by omega) (by omega)]
              refine ⟨by omega, by omega, by omega, by omega, ?_⟩
              have hpn : ((H.params.toNat : Nat) : Int) = H.params := Int.toNat_of_nonneg hHb.1
              refine call_own (xs := (mem.drop (at_.toNat + (7 + i * 4 + 1))).take H.params.toNat) hw' (fun w6 e6 _ => yields104' (a := ⟨gw, 7 + i * 4 + 1, none⟩) (m := H.params.toNat) ?_ ?_ (part (e6.owns ho) (by omega)) (by omega)) fun v w6 e6 hw6 hov => ?_
              · rw [if_neg (by omega)]
                simp [bx_add]
              · omega
              have hdr : dfrR p mem (at_.toNat + 7 + i * 4) = ⟨wd, (mem.drop (at_.toNat + (7 + i * 4 + 1))).take H.params.toNat⟩ := by
                unfold dfrR
                rw [hwd, hH]
                simp only [sub]
                rw [show (((at_.toNat + 7 + i * 4 : Nat) : Int) + 1).toNat = at_.toNat + (7 + i * 4 + 1) by omega]
              obtain ⟨Av, cv, hvv⟩ := owns_slice0 hov
              refine ⟨Av, _, cv, hvv, ?_⟩
              rw [← hvv]
              refine push_dfr (b0 := w.heap.size) (d := ⟨wd, (mem.drop (at_.toNat + (7 + i * 4 + 1))).take H.params.toNat⟩) (ds := dfsR p mem (at_.toNat + 7) i) (vs := vs) hw6.size hw6.size (by exact (hds.ext e6)) (owns_base hov hw'.size) (by rw [dfsR_len]; omega) fun v7 w7 e7 hds7 => ?_
              obtain ⟨D7, c7, hv7⟩ := owns_slice0 hds7.row
              have hl7 : (dfsR p mem (at_.toNat + 7) i ++ [(⟨wd, (mem.drop (at_.toNat + (7 + i * 4 + 1))).take H.params.toNat⟩ : Dfr)]).length = i + 1 := by simp [dfsR_len]
              rw [hl7] at hv7
              refine ⟨D7, i + 1, c7, hv7, ?_⟩
              have hwi : IntKind.wrap .i64 ((i : Int) + 1) = ((i + 1 : Nat) : Int) := by rw [wrap_id (by omega) (by omega)]; rfl
              rw [hwi]
              have hsame : dfsR p mem (at_.toNat + 7) i ++ [(⟨wd, (mem.drop (at_.toNat + (7 + i * 4 + 1))).take H.params.toNat⟩ : Dfr)] = dfsR p mem (at_.toNat + 7) (i + 1) := by rw [← hdr]; rfl
              rw [hsame, hv7] at hds7
              refine ih (i + 1) w7 D7 c7 _ (by omega) (by omega) (e7.after (fun j hj => (hds.row.lt j hj).1) hw6) (e7.owns (e6.owns ho) fun j hj => ?_) hds7 (fun j hj => ?_) fun d hd' => ?_
              · exact owns_ne (e6.owns ho) (e6.owns hds.row) (by decide) hj
              · rcases Nat.lt_succ_iff_lt_or_eq.1 hj with hj | rfl
                · exact hok j hj
                · rw [hwd]; omega
              · rw [← hsame] at hd'
                rcases List.mem_append.1 hd' with hd' | hd'
                · exact hargs d hd'
                · simp at hd'; subst hd'
                  simp only [List.length_take]
                  omega
          · rw [if_neg (by simp; omega)]
            have hii' : i = hd.dfs.toNat := by omega
            have hgood : readM p mem at_ = (frmR p mem at_ hd G, hd.below, 0) := by
              rw [hR0, if_pos]
              refine List.all_eq_true.2 fun j hj => decide_eq_true ?_
              have := List.mem_range.1 hj
              exact hok j (by omega)
            rw [wrap_id (n := aheadM G + G.locals) (by omega) (by omega)]
            refine ⟨by omega, by omega, by omega, by omega, ?_⟩
            have hln : ((G.locals.toNat : Nat) : Int) = G.locals := Int.toNat_of_nonneg (by omega)
            have han : ((aheadM G).toNat : Int) = aheadM G := Int.toNat_of_nonneg (by omega)
            have hop : ((hd.ops.toNat : Nat) : Int) = hd.ops := Int.toNat_of_nonneg o0
            refine call_own (xs := (mem.drop (at_.toNat + (aheadM G).toNat)).take G.locals.toNat) hw' (fun w6 e6 _ => yields104' (a := ⟨gw, (aheadM G).toNat, none⟩) (m := G.locals.toNat) ?_ ?_ (part (e6.owns ho) (by omega)) (by omega)) fun v6 w6 e6 hw6 hov6 => ?_
            · rw [if_neg (by omega)]
              simp [bx_add]
            · omega
            obtain ⟨L6, c6, hv6, hn6⟩ := ownws_new (owns_base hov6 hw'.size) (by simp; omega)
            refine ⟨L6, _, c6, hv6, by omega, by omega, by omega, by omega, ?_⟩
            refine call_own (xs := (mem.drop (at_.toNat + (aheadM G + G.locals).toNat)).take hd.ops.toNat) hw6 (fun w7 e7 _ => yields104' (a := ⟨gw, (aheadM G + G.locals).toNat, none⟩) (m := hd.ops.toNat) ?_ ?_ (part (e7.owns (e6.owns ho)) (by omega)) (by omega)) fun v7 w7 e7 hw7 hov7 => ?_
            · rw [if_neg (by omega), if_neg (by omega)]
              simp [bx_add]
            · omega
            obtain ⟨O7, c7, hv7, hn7⟩ := ownws_new (owns_base hov7 hw6.size) (by simp; omega)
            refine ⟨O7, _, c7, hv7, ret_q hw7 fun w8 e8 => ?_⟩
            obtain ⟨D8, c8, hv8, hn8⟩ := ((hds.ext e6).ext e7).dfs (by rw [dfsR_len]; omega) (fun d hd' => by have := hargs d hd'; omega)
            rw [dfsR_len] at hv8
            cases hv8
            have eloc : (mem.drop (at_.toNat + (aheadM G).toNat)).take G.locals.toNat = (frmR p mem at_ hd G).locals := by
              simp only [frmR, sub]
              rw [show (at_ + aheadM G).toNat = at_.toNat + (aheadM G).toNat by omega]
            have eops : (mem.drop (at_.toNat + (aheadM G + G.locals).toNat)).take hd.ops.toNat = (frmR p mem at_ hd G).ops := by
              simp only [frmR, sub]
              rw [show (at_ + aheadM G + G.locals).toNat = at_.toNat + (aheadM G + G.locals).toNat by omega]
            have edfs : dfsR p mem (at_.toNat + 7) i = (frmR p mem at_ hd G).dfs := by rw [hii']; rfl
            refine ⟨⟨D, dc, L6, c6, O7, c7⟩, ?_, ?_⟩
            · rw [hgood]
              unfold frmV
              simp only
              rw [← eloc, ← eops, ← edfs, dfsR_len]
              rfl
            · rw [hgood]
              refine ⟨?_, ?_, ?_⟩
              · simp only
                rw [← edfs]
                exact RowAt.keep DfrE.kept hn8 (newW_keep (Nat.le_refl _) (ext_keeps e8))
              · simp only
                rw [← eloc]
                exact RowAt.keep (NumE.kept _) hn6 (newW_keep (Nat.le_refl _) fun r u hr => e8.cell (e7.cell hr))
              · simp only
                rw [← eops]
                exact RowAt.keep (NumE.kept _) hn7 (newW_keep (Nat.le_refl _) (ext_keeps e8))
      exact ⟨hd.dfs.toNat + 1, loop (hd.dfs.toNat + 1) 0 w5 none 0 [] (by omega) (by omega) hw5 ho5' (OwnDs.nil _ _) (fun j hj => by omega) (fun d hd' => by simp [dfsR] at hd')⟩
  by_cases t2 : hd.dfs > 0
  · rw [if_pos (by simpa using t2)]
    cases hdf : hasDefer G.code with
    | false =>
      rw [if_neg (by simp)]
      exact six hw3 (by unfold roomM; rw [hdf]; simp; omega)
    | true =>
      rw [if_pos (by simp)]
      by_cases t3 : hd.ops > 8
      · rw [if_pos (by simpa using t3)]; exact six hw3 (by omega)
      · rw [if_neg (by simpa using t3)]
        exact body ⟨by omega, by unfold roomM; rw [hdf]; simp; omega, by omega⟩
  · rw [if_neg (by simpa using t2)]
    by_cases t3 : hd.ops > 8
    · rw [if_pos (by simpa using t3)]; exact six hw3 (by omega)
    · rw [if_neg (by simpa using t3)]
      exact body ⟨by omega, by omega, by omega⟩
end Go.Proofs.Ytlccbaemcfjdoaa
set_option linter.unusedVariables false
set_option linter.unusedSimpArgs false
namespace Go.Proofs.Ytlccbaemcfjdoaa
open Go.RowKit
theorem take_snoc {l : List Int} {o j : Nat} (h : o + j < l.length) : (l.drop o).take j ++ [l.getD (o + j) 0] = (l.drop o).take (j + 1) := by
  have hg : (l.drop o)[j]? = some (l.getD (o + j) 0) := by rw [List.getElem?_drop]; exact getD_get h
  rw [List.take_add_one, hg]; rfl
theorem yields55 {w : World} {A P : Option Addr} {l c cap : Nat} {mem : List Int} (hm : WordsAt w A l c mem) {p : List Fnc} (hp : ProgAt w P p.length p) (hs : Sized p) (hpl : p.length ≤ 1000) (at_ : Int) :
    Yields Try.prog 55 [.slice A l c, .agg ⟨[.slice P p.length cap]⟩, .int .i64 at_] w (ReadQ (readM p mem at_) w) := by
  refine yields_of (V55.sound ?_)
  intro q4 _ q6 _
  obtain rfl := hm.nums.len
  have hml := hm.small
  have bad : ∀ {w2 : World} {e : Int}, Below w.heap.size w w2 → readM p mem at_ = (frm0, 0, e) → Ret w.heap.size w2 (IsQ w (ReadQ (readM p mem at_) w) (.tuple ⟨[frm0V, .int .i64 0, .int .i64 e]⟩)) := fun hw hr =>
    ret_q hw fun w3 _ => ⟨⟨none, 0, none, 0, none, 0⟩, by rw [hr]; rfl, by rw [hr]; exact frm0_at _⟩
  refine call_gives (Below.refl _ _) (fun w1 e1 _ => gives43 (hm.keep (ext_keeps e1)) at_) fun w1 e1 hw1 => ?_
  refine ⟨_, _, _, _, _, _, _, _, _, rfl, ?_⟩
  intro q9 _
  by_cases he : (getM mem at_).2 = 0
  case neg =>
    rw [if_pos (by simpa using he)]
    exact bad hw1 (by unfold readM; rw [if_pos he])
  rw [if_neg (by simpa using he)]
  have hR0 : readM p mem at_ = readH p mem at_ (getM mem at_).1 := by unfold readM; rw [if_neg (by simpa using he)]
  obtain ⟨hin7, f0, f1, pc0, pc1, d0, o0, m0, m1, v0, v1, b0, b1⟩ := get_zero hm.wd he
  generalize (getM mem at_).1 = hd at *
  have hw7 := of_decide_eq_true hin7
  by_cases hfl : hd.f ≥ p.length
  · rw [if_pos (by simpa using hfl)]
    exact bad hw1 (by rw [hR0, readH_none (fnAt_none (.inr (by omega)))])
  rw [if_neg (by simpa using hfl)]
  obtain ⟨G, q, C, cc, hG, hq, c0, c1, c2, c3, hcode⟩ := prog_at hp (i := hd.f.toNat) (by omega)
  subst hq
  have hsz := hs G (List.mem_of_getElem? hG)
  have hbd := sized_bd hsz
  have hfn := fnAt_some (p := p) (by omega) hG
  rw [readH_some hfn] at hR0
  refine ⟨q, rfl, by omega, by omega, G.params, e1.cell c0, G.locals, e1.cell c1, G.refs, e1.cell c2, C, G.code.length, cc, e1.cell c3, ?_⟩
  intro q11 _
  have six : ∀ {w4}, Below w.heap.size w w4 → ¬ (hd.pc ≤ G.code.length ∧ hd.dfs ≤ roomM G ∧ hd.ops ≤ 8) → Ret w.heap.size w4 (IsQ w (ReadQ (readM p mem at_) w) (.tuple ⟨[frm0V, .int .i64 0, .int .i64 6]⟩)) := fun hw hn => bad hw (by rw [hR0, if_neg hn])
  by_cases t0 : hd.pc > G.code.length
  · rw [if_neg (by simpa using t0)]; exact six hw1 (by omega)
  rw [if_pos (by simpa using t0)]
  have codeW : ∀ {w'}, Below w.heap.size w w' → CodeAt w' C G.code.length G.code := fun hb => RowAt.keep InsE.kept hcode (below_keeps hb)
  refine call_gives hw1 (fun w2 e2 _ => gives101 (RowAt.keep InsE.kept (codeW hw1) (ext_keeps e2))) fun w2 e2 hw2 => ⟨_, rfl, ?_⟩
  by_cases t1 : hd.dfs > roomM G
  · rw [if_neg (by simpa using t1)]; exact six hw2 (by omega)
  rw [if_pos (by simpa using t1)]
  by_cases t2 : hd.ops > 8
  · rw [if_pos (by simpa using t2)]; exact six hw2 (by omega)
  rw [if_neg (by simpa using t2)]
  have hcond : hd.pc ≤ G.code.length ∧ hd.dfs ≤ roomM G ∧ hd.ops ≤ 8 := by omega
  rw [if_pos hcond] at hR0
  refine call_gives hw2 (fun w3 e3 _ => gives33 (RowAt.keep InsE.kept (codeW hw2) (ext_keeps e3)) _ _ _) fun w3 e3 hw3 => ⟨_, rfl, ?_⟩
  refine call_gives hw3 (fun w4 _ _ => gives95 hm.nums.small at_ _) fun w4 e4 hw4 => ⟨_, rfl, ?_⟩
  have hsF := sizeF_eq hsz
  have hah : 7 ≤ aheadM G ∧ aheadM G ≤ 23 := by unfold aheadM; split <;> omega
  have heq : allM mem.length at_ (sizeM G.locals G.code) = inM mem.length at_ (sizeF G) := by
    show allM mem.length at_ (sizeF G) = _
    unfold allM inM; exact decide_eq_decide.2 (by omega)
  rw [heq]
  cases hin : inM mem.length at_ (sizeF G) with
  | false =>
    rw [hin] at hR0
    simp only [Bool.false_eq_true, if_false] at hR0
    rw [if_pos (by simp)]
    exact bad hw4 hR0
  | true =>
    rw [hin] at hR0
    simp only [if_true] at hR0
    rw [if_neg (by simp)]
    intro q12 _
    have hii := of_decide_eq_true hin
    have hat : ((at_.toNat : Nat) : Int) = at_ := Int.toNat_of_nonneg hii.1
    have hroom : hd.dfs.toNat ≠ 0 → roomM G = 4 ∧ aheadM G = 23 := fun hne => by
      have h7 := hcond.2.1
      unfold roomM at h7 ⊢
      unfold aheadM
      split at h7
      · rename_i hdd; rw [if_pos hdd, if_pos hdd]; exact ⟨rfl, rfl⟩
      · omega
    have hroomb : roomM G ≤ 4 := by unfold roomM; split <;> omega
    have hra : aheadM G = 7 + 4 * (roomM G : Int) := by unfold aheadM roomM; split <;> rfl
    have hnd : ((hd.dfs.toNat : Nat) : Int) = hd.dfs := Int.toNat_of_nonneg d0
    have hln : ((G.locals.toNat : Nat) : Int) = G.locals := Int.toNat_of_nonneg (by omega)
    have hop : ((hd.ops.toNat : Nat) : Int) = hd.ops := Int.toNat_of_nonneg o0
    obtain ⟨a, rfl⟩ : ∃ a, A = some a := by
      obtain ⟨_, p, _, hp, _⟩ := hm.nums.at (i := 0) (by omega)
      exact ⟨p, hp⟩
    have word : ∀ {w'} {j : Nat}, Below w.heap.size w w' → j < mem.length → w'.cell? (a.add j) = some (.int .u64 (mem.getD j 0)) := fun {w' j} hb hj => by
      obtain ⟨pa, hpa, hc⟩ := (hm.keep (below_keeps hb)).nums.get j _ (getD_get hj)
      cases hpa
      simpa [NumE] using hc
    have hk7 : IntKind.wrap .i64 (at_ + 7) = ((at_.toNat + 7 : Nat) : Int) := by rw [wrap_id (by omega) (by omega)]; push_cast; omega
    rw [hk7]
    -- the operands
    have loop3 : ∀ {D L : Option Addr} {dl dc ll lc : Nat} {vs : List Value} {locs : List Int} (ws : World), Below w.heap.size w ws → OwnDs ws w.heap.size (.slice D dl dc) (dfsR p mem (at_.toNat + 7) hd.dfs.toNat) vs → OwnWs ws w.heap.size (.slice L ll lc) locs → dl = hd.dfs.toNat → ll = locs.length → locs = (frmR p mem at_ hd G).locals →
        (∀ d ∈ dfsR p mem (at_.toNat + 7) hd.dfs.toNat, d.args.length ≤ 3) → readM p mem at_ = (frmR p mem at_ hd G, hd.below, 0) →
        ∀ (k i : Nat) (w' : World) (O : Option Addr) (oc : Nat), hd.ops.toNat < i + k → i ≤ hd.ops.toNat → Ext w.heap.size ws w' → w'.ownsRow ws.heap.size 51 1 (.slice O i oc) i (((mem.drop (at_.toNat + (aheadM G + G.locals).toNat)).take i).map (.int .u64)) →
          V55.l3 w.heap.size (IsQ w (ReadQ (readM p mem at_) w)) k (some a) mem.length c ((at_.toNat + (aheadM G + G.locals).toNat : Nat) : Int) i q12 hd.f hd.pc hd.mode hd.dfd hd.value D dl dc L ll lc O i oc q9 hd.below hd.f hd.pc hd.mode hd.dfd hd.value hd.dfs hd.ops q6 0 0 0 false 0 none 0 0 none 0 0 none 0 0 w' := by
      intro D L dl dc ll lc vs locs ws hws hds hlo hdl hll hlocs hargs hgood k
      induction k with
      | zero => intros; omega
      | succ k ih =>
        intro i w' O oc hk hi he' ho
        have hw' : Below w.heap.size w w' := he'.after hws
        dsimp -zeta only [V55.l3]
        by_cases hlt : i < hd.ops.toNat
        · rw [if_pos (by simp; omega)]
          have hki : IntKind.wrap .i64 (((at_.toNat + (aheadM G + G.locals).toNat : Nat) : Int) + (i : Int)) = ((at_.toNat + (aheadM G + G.locals).toNat + i : Nat) : Int) := by rw [wrap_id (by omega) (by omega)]; push_cast; rfl
          rw [hki]
          refine ⟨a, rfl, by omega, by omega, _, word (j := (at_.toNat + (aheadM G + G.locals).toNat + i)) hw' (by omega), ?_⟩
          refine push_word (b0 := ws.heap.size) hw'.size he'.size ho (by omega) fun v w6 e6 ho6 => ?_
          obtain ⟨A6, c6, hv6⟩ := owns_slice0 ho6
          subst hv6
          refine ⟨A6, i + 1, c6, rfl, ?_⟩
          have hwi : IntKind.wrap .i64 ((i : Int) + 1) = ((i + 1 : Nat) : Int) := by rw [wrap_id (by omega) (by omega)]; rfl
          rw [hwi]
          rw [take_snoc (by omega)] at ho6
          exact ih (i + 1) w6 A6 c6 (by omega) (by omega) (ext_then he' e6 (fun j hj => (ho.lt j hj).1) hws.size) ho6
        · rw [if_neg (by simp; omega)]
          have hii' : i = hd.ops.toNat := by omega
          have eops : (mem.drop (at_.toNat + (aheadM G + G.locals).toNat)).take i = (frmR p mem at_ hd G).ops := by
            simp only [frmR, sub]
            rw [hii', show (at_ + aheadM G + G.locals).toNat = at_.toNat + (aheadM G + G.locals).toNat by omega]
          have hol : ((mem.drop (at_.toNat + (aheadM G + G.locals).toNat)).take i).length = i := by simp; omega
          refine ret_q hw' fun w8 e8 => ?_
          obtain ⟨D8, c8, hv8, hn8⟩ := (hds.ext he').dfs (by rw [dfsR_len]; omega) (fun d hd' => by have := hargs d hd'; omega)
          rw [dfsR_len, hdl] at hv8
          cases hv8
          obtain ⟨L8, lc8, hvl, hnl⟩ := ownws_new (he'.owns hlo) (by rw [hlocs]; simp [frmR, sub]; omega)
          rw [hll] at hvl
          cases hvl
          have ho' : OwnWs w' w.heap.size (.slice O i oc) ((mem.drop (at_.toNat + (aheadM G + G.locals).toNat)).take i) := by
            unfold OwnWs; rw [hol]; exact owns_base ho hws.size
          obtain ⟨O8, oc8, hvo, hno⟩ := ownws_new ho' (by rw [hol]; omega)
          rw [hol] at hvo
          cases hvo
          have edfs : dfsR p mem (at_.toNat + 7) hd.dfs.toNat = (frmR p mem at_ hd G).dfs := rfl
          refine ⟨⟨D, dc, L, lc, O, oc⟩, ?_, ?_⟩
          · rw [hgood]
            unfold frmV
            simp only
            rw [← hlocs, ← eops, ← edfs, dfsR_len, hol, hdl, hll]
            rfl
          · rw [hgood]
            refine ⟨?_, ?_, ?_⟩
            · simp only
              rw [← edfs]
              exact RowAt.keep DfrE.kept hn8 (newW_keep (Nat.le_refl _) (ext_keeps e8))
            · simp only
              rw [← hlocs]
              exact RowAt.keep (NumE.kept _) hnl (newW_keep (Nat.le_refl _) (ext_keeps e8))
            · simp only
              rw [← eops]
              exact RowAt.keep (NumE.kept _) hno (newW_keep (Nat.le_refl _) (ext_keeps e8))
    -- the locals
    have loop2 : ∀ {D : Option Addr} {dl dc : Nat} {vs : List Value} (ws : World), Below w.heap.size w ws → OwnDs ws w.heap.size (.slice D dl dc) (dfsR p mem (at_.toNat + 7) hd.dfs.toNat) vs → dl = hd.dfs.toNat →
        (∀ d ∈ dfsR p mem (at_.toNat + 7) hd.dfs.toNat, d.args.length ≤ 3) → readM p mem at_ = (frmR p mem at_ hd G, hd.below, 0) →
        ∀ (k i : Nat) (w' : World) (L : Option Addr) (lc : Nat), G.locals.toNat < i + k → i ≤ G.locals.toNat → Ext w.heap.size ws w' → w'.ownsRow ws.heap.size 51 1 (.slice L i lc) i (((mem.drop (at_.toNat + (aheadM G).toNat)).take i).map (.int .u64)) →
          V55.l2 w.heap.size (IsQ w (ReadQ (readM p mem at_) w)) k (some a) mem.length c ((at_.toNat + (aheadM G).toNat : Nat) : Int) i q12 hd.f hd.pc hd.mode hd.dfd hd.value D dl dc L i lc none 0 0 q11 G.params G.locals G.refs C G.code.length cc q9 hd.below hd.f hd.pc hd.mode hd.dfd hd.value hd.dfs hd.ops q6 0 0 0 false 0 none 0 0 none 0 0 none 0 0 w' := by
      intro D dl dc vs ws hws hds hdl hargs hgood k
      induction k with
      | zero => intros; omega
      | succ k ih =>
        intro i w' L lc hk hi he' ho
        have hw' : Below w.heap.size w w' := he'.after hws
        dsimp -zeta only [V55.l2]
        by_cases hlt : i < G.locals.toNat
        · rw [if_pos (by simp; omega)]
          have hki : IntKind.wrap .i64 (((at_.toNat + (aheadM G).toNat : Nat) : Int) + (i : Int)) = ((at_.toNat + (aheadM G).toNat + i : Nat) : Int) := by rw [wrap_id (by omega) (by omega)]; push_cast; rfl
          rw [hki]
          refine ⟨a, rfl, by omega, by omega, _, word (j := (at_.toNat + (aheadM G).toNat + i)) hw' (by omega), ?_⟩
          refine push_word (b0 := ws.heap.size) hw'.size he'.size ho (by omega) fun v w6 e6 ho6 => ?_
          obtain ⟨A6, c6, hv6⟩ := owns_slice0 ho6
          subst hv6
          refine ⟨A6, i + 1, c6, rfl, ?_⟩
          have hwi : IntKind.wrap .i64 ((i : Int) + 1) = ((i + 1 : Nat) : Int) := by rw [wrap_id (by omega) (by omega)]; rfl
          rw [hwi]
          rw [take_snoc (by omega)] at ho6
          exact ih (i + 1) w6 A6 c6 (by omega) (by omega) (ext_then he' e6 (fun j hj => (ho.lt j hj).1) hws.size) ho6
        · rw [if_neg (by simp; omega)]
          have hii' : i = G.locals.toNat := by omega
          have hll : ((mem.drop (at_.toNat + (aheadM G).toNat)).take i).length = i := by simp; omega
          have hkl : IntKind.wrap .i64 (((at_.toNat + (aheadM G).toNat : Nat) : Int) + G.locals) = ((at_.toNat + (aheadM G + G.locals).toNat : Nat) : Int) := by
            rw [wrap_id (by omega) (by omega)]; push_cast; omega
          rw [hkl]
          have ho' : OwnWs w' w.heap.size (.slice L i lc) ((mem.drop (at_.toNat + (aheadM G).toNat)).take i) := by
            unfold OwnWs; rw [hll]; exact owns_base ho hws.size
          have eloc : (mem.drop (at_.toNat + (aheadM G).toNat)).take i = (frmR p mem at_ hd G).locals := by
            simp only [frmR, sub]
            rw [hii', show (at_ + aheadM G).toNat = at_.toNat + (aheadM G).toNat by omega]
          exact ⟨hd.ops.toNat + 1, loop3 w' hw' (hds.ext he') ho' hdl hll.symm eloc hargs hgood (hd.ops.toNat + 1) 0 w' none 0 (by omega) (by omega) (Ext.refl _ _) (World.ownsRow_nil _ _ _ _)⟩
    -- what is deferred
    have loop0 : ∀ (k i : Nat) (w' : World) (D : Option Addr) (dc : Nat) (vs : List Value), hd.dfs.toNat < i + k → i ≤ hd.dfs.toNat → Below w.heap.size w w' → OwnDs w' w.heap.size (.slice D i dc) (dfsR p mem (at_.toNat + 7) i) vs → (∀ j, j < i → mem.getD (at_.toNat + 7 + j * 4) 0 < p.length) → (∀ d ∈ dfsR p mem (at_.toNat + 7) i, d.args.length ≤ 3) →
        V55.l0 w.heap.size (IsQ w (ReadQ (readM p mem at_) w)) k (some a) mem.length c ((at_.toNat + 7 : Nat) : Int) i q12 hd.f hd.pc hd.mode hd.dfd hd.value D i dc none 0 0 none 0 0 q11 G.params G.locals G.refs C G.code.length cc q9 hd.below hd.f hd.pc hd.mode hd.dfd hd.value hd.dfs hd.ops q6 0 0 0 false 0 none 0 0 none 0 0 none 0 0 q4 (some q) p.length cap w' := by
      intro k
      induction k with
      | zero => intros; omega
      | succ k ih =>
        intro i w' D dc vs hk hi hw' hds hok hargs
        dsimp -zeta only [V55.l0]
        by_cases hlt : i < hd.dfs.toNat
        · rw [if_pos (by simp; omega)]
          obtain ⟨hr4, hr23⟩ := hroom (by omega)
          have hki : IntKind.wrap .i64 (((at_.toNat + 7 : Nat) : Int) + IntKind.wrap .i64 ((i : Int) * 4)) = ((at_.toNat + 7 + i * 4 : Nat) : Int) := by
            rw [wrap_id (n := (i : Int) * 4) (by omega) (by omega), wrap_id (by omega) (by omega)]; push_cast; rfl
          rw [hki]
          refine ⟨a, rfl, by omega, by omega, _, word (j := (at_.toNat + 7 + i * 4)) hw' (by omega), ?_⟩
          have hwb := getD_wd hm.wd (at_.toNat + 7 + i * 4)
          rw [wrap_u64 (n := (p.length : Int)) (by omega) (by omega)]
          by_cases hbig : mem.getD (at_.toNat + 7 + i * 4) 0 ≥ p.length
          · rw [if_pos (by simpa using hbig)]
            refine bad hw' ?_
            rw [hR0, if_neg]
            intro hall
            have := List.all_eq_true.1 hall i (List.mem_range.2 hlt)
            have := of_decide_eq_true this
            omega
          · rw [if_neg (by simpa using hbig)]
            intro q16 _
            obtain ⟨H, qh, CH, ch, hH, hqh, k0, _, _, _, _⟩ := prog_at hp (i := (mem.getD (at_.toNat + 7 + i * 4) 0).toNat) (by omega)
            cases hqh
            have hHb := sized_bd (hs H (List.mem_of_getElem? hH))
            generalize hwd : mem.getD (at_.toNat + 7 + i * 4) 0 = wd at *
            rw [wrap_id (n := wd) (by omega) (by omega)]
            have hpn : ((H.params.toNat : Nat) : Int) = H.params := Int.toNat_of_nonneg hHb.1
            have hdr : dfrR p mem (at_.toNat + 7 + i * 4) = ⟨wd, (mem.drop (at_.toNat + 7 + i * 4 + 1)).take H.params.toNat⟩ := by
              unfold dfrR
              rw [hwd, hH]
              simp only [sub]
              rw [show (((at_.toNat + 7 + i * 4 : Nat) : Int) + 1).toNat = at_.toNat + 7 + i * 4 + 1 by omega]
            refine ⟨H.params.toNat + 1, ?_⟩
            have loop1 : ∀ (m j : Nat) (w6 : World) (E : Option Addr) (ec : Nat), H.params.toNat < j + m → j ≤ H.params.toNat → Ext w.heap.size w' w6 → w6.ownsRow w'.heap.size 51 1 (.slice E j ec) j (((mem.drop (at_.toNat + 7 + i * 4 + 1)).take j).map (.int .u64)) →
                V55.l1 w.heap.size (IsQ w (ReadQ (readM p mem at_) w)) (V55.l0 w.heap.size (IsQ w (ReadQ (readM p mem at_) w)) k) m (some a) mem.length c ((at_.toNat + 7 : Nat) : Int) i j q16 wd E j ec q12 hd.f hd.pc hd.mode hd.dfd hd.value D i dc none 0 0 none 0 0 q11 G.params G.locals G.refs C G.code.length cc q9 hd.below hd.f hd.pc hd.mode hd.dfd hd.value hd.dfs hd.ops q6 0 0 0 false 0 none 0 0 none 0 0 none 0 0 q4 (some q) p.length cap w6 := by
              intro m
              induction m with
              | zero => intros; omega
              | succ m ihm =>
                intro j w6 E ec hmj hj e6 ho
                have hw6 : Below w.heap.size w w6 := e6.after hw'
                dsimp -zeta only [V55.l1]
                refine ⟨q, rfl, by omega, by omega, H.params, below_keeps hw6 _ _ k0, ?_⟩
                by_cases hjl : j < H.params.toNat
                · rw [if_pos (by simp; omega)]
                  have hkj : IntKind.wrap .i64 (IntKind.wrap .i64 (((at_.toNat + 7 + i * 4 : Nat) : Int) + 1) + (j : Int)) = ((at_.toNat + 7 + i * 4 + 1 + j : Nat) : Int) := by
                    rw [wrap_id (n := ((at_.toNat + 7 + i * 4 : Nat) : Int) + 1) (by omega) (by omega), wrap_id (by omega) (by omega)]; push_cast; rfl
                  rw [hki, hkj]
                  refine ⟨a, rfl, by omega, by omega, _, word (j := (at_.toNat + 7 + i * 4 + 1 + j)) hw6 (by omega), ?_⟩
                  refine push_word (b0 := w'.heap.size) hw6.size e6.size ho (by omega) fun v w7 e7 ho7 => ?_
                  obtain ⟨A7, c7, hv7⟩ := owns_slice0 ho7
                  subst hv7
                  refine ⟨A7, j + 1, c7, rfl, ?_⟩
                  have hwj : IntKind.wrap .i64 ((j : Int) + 1) = ((j + 1 : Nat) : Int) := by rw [wrap_id (by omega) (by omega)]; rfl
                  rw [hwj]
                  rw [take_snoc (by omega)] at ho7
                  exact ihm (j + 1) w7 A7 c7 (by omega) (by omega) (ext_then e6 e7 (fun x hx => (ho.lt x hx).1) hw'.size) ho7
                · rw [if_neg (by simp; omega)]
                  have hjj : j = H.params.toNat := by omega
                  have hjlen : ((mem.drop (at_.toNat + 7 + i * 4 + 1)).take j).length = j := by simp; omega
                  have hov : OwnWs w6 w.heap.size (.slice E j ec) ((mem.drop (at_.toNat + 7 + i * 4 + 1)).take H.params.toNat) := by
                    rw [← hjj]; unfold OwnWs; rw [hjlen]; exact owns_base ho hw'.size
                  refine push_dfr (b0 := w.heap.size) (d := ⟨wd, (mem.drop (at_.toNat + 7 + i * 4 + 1)).take H.params.toNat⟩) (ds := dfsR p mem (at_.toNat + 7) i) (vs := vs) hw6.size hw6.size (hds.ext e6) hov (by rw [dfsR_len]; omega) fun v7 w7 e7 hds7 => ?_
                  obtain ⟨D7, c7, hv7⟩ := owns_slice0 hds7.row
                  have hl7 : (dfsR p mem (at_.toNat + 7) i ++ [(⟨wd, (mem.drop (at_.toNat + 7 + i * 4 + 1)).take H.params.toNat⟩ : Dfr)]).length = i + 1 := by simp [dfsR_len]
                  rw [hl7] at hv7
                  refine ⟨D7, i + 1, c7, hv7, ?_⟩
                  have hwi : IntKind.wrap .i64 ((i : Int) + 1) = ((i + 1 : Nat) : Int) := by rw [wrap_id (by omega) (by omega)]; rfl
                  rw [hwi]
                  have hsame : dfsR p mem (at_.toNat + 7) i ++ [(⟨wd, (mem.drop (at_.toNat + 7 + i * 4 + 1)).take H.params.toNat⟩ : Dfr)] = dfsR p mem (at_.toNat + 7) (i + 1) := by rw [← hdr]; rfl
                  rw [hsame, hv7] at hds7
                  refine ih (i + 1) w7 D7 c7 _ (by omega) (by omega) (e7.after (fun x hx => (hds.row.lt x hx).1) hw6) hds7 (fun x hx => ?_) fun d hd' => ?_
                  · rcases Nat.lt_succ_iff_lt_or_eq.1 hx with hx | rfl
                    · exact hok x hx
                    · rw [hwd]; omega
                  · rw [← hsame] at hd'
                    rcases List.mem_append.1 hd' with hd' | hd'
                    · exact hargs d hd'
                    · simp at hd'; subst hd'
                      simp only [List.length_take]
                      omega
            exact loop1 (H.params.toNat + 1) 0 w' none 0 (by omega) (by omega) (Ext.refl _ _) (World.ownsRow_nil _ _ _ _)
        · rw [if_neg (by simp; omega)]
          have hii' : i = hd.dfs.toNat := by omega
          have hgood : readM p mem at_ = (frmR p mem at_ hd G, hd.below, 0) := by
            rw [hR0, if_pos]
            refine List.all_eq_true.2 fun j hj => decide_eq_true ?_
            have := List.mem_range.1 hj
            exact hok j (by omega)
          refine call_gives hw' (fun w7 e7 _ => gives101 (RowAt.keep InsE.kept (codeW hw') (ext_keeps e7))) fun w7 e7 hw7 => ⟨_, rfl, ?_⟩
          have hkr : IntKind.wrap .i64 (((at_.toNat + 7 : Nat) : Int) + IntKind.wrap .i64 ((roomM G : Int) * 4)) = ((at_.toNat + (aheadM G).toNat : Nat) : Int) := by
            rw [wrap_id (n := (roomM G : Int) * 4) (by omega) (by omega), wrap_id (by omega) (by omega)]; push_cast; omega
          rw [hkr]
          have hds' : OwnDs w7 w.heap.size (.slice D i dc) (dfsR p mem (at_.toNat + 7) hd.dfs.toNat) vs := by rw [← hii']; exact hds.ext e7
          exact ⟨G.locals.toNat + 1, loop2 w7 hw7 hds' hii' (by rw [← hii']; exact hargs) hgood (G.locals.toNat + 1) 0 w7 none 0 (by omega) (by omega) (Ext.refl _ _) (World.ownsRow_nil _ _ _ _)⟩
    exact ⟨hd.dfs.toNat + 1, loop0 (hd.dfs.toNat + 1) 0 w4 none 0 [] (by omega) (by omega) hw4 (OwnDs.nil _ _) (fun j hj => by omega) (fun d hd' => by simp [dfsR] at hd')⟩
end Go.Proofs.Ytlccbaemcfjdoaa
