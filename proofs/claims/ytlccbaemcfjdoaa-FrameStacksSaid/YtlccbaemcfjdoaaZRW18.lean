/-
  Layer 18, as plain rules: what is written is read, and nothing else is turned.
  Conditions: none.
-/
import Derived.Test.YtlccbaemcfjdoaaZV18
set_option linter.unusedVariables false
set_option linter.unusedSimpArgs false
namespace Go.Proofs.Ytlccbaemcfjdoaa
open Go.RowKit
theorem getD_set (l : List Int) (i j : Nat) (v : Int) : (l.set i v).getD j 0 = if i = j ∧ i < l.length then v else l.getD j 0 := by
  simp only [List.getD, List.getElem?_set]
  by_cases h : i = j
  · subst h
    by_cases hl : i < l.length
    · simp [hl]
    · simp [hl]
  · simp [h]
theorem storesM_getD {mem : List Int} {at_ : Int} {ws : List Int} {n : Nat} (hin : 0 ≤ at_ ∧ at_ + n ≤ mem.length) (j : Nat) : (storesM mem at_ ws n).getD j 0 = if at_.toNat ≤ j ∧ j < at_.toNat + n then ws.getD (j - at_.toNat) 0 else mem.getD j 0 := by
  suffices h : ∀ i, i ≤ n → (storesM mem at_ ws i).getD j 0 = if at_.toNat ≤ j ∧ j < at_.toNat + i then ws.getD (j - at_.toNat) 0 else mem.getD j 0 from h n (Nat.le_refl _)
  intro i
  induction i with
  | zero => intro _; rw [if_neg (by omega)]; rfl
  | succ i ih =>
    intro hi
    rw [storesM_set hin (by omega), getD_set, ih (by omega), storesM_len]
    by_cases h1 : at_.toNat + i = j
    · rw [if_pos ⟨h1, by omega⟩, if_pos (by omega)]
      congr 1; omega
    · rw [if_neg (fun e => h1 e.1)]
      by_cases h2 : at_.toNat ≤ j ∧ j < at_.toNat + i
      · rw [if_pos h2, if_pos (by omega)]
      · rw [if_neg h2, if_neg (by omega)]
theorem recM_getD {mem : List Int} {k : Nat} {d : Dfr} (hk : k + 4 ≤ mem.length) (j : Nat) : (recM mem k d).getD j 0 = if j = k then d.f else if k + 1 ≤ j ∧ j < k + 4 then d.args.getD (j - (k + 1)) 0 else mem.getD j 0 := by
  unfold recM
  simp only [getD_set, List.length_set]
  by_cases h3 : j = k + 3
  · subst h3; rw [if_pos (by omega), if_neg (by omega), if_pos (by omega)]; congr 1; omega
  rw [if_neg (by omega)]
  by_cases h2 : j = k + 2
  · subst h2; rw [if_pos (by omega), if_neg (by omega), if_pos (by omega)]; congr 1; omega
  rw [if_neg (by omega)]
  by_cases h1 : j = k + 1
  · subst h1; rw [if_pos (by omega), if_neg (by omega), if_pos (by omega)]; congr 1; omega
  rw [if_neg (by omega)]
  by_cases h0 : j = k
  · subst h0; rw [if_pos (by omega), if_pos rfl]
  · rw [if_neg (by omega), if_neg h0, if_neg (by omega)]
theorem recsM_out {mem : List Int} {k : Nat} {ds : List Dfr} {j : Nat} : ∀ {i : Nat}, k + i * 4 ≤ mem.length → j < k ∨ k + i * 4 ≤ j → (recsM mem k ds i).getD j 0 = mem.getD j 0
  | 0, _, _ => rfl
  | i + 1, hk, hj => by
    have h := recM_getD (mem := recsM mem k ds i) (k := k + i * 4) (d := ds.getD i ⟨0, []⟩) (by rw [recsM_len]; omega) j
    rw [if_neg (by omega), if_neg (by omega)] at h
    refine h.trans ?_
    exact recsM_out (by omega) (by omega)
theorem recsM_in {mem : List Int} {k : Nat} {ds : List Dfr} {m : Nat} {d : Dfr} (hd : ds[m]? = some d) : ∀ {i : Nat}, k + i * 4 ≤ mem.length → m < i → (recsM mem k ds i).getD (k + m * 4) 0 = d.f ∧ ∀ r, r < 3 → (recsM mem k ds i).getD (k + m * 4 + 1 + r) 0 = d.args.getD r 0
  | 0, _, hm => by omega
  | i + 1, hk, hm => by
    have hgd : ∀ j, (recsM mem k ds (i + 1)).getD j 0 = (recM (recsM mem k ds i) (k + i * 4) (ds.getD i ⟨0, []⟩)).getD j 0 := fun j => rfl
    have hle : k + i * 4 + 4 ≤ (recsM mem k ds i).length := by rw [recsM_len]; omega
    by_cases he : m = i
    · subst he
      have hdd : ds.getD m ⟨0, []⟩ = d := by simp [List.getD, hd]
      refine ⟨by rw [hgd, recM_getD hle, if_pos rfl, hdd], fun r hr => ?_⟩
      rw [hgd, recM_getD hle, if_neg (by omega), if_pos (by omega), hdd]
      congr 1; omega
    · obtain ⟨h1, h2⟩ := recsM_in (mem := mem) (k := k) hd (i := i) (by omega) (by omega)
      refine ⟨?_, fun r hr => ?_⟩
      · rw [hgd, recM_getD hle, if_neg (by omega), if_neg (by omega)]; exact h1
      · rw [hgd, recM_getD hle, if_neg (by omega), if_neg (by omega)]; exact h2 r hr
theorem sub_eq {M xs : List Int} {at_ k : Int} (hk : k = xs.length) (h0 : 0 ≤ at_) (hl : at_.toNat + xs.length ≤ M.length) (h : ∀ i, i < xs.length → M.getD (at_.toNat + i) 0 = xs.getD i 0) : sub M at_ k = xs := by
  apply List.ext_getElem?
  intro i
  unfold sub
  subst hk
  rw [Int.toNat_natCast]
  by_cases hi : i < xs.length
  · rw [word_sub hi (by omega), h i hi, getD_get hi]
  · rw [List.getElem?_eq_none (by simp; omega), List.getElem?_eq_none (by omega)]
section
variable {p : List Fnc} {mem : List Int} {at_ below : Int} {x : Frm} {g : Fnc}
theorem write_some (hok : writeOk p mem.length at_ below x = true) (hs : Sized p) : ∃ g, fnAt p x.f = some g ∧ mayM p x = true ∧ belowM mem.length below = true ∧ inM mem.length at_ (sizeF g) = true ∧ sizedF g = true ∧ writeM p mem at_ below x = bodyM (putM mem at_ (hdOf below x)) at_ g x := by
  have hok' := hok
  unfold writeOk at hok'
  cases hfn : fnAt p x.f with
  | none => rw [hfn] at hok'; simp at hok'
  | some g =>
    rw [hfn] at hok'
    simp only [Bool.and_eq_true] at hok'
    obtain ⟨g', _, hg', hfn', _⟩ := may_some hok'.1.1
    rw [hfn] at hfn'; cases hfn'
    exact ⟨g, rfl, hok'.1.1, hok'.1.2, hok'.2, hs g (List.mem_of_getElem? hg'), by unfold writeM; rw [if_pos hok, hfn]⟩
theorem write_words (hs : Sized p) (hpl : p.length ≤ 1000) (hok : writeOk p mem.length at_ below x = true) (hg : fnAt p x.f = some g) :
    (∀ j, j < at_.toNat ∨ at_.toNat + (sizeF g).toNat ≤ j → (writeM p mem at_ below x).getD j 0 = mem.getD j 0) ∧
    (∀ i, i < 7 → (writeM p mem at_ below x).getD (at_.toNat + i) 0 = (hdW (hdOf below x)).getD i 0) ∧
    (∀ m d, x.dfs[m]? = some d → (writeM p mem at_ below x).getD (at_.toNat + 7 + m * 4) 0 = d.f ∧ ∀ r, r < 3 → (writeM p mem at_ below x).getD (at_.toNat + 7 + m * 4 + 1 + r) 0 = d.args.getD r 0) ∧
    (∀ i, i < x.locals.length → (writeM p mem at_ below x).getD ((at_ + aheadM g).toNat + i) 0 = x.locals.getD i 0) ∧
    (∀ i, i < x.ops.length → (writeM p mem at_ below x).getD ((at_ + aheadM g + g.locals).toNat + i) 0 = x.ops.getD i 0) := by
  obtain ⟨g', hg', hm, hb, hin, hsz, hM⟩ := write_some hok hs
  rw [hg] at hg'; cases hg'
  rw [hM]
  obtain ⟨G, h0, hG, hfn, a1, a2, a3, a4, a5, a6, a7, a8⟩ := may_some hm
  rw [hg] at hfn; cases hfn
  have hbd := sized_bd hsz
  have hii := of_decide_eq_true hin
  have hsF := sizeF_eq hsz
  have hah : 7 ≤ aheadM g ∧ aheadM g ≤ 23 := by unfold aheadM; split <;> omega
  have hroom : x.dfs.length * 4 + 7 ≤ aheadM g := by unfold roomM at a7; unfold aheadM; split at a7 <;> (rename_i hdd; simp only [hdd]; simp; omega)
  have hin7 : inM mem.length at_ 7 = true := by unfold inM; exact decide_eq_true (by omega)
  have hpok := put_may hm hs hpl hb hin7
  have hP : ∀ j, (putM mem at_ (hdOf below x)).getD j 0 = if at_.toNat ≤ j ∧ j < at_.toNat + 7 then (hdW (hdOf below x)).getD (j - at_.toNat) 0 else mem.getD j 0 := fun j => by
    unfold putM; rw [if_pos hpok]
    exact storesM_getD ⟨hii.1, by omega⟩ j
  have hPl := putM_len mem at_ (hdOf below x)
  generalize putM mem at_ (hdOf below x) = P at hP hPl
  have hB : ∀ j, (bodyM P at_ g x).getD j 0 = if (at_ + aheadM g + g.locals).toNat ≤ j ∧ j < (at_ + aheadM g + g.locals).toNat + x.ops.length then x.ops.getD (j - (at_ + aheadM g + g.locals).toNat) 0 else
      if (at_ + aheadM g).toNat ≤ j ∧ j < (at_ + aheadM g).toNat + x.locals.length then x.locals.getD (j - (at_ + aheadM g).toNat) 0 else (recsM P (at_.toNat + 7) x.dfs x.dfs.length).getD j 0 := fun j => by
    unfold bodyM
    rw [storesM_getD ⟨by omega, by rw [storesM_len, recsM_len]; omega⟩, storesM_getD ⟨by omega, by rw [recsM_len]; omega⟩]
  have hrl : at_.toNat + 7 + x.dfs.length * 4 ≤ P.length := by omega
  refine ⟨fun j hj => ?_, fun i hi => ?_, fun m d hd => ?_, fun i hi => ?_, fun i hi => ?_⟩
  · rw [hB, if_neg (by omega), if_neg (by omega), recsM_out hrl (by omega), hP, if_neg (by omega)]
  · rw [hB, if_neg (by omega), if_neg (by omega), recsM_out hrl (by omega), hP, if_pos (by omega)]
    congr 1; omega
  · have hml := (List.getElem?_eq_some_iff.1 hd).1
    obtain ⟨h1, h2⟩ := recsM_in hd hrl hml
    refine ⟨?_, fun r hr => ?_⟩
    · rw [hB, if_neg (by omega), if_neg (by omega)]; exact h1
    · rw [hB, if_neg (by omega), if_neg (by omega)]; exact h2 r hr
  · rw [hB, if_neg (by omega), if_pos (by omega)]
    congr 1; omega
  · rw [hB, if_pos (by omega)]
    congr 1; omega
theorem read_of {M : List Int} (hs : Sized p) (hpl : p.length ≤ 1000) (hm : mayM p x = true) (hfw : FrmWd x) (hb : belowM M.length below = true) (hg : fnAt p x.f = some g) (hin : inM M.length at_ (sizeF g) = true)
    (w1 : ∀ i, i < 7 → M.getD (at_.toNat + i) 0 = (hdW (hdOf below x)).getD i 0)
    (w2 : ∀ m d, x.dfs[m]? = some d → M.getD (at_.toNat + 7 + m * 4) 0 = d.f ∧ ∀ r, r < 3 → M.getD (at_.toNat + 7 + m * 4 + 1 + r) 0 = d.args.getD r 0)
    (w3 : ∀ i, i < x.locals.length → M.getD ((at_ + aheadM g).toNat + i) 0 = x.locals.getD i 0)
    (w4 : ∀ i, i < x.ops.length → M.getD ((at_ + aheadM g + g.locals).toNat + i) 0 = x.ops.getD i 0) : readM p M at_ = (x, below, 0) := by
  obtain ⟨G, h0, hG, hfn, a1, a2, a3, a4, a5, a6, a7, a8⟩ := may_some hm
  rw [hg] at hfn; cases hfn
  have hsz := hs g (List.mem_of_getElem? hG)
  have hbd := sized_bd hsz
  have hii := of_decide_eq_true hin
  have hbb := of_decide_eq_true hb
  have hsF := sizeF_eq hsz
  have hGl := (List.getElem?_eq_some_iff.1 hG).1
  have hah : 7 ≤ aheadM g ∧ aheadM g ≤ 23 := by unfold aheadM; split <;> omega
  have hr4 : roomM g ≤ 4 := by unfold roomM; split <;> omega
  have hroom : x.dfs.length * 4 + 7 ≤ aheadM g := by unfold roomM at a7; unfold aheadM; split at a7 <;> (rename_i hdd; simp only [hdd]; simp; omega)
  have hin7 : inM M.length at_ 7 = true := by unfold inM; exact decide_eq_true (by omega)
  have e0 : wordAt M at_ 0 = below + 1 := w1 0 (by omega)
  have e1 : wordAt M at_ 1 = x.f := w1 1 (by omega)
  have e2 : wordAt M at_ 2 = x.pc := w1 2 (by omega)
  have e3 : wordAt M at_ 3 = x.mode + (if x.dfd = true then 4 else 0) := w1 3 (by omega)
  have e4 : wordAt M at_ 4 = x.value := w1 4 (by omega)
  have e5 : wordAt M at_ 5 = (x.dfs.length : Int) := w1 5 (by omega)
  have e6 : wordAt M at_ 6 = (x.ops.length : Int) := w1 6 (by omega)
  have h3 : x.mode + (if x.dfd = true then 4 else 0) ≤ 6 ∧ x.mode + (if x.dfd = true then (4 : Int) else 0) ≠ 3 ∧ (x.mode + (if x.dfd = true then (4 : Int) else 0)) % 4 = x.mode ∧ decide (4 ≤ x.mode + (if x.dfd = true then (4 : Int) else 0)) = x.dfd := by
    cases x.dfd with
    | true => simp only [if_true]; exact ⟨by omega, by omega, by omega, decide_eq_true (by omega)⟩
    | false => simp only [Bool.false_eq_true, if_false]; exact ⟨by omega, by omega, by omega, decide_eq_false (by omega)⟩
  have hget : getM M at_ = (hdOf below x, 0) := by
    unfold getM
    rw [if_pos hin7, if_pos (show headOk M.length (wordAt M at_) = true by
      unfold headOk
      rw [e0, e1, e2, e3, e5, e6]
      exact decide_eq_true ⟨by omega, by omega, by omega, by omega, by omega, h3.1, h3.2.1⟩)]
    unfold headOf hdOf
    rw [e0, e1, e2, e3, e4, e5, e6, h3.2.2.1, h3.2.2.2]
    congr 2
    omega
  unfold readM
  rw [hget]
  rw [if_neg (by simp)]
  simp only
  rw [readH_some (h := hdOf below x) hg]
  rw [if_pos ⟨a2, by show (x.dfs.length : Int) ≤ _; omega, by show (x.ops.length : Int) ≤ 8; omega⟩, if_pos hin]
  have hdn : (hdOf below x).dfs.toNat = x.dfs.length := by show ((x.dfs.length : Int)).toNat = _; omega
  have harg : ∀ m d, x.dfs[m]? = some d → ¬ d.f < 0 ∧ d.f < (p.length : Int) ∧ dfrR p M (at_.toNat + 7 + m * 4) = d := fun m d hd => by
    obtain ⟨H, b0, hH, ha⟩ := dfr_some (a8 d (List.mem_of_getElem? hd))
    have hHl := (List.getElem?_eq_some_iff.1 hH).1
    have hHb := sized_bd (hs H (List.mem_of_getElem? hH))
    have hml := (List.getElem?_eq_some_iff.1 hd).1
    obtain ⟨k1, k2⟩ := w2 m d hd
    refine ⟨b0, by omega, ?_⟩
    unfold dfrR
    rw [k1, hH]
    simp only
    rw [sub_eq (xs := d.args) ha.symm (by omega) (by omega) fun i hi => by
      have := k2 i (by omega)
      rw [show (((at_.toNat + 7 + m * 4 : Nat) : Int) + 1).toNat + i = at_.toNat + 7 + m * 4 + 1 + i by omega]
      exact this]
  rw [hdn, if_pos]
  · have hdfs : ∀ n, n ≤ x.dfs.length → dfsR p M (at_.toNat + 7) n = x.dfs.take n := fun n => by
      induction n with
      | zero => intro _; rfl
      | succ n ih =>
        intro hn
        have hd : x.dfs[n]? = some (x.dfs[n]'(by omega)) := List.getElem?_eq_getElem _
        show dfsR p M (at_.toNat + 7) n ++ [dfrR p M (at_.toNat + 7 + n * 4)] = _
        rw [ih (by omega), (harg n _ hd).2.2, List.take_add_one, hd]
        rfl
    unfold frmR
    rw [hdn, hdfs _ (Nat.le_refl _), List.take_length, sub_eq (xs := x.locals) a5.symm (by omega) (by omega) w3, sub_eq (xs := x.ops) (k := (hdOf below x).ops) rfl (by omega) (by omega) w4]
    rfl
  · refine List.all_eq_true.2 fun m hm => decide_eq_true ?_
    have hml := List.mem_range.1 hm
    have hd : x.dfs[m]? = some (x.dfs[m]'hml) := List.getElem?_eq_getElem _
    rw [(w2 m _ hd).1]
    exact (harg m _ hd).2.1
end
end Go.Proofs.Ytlccbaemcfjdoaa
