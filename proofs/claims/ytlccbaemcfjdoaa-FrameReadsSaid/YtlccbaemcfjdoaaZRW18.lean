/-
  Layer 18, as plain rules: what is written is read, and nothing else is turned.
  Conditions: none.
-/
import Derived.Test.YtlccbaemcfjdoaaZV18
set_option linter.unusedVariables false
set_option linter.unusedSimpArgs false
namespace Go.Proofs.Ytlccbaemcfjdoaa
open Go.RowKit
theorem getD_set (l : List Int) (i j : Nat) (v : Int) : (l.set i v).getD j 0 = if i = j ∧ i < l.length then v else l.getD j 0 := by
  simp only [List.getD, List.getElem?_set]
  by_cases h : i = j
  · subst h
    by_cases hl : i < l.length
    · simp [hl]
    · simp [hl]
  · simp [h]
theorem storesM_getD {mem : List Int} {at_ : Int} {ws : List Int} {n : Nat} (hin : 0 ≤ at_ ∧ at_ + n ≤ mem.length) (j : Nat) : (storesM mem at_ ws n).getD j 0 = if at_.toNat ≤ j ∧ j < at_.toNat + n then ws.getD (j - at_.toNat) 0 else mem.getD j 0 := by
  suffices h : ∀ i, i ≤ n → (storesM mem at_ ws i).getD j 0 = if at_.toNat ≤ j ∧ j < at_.toNat + i then ws.getD (j - at_.toNat) 0 else mem.getD j 0 from h n (Nat.le_refl _)
  intro i
  induction i with
  | zero => intro _; rw [if_neg (by omega)]; rfl
  | succ i ih =>
    intro hi
    rw [storesM_set hin (by omega), getD_set, ih (by omega), storesM_len]
    by_cases h1 : at_.toNat + i = j
    · rw [if_pos ⟨h1, by omega⟩, if_pos (by omega)]
      congr 1; omega
    · rw [if_neg (fun e => h1 e.1)]
      by_cases h2 : at_.toNat ≤ j ∧ j < at_.toNat + i
      · rw [if_pos h2, if_pos (by omega)]
      · rw [if_neg h2, if_neg (by omega)]
theorem recM_getD {mem : List Int} {k : Nat} {d : Dfr} (hk : k + 4 ≤ mem.length) (j : Nat) : (recM mem k d).getD j 0 = if j = k then d.f else if k + 1 ≤ j ∧ j < k + 4 then d.args.getD (j - (k + 1)) 0 else mem.getD j 0 := by
  unfold recM
  simp only [getD_set, List.length_set]
  by_cases h3 : j = k + 3
  · subst h3; rw [if_pos (by omega), if_neg (by omega), if_pos (by omega)]; congr 1; omega
  rw [if_neg (by omega)]
  by_cases h2 : j = k + 2
  · subst h2; rw [if_pos (by omega), if_neg (by omega), if_pos (by omega)]; congr 1; omega
  rw [if_neg (by omega)]
  by_cases h1 : j = k + 1
  · subst h1; rw [if_pos (by omega), if_neg (by omega), if_pos (by omega)]; congr 1; omega
  rw [if_neg (by omega)]
  by_cases h0 : j = k
  · subst h0; rw [if_pos (by omega), if_pos rfl]
  · rw [if_neg (by omega), if_neg h0, if_neg (by omega)]
theorem recsM_out {mem : List Int} {k : Nat} {ds : List Dfr} {j : Nat} : ∀ {i : Nat}, k + i * 4 ≤ mem.length → j < k ∨ k + i * 4 ≤ j → (recsM mem k ds i).getD j 0 = mem.getD j 0
  | 0, _, _ => rfl
  | i + 1, hk, hj => by
    have h := recM_getD (mem := recsM mem k ds i) (k := k + i * 4) (d := ds.getD i ⟨0, []⟩) (by rw [recsM_len]; omega) j
    rw [if_neg (by omega), if_neg (by omega)] at h
    refine h.trans ?_
    exact recsM_out (by omega) (by omega)
theorem recsM_in {mem : List Int} {k : Nat} {ds : List Dfr} {m : Nat} {d : Dfr} (hd : ds[m]? = some d) : ∀ {i : Nat}, k + i * 4 ≤ mem.length → m < i → (recsM mem k ds i).getD (k + m * 4) 0 = d.f ∧ ∀ r, r < 3 → (recsM mem k ds i).getD (k + m * 4 + 1 + r) 0 = d.args.getD r 0
  | 0, _, hm => by omega
  | i + 1, hk, hm => by
    have hgd : ∀ j, (recsM mem k ds (i + 1)).getD j 0 = (recM (recsM mem k ds i) (k + i * 4) (ds.getD i ⟨0, []⟩)).getD j 0 := fun j => rfl
    have hle : k + i * 4 + 4 ≤ (recsM mem k ds i).length := by rw [recsM_len]; omega
    by_cases he : m = i
    · subst he
      have hdd : ds.getD m ⟨0, []⟩ = d := by simp [List.getD, hd]
      refine ⟨by rw [hgd, recM_getD hle, if_pos rfl, hdd], fun r hr => ?_⟩
      rw [hgd, recM_getD hle, if_neg (by omega), if_pos (by omega), hdd]
      congr 1; omega
    · obtain ⟨h1, h2⟩ := recsM_in (mem := mem) (k := k) hd (i := i) (by omega) (by omega)
      refine ⟨?_, fun r hr => ?_⟩
      · rw [hgd, recM_getD hle, if_neg (by omega), if_neg (by omega)]; exact h1
      · rw [hgd, recM_getD hle, if_neg (by omega), if_neg (by omega)]; exact h2 r hr
section
variable {p : List Fnc} {mem : List Int} {at_ below : Int} {x : Frm} {g : Fnc}
theorem write_some (hok : writeOk p mem.length at_ below x = true) (hs : Sized p) : ∃ g, fnAt p x.f = some g ∧ mayM p x = true ∧ belowM mem.length below = true ∧ inM mem.length at_ (sizeF g) = true ∧ sizedF g = true ∧ writeM p mem at_ below x = bodyM (putM mem at_ (hdOf below x)) at_ g x := by
  have hok' := hok
  unfold writeOk at hok'
  cases hfn : fnAt p x.f with
  | none => rw [hfn] at hok'; simp at hok'
  | some g =>
    rw [hfn] at hok'
    simp only [Bool.and_eq_true] at hok'
    obtain ⟨g', _, hg', hfn', _⟩ := may_some hok'.1.1
    rw [hfn] at hfn'; cases hfn'
    exact ⟨g, rfl, hok'.1.1, hok'.1.2, hok'.2, hs g (List.mem_of_getElem? hg'), by unfold writeM; rw [if_pos hok, hfn]⟩
theorem write_words (hs : Sized p) (hpl : p.length ≤ 1000) (hok : writeOk p mem.length at_ below x = true) (hg : fnAt p x.f = some g) :
    (∀ j, j < at_.toNat ∨ at_.toNat + (sizeF g).toNat ≤ j → (writeM p mem at_ below x).getD j 0 = mem.getD j 0) ∧
    (∀ i, i < 7 → (writeM p mem at_ below x).getD (at_.toNat + i) 0 = (hdW (hdOf below x)).getD i 0) ∧
    (∀ m d, x.dfs[m]? = some d → (writeM p mem at_ below x).getD (at_.toNat + 7 + m * 4) 0 = d.f ∧ ∀ r, r < 3 → (writeM p mem at_ below x).getD (at_.toNat + 7 + m * 4 + 1 + r) 0 = d.args.getD r 0) ∧
    (∀ i, i < x.locals.length → (writeM p mem at_ below x).getD ((at_ + aheadM g).toNat + i) 0 = x.locals.getD i 0) ∧
    (∀ i, i < x.ops.length → (writeM p mem at_ below x).getD ((at_ + aheadM g + g.locals).toNat + i) 0 = x.ops.getD i 0) := by
  obtain ⟨g', hg', hm, hb, hin, hsz, hM⟩ := write_some hok hs
  rw [hg] at hg'; cases hg'
  rw [hM]
  obtain ⟨G, h0, hG, hfn, a1, a2, a3, a4, a5, a6, a7, a8⟩ := may_some hm
  rw [hg] at hfn; cases hfn
  have hbd := sized_bd hsz
  have hii := of_decide_eq_true hin
  have hsF := sizeF_eq hsz
  have hah : 7 ≤ aheadM g ∧ aheadM g ≤ 23 := by unfold aheadM; split <;> omega
  have hroom : x.dfs.length * 4 + 7 ≤ aheadM g := by unfold roomM at a7; unfold aheadM; split at a7 <;> (rename_i hdd; simp only [hdd]; simp; omega)
  have hin7 : inM mem.length at_ 7 = true := by unfold inM; exact decide_eq_true (by omega)
  have hpok := put_may hm hs hpl hb hin7
  have hP : ∀ j, (putM mem at_ (hdOf below x)).getD j 0 = if at_.toNat ≤ j ∧ j < at_.toNat + 7 then (hdW (hdOf below x)).getD (j - at_.toNat) 0 else mem.getD j 0 := fun j => by
    unfold putM; rw [if_pos hpok]
    exact storesM_getD ⟨hii.1, by omega⟩ j
  have hPl := putM_len mem at_ (hdOf below x)
  generalize putM mem at_ (hdOf below x) = P at hP hPl
  have hB : ∀ j, (bodyM P at_ g x).getD j 0 = if (at_ + aheadM g + g.locals).toNat ≤ j ∧ j < (at_ + aheadM g + g.locals).toNat + x.ops.length then x.ops.getD (j - (at_ + aheadM g + g.locals).toNat) 0 else
      if (at_ + aheadM g).toNat ≤ j ∧ j < (at_ + aheadM g).toNat + x.locals.length then x.locals.getD (j - (at_ + aheadM g).toNat) 0 else (recsM P (at_.toNat + 7) x.dfs x.dfs.length).getD j 0 := fun j => by
    unfold bodyM
    rw [storesM_getD ⟨by omega, by rw [storesM_len, recsM_len]; omega⟩, storesM_getD ⟨by omega, by rw [recsM_len]; omega⟩]
  have hrl : at_.toNat + 7 + x.dfs.length * 4 ≤ P.length := by omega
  refine ⟨fun j hj => ?_, fun i hi => ?_, fun m d hd => ?_, fun i hi => ?_, fun i hi => ?_⟩
  · rw [hB, if_neg (by omega), if_neg (by omega), recsM_out hrl (by omega), hP, if_neg (by omega)]
  · rw [hB, if_neg (by omega), if_neg (by omega), recsM_out hrl (by omega), hP, if_pos (by omega)]
    congr 1; omega
  · have hml := (List.getElem?_eq_some_iff.1 hd).1
    obtain ⟨h1, h2⟩ := recsM_in hd hrl hml
    refine ⟨?_, fun r hr => ?_⟩
    · rw [hB, if_neg (by omega), if_neg (by omega)]; exact h1
    · rw [hB, if_neg (by omega), if_neg (by omega)]; exact h2 r hr
  · rw [hB, if_neg (by omega), if_pos (by omega)]
    congr 1; omega
  · rw [hB, if_pos (by omega)]
    congr 1; omega
end
end Go.Proofs.Ytlccbaemcfjdoaa
