import Derived.Test.YtidcpndlloppdaaZP21i
/-
  Layer 21, plain: the machine on the programs of AbsmFresh.
  Conditions: none.
-/
set_option linter.unusedVariables false
set_option linter.unusedSimpArgs false
set_option maxRecDepth 20000
namespace Go.Proofs.Ytidcpndlloppdaa
def faI (k : Int) : Int := Int.tmod k 4
def fbI (k : Int) : Int := Int.tmod (Int.tdiv k 4) 4
def fcI (k : Int) : Int := Int.tmod (Int.tdiv k 16) 4
theorem fa_bd {k : Int} (h : 0 ≤ k) : 0 ≤ faI k ∧ faI k < 4 := by unfold faI; rw [Int.tmod_eq_emod_of_nonneg h]; omega
theorem fb_bd {k : Int} (h : 0 ≤ k) : 0 ≤ fbI k ∧ fbI k < 4 := by
  unfold fbI
  rw [Int.tdiv_eq_ediv_of_nonneg h, Int.tmod_eq_emod_of_nonneg (by omega)]; omega
def insFr (k : Int) : Ins := if fcI k = 0 then ⟨24, faI k, fbI k⟩ else if fcI k = 1 then ⟨25, faI k, 0⟩ else ⟨23, faI k, 0⟩
def haveFr (k : Int) (s : List Int × Int) : List Int × Int :=
  if fcI k = 0 then (s.1.set (faI k).toNat (s.1.getD (fbI k).toNat 0), s.2) else if fcI k = 1 then (s.1.set (faI k).toNat 0, s.2) else (s.1.set (faI k).toNat (s.2 + 1), s.2 + 1)
def allFr (ks : List Int) : List Int × Int := ks.foldl (fun s k => haveFr k s) ([0, 0, 0, 0], 0)
theorem allFr_snoc (ks : List Int) (k : Int) : allFr (ks ++ [k]) = haveFr k (allFr ks) := by unfold allFr; rw [List.foldl_append]; rfl
theorem haveFr_ok {k : Int} {s : List Int × Int} {n : Nat} (h : s.1.length = 4 ∧ (∀ x ∈ s.1, 0 ≤ x ∧ x ≤ s.2) ∧ 0 ≤ s.2 ∧ s.2 ≤ (n : Int)) :
    (haveFr k s).1.length = 4 ∧ (∀ x ∈ (haveFr k s).1, 0 ≤ x ∧ x ≤ (haveFr k s).2) ∧ 0 ≤ (haveFr k s).2 ∧ (haveFr k s).2 ≤ ((n + 1 : Nat) : Int) := by
  obtain ⟨h1, h2, h3, h4⟩ := h
  have hg : ∀ i, 0 ≤ s.1.getD i 0 ∧ s.1.getD i 0 ≤ s.2 := fun i => by
    by_cases hi : i < s.1.length
    · rw [List.getD_eq_getElem?_getD, List.getElem?_eq_getElem hi]; exact h2 _ (List.getElem_mem _)
    · rw [List.getD_eq_getElem?_getD, List.getElem?_eq_none (by omega)]; exact ⟨Int.le_refl _, h3⟩
  have hs : ∀ (i : Nat) (v b : Int), 0 ≤ v ∧ v ≤ b → s.2 ≤ b → ∀ x ∈ s.1.set i v, 0 ≤ x ∧ x ≤ b := fun i v b hv hb x hx => by
    rcases List.mem_or_eq_of_mem_set hx with hx | rfl
    · have := h2 x hx; omega
    · exact hv
  unfold haveFr
  split
  · exact ⟨by simp [h1], hs _ _ _ (hg _) (Int.le_refl _), h3, by show s.2 ≤ _; omega⟩
  · split
    · exact ⟨by simp [h1], hs _ _ _ ⟨Int.le_refl _, h3⟩ (Int.le_refl _), h3, by show s.2 ≤ _; omega⟩
    · exact ⟨by simp [h1], hs _ _ _ (by omega) (by omega), by show 0 ≤ s.2 + 1; omega, by show s.2 + 1 ≤ _; omega⟩
def OkFr (s : List Int × Int) (n : Nat) : Prop := s.1.length = 4 ∧ (∀ x ∈ s.1, 0 ≤ x ∧ x ≤ s.2) ∧ 0 ≤ s.2 ∧ s.2 ≤ (n : Int)
theorem foldFr_ok : ∀ (ks : List Int) (s : List Int × Int) (n : Nat), OkFr s n → OkFr (ks.foldl (fun s k => haveFr k s) s) (n + ks.length)
  | [], s, n, h => h
  | k :: r, s, n, h => by
    have := foldFr_ok r (haveFr k s) (n + 1) (haveFr_ok h)
    rw [List.length_cons, show n + (r.length + 1) = n + 1 + r.length by omega]
    exact this
theorem allFr_ok (ks : List Int) : OkFr (allFr ks) ks.length := by
  have := foldFr_ok ks ([0, 0, 0, 0], 0) 0 ⟨rfl, fun x hx => (by simp at hx; subst hx; exact ⟨Int.le_refl _, Int.le_refl _⟩), Int.le_refl _, Int.le_refl _⟩
  rwa [Nat.zero_add] at this
def freshC (ks : List Int) : List Ins := ks.map insFr ++ [⟨1, 0, 0⟩, ⟨18, 0, 0⟩]
def freshP (ks : List Int) : List Fnc := [⟨0, 4, 4, freshC ks⟩]
theorem insFr_row (k : Int) : (rowT (insFr k).op).2 = (0, 0, true) ∧ ((insFr k).op = 23 ∨ (insFr k).op = 24 ∨ (insFr k).op = 25) := by
  unfold insFr
  split
  · exact ⟨rfl, .inr (.inl rfl)⟩
  · split
    · exact ⟨rfl, .inr (.inr rfl)⟩
    · exact ⟨rfl, .inl rfl⟩
theorem freshC_at {ks : List Int} {j : Nat} {x : Ins} (h : (freshC ks)[j]? = some x) : (∃ k, ks[j]? = some k ∧ x = insFr k) ∨ (j = ks.length ∧ x = ⟨1, 0, 0⟩) ∨ (j = ks.length + 1 ∧ x = ⟨18, 0, 0⟩) := by
  unfold freshC at h
  by_cases hj : j < (ks.map insFr).length
  · rw [List.getElem?_append_left hj, List.getElem?_map] at h
    obtain ⟨k, hk, rfl⟩ := Option.map_eq_some_iff.1 h
    exact .inl ⟨k, hk, rfl⟩
  · rw [List.getElem?_append_right (by omega)] at h
    simp only [List.length_map] at h hj
    obtain ⟨i, hi⟩ : ∃ i, j - ks.length = i := ⟨_, rfl⟩
    rw [hi] at h
    match i, h with
    | 0, h => exact .inr (.inl ⟨by omega, by cases h; rfl⟩)
    | 1, h => exact .inr (.inr ⟨by omega, by cases h; rfl⟩)
    | i + 2, h => simp at h
theorem fresh_run (ks : List Int) (p : List Fnc) : Run (popsM p) (freshC ks) (List.replicate (ks.length + 1) 0 ++ [1]) [] := by
  have d0 : ∀ j, j < ks.length + 1 → (List.replicate (ks.length + 1) (0 : Int) ++ [1])[j]? = some 0 := fun j hj => by
    rw [List.getElem?_append_left (by simpa using hj), List.getElem?_replicate, if_pos hj]
  have d1 : (List.replicate (ks.length + 1) (0 : Int) ++ [1])[ks.length + 1]? = some 1 := by
    rw [List.getElem?_append_right (by simp)]; simp
  refine ⟨by simp [freshC], fun d hd => ?_, fun j x d hx hd => ?_⟩
  · rcases List.mem_append.1 hd with h | h
    · have := List.eq_of_mem_replicate h; omega
    · simp at h; omega
  rw [List.append_nil]
  rcases freshC_at hx with ⟨k, hk, rfl⟩ | ⟨rfl, rfl⟩ | ⟨rfl, rfl⟩
  · have hj := (List.getElem?_eq_some_iff.1 hk).1
    rw [d0 j (by omega)] at hd
    cases hd
    obtain ⟨h1, h2⟩ := insFr_row k
    have hp : popsM p (insFr k).op (insFr k).a = 0 := by unfold popsM; rw [h1]; rfl
    have hq : pushesI (insFr k).op = 0 := by unfold pushesI; rw [h1]
    rw [hp, hq]
    refine ⟨by omega, by omega, fun t ht => ?_⟩
    rw [nextM_on (by omega)] at ht
    simp at ht
    subst ht
    exact ⟨by omega, by rw [show ((j : Int) + 1).toNat = j + 1 by omega]; exact d0 _ (by omega)⟩
  · rw [d0 _ (by omega)] at hd
    cases hd
    refine ⟨by simp [popsM, rowT], by simp [popsM, pushesI, rowT], fun t ht => ?_⟩
    rw [nextM_on (by decide)] at ht
    simp at ht
    subst ht
    exact ⟨by omega, by rw [show ((ks.length : Int) + 1).toNat = ks.length + 1 by omega]; exact d1⟩
  · rw [d1] at hd
    cases hd
    exact ⟨by simp [popsM, rowT], by simp [popsM, pushesI, rowT], fun t ht => by simp [nextM] at ht⟩
theorem fresh_check {ks : List Int} (hl : ks.length ≤ 50) (hb : ∀ k ∈ ks, 0 ≤ k) : checkM (freshP ks) = (0, 0, 0) := by
  refine check_zero (by show 1 ≤ 1; omega) (by show 1 ≤ 8; omega) ?_ ?_ ?_
  · intro x hx
    cases List.mem_singleton.1 hx
    show sizedM 0 4 4 (freshC ks).length = true
    have : (freshC ks).length = ks.length + 2 := by simp [freshC]
    rw [this]
    unfold sizedM
    exact decide_eq_true (by omega)
  · intro f hf x hx
    cases List.mem_singleton.1 hf
    obtain ⟨j, hj⟩ := List.getElem?_of_mem hx
    rcases freshC_at hj with ⟨k, hk, rfl⟩ | ⟨rfl, rfl⟩ | ⟨rfl, rfl⟩
    · have h0 := hb k (List.mem_of_getElem? hk)
      obtain ⟨a1, a2⟩ := fa_bd h0
      obtain ⟨b1, b2⟩ := fb_bd h0
      unfold insFr
      split
      · simp [shapedI, shapedM, rowT, kindM, withinM]; omega
      · split <;> simp [shapedI, shapedM, rowT, kindM, withinM] <;> omega
    · rfl
    · rfl
  · intro f hf
    cases List.mem_singleton.1 hf
    refine depthsM_run (fresh_run ks _) ?_
    rw [List.getElem?_append_left (by simp)]; simp
def freshM (s : List Int × Int) (i : Nat) : Mach := ⟨0, true, false, false, s.2, [⟨0, i, 0, false, 0, [], s.1, []⟩], []⟩
theorem fresh_step {ks : List Int} {i : Nat} {k : Int} (hk : ks[i]? = some k) {s : List Int × Int} (hs : s.1.length = 4) : (stepM (freshP ks) (wakeM (freshM s i))).1 = freshM (haveFr k s) (i + 1) := by
  have hlt := (List.getElem?_eq_some_iff.1 hk).1
  have hf : fnD (freshP ks) 0 = ⟨0, 4, 4, freshC ks⟩ := rfl
  have hi : insAt ⟨0, 4, 4, freshC ks⟩ (i : Int) = insFr k := by
    unfold insAt
    show ((freshC ks)[(i : Int).toNat]?).getD _ = _
    rw [Int.toNat_natCast]
    unfold freshC
    rw [List.getElem?_append_left (by simpa using hlt), List.getElem?_map, hk]
    rfl
  show (if (freshM s i).ended = true then _ else _ : Mach × Int).1 = _
  show runMach (freshP ks) (wakeM (freshM s i)) ⟨0, i, 0, false, 0, [], s.1, []⟩ [] = _
  unfold runMach
  show actM (freshP ks) _ (fnD (freshP ks) 0) (insAt (fnD (freshP ks) 0) (i : Int)) _ _ _ = _
  rw [hf, hi]
  have hy : popF (freshP ks) (insFr k) ⟨0, i, 0, false, 0, [], s.1, []⟩ = ⟨0, ((i + 1 : Nat) : Int), 0, false, 0, [], s.1, []⟩ := by
    unfold popF; simp
  rw [hy]
  have hr : ∀ b a : Int, refAt ⟨0, 4, 4, freshC ks⟩ ⟨0, b, 0, false, 0, [], s.1, []⟩ a = a.toNat := fun b a => by
    unfold refAt
    show s.1.length - (4 : Int).toNat + a.toNat = _
    rw [hs]; simp
  unfold insFr haveFr
  split
  · simp [actM, hr, freshM, wakeM]
  · split
    · simp [actM, hr, freshM, wakeM]
    · simp [actM, hr, freshM, wakeM]
theorem fresh_play (ks : List Int) : ∀ i, i ≤ ks.length → playM (freshP ks) (newM 0) (i + 1) = freshM (allFr (ks.take i)) i
  | 0, _ => rfl
  | i + 1, hi => by
    obtain ⟨k, hk⟩ : ∃ k, ks[i]? = some k := ⟨_, List.getElem?_eq_getElem (by omega)⟩
    show (stepM (freshP ks) (wakeM (playM (freshP ks) (newM 0) (i + 1)))).1 = _
    rw [fresh_play ks i (by omega), fresh_step hk (allFr_ok _).1, List.take_add_one, hk]
    show _ = freshM (allFr (ks.take i ++ [k])) (i + 1)
    rw [allFr_snoc]
theorem fresh_roots {ks : List Int} : rootsM (freshP ks) (freshM (allFr ks) ks.length) = (allFr ks).1.filter fun w => w != 0 := by
  unfold rootsM
  show ([_] : List Frm).flatMap _ = _
  rw [List.flatMap_singleton]
  unfold refsF
  show (List.drop ((allFr ks).1.length - (4 : Int).toNat) (allFr ks).1).filter _ = _
  rw [(allFr_ok ks).1]
  rfl
end Go.Proofs.Ytidcpndlloppdaa
