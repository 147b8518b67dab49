/-
  Layer 19: the plain rule of stacks that are moved, and the plain law: frames in the new place hold the same.
  Conditions: none.
-/
import Derived.Test.YtlccbaemcfjdoaaZA20
set_option linter.unusedVariables false
set_option linter.unusedSimpArgs false
namespace Go.Proofs.Ytlccbaemcfjdoaa
open Go.RowKit
structure St where
  lo : Int
  words : Int
  top : Int
def st0 : St := ⟨0, 0, 0⟩
def endM (p : List Fnc) (mem : List Int) (s : St) : Int × Int :=
  if s.top = -1 then (s.lo, 0) else
  if (getM mem s.top).2 ≠ 0 then (0, (getM mem s.top).2) else
  match fnAt p (getM mem s.top).1.f with
  | none => (0, 6)
  | some g => (s.top + sizeF g, 0)
def fixW (mem : List Int) (at_ by_ : Int) : List Int × Int × Int :=
  if inM mem.length at_ 1 = true then
    (if mem.getD at_.toNat 0 = 0 then (mem, -1, 0) else
     if (mem.length : Int) < mem.getD at_.toNat 0 ∨ mem.getD at_.toNat 0 + by_ < 1 ∨ (mem.length : Int) < mem.getD at_.toNat 0 + by_ then (mem, 0, 6) else
     (mem.set at_.toNat (mem.getD at_.toNat 0 + by_), mem.getD at_.toNat 0 + by_ - 1, 0))
  else (mem, 0, 1)
def overM (a n b m : Int) : Bool := decide (0 ≤ a ∧ a ≤ 2305843009213693952 ∧ 0 ≤ b ∧ b ≤ 2305843009213693952 ∧ 1 ≤ n ∧ n ≤ 2305843009213693952 ∧ 1 ≤ m ∧ m ≤ 2305843009213693952 ∧ a < b + m ∧ b < a + n)
def movedD (mem : List Int) (lo fin to : Int) (ats : List Int) (d : Nat) : List Int :=
  (List.range mem.length).map fun (i : Nat) => if to ≤ (i : Int) ∧ (i : Int) < to + (fin - lo) then mem.getD ((i : Int) - to + lo).toNat 0 + (if (i : Int) - to + lo ∈ ats.drop d then to - lo else 0) else mem.getD i 0
theorem movedD_len (mem : List Int) (lo fin to : Int) (ats : List Int) (d : Nat) : (movedD mem lo fin to ats d).length = mem.length := by simp [movedD]
theorem movedD_get (mem : List Int) (lo fin to : Int) (ats : List Int) (d : Nat) {i : Nat} (hi : i < mem.length) : (movedD mem lo fin to ats d).getD i 0 = if to ≤ (i : Int) ∧ (i : Int) < to + (fin - lo) then mem.getD ((i : Int) - to + lo).toNat 0 + (if (i : Int) - to + lo ∈ ats.drop d then to - lo else 0) else mem.getD i 0 := by
  simp only [List.getD, movedD, List.getElem?_map, List.getElem?_range hi, Option.map_some, Option.getD_some]
theorem movedD_in {mem : List Int} {lo fin to : Int} {ats : List Int} {d : Nat} (hlo : 0 ≤ lo) (hto : 0 ≤ to) (hfit : to + (fin - lo) ≤ mem.length) {q : Int} (h0 : lo ≤ q) (h1 : q < fin) :
    (movedD mem lo fin to ats d).getD (q + (to - lo)).toNat 0 = mem.getD q.toNat 0 + (if q ∈ ats.drop d then to - lo else 0) := by
  have e : (((q + (to - lo)).toNat : Nat) : Int) = q + (to - lo) := by omega
  rw [movedD_get _ _ _ _ _ _ (by omega), if_pos (by omega), e]
  rw [show q + (to - lo) - to + lo = q by omega]
theorem ext_getD {xs ys : List Int} (hl : xs.length = ys.length) (h : ∀ i, i < xs.length → xs.getD i 0 = ys.getD i 0) : xs = ys := by
  apply List.ext_getElem hl
  intro i h1 h2
  have := h i h1
  simpa [List.getD, List.getElem?_eq_getElem h1, List.getElem?_eq_getElem h2] using this
theorem getD_setW (xs : List Int) (i j : Nat) (v : Int) (hi : i < xs.length) : (xs.set i v).getD j 0 = if i = j then v else xs.getD j 0 := by
  simp only [List.getD, List.getElem?_set]
  by_cases h : i = j
  · subst h
    rw [if_pos rfl, if_pos rfl, if_pos hi]
    rfl
  · rw [if_neg h, if_neg h]
theorem mem_drop_iff {ats : List Int} {k : Nat} {a : Int} (ha : ats[k]? = some a) (q : Int) : q ∈ ats.drop k ↔ q = a ∨ q ∈ ats.drop (k + 1) := by
  have hk := (List.getElem?_eq_some_iff.1 ha).1
  rw [List.drop_eq_getElem_cons hk, List.mem_cons]
  have : ats[k] = a := (List.getElem?_eq_some_iff.1 ha).2
  rw [this]
structure StackIn (p : List Fnc) (M : List Int) (xs : List Frm) (ats : List Int) (lo fin : Int) : Prop where
  chain : FrmChain p M xs ats
  fit : ∀ (i : Nat) (x : Frm) (a : Int), xs[i]? = some x → ats[i]? = some a → lo ≤ a ∧ a + sizeX p x ≤ fin
  last : ∀ (x : Frm) (a : Int), 0 < xs.length → xs[xs.length - 1]? = some x → ats[xs.length - 1]? = some a → a + sizeX p x = fin
  none : xs.length = 0 → fin = lo
  lo0 : 0 ≤ lo
  le : lo ≤ fin
  len : fin ≤ M.length
section
variable {p : List Fnc} {M : List Int} {xs : List Frm} {ats : List Int} {lo fin : Int}
theorem chain_lt (hs : Sized p) (h : FrmChain p M xs ats) : ∀ (j i : Nat) (x : Frm) (a b : Int), i < j → xs[i]? = some x → ats[i]? = some a → ats[j]? = some b → a + sizeX p x ≤ b
  | 0, i, _, _, _, hij, _, _, _ => by omega
  | j + 1, i, x, a, b, hij, hx, ha, hb => by
    by_cases hi : i = j
    · subst hi; exact h.next i x a b hx ha hb
    · have hjl := (List.getElem?_eq_some_iff.1 hb).1
      rw [h.len] at hjl
      have hy : xs[j]? = some (xs[j]'(by omega)) := List.getElem?_eq_getElem _
      have hc : ats[j]? = some (ats[j]'(by rw [h.len]; omega)) := List.getElem?_eq_getElem _
      have h1 := chain_lt hs h j i x a _ (by omega) hx ha hc
      have h2 := h.next j _ _ b hy hc hb
      obtain ⟨g, _, _, _, hsx, z0, _⟩ := size_may hs (h.may _ (List.mem_of_getElem? hy))
      omega
theorem chain_mem (hs : Sized p) (h : FrmChain p M xs ats) {i : Nat} {x : Frm} {a q : Int} (hx : xs[i]? = some x) (ha : ats[i]? = some a) (h0 : a ≤ q) (h1 : q < a + sizeX p x) (hq : q ∈ ats) : q = a := by
  obtain ⟨j, hj⟩ := List.mem_iff_getElem?.1 hq
  by_cases h2 : i = j
  · subst h2; rw [ha] at hj; cases hj; rfl
  · by_cases h3 : i < j
    · have := chain_lt hs h j i x a q h3 hx ha hj; omega
    · have hjl := (List.getElem?_eq_some_iff.1 hj).1
      rw [h.len] at hjl
      have hy : xs[j]? = some (xs[j]'(by omega)) := List.getElem?_eq_getElem _
      have := chain_lt hs h i j _ q a (by omega) hy hj ha
      obtain ⟨g, _, _, _, hsx, z0, _⟩ := size_may hs (h.may _ (List.mem_of_getElem? hy))
      omega
theorem chain_not (hs : Sized p) (h : FrmChain p M xs ats) {k : Nat} {a : Int} (ha : ats[k]? = some a) : a ∉ ats.drop (k + 1) := fun hc => by
  obtain ⟨j, hj⟩ := List.mem_iff_getElem?.1 hc
  rw [List.getElem?_drop] at hj
  have hk := (List.getElem?_eq_some_iff.1 ha).1
  rw [h.len] at hk
  have hy : xs[k]? = some (xs[k]'(by omega)) := List.getElem?_eq_getElem _
  have := chain_lt hs h _ k _ a a (show k < k + 1 + j by omega) hy ha hj
  obtain ⟨g, _, _, _, hsx, z0, _⟩ := size_may hs (h.may _ (List.mem_of_getElem? hy))
  omega
theorem prev_map (by_ : Int) {k : Nat} (hk : k ≤ ats.length) : prevA (ats.map (· + by_)) k = if k = 0 then -1 else ats.getD (k - 1) 0 + by_ := by
  unfold prevA
  by_cases h : k = 0
  · rw [if_pos h, if_pos h]
  · rw [if_neg h, if_neg h]
    have : ats[k - 1]? = some (ats[k - 1]'(by omega)) := List.getElem?_eq_getElem _
    simp [List.getD, List.getElem?_map, this]
theorem fix_step (hs : Sized p) (h : StackIn p M xs ats lo fin) {to : Int} (hto : 0 ≤ to) (hfit : to + (fin - lo) ≤ M.length) {k : Nat} {a : Int} (ha : ats[k]? = some a) :
    fixW (movedD M lo fin to ats (k + 1)) (a + (to - lo)) (to - lo) = (movedD M lo fin to ats (max k 1), prevA (ats.map (· + (to - lo))) k, 0) := by
  have hk := (List.getElem?_eq_some_iff.1 ha).1
  have hkx := hk
  rw [h.chain.len] at hkx
  have hx : xs[k]? = some (xs[k]'hkx) := List.getElem?_eq_getElem _
  generalize xs[k]'hkx = x at hx
  have hft := h.fit k x a hx ha
  obtain ⟨g, hfn, f0, hG, hsx, z0, z1, hGs⟩ := size_may hs (h.chain.may x (List.mem_of_getElem? hx))
  obtain ⟨g', hg', hb', hin, w1, _⟩ := h.chain.frm k x a hx ha
  have hbb := of_decide_eq_true hb'
  have hw : M.getD a.toNat 0 = prevA ats k + 1 := by simpa [hdW, hdOf] using w1 0 (by omega)
  have hl0 := h.lo0
  have hln := h.len
  have hlen := movedD_len M lo fin to ats (k + 1)
  have hget : (movedD M lo fin to ats (k + 1)).getD (a + (to - lo)).toNat 0 = prevA ats k + 1 := by
    rw [movedD_in hl0 hto hfit hft.1 (by omega), hw, if_neg (chain_not hs h.chain ha), Int.add_zero]
  unfold fixW
  rw [hlen, if_pos (by unfold inM; exact decide_eq_true (by omega)), hget, prev_map _ (by omega)]
  by_cases hk0 : k = 0
  · subst hk0
    rw [if_pos (by unfold prevA; rw [if_pos rfl]; omega), if_pos rfl]
    rfl
  · rw [if_neg hk0]
    have hp : prevA ats k = ats.getD (k - 1) 0 := by unfold prevA; rw [if_neg hk0]
    obtain ⟨j, rfl⟩ : ∃ j, k = j + 1 := ⟨k - 1, by omega⟩
    rw [Nat.add_sub_cancel] at hp ⊢
    have hc : ats[j]? = some (ats[j]'(by omega)) := List.getElem?_eq_getElem _
    have hy : xs[j]? = some (xs[j]'(by omega)) := List.getElem?_eq_getElem _
    have hgd : ats.getD j 0 = ats[j]'(by omega) := by simp [List.getD, hc]
    have hfj := h.fit j _ _ hy hc
    obtain ⟨g2, _, _, _, hsy, y0, _⟩ := size_may hs (h.chain.may _ (List.mem_of_getElem? hy))
    rw [hp, hgd]
    rw [if_neg (by omega), if_neg (by omega), Nat.max_eq_left (by omega)]
    refine Prod.ext ?_ (Prod.ext (by simp only; omega) rfl)
    simp only
    refine ext_getD (by rw [List.length_set, movedD_len, movedD_len]) fun i hi => ?_
    rw [List.length_set, hlen] at hi
    rw [getD_setW _ _ _ _ (by omega)]
    by_cases he : (a + (to - lo)).toNat = i
    · rw [if_pos he]
      rw [← he, movedD_in hl0 hto hfit hft.1 (by omega), hw, if_pos ((mem_drop_iff ha a).2 (.inl rfl)), hp, hgd]
    · rw [if_neg he, movedD_get _ _ _ _ _ _ hi, movedD_get _ _ _ _ _ _ hi]
      by_cases hr : to ≤ (i : Int) ∧ (i : Int) < to + (fin - lo)
      · rw [if_pos hr, if_pos hr]
        congr 1
        have hiff : (i : Int) - to + lo ∈ ats.drop (j + 1 + 1) ↔ (i : Int) - to + lo ∈ ats.drop (j + 1) := by
          rw [mem_drop_iff ha]
          exact ⟨.inr, fun hc => hc.resolve_left (fun hc => by omega)⟩
        by_cases hm : (i : Int) - to + lo ∈ ats.drop (j + 1)
        · rw [if_pos hm, if_pos (hiff.2 hm)]
        · rw [if_neg hm, if_neg (fun hc => hm (hiff.1 hc))]
      · rw [if_neg hr, if_neg hr]
theorem top_get (hs : Sized p) (hpl : p.length ≤ 1000) (h : FrmChain p M xs ats) {i : Nat} {x : Frm} {a : Int} (hx : xs[i]? = some x) (ha : ats[i]? = some a) : (getM M a).2 = 0 ∧ (getM M a).1.f = x.f := by
  have hm := List.mem_of_getElem? hx
  have hr := (h.frm i x a hx ha).read hs hpl (h.may x hm) (h.wd x hm)
  unfold readM at hr
  by_cases h0 : (getM M a).2 = 0
  · rw [if_neg (by simpa using h0)] at hr
    refine ⟨h0, ?_⟩
    obtain ⟨g, hfn, _⟩ := size_may hs (h.may x hm)
    unfold readH at hr
    cases hf : fnAt p (getM M a).1.f with
    | none => rw [hf] at hr; simp at hr
    | some G =>
      rw [hf] at hr
      simp only at hr
      split at hr
      · split at hr
        · split at hr
          · have h1 := congrArg (fun r => r.1.f) hr
            exact h1
          · simp at hr
        · simp at hr
      · simp at hr
  · rw [if_pos (by simpa using h0)] at hr
    have h2 : (getM M a).2 = 0 := congrArg (fun r => r.2.2) hr
    exact absurd h2 h0
theorem StackIn.end_ (hs : Sized p) (hpl : p.length ≤ 1000) (h : StackIn p M xs ats lo fin) (words : Int) : endM p M ⟨lo, words, prevA ats xs.length⟩ = (fin, 0) := by
  unfold endM
  simp only
  by_cases hn : xs.length = 0
  · rw [hn, if_pos (by unfold prevA; rw [if_pos rfl]), h.none hn]
  · have hl := h.chain.len
    have ha : ats[xs.length - 1]? = some (ats[xs.length - 1]'(by omega)) := List.getElem?_eq_getElem _
    have hx : xs[xs.length - 1]? = some (xs[xs.length - 1]'(by omega)) := List.getElem?_eq_getElem _
    generalize ats[xs.length - 1]'(by omega) = a at ha
    generalize xs[xs.length - 1]'(by omega) = x at hx
    have hp : prevA ats xs.length = a := by
      unfold prevA
      rw [if_neg hn]
      simp [List.getD, ha]
    have h0 := h.chain.pos a (List.mem_of_getElem? ha)
    obtain ⟨g0, gf⟩ := top_get hs hpl h.chain hx ha
    obtain ⟨g, hfn, f0, hG, hsx, z0, z1, hGs⟩ := size_may hs (h.chain.may x (List.mem_of_getElem? hx))
    rw [hp, if_neg (by omega), g0, if_neg (by simp), gf, hfn]
    simp only
    rw [← h.last x a (by omega) hx ha, hsx]
theorem StackIn.moved (hs : Sized p) (hpl : p.length ≤ 1000) (h : StackIn p M xs ats lo fin) {to : Int} (hto : 0 ≤ to) (hfit : to + (fin - lo) ≤ M.length) :
    StackIn p (movedD M lo fin to ats 1) xs (ats.map (· + (to - lo))) to (fin + (to - lo)) := by
  have hlen := movedD_len M lo fin to ats 1
  have hl0 := h.lo0
  have unmap : ∀ {i : Nat} {a' : Int}, (ats.map (· + (to - lo)))[i]? = some a' → ∃ a, ats[i]? = some a ∧ a' = a + (to - lo) := fun {i a'} ha => by
    rw [List.getElem?_map] at ha
    obtain ⟨a, h1, h2⟩ := Option.map_eq_some_iff.1 ha
    exact ⟨a, h1, h2.symm⟩
  refine ⟨⟨by simp [h.chain.len], h.chain.may, h.chain.wd, fun i x a' hx ha' => ?_, fun i x a' b' hx ha' hb' => ?_, fun a' ha' => ?_⟩, fun i x a' hx ha' => ?_, fun x a' hn hx ha' => ?_, fun hn => ?_, hto, ?_, ?_⟩
  · obtain ⟨a, ha, rfl⟩ := unmap ha'
    have hft := h.fit i x a hx ha
    have ha0 := h.chain.pos a (List.mem_of_getElem? ha)
    obtain ⟨g, hg, hb, hin, w1, w2, w3, w4⟩ := h.chain.frm i x a hx ha
    have hm := h.chain.may x (List.mem_of_getElem? hx)
    obtain ⟨G, h0, hG, hfn, a1, a2, a3, a4, a5, a6, a7, a8⟩ := may_some hm
    rw [hg] at hfn; cases hfn
    have hsz := hs g (List.mem_of_getElem? hG)
    have hbd := sized_bd hsz
    have hii := of_decide_eq_true hin
    have hbb := of_decide_eq_true hb
    have hsF := sizeF_eq hsz
    have hsX := sizeX_eq hg
    have hah : 7 ≤ aheadM g ∧ aheadM g ≤ 23 := by unfold aheadM; split <;> omega
    have hroom : x.dfs.length * 4 + 7 ≤ aheadM g := by unfold roomM at a7; unfold aheadM; split at a7 <;> (rename_i hdd; simp only [hdd]; simp; omega)
    -- words of the frame other than its first one
    have inner : ∀ k : Nat, a.toNat < k → (k : Int) < a + sizeX p x → (movedD M lo fin to ats 1).getD (k + (to - lo)).toNat 0 = M.getD k 0 := fun k h1 h2 => by
      have h3 := movedD_in (mem := M) (lo := lo) (fin := fin) (to := to) (ats := ats) (d := 1) hl0 hto hfit (q := (k : Int)) (by omega) (by omega)
      rw [h3, if_neg (fun hc => by have := chain_mem hs h.chain hx ha (by omega) h2 (List.mem_of_mem_drop hc); omega), Int.toNat_natCast, Int.add_zero]
    have hil : i < xs.length := (List.getElem?_eq_some_iff.1 hx).1
    have hbel : prevA (ats.map (· + (to - lo))) i = if i = 0 then -1 else prevA ats i + (to - lo) := by
      rw [prev_map _ (by rw [h.chain.len]; omega)]
      unfold prevA
      by_cases hi : i = 0
      · rw [if_pos hi, if_pos hi]
      · rw [if_neg hi, if_neg hi, if_neg hi]
    have hprev : i ≠ 0 → lo ≤ prevA ats i ∧ prevA ats i < fin := fun hi => by
      obtain ⟨j, rfl⟩ : ∃ j, i = j + 1 := ⟨i - 1, by omega⟩
      have hc : ats[j]? = some (ats[j]'(by rw [h.chain.len]; omega)) := List.getElem?_eq_getElem _
      have hy : xs[j]? = some (xs[j]'(by omega)) := List.getElem?_eq_getElem _
      have hfj := h.fit j _ _ hy hc
      obtain ⟨g2, _, _, _, hsy, y0, _⟩ := size_may hs (h.chain.may _ (List.mem_of_getElem? hy))
      unfold prevA
      rw [if_neg (by omega), Nat.add_sub_cancel]
      simp only [List.getD, hc, Option.getD_some]
      omega
    refine ⟨g, hg, ?_, ?_, fun k hk => ?_, fun m d hd => ?_, fun k hk => ?_, fun k hk => ?_⟩
    · rw [hlen, hbel]
      unfold belowM
      by_cases hi : i = 0
      · rw [if_pos hi]; exact decide_eq_true (by omega)
      · rw [if_neg hi]
        have := hprev hi
        exact decide_eq_true (by omega)
    · rw [hlen]; unfold inM; exact decide_eq_true (by omega)
    · by_cases hk0 : k = 0
      · subst hk0
        have h3 := movedD_in (mem := M) (lo := lo) (fin := fin) (to := to) (ats := ats) (d := 1) hl0 hto hfit (q := a) hft.1 (by omega)
        have h4 := w1 0 (by omega)
        simp only [Nat.add_zero] at h4 ⊢
        rw [h3, h4, hbel]
        simp only [hdW, hdOf, List.getD_cons_zero]
        by_cases hi : i = 0
        · subst hi
          rw [if_neg (chain_not hs h.chain ha), if_pos rfl]
          unfold prevA
          rw [if_pos rfl]
          omega
        · have hmem : a ∈ ats.drop 1 := by
            rw [List.mem_iff_getElem?]
            exact ⟨i - 1, by rw [List.getElem?_drop, show 1 + (i - 1) = i by omega]; exact ha⟩
          rw [if_pos hmem, if_neg hi]
          omega
      · have h3 := inner (a.toNat + k) (by omega) (by omega)
        rw [show (a + (to - lo)).toNat + k = (((a.toNat + k : Nat) : Int) + (to - lo)).toNat by omega, h3, w1 k hk]
        match k, hk0 with
        | k + 1, _ => rfl
    · have hml := (List.getElem?_eq_some_iff.1 hd).1
      obtain ⟨k1, k2⟩ := w2 m d hd
      refine ⟨?_, fun r hr => ?_⟩
      · have h3 := inner (a.toNat + 7 + m * 4) (by omega) (by omega)
        rw [show (a + (to - lo)).toNat + 7 + m * 4 = (((a.toNat + 7 + m * 4 : Nat) : Int) + (to - lo)).toNat by omega, h3]
        exact k1
      · have h3 := inner (a.toNat + 7 + m * 4 + 1 + r) (by omega) (by omega)
        rw [show (a + (to - lo)).toNat + 7 + m * 4 + 1 + r = (((a.toNat + 7 + m * 4 + 1 + r : Nat) : Int) + (to - lo)).toNat by omega, h3]
        exact k2 r hr
    · have h3 := inner ((a + aheadM g).toNat + k) (by omega) (by omega)
      rw [show (a + (to - lo) + aheadM g).toNat + k = ((((a + aheadM g).toNat + k : Nat) : Int) + (to - lo)).toNat by omega, h3]
      exact w3 k hk
    · have h3 := inner ((a + aheadM g + g.locals).toNat + k) (by omega) (by omega)
      rw [show (a + (to - lo) + aheadM g + g.locals).toNat + k = ((((a + aheadM g + g.locals).toNat + k : Nat) : Int) + (to - lo)).toNat by omega, h3]
      exact w4 k hk
  · obtain ⟨a, ha, rfl⟩ := unmap ha'
    obtain ⟨b, hb, rfl⟩ := unmap hb'
    have := h.chain.next i x a b hx ha hb
    omega
  · obtain ⟨a, ha, rfl⟩ := List.mem_map.1 ha'
    obtain ⟨i, hi⟩ := List.mem_iff_getElem?.1 ha
    have hil := (List.getElem?_eq_some_iff.1 hi).1
    rw [h.chain.len] at hil
    have := h.fit i _ a (List.getElem?_eq_getElem hil) hi
    omega
  · obtain ⟨a, ha, rfl⟩ := unmap ha'
    have := h.fit i x a hx ha
    omega
  · obtain ⟨a, ha, rfl⟩ := unmap ha'
    have := h.last x a hn hx ha
    omega
  · have := h.none hn; omega
  · have := h.le; omega
  · rw [hlen]; omega
end
theorem stk_in {p : List Fnc} {mem : List Int} {lo : Int} {xs : List Frm} (hs : Sized p) (hlo : 0 ≤ lo) (h : StkAll p mem lo xs) (hf : (stk p mem lo xs).fin ≤ mem.length) : StackIn p (stk p mem lo xs).mem xs (stk p mem lo xs).ats lo (stk p mem lo xs).fin := by
  have h0 := h.fin0
  refine ⟨h.chain, h.fit, ?_, fun hn => ?_, hlo, by omega, by rw [stk_mem_len]; exact hf⟩
  · intro x a hn hx ha
    have key : ∀ ys : List Frm, ys ≠ [] → ∀ x a, ys[ys.length - 1]? = some x → (stk p mem lo ys).ats[ys.length - 1]? = some a → a + sizeX p x = (stk p mem lo ys).fin := by
      intro ys
      refine snoc_ind (Q := fun ys => ys ≠ [] → ∀ x a, ys[ys.length - 1]? = some x → (stk p mem lo ys).ats[ys.length - 1]? = some a → a + sizeX p x = (stk p mem lo ys).fin) (fun h => absurd rfl h) (fun zs z _ _ x a hx ha => ?_) ys
      have hl := stk_ats_len p mem lo zs
      rw [stk_snoc] at ha ⊢
      simp only [stepK, List.length_append, List.length_singleton, Nat.add_sub_cancel] at hx ha ⊢
      rw [List.getElem?_append_right (by omega), Nat.sub_self] at hx
      rw [List.getElem?_append_right (by omega), hl, Nat.sub_self] at ha
      cases hx; cases ha
      rfl
    exact key xs (fun e => by subst e; simp at hn) x a hx ha
  · have : xs = [] := List.eq_nil_of_length_eq_zero hn
    subst this
    rfl
def moveM (M : List Int) (ats : List Int) (n : Nat) (lo fin W to words : Int) : List Int × St × Int :=
  if words < fin - lo then (M, st0, 3) else
  if inM M.length to words = true ∧ overM to words lo W = false then (movedD M lo fin to ats 1, ⟨to, words, prevA (ats.map (· + (to - lo))) n⟩, 0) else (M, st0, 1)
end Go.Proofs.Ytlccbaemcfjdoaa
