/-
  Layer 20: the plain law of walkers: what runs of steps read of a chain of frames.
  Conditions: none.
-/
import Derived.Test.YtlccbaemcfjdoaaZA20
set_option linter.unusedVariables false
set_option linter.unusedSimpArgs false
namespace Go.Proofs.Ytlccbaemcfjdoaa
open Go.RowKit
def runW (p : List Fnc) (mem : List Int) : Nat → Wk → Wk × List LookW
  | 0, s => (s, [])
  | n + 1, s => ((runW p mem n (stepW p mem s).1).1, (stepW p mem s).2 :: (runW p mem n (stepW p mem s).1).2)
section
variable {p : List Fnc} {mem : List Int}
theorem runW_len : ∀ (n : Nat) (s : Wk), (runW p mem n s).2.length = n
  | 0, _ => rfl
  | n + 1, s => by simp [runW, runW_len n]
theorem runW_add : ∀ (n m : Nat) (s : Wk), runW p mem (n + m) s = ((runW p mem m (runW p mem n s).1).1, (runW p mem n s).2 ++ (runW p mem m (runW p mem n s).1).2)
  | 0, m, s => by simp [runW]
  | n + 1, m, s => by
    rw [show n + 1 + m = (n + m) + 1 by omega]
    simp only [runW, runW_add n m, List.cons_append]
theorem runW_succ (n : Nat) (s : Wk) : runW p mem (n + 1) s = ((stepW p mem (runW p mem n s).1).1, (runW p mem n s).2 ++ [(stepW p mem (runW p mem n s).1).2]) := by
  rw [runW_add n 1 s]; rfl
theorem runW_get (n : Nat) (s : Wk) {i : Nat} (hi : i < n) : (runW p mem n s).2[i]? = some (stepW p mem (runW p mem i s).1).2 := by
  obtain ⟨m, rfl⟩ : ∃ m, n = i + 1 + m := ⟨n - (i + 1), by omega⟩
  rw [runW_add, runW_succ]
  have := runW_len (p := p) (mem := mem) i s
  rw [List.getElem?_append_left (by simp; omega), List.getElem?_append_right (by omega), this, Nat.sub_self]
  rfl
end
def firstM (G : Fnc) : Int := aheadM G + G.locals - G.refs
def addrsG (G : Fnc) (a : Int) : List Int := a :: (a + 1) :: (List.range G.refs.toNat).map fun (i : Nat) => a + firstM G + (i : Int)
def dones (n : Nat) (b : Bool) : List Bool := List.replicate (n - 1) false ++ [b]
def endW (a b : Int) (G : Fnc) (i : Nat) (R : List Int) : Wk := if i = G.refs.toNat then ⟨b, 0, b, G, R⟩ else ⟨a, 2 + i, b, G, R⟩
section
variable {p : List Fnc} {mem : List Int}
theorem step_ref {a b : Int} {G : Fnc} {i : Nat} {R : List Int} {v : Int} (hi : i < G.refs.toNat) (ha : 0 ≤ a) (hf : 0 ≤ firstM G) (hm : a + firstM G + i < mem.length) (hv : mem.getD (a + firstM G + i).toNat 0 = v) :
    stepW p mem (endW a b G i R) = (endW a b G (i + 1) (R ++ nz [v]), (a + firstM G + i, decide (i + 1 = G.refs.toNat ∧ b = -1), 0)) := by
  have he : endW a b G i R = ⟨a, 2 + i, b, G, R⟩ := by unfold endW; rw [if_neg (by omega)]
  have hat : atW ⟨a, 2 + i, b, G, R⟩ = a + firstM G + i := by
    unfold atW firstM
    simp only
    rw [if_pos (by omega)]
    omega
  have adv : ∀ R', advW ⟨a, 2 + i, b, G, R'⟩ (a + firstM G + i) = (endW a b G (i + 1) R', (a + firstM G + i, decide (i + 1 = G.refs.toNat ∧ b = -1), 0)) := fun R' => by
    unfold advW movedW endW
    simp only
    by_cases hl : i + 1 = G.refs.toNat
    · rw [if_pos (by omega), if_pos hl]
      simp only [hl, true_and]
    · rw [if_neg (by omega), if_neg hl]
      simp only [hl, false_and, decide_false]
      rw [decide_eq_false (by omega)]
      congr 2
  rw [he]
  unfold stepW
  rw [if_neg (by simp only; omega), hat, if_pos (by unfold inM; exact decide_eq_true (by omega)), if_neg (by simp only; omega), if_neg (by simp only; omega), hv]
  by_cases h0 : v = 0
  · rw [if_neg (by simpa using h0), adv]
    simp [nz, h0]
  · rw [if_pos h0]
    simp only
    rw [adv]
    simp [nz, h0]
theorem refs_run {a b : Int} {G : Fnc} {vals : List Int} (ha : 0 ≤ a) (hf : 0 ≤ firstM G) (hl : vals.length = G.refs.toNat) (hm : a + firstM G + G.refs.toNat ≤ mem.length) (hv : ∀ i, i < G.refs.toNat → mem.getD (a + firstM G + (i : Int)).toNat 0 = vals.getD i 0) :
    ∀ (j i : Nat) (R : List Int), i + j = G.refs.toNat → runW p mem j (endW a b G i R) = (endW a b G G.refs.toNat (R ++ nz (vals.drop i)), (List.range' i j).map fun (k : Nat) => (a + firstM G + (k : Int), decide (k + 1 = G.refs.toNat ∧ b = -1), (0 : Int)))
  | 0, i, R, h => by
    have : i = G.refs.toNat := by omega
    subst this
    simp [runW, List.drop_of_length_le (Nat.le_of_eq hl), nz]
  | j + 1, i, R, h => by
    have hs := step_ref (p := p) (mem := mem) (a := a) (b := b) (G := G) (i := i) (R := R) (by omega) ha hf (by omega) (hv i (by omega))
    simp only [runW, hs]
    rw [refs_run ha hf hl hm hv j (i + 1) _ (by omega)]
    have hd : vals.drop i = vals.getD i 0 :: vals.drop (i + 1) := by
      rw [List.drop_eq_getElem_cons (by omega)]
      simp [List.getD, List.getElem?_eq_getElem (show i < vals.length by omega)]
    rw [hd]
    refine Prod.ext ?_ ?_
    · simp only
      rw [List.append_assoc]
      congr 2
      unfold nz
      rw [← List.filter_append]
      rfl
    · simp [List.range'_succ]
theorem frame_run (hs : Sized p) {a b : Int} {x : Frm} {g : Fnc} (h : FrmIn p mem a b x) (hm : mayM p x = true) (hg : fnAt p x.f = some g) (ha : 0 ≤ a) (hb : b < a) {s : Wk} (h1 : s.at_ = a) (h2 : s.next = 0) :
    ∃ L, runW p mem (2 + g.refs.toNat) s = (⟨b, 0, b, g, s.roots ++ refsX p x⟩, L) ∧ L.map (fun l => l.1) = addrsG g a ∧ (∀ l ∈ L, l.2.2 = 0) ∧ L.map (fun l => l.2.1) = dones (2 + g.refs.toNat) (decide (b = -1)) := by
  obtain ⟨g', hg', hbel, hin, w1, w2, w3, w4⟩ := h
  rw [hg] at hg'; cases hg'
  obtain ⟨G, h0, hG, hfn, a1, a2, a3, a4, a5, a6, a7, a8⟩ := may_some hm
  rw [hg] at hfn; cases hfn
  have hsz := hs g (List.mem_of_getElem? hG)
  have hbd := sized_bd hsz
  have hii := of_decide_eq_true hin
  have hbb := of_decide_eq_true hbel
  have hsF := sizeF_eq hsz
  have hah : 7 ≤ aheadM g ∧ aheadM g ≤ 23 := by unfold aheadM; split <;> omega
  have m0 : mem.getD a.toNat 0 = b + 1 := by simpa [hdW, hdOf] using w1 0 (by omega)
  have m1 : mem.getD (a + 1).toNat 0 = x.f := by
    have := w1 1 (by omega)
    rw [show (a + 1).toNat = a.toNat + 1 by omega]
    simpa [hdW, hdOf] using this
  have f0 : 0 ≤ firstM g := by unfold firstM; omega
  have s1 : stepW p mem s = (⟨a, 1, b, s.f, s.roots⟩, (a, false, 0)) := by
    have hat : atW s = a := by unfold atW; rw [if_neg (by omega), h1, h2]; omega
    unfold stepW
    rw [if_neg (by omega), hat, if_pos (by unfold inM; exact decide_eq_true (by omega)), if_pos h2, m0, if_neg (by omega)]
    unfold advW movedW
    simp only
    rw [if_neg (by omega)]
    simp only
    rw [h1, h2, decide_eq_false (by omega)]
    congr 2
    omega
  have s2 : stepW p mem ⟨a, 1, b, s.f, s.roots⟩ = (endW a b g 0 s.roots, (a + 1, decide (0 = g.refs.toNat ∧ b = -1), 0)) := by
    have hat : atW ⟨a, 1, b, s.f, s.roots⟩ = a + 1 := by unfold atW; simp only; rw [if_neg (by omega)]
    unfold stepW
    rw [if_neg (by simp only; omega), hat, if_pos (by unfold inM; exact decide_eq_true (by omega)), if_neg (by simp only; omega), if_pos rfl, m1, hG]
    simp only
    unfold advW movedW endW
    simp only
    by_cases hl : 0 = g.refs.toNat
    · rw [if_pos (by omega), if_pos hl]
      simp [← hl]
    · rw [if_neg (by omega), if_neg hl]
      simp only [hl, false_and, decide_false]
      rw [decide_eq_false (by omega)]
      rfl
  have hvl : (x.locals.drop (x.locals.length - g.refs.toNat)).length = g.refs.toNat := by rw [List.length_drop]; omega
  have hr := refs_run (p := p) (mem := mem) (a := a) (b := b) (G := g) (vals := x.locals.drop (x.locals.length - g.refs.toNat)) ha f0 hvl (by unfold firstM; omega) (fun i hi => by
    have := w3 (x.locals.length - g.refs.toNat + i) (by omega)
    rw [show (a + firstM g + (i : Int)).toNat = (a + aheadM g).toNat + (x.locals.length - g.refs.toNat + i) by unfold firstM; omega, this]
    simp [List.getD, List.getElem?_drop]) g.refs.toNat 0 s.roots (by omega)
  refine ⟨(a, false, 0) :: (a + 1, decide (0 = g.refs.toNat ∧ b = -1), 0) :: (List.range' 0 g.refs.toNat).map fun (k : Nat) => (a + firstM g + (k : Int), decide (k + 1 = g.refs.toNat ∧ b = -1), (0 : Int)), ?_, ?_, ?_, ?_⟩
  · rw [show 2 + g.refs.toNat = g.refs.toNat + 1 + 1 by omega]
    simp only [runW, s1, s2, hr, List.drop_zero]
    unfold endW refsX
    rw [if_pos rfl, hg]
  · simp only [List.map_cons, List.map_map]
    unfold addrsG
    congr 2
    rw [List.range_eq_range']
    rfl
  · intro l hl
    simp only [List.mem_cons, List.mem_map] at hl
    rcases hl with rfl | rfl | ⟨k, _, rfl⟩ <;> rfl
  · simp only [List.map_cons, List.map_map]
    unfold dones
    apply List.ext_getElem?
    intro i
    match i with
    | 0 => 
      rw [List.getElem?_append_left (by simp; omega), List.getElem?_replicate, if_pos (by omega)]
      rfl
    | 1 =>
      by_cases hz : g.refs.toNat = 0
      · simp [hz]
      · rw [List.getElem?_append_left (by simp; omega), List.getElem?_replicate, if_pos (by omega)]
        simp
        omega
    | i + 2 =>
      simp only [List.getElem?_cons_succ, List.getElem?_map]
      by_cases hi : i < g.refs.toNat
      · rw [List.getElem?_range' hi]
        by_cases hl : i + 1 = g.refs.toNat
        · rw [List.getElem?_append_right (by simp; omega)]
          rw [List.length_replicate, show i + 2 - (2 + g.refs.toNat - 1) = 0 by omega]
          simp [← hl]
        · rw [List.getElem?_append_left (by simp; omega), List.getElem?_replicate, if_pos (by omega)]
          simp [hl]
      · rw [List.getElem?_eq_none (by simp; omega), List.getElem?_eq_none (by simp; omega)]
        rfl
end
def rootsX (p : List Fnc) (xs : List Frm) (i : Nat) : List Int := (xs.take i).reverse.flatMap (refsX p)
def stepsX (p : List Fnc) (x : Frm) : Nat := match fnAt p x.f with
  | some g => 2 + g.refs.toNat
  | none => 0
def countX (p : List Fnc) (xs : List Frm) (i : Nat) : Nat := ((xs.take i).map (stepsX p)).sum
theorem addrsG_in {g : Fnc} (hs : sizedF g = true) {a y : Int} (h : y ∈ addrsG g a) : a ≤ y ∧ y < a + sizeF g := by
  have hbd := sized_bd hs
  have hsF := sizeF_eq hs
  have hah : 7 ≤ aheadM g ∧ aheadM g ≤ 23 := by unfold aheadM; split <;> omega
  unfold addrsG at h
  simp only [List.mem_cons, List.mem_map, List.mem_range] at h
  rcases h with rfl | rfl | ⟨i, hi, rfl⟩
  · omega
  · omega
  · unfold firstM; omega
theorem addrsG_nodup {g : Fnc} (hs : sizedF g = true) (a : Int) : (addrsG g a).Nodup := by
  have hbd := sized_bd hs
  have hah : 7 ≤ aheadM g ∧ aheadM g ≤ 23 := by unfold aheadM; split <;> omega
  unfold addrsG
  refine List.nodup_cons.2 ⟨fun h => ?_, List.nodup_cons.2 ⟨fun h => ?_, ?_⟩⟩
  · simp only [List.mem_cons, List.mem_map, List.mem_range] at h
    rcases h with h | ⟨i, hi, h⟩
    · omega
    · unfold firstM at h; omega
  · simp only [List.mem_map, List.mem_range] at h
    obtain ⟨i, hi, h⟩ := h
    unfold firstM at h; omega
  · rw [List.nodup_iff_pairwise_ne]
    refine List.Pairwise.map _ (fun i j (h : i ≠ j) => by omega) List.nodup_range
structure RunOk (p : List Fnc) (M : List Int) (lo fin : Int) (s : Wk) (n : Nat) (R : List Int) : Prop where
  at_ : (runW p M n s).1.at_ = -1
  roots : (runW p M n s).1.roots = s.roots ++ R
  zero : ∀ l ∈ (runW p M n s).2, l.2.2 = 0
  ins : ∀ l ∈ (runW p M n s).2, lo ≤ l.1 ∧ l.1 < fin
  nodup : ((runW p M n s).2.map fun l => l.1).Nodup
  done : 0 < n → (runW p M n s).2.map (fun l => l.2.1) = dones n true
theorem dones_append {n m : Nat} (hn : 0 < n) (hm : 0 < m) (b : Bool) : dones n false ++ dones m b = dones (n + m) b := by
  unfold dones
  rw [show n + m - 1 = (n - 1) + 1 + (m - 1) by omega, ← List.replicate_append_replicate, ← List.replicate_append_replicate]
  simp
theorem chain_run {p : List Fnc} {M : List Int} {xs : List Frm} {ats : List Int} {lo : Int} (hs : Sized p) (h : FrmChain p M xs ats) (hlo : ∀ a ∈ ats, lo ≤ a) :
    ∀ (i : Nat) (s : Wk) (fin : Int), i ≤ xs.length → s.at_ = prevA ats i → s.next = 0 → (∀ x a, 0 < i → xs[i - 1]? = some x → ats[i - 1]? = some a → a + sizeX p x ≤ fin) → RunOk p M lo fin s (countX p xs i) (rootsX p xs i)
  | 0, s, fin, _, h1, h2, _ => by
    have h1' : s.at_ = -1 := h1
    refine ⟨h1', by simp [countX, rootsX, runW], ?_, ?_, ?_, fun hc => by simp [countX] at hc⟩
    · intro l hl; simp [countX, runW] at hl
    · intro l hl; simp [countX, runW] at hl
    · simp [countX, runW]
  | i + 1, s, fin, hi, h1, h2, hf => by
    have hx : xs[i]? = some (xs[i]'(by omega)) := List.getElem?_eq_getElem _
    have ha : ats[i]? = some (ats[i]'(by rw [h.len]; omega)) := List.getElem?_eq_getElem _
    generalize xs[i]'(by omega) = x at hx
    generalize ats[i]'(by rw [h.len]; omega) = a at ha
    have hpa : prevA ats (i + 1) = a := by
      unfold prevA
      rw [if_neg (by omega), Nat.add_sub_cancel]
      simp [List.getD, ha]
    have hmx := List.mem_of_getElem? hx
    have ha0 := h.pos a (List.mem_of_getElem? ha)
    have hm := h.may x hmx
    obtain ⟨g, hfn, f0, hG, hsx, z0, z1, hGs⟩ := size_may hs hm
    have hfi := hf x a (by omega) (by simpa using hx) (by simpa using ha)
    have hba : prevA ats i < a ∧ ∀ y b, 0 < i → xs[i - 1]? = some y → ats[i - 1]? = some b → b + sizeX p y ≤ a := by
      by_cases hi0 : i = 0
      · subst hi0
        exact ⟨by unfold prevA; rw [if_pos rfl]; omega, fun _ _ hc => by omega⟩
      · obtain ⟨j, rfl⟩ : ∃ j, i = j + 1 := ⟨i - 1, by omega⟩
        have key : ∀ y b, xs[j]? = some y → ats[j]? = some b → b + sizeX p y ≤ a := fun y b hy hb => h.next j y b a hy hb ha
        have hy : xs[j]? = some (xs[j]'(by omega)) := List.getElem?_eq_getElem _
        have hb : ats[j]? = some (ats[j]'(by rw [h.len]; omega)) := List.getElem?_eq_getElem _
        have := key _ _ hy hb
        obtain ⟨g', _, _, _, hsx', z0', _⟩ := size_may hs (h.may _ (List.mem_of_getElem? hy))
        refine ⟨?_, fun y b _ hy hb => key y b (by simpa using hy) (by simpa using hb)⟩
        unfold prevA
        rw [if_neg (by omega), Nat.add_sub_cancel]
        simp only [List.getD, hb, Option.getD_some]
        omega
    obtain ⟨L, hr, hLa, hLz, hLd⟩ := frame_run hs (h.frm i x a hx ha) hm hfn ha0 hba.1 (s := s) (by rw [h1, hpa]) h2
    have ih := chain_run hs h hlo i ⟨prevA ats i, 0, prevA ats i, g, s.roots ++ refsX p x⟩ a (by omega) rfl rfl hba.2
    have hst : stepsX p x = 2 + g.refs.toNat := by unfold stepsX; rw [hfn]
    have hc : countX p xs (i + 1) = (2 + g.refs.toNat) + countX p xs i := by
      unfold countX
      rw [List.take_add_one, hx]
      simp [hst]; omega
    have hR : rootsX p xs (i + 1) = refsX p x ++ rootsX p xs i := by
      unfold rootsX
      rw [List.take_add_one, hx]
      simp
    have hsum : runW p M (countX p xs (i + 1)) s = ((runW p M (countX p xs i) ⟨prevA ats i, 0, prevA ats i, g, s.roots ++ refsX p x⟩).1, L ++ (runW p M (countX p xs i) ⟨prevA ats i, 0, prevA ats i, g, s.roots ++ refsX p x⟩).2) := by
      rw [hc, runW_add, hr]
    have hLin : ∀ l ∈ L, a ≤ l.1 ∧ l.1 < a + sizeF g := fun l hl => addrsG_in hGs (by rw [← hLa]; exact List.mem_map_of_mem hl)
    have hla := hlo a (List.mem_of_getElem? ha)
    refine ⟨by rw [hsum]; exact ih.at_, by rw [hsum, hR, ← List.append_assoc]; exact ih.roots, ?_, ?_, ?_, fun _ => ?_⟩
    · rw [hsum]
      intro l hl
      rcases List.mem_append.1 hl with hl | hl
      · exact hLz l hl
      · exact ih.zero l hl
    · rw [hsum]
      intro l hl
      rcases List.mem_append.1 hl with hl | hl
      · have := hLin l hl; omega
      · have := ih.ins l hl; omega
    · rw [hsum]
      simp only [List.map_append]
      rw [List.nodup_append]
      refine ⟨by rw [hLa]; exact addrsG_nodup hGs a, ih.nodup, fun y hy z hz e => ?_⟩
      obtain ⟨l, hl, rfl⟩ := List.mem_map.1 hy
      obtain ⟨m, hm', rfl⟩ := List.mem_map.1 hz
      have h3 := hLin l hl
      have h4 := ih.ins m hm'
      omega
    · rw [hsum, hc]
      simp only [List.map_append]
      rw [hLd]
      by_cases hi0 : i = 0
      · subst hi0
        simp [countX, runW, prevA]
      · have hpos : 0 < countX p xs i := by
          obtain ⟨j, rfl⟩ : ∃ j, i = j + 1 := ⟨i - 1, by omega⟩
          have hy : xs[j]? = some (xs[j]'(by omega)) := List.getElem?_eq_getElem _
          obtain ⟨g', hfn', _⟩ := size_may hs (h.may _ (List.mem_of_getElem? hy))
          unfold countX
          rw [List.take_add_one, hy]
          simp only [Option.toList_some, List.map_append, List.map_cons, List.map_nil, List.sum_append, List.sum_cons, List.sum_nil, stepsX, hfn']
          omega
        rw [ih.done hpos]
        have hne : prevA ats i ≠ -1 := by
          obtain ⟨j, rfl⟩ : ∃ j, i = j + 1 := ⟨i - 1, by omega⟩
          have hb : ats[j]? = some (ats[j]'(by rw [h.len]; omega)) := List.getElem?_eq_getElem _
          have := h.pos _ (List.mem_of_getElem? hb)
          unfold prevA
          rw [if_neg (by omega), Nat.add_sub_cancel]
          simp only [List.getD, hb, Option.getD_some]
          omega
        rw [decide_eq_false hne]
        exact dones_append (by omega) hpos true
end Go.Proofs.Ytlccbaemcfjdoaa
