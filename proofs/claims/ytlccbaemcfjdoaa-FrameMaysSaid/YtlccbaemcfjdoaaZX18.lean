/-
  Layer 18: frames are walked: the program's answer and the document's, by one plain rule.
  Conditions: the arena, the words, and the program, lie in memory as told; the program's functions are sized.
-/
import Derived.Test.YtlccbaemcfjdoaaZRW18
import Derived.Test.YtlccbaemcfjdoaaZWD
set_option linter.unusedVariables false
set_option linter.unusedSimpArgs false
namespace Go.Proofs.Ytlccbaemcfjdoaa
open Go.RowKit
def sizeX (p : List Fnc) (x : Frm) : Int := match fnAt p x.f with
  | some g => sizeF g
  | none => 0
theorem sizeX_eq {p : List Fnc} {x : Frm} {g : Fnc} (h : fnAt p x.f = some g) : sizeX p x = sizeF g := by unfold sizeX; rw [h]
section
variable {w0 : World} {g b : Nat} {mem : List Int} {p : List Fnc} {P : Option Addr} {cap : Nat}
end
end Go.Proofs.Ytlccbaemcfjdoaa
set_option linter.unusedVariables false
set_option linter.unusedSimpArgs false
namespace Go.Proofs.Ytlccbaemcfjdoaa
open Go.RowKit
def frmC (x : Frm) (s : Sls) : List Value := [.int .i64 x.f, .int .i64 x.pc, .int .i64 x.mode, .bool x.dfd, .int .u64 x.value, .slice s.D x.dfs.length s.dc, .slice s.L x.locals.length s.lc, .slice s.O x.ops.length s.oc]
def frmsC : List Frm → List Sls → List Value
  | x :: xs, s :: ss => frmC x s ++ frmsC xs ss
  | _, _ => []
theorem frmC_len (x : Frm) (s : Sls) : (frmC x s).length = 8 := rfl
theorem frms_get : ∀ {xs : List Frm} {ss : List Sls} {i j : Nat} {x : Frm} {s : Sls} {u : Value}, xs[i]? = some x → ss[i]? = some s → (frmC x s)[j]? = some u → (frmsC xs ss)[i * 8 + j]? = some u
  | [], ss, i, j, x, s, u, h, _, _ => by simp at h
  | y :: xs, [], i, j, x, s, u, _, h, _ => by simp at h
  | y :: xs, t :: ss, 0, j, x, s, u, h, hs, hu => by
    simp at h hs; subst h; subst hs
    have hj := (List.getElem?_eq_some_iff.1 hu).1
    rw [show 0 * 8 + j = j by omega]
    show (frmC y t ++ frmsC xs ss)[j]? = _
    rw [List.getElem?_append_left hj]; exact hu
  | y :: xs, t :: ss, i + 1, j, x, s, u, h, hs, hu => by
    have := frms_get (xs := xs) (ss := ss) (i := i) (j := j) (by simpa using h) (by simpa using hs) hu
    show (frmC y t ++ frmsC xs ss)[(i + 1) * 8 + j]? = _
    rw [List.getElem?_append_right (by rw [frmC_len]; omega), frmC_len, show (i + 1) * 8 + j - 8 = i * 8 + j by omega]
    exact this
structure OwnFs (w : World) (B : Nat) (v : Value) (xs : List Frm) (ss : List Sls) : Prop where
  row : w.ownsRow B 67 8 v xs.length (frmsC xs ss)
  len : ss.length = xs.length
  each : ∀ (i : Nat) (x : Frm) (s : Sls), xs[i]? = some x → ss[i]? = some s → FrmOwn w B x s
theorem OwnFs.ext {w w' : World} {B B' : Nat} {v : Value} {xs : List Frm} {ss : List Sls} (h : OwnFs w B v xs ss) (he : Ext B' w w') : OwnFs w' B v xs ss := ⟨he.owns h.row, h.len, fun i x s hx hs => (h.each i x s hx hs).ext he⟩
def FrmE (w : World) (p : Addr) (x : Frm) : Prop := ∃ s, (∀ j u, (frmC x s)[j]? = some u → w.cell? (p.add j) = some u) ∧ FrmAt w x s
theorem FrmE.kept : Kept1 FrmE := fun _ _ _ _ hw h => by
  obtain ⟨s, h1, h2⟩ := h
  exact ⟨s, fun j u hj => hw _ _ (h1 j u hj), h2.keep hw⟩
abbrev Frms (w : World) (A : Option Addr) (l : Nat) (xs : List Frm) : Prop := RowAt FrmE 8 w A l xs
theorem OwnFs.frms {w : World} {B : Nat} {A : Option Addr} {c : Nat} {xs : List Frm} {ss : List Sls} {p : List Fnc} (h : OwnFs w B (.slice A xs.length c) xs ss) (hs : Sized p) (hm : ∀ x ∈ xs, mayM p x = true) (hl : xs.length ≤ 1000000) : Frms (newW B w) A xs.length xs := by
  refine ⟨rfl, by simp only [maxLen]; omega, fun i x hx => ?_⟩
  have hi := (List.getElem?_eq_some_iff.1 hx).1
  rcases h.row.2 with ⟨hv, h0⟩ | ⟨g, cap, cur, hv, hb, _⟩
  · omega
  · cases hv
    have hss : ss[i]? = some (ss[i]'(by rw [h.len]; exact hi)) := List.getElem?_eq_getElem _
    refine ⟨_, rfl, _, fun j u hj => ?_, (h.each i x _ hx hss).mayAt hs (hm x (List.mem_of_getElem? hx))⟩
    have := owns_cell h.row (frms_get hx hss hj)
    simp only [own_add, bx_add, Nat.zero_add]
    exact newW_cell.2 ⟨this, hb⟩
structure Stk where
  mem : List Int
  below : Int
  fin : Int
  ats : List Int
def stepK (p : List Fnc) (s : Stk) (x : Frm) : Stk := ⟨writeM p s.mem s.fin s.below x, s.fin, s.fin + sizeX p x, s.ats ++ [s.fin]⟩
def stk (p : List Fnc) (mem : List Int) (lo : Int) (xs : List Frm) : Stk := xs.foldl (stepK p) ⟨mem, -1, lo, []⟩
theorem stk_snoc (p : List Fnc) (mem : List Int) (lo : Int) (xs : List Frm) (x : Frm) : stk p mem lo (xs ++ [x]) = stepK p (stk p mem lo xs) x := by unfold stk; rw [List.foldl_append]; rfl
theorem snoc_ind {α : Type} {Q : List α → Prop} (h0 : Q []) (h1 : ∀ xs x, Q xs → Q (xs ++ [x])) (xs : List α) : Q xs := by
  have : ∀ ys : List α, Q ys.reverse := fun ys => by
    induction ys with
    | nil => exact h0
    | cons y ys ih => rw [List.reverse_cons]; exact h1 _ _ ih
  have h := this xs.reverse
  rwa [List.reverse_reverse] at h
theorem stk_ats_len (p : List Fnc) (mem : List Int) (lo : Int) (xs : List Frm) : (stk p mem lo xs).ats.length = xs.length :=
  snoc_ind (Q := fun xs => (stk p mem lo xs).ats.length = xs.length) rfl (fun xs x ih => by rw [stk_snoc]; simp [stepK, ih]) xs
theorem stk_mem_len (p : List Fnc) (mem : List Int) (lo : Int) (xs : List Frm) : (stk p mem lo xs).mem.length = mem.length :=
  snoc_ind (Q := fun xs => (stk p mem lo xs).mem.length = mem.length) rfl (fun xs x ih => by rw [stk_snoc]; simp only [stepK]; rw [writeM_len, ih]) xs
theorem size_may {p : List Fnc} (hs : Sized p) {x : Frm} (h : mayM p x = true) : ∃ g, fnAt p x.f = some g ∧ ¬ x.f < 0 ∧ p[x.f.toNat]? = some g ∧ sizeX p x = sizeF g ∧ 15 ≤ sizeF g ∧ sizeF g ≤ 39 ∧ sizedF g = true := by
  obtain ⟨g, h0, hg, hfn, _⟩ := may_some h
  have hgs := hs g (List.mem_of_getElem? hg)
  have hbd := sized_bd hgs
  have hsF := sizeF_eq hgs
  have hah : 7 ≤ aheadM g ∧ aheadM g ≤ 23 := by unfold aheadM; split <;> omega
  exact ⟨g, hfn, h0, hg, sizeX_eq hfn, by omega, by omega, hgs⟩
structure StkOk (p : List Fnc) (mem : List Int) (lo : Int) (xs : List Frm) : Prop where
  few : xs.length ≤ 11
  may : ∀ x ∈ xs, mayM p x = true
  wd : ∀ x ∈ xs, FrmWd x
  fin : (stk p mem lo xs).fin ≤ mem.length
end Go.Proofs.Ytlccbaemcfjdoaa
set_option linter.unusedVariables false
set_option linter.unusedSimpArgs false
namespace Go.Proofs.Ytlccbaemcfjdoaa
open Go.RowKit
def FrmIn (p : List Fnc) (M : List Int) (at_ below : Int) (x : Frm) : Prop := ∃ g, fnAt p x.f = some g ∧ belowM M.length below = true ∧ inM M.length at_ (sizeF g) = true ∧
    (∀ i, i < 7 → M.getD (at_.toNat + i) 0 = (hdW (hdOf below x)).getD i 0) ∧
    (∀ m d, x.dfs[m]? = some d → M.getD (at_.toNat + 7 + m * 4) 0 = d.f ∧ ∀ r, r < 3 → M.getD (at_.toNat + 7 + m * 4 + 1 + r) 0 = d.args.getD r 0) ∧
    (∀ i, i < x.locals.length → M.getD ((at_ + aheadM g).toNat + i) 0 = x.locals.getD i 0) ∧
    (∀ i, i < x.ops.length → M.getD ((at_ + aheadM g + g.locals).toNat + i) 0 = x.ops.getD i 0)
section
variable {p : List Fnc} {M M' mem : List Int} {at_ below : Int} {x : Frm}
theorem FrmIn.read (h : FrmIn p M at_ below x) (hs : Sized p) (hpl : p.length ≤ 1000) (hm : mayM p x = true) (hw : FrmWd x) : readM p M at_ = (x, below, 0) := by
  obtain ⟨g, hg, hb, hin, w1, w2, w3, w4⟩ := h
  exact read_of hs hpl hm hw hb hg hin w1 w2 w3 w4
theorem FrmIn.same (h : FrmIn p M at_ below x) (hs : Sized p) (hm : mayM p x = true) (hl : M'.length = M.length) (hj : ∀ j, at_.toNat ≤ j → j < at_.toNat + (sizeX p x).toNat → M'.getD j 0 = M.getD j 0) : FrmIn p M' at_ below x := by
  obtain ⟨g, hg, hb, hin, w1, w2, w3, w4⟩ := h
  rw [sizeX_eq hg] at hj
  obtain ⟨G, h0, hG, hfn, a1, a2, a3, a4, a5, a6, a7, a8⟩ := may_some hm
  rw [hg] at hfn; cases hfn
  have hsz := hs g (List.mem_of_getElem? hG)
  have hbd := sized_bd hsz
  have hii := of_decide_eq_true hin
  have hsF := sizeF_eq hsz
  have hah : 7 ≤ aheadM g ∧ aheadM g ≤ 23 := by unfold aheadM; split <;> omega
  have hroom : x.dfs.length * 4 + 7 ≤ aheadM g := by unfold roomM at a7; unfold aheadM; split at a7 <;> (rename_i hdd; simp only [hdd]; simp; omega)
  refine ⟨g, hg, by rw [hl]; exact hb, by rw [hl]; exact hin, fun i hi => ?_, fun m d hd => ?_, fun i hi => ?_, fun i hi => ?_⟩
  · rw [hj _ (by omega) (by omega)]; exact w1 i hi
  · have hml := (List.getElem?_eq_some_iff.1 hd).1
    obtain ⟨k1, k2⟩ := w2 m d hd
    refine ⟨by rw [hj _ (by omega) (by omega)]; exact k1, fun r hr => by rw [hj _ (by omega) (by omega)]; exact k2 r hr⟩
  · rw [hj _ (by omega) (by omega)]; exact w3 i hi
  · rw [hj _ (by omega) (by omega)]; exact w4 i hi
theorem frm_in (hs : Sized p) (hpl : p.length ≤ 1000) (hok : writeOk p mem.length at_ below x = true) : FrmIn p (writeM p mem at_ below x) at_ below x := by
  obtain ⟨g, hg, hm, hb, hin, hsz, _⟩ := write_some hok hs
  obtain ⟨_, h1, h2, h3, h4⟩ := write_words hs hpl hok hg
  exact ⟨g, hg, by rw [writeM_len]; exact hb, by rw [writeM_len]; exact hin, h1, h2, h3, h4⟩
theorem write_out (hs : Sized p) (hpl : p.length ≤ 1000) (hok : writeOk p mem.length at_ below x = true) : ∀ j, j < at_.toNat ∨ at_.toNat + (sizeX p x).toNat ≤ j → (writeM p mem at_ below x).getD j 0 = mem.getD j 0 := by
  obtain ⟨g, hg, hm, hb, hin, hsz, _⟩ := write_some hok hs
  obtain ⟨h0, _⟩ := write_words hs hpl hok hg
  rw [sizeX_eq hg]
  exact h0
theorem write_ok (hs : Sized p) (hm : mayM p x = true) {n : Nat} (h0 : 0 ≤ at_) (h1 : at_ + sizeX p x ≤ n) (hb : -1 ≤ below ∧ below < n) : writeOk p n at_ below x = true := by
  obtain ⟨g, hfn, f0, hG, hsx, z0, z1, hGs⟩ := size_may hs hm
  unfold writeOk
  rw [hm, hfn]
  simp only [Bool.true_and]
  rw [show belowM n below = true by unfold belowM; exact decide_eq_true (by omega), Bool.true_and]
  unfold inM; exact decide_eq_true (by omega)
end
def prevA (ats : List Int) (i : Nat) : Int := if i = 0 then -1 else ats.getD (i - 1) 0
theorem prevA_append {ats bs : List Int} {i : Nat} (h : i ≤ ats.length) : prevA (ats ++ bs) i = prevA ats i := by
  unfold prevA
  by_cases h0 : i = 0
  · rw [if_pos h0, if_pos h0]
  · rw [if_neg h0, if_neg h0]
    simp only [List.getD]
    rw [List.getElem?_append_left (by omega)]
theorem stk_below (p : List Fnc) (mem : List Int) (lo : Int) (xs : List Frm) : (stk p mem lo xs).below = prevA (stk p mem lo xs).ats xs.length :=
  snoc_ind (Q := fun xs => (stk p mem lo xs).below = prevA (stk p mem lo xs).ats xs.length) rfl (fun xs x ih => by
    have hl := stk_ats_len p mem lo xs
    rw [stk_snoc]
    simp only [stepK, prevA, List.length_append, List.length_singleton]
    rw [if_neg (by omega)]
    simp only [List.getD, Nat.add_sub_cancel]
    rw [List.getElem?_append_right (by omega), hl, Nat.sub_self]
    rfl) xs
structure FrmChain (p : List Fnc) (M : List Int) (xs : List Frm) (ats : List Int) : Prop where
  len : ats.length = xs.length
  may : ∀ x ∈ xs, mayM p x = true
  wd : ∀ x ∈ xs, FrmWd x
  frm : ∀ (i : Nat) (x : Frm) (a : Int), xs[i]? = some x → ats[i]? = some a → FrmIn p M a (prevA ats i) x
  next : ∀ (i : Nat) (x : Frm) (a b : Int), xs[i]? = some x → ats[i]? = some a → ats[i + 1]? = some b → a + sizeX p x ≤ b
  pos : ∀ a ∈ ats, 0 ≤ a
structure StkAll (p : List Fnc) (mem : List Int) (lo : Int) (xs : List Frm) : Prop where
  chain : FrmChain p (stk p mem lo xs).mem xs (stk p mem lo xs).ats
  out : ∀ j : Nat, j < lo.toNat ∨ (stk p mem lo xs).fin.toNat ≤ j → (stk p mem lo xs).mem.getD j 0 = mem.getD j 0
  fit : ∀ (i : Nat) (x : Frm) (a : Int), xs[i]? = some x → (stk p mem lo xs).ats[i]? = some a → lo ≤ a ∧ a + sizeX p x ≤ (stk p mem lo xs).fin
  fin0 : lo + 15 * xs.length ≤ (stk p mem lo xs).fin
  bel : -1 ≤ (stk p mem lo xs).below ∧ ((stk p mem lo xs).below < (stk p mem lo xs).fin)
theorem stk_all {p : List Fnc} {mem : List Int} {lo : Int} (hs : Sized p) (hpl : p.length ≤ 1000) (hlo : 0 ≤ lo) (xs : List Frm) : (∀ x ∈ xs, mayM p x = true) → (∀ x ∈ xs, FrmWd x) → (stk p mem lo xs).fin ≤ mem.length → StkAll p mem lo xs :=
  snoc_ind (Q := fun xs => (∀ x ∈ xs, mayM p x = true) → (∀ x ∈ xs, FrmWd x) → (stk p mem lo xs).fin ≤ mem.length → StkAll p mem lo xs)
    (fun _ _ _ => ⟨⟨rfl, by simp, by simp, by simp, by simp, by simp [stk]⟩, fun j _ => rfl, by simp, by simp [stk], by simp [stk]; omega⟩)
    (fun xs x ih hm hw hf => by
      have hmx := hm x (by simp)
      have hwx := hw x (by simp)
      obtain ⟨g, hfn, f0, hG, hsx, z0, z1, hGs⟩ := size_may hs hmx
      have hfin : (stk p mem lo (xs ++ [x])).fin = (stk p mem lo xs).fin + sizeX p x := by rw [stk_snoc]; rfl
      have hats : (stk p mem lo (xs ++ [x])).ats = (stk p mem lo xs).ats ++ [(stk p mem lo xs).fin] := by rw [stk_snoc]; rfl
      have hmem : (stk p mem lo (xs ++ [x])).mem = writeM p (stk p mem lo xs).mem (stk p mem lo xs).fin (stk p mem lo xs).below x := by rw [stk_snoc]; rfl
      have hbel : (stk p mem lo (xs ++ [x])).below = (stk p mem lo xs).fin := by rw [stk_snoc]; rfl
      have h := ih (fun y hy => hm y (by simp [hy])) (fun y hy => hw y (by simp [hy])) (by omega)
      have hl := stk_ats_len p mem lo xs
      have hml := stk_mem_len p mem lo xs
      have h0 := h.fin0
      have hb := h.bel
      have hok : writeOk p (stk p mem lo xs).mem.length (stk p mem lo xs).fin (stk p mem lo xs).below x = true := write_ok hs hmx (by omega) (by rw [hml]; omega) ⟨hb.1, by rw [hml]; omega⟩
      have hx := frm_in hs hpl hok
      have hout := write_out hs hpl hok
      have split : ∀ {i : Nat} {y : Frm} {a : Int}, (xs ++ [x])[i]? = some y → ((stk p mem lo xs).ats ++ [(stk p mem lo xs).fin])[i]? = some a → (i < xs.length ∧ xs[i]? = some y ∧ (stk p mem lo xs).ats[i]? = some a) ∨ (i = xs.length ∧ y = x ∧ a = (stk p mem lo xs).fin) := fun {i y a} hy ha => by
        by_cases hi : i < xs.length
        · rw [List.getElem?_append_left hi] at hy
          rw [List.getElem?_append_left (by omega)] at ha
          exact .inl ⟨hi, hy, ha⟩
        · have : i = xs.length := by have := (List.getElem?_eq_some_iff.1 hy).1; simp at this; omega
          subst this
          rw [List.getElem?_append_right (by omega), Nat.sub_self] at hy
          rw [List.getElem?_append_right (by omega), hl, Nat.sub_self] at ha
          exact .inr ⟨rfl, by simpa using hy.symm, by simpa using ha.symm⟩
      refine ⟨⟨by rw [hats]; simp [hl], hm, hw, fun i y a hy ha => ?_, fun i y a b hy ha hb' => ?_, fun a ha => ?_⟩, fun j hj => ?_, fun i y a hy ha => ?_, by rw [hfin]; simp; omega, by rw [hbel, hfin]; omega⟩
      · rw [hats] at ha ⊢
        rw [hmem]
        rcases split hy ha with ⟨hi, hy', ha'⟩ | ⟨rfl, rfl, rfl⟩
        · rw [prevA_append (by omega)]
          have hfit := h.fit i y a hy' ha'
          refine (h.chain.frm i y a hy' ha').same hs (hm y (List.mem_of_getElem? hy)) (writeM_len _ _ _ _ _) fun j h1 h2 => hout j (.inl ?_)
          have := (size_may hs (hm y (List.mem_of_getElem? hy))).choose_spec
          omega
        · rw [prevA_append (by omega), ← stk_below p mem lo xs]
          exact hx
      · rw [hats] at ha hb'
        rcases split hy ha with ⟨hi, hy', ha'⟩ | ⟨rfl, rfl, rfl⟩
        · by_cases hi2 : i + 1 < xs.length
          · rw [List.getElem?_append_left (by omega)] at hb'
            exact h.chain.next i y a b hy' ha' hb'
          · have : i + 1 = xs.length := by omega
            rw [this, List.getElem?_append_right (by omega), hl, Nat.sub_self] at hb'
            have hb2 : (stk p mem lo xs).fin = b := by simpa using hb'
            rw [← hb2]
            exact (h.fit i y a hy' ha').2
        · rw [List.getElem?_eq_none (by simp; omega)] at hb'; cases hb'
      · rw [hats] at ha
        rcases List.mem_append.1 ha with ha | ha
        · exact h.chain.pos a ha
        · simp at ha; omega
      · rw [hmem, hout j (by rw [hfin] at hj; omega)]
        exact h.out j (by rw [hfin] at hj; omega)
      · rw [hats] at ha
        rw [hfin]
        rcases split hy ha with ⟨hi, hy', ha'⟩ | ⟨rfl, rfl, rfl⟩
        · have := h.fit i y a hy' ha'; omega
        · omega) xs
end Go.Proofs.Ytlccbaemcfjdoaa
