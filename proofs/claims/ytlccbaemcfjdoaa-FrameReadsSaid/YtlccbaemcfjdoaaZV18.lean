/-
  Layer 18: rules for calls of the functions of layers 17 and 18 in the laws' functions.
  Conditions: none.
-/
import Derived.Test.YtlccbaemcfjdoaaZN18
import Derived.Test.YtlccbaemcfjdoaaZU18
import Derived.Test.YtlccbaemcfjdoaaZM17
import Derived.Test.YtlccbaemcfjdoaaZEngD
set_option linter.unusedVariables false
set_option linter.unusedSimpArgs false
namespace Go.Proofs.Ytlccbaemcfjdoaa
open Go.RowKit
theorem FrmOwn.same {w w' : World} {B : Nat} {x : Frm} {s : Sls} (h : FrmOwn w B x s) (he : ∀ k, B ≤ k → w'.heap[k]? = w.heap[k]?) : FrmOwn w' B x s := by
  obtain ⟨vs, hv, ha⟩ := h.dfs
  have one : ∀ {e : TypeId} {size n : Nat} {v : Value} {xs : List Value}, w.ownsRow B e size v n xs → w'.ownsRow B e size v n xs := fun ho => owns_other ho fun g hg => he g (ho.lt g hg).1
  exact ⟨⟨vs, ⟨one hv.row, hv.len, fun i d u hd hu => one (hv.args i d u hd hu)⟩, ha⟩, h.apart, one h.locals, one h.ops⟩
theorem may_small {p : List Fnc} (hs : Sized p) {x : Frm} (h : mayM p x = true) : x.dfs.length ≤ 4 ∧ (∀ d ∈ x.dfs, d.args.length ≤ 3) ∧ x.locals.length ≤ 8 ∧ x.ops.length ≤ 8 ∧ 0 ≤ x.f ∧ x.f < p.length := by
  obtain ⟨g, h0, hg, _, h1, h2, h3, h4, h5, h6, h7, h8⟩ := may_some h
  have hbd := sized_bd (hs g (List.mem_of_getElem? hg))
  have hr : roomM g ≤ 4 := by unfold roomM; split <;> omega
  have hlt := (List.getElem?_eq_some_iff.1 hg).1
  refine ⟨by omega, fun d hd => ?_, by omega, h6, by omega, by omega⟩
  obtain ⟨H, _, hH, ha⟩ := dfr_some (h8 d hd)
  have := sized_bd (hs H (List.mem_of_getElem? hH))
  omega
theorem FrmOwn.mayAt {w : World} {B : Nat} {x : Frm} {s : Sls} {p : List Fnc} (h : FrmOwn w B x s) (hs : Sized p) (hm : mayM p x = true) : FrmAt (newW B w) x s := by
  obtain ⟨h1, h2, h3, h4, _⟩ := may_small hs hm
  exact h.at (by omega) (fun d hd => by have := h2 d hd; omega) (by omega) (by omega)
theorem call_frame {w0 w : World} {bs : List Nat} {gN : Nat} {P : Option Addr} {cap : Nat} {p : List Fnc} {K : Value → World → Prop} (h0 : Below w0.heap.size w0 w) (hn : NumsIn w0 w gN) (hg : w0.heap.size ≤ gN) (hp : ProgAt (off gN w) P p.length p) (hs : Sized p) (hpl : 1 ≤ p.length ∧ p.length ≤ 1000)
    (hk : ∀ x s w', mayM p x = true → FrmWd x → FrmOwn w' w.heap.size x s → ExtS w0.heap.size (fun k => k = gN) w w' → NumsIn w0 w' gN → Below w0.heap.size w0 w' → K (frmV x s) w') : CallK Try.prog 48 [.pointer (some ⟨gN, 0, none⟩), .agg ⟨[.slice P p.length cap]⟩] w0.heap.size w bs K := by
  refine call_turnsS (S := fun k => k = gN) (Q := fun w1 v w2 => FrameR p w0 gN w1 v w2) h0.size (fun k hk => by subst hk; exact hn.has) (fun w1 e1 => turns48 (hn.ext e1) (fun q v hq => off_cell.2 ⟨below_keeps (e1.after h0) _ _ hq, by have := cell_lt hq; omega⟩) (RowAt.keep FncE.kept hp (ext_off e1)) hs hpl) fun w1 v w2 w' hsz hQ hsame he => ?_
  obtain ⟨⟨x, s, rfl, hm, hw, ho⟩, hn2⟩ := hQ
  exact hk x s w' hm hw ((ho.same fun k hk => hsame k (.inr hk)).base hsz) he (hn2.same (hsame gN (.inl rfl))) (he.after (fun k h => by subst h; exact hg) h0)
theorem call_rwrite {w0 w : World} {bs : List Nat} {A P : Option Addr} {l c cap : Nat} {mem : List Int} {K : Value → World → Prop} (hB : w0.heap.size ≤ w.heap.size) (hx : WordsAt w A l c mem) {p : List Fnc} (hp : ProgAt w P p.length p) (hs : Sized p) (hpl : p.length ≤ 1000) (at_ below : Int) {x : Frm} {s : Sls} (hf : FrmAt w x s) (hfw : FrmWd x)
    (hk : ∀ A' c' w', Ext w0.heap.size w w' → WordsAt w' A' l c' (writeM p mem at_ below x) → (A' = A ∧ c' = c ∧ writeE p mem.length at_ below x = 1 ∨ writeE p mem.length at_ below x = 0 ∧ OwnWs w' w.heap.size (.slice A' l c') (writeM p mem at_ below x)) → K (.tuple ⟨[.slice A' l c', .int .i64 (writeE p mem.length at_ below x)]⟩) w') : CallK Try.prog 53 [.slice A l c, .agg ⟨[.slice P p.length cap]⟩, .int .i64 at_, .int .i64 below, frmV x s] w0.heap.size w bs K := by
  obtain rfl := hx.nums.len
  have hsm := hx.small
  refine call_yieldsX (Q := RWriteQ A mem.length c p mem at_ below x) hB (fun w1 e1 => yields53 (hx.keep (ext_keeps e1)) (RowAt.keep FncE.kept hp (ext_keeps e1)) hs hpl at_ below (hf.keep (ext_keeps e1)) hfw) fun w1 u w2 w' hsz hQ hnew he => ?_
  unfold RWriteQ at hQ
  by_cases hok : writeOk p mem.length at_ below x = true
  · rw [if_pos hok] at hQ
    obtain ⟨v, rfl, ho⟩ := hQ
    have hl : (writeM p mem at_ below x).length = mem.length ∧ Wd (writeM p mem at_ below x) := by
      have hok' := hok
      unfold writeOk at hok'
      cases hfn : fnAt p x.f with
      | none => rw [hfn] at hok'; simp at hok'
      | some g =>
        rw [hfn] at hok'
        simp only [Bool.and_eq_true] at hok'
        have hM : writeM p mem at_ below x = bodyM (putM mem at_ (hdOf below x)) at_ g x := by unfold writeM; rw [if_pos hok, hfn]
        rw [hM]
        have hwdm := putM_wd hx.wd at_ (h := hdOf below x) hfw.value hsm
        obtain ⟨_, _, hgg, _, _, _, _, _, _, _, _, h8⟩ := may_some hok'.1.1
        have recw : ∀ i, i ≤ x.dfs.length → Wd (recsM (putM mem at_ (hdOf below x)) (at_.toNat + 7) x.dfs i) := fun i => by
          induction i with
          | zero => intro _; exact hwdm
          | succ i ih =>
            intro hi
            have hd : x.dfs[i]? = some (x.dfs[i]'(by omega)) := List.getElem?_eq_getElem _
            have hgd : x.dfs.getD i ⟨0, []⟩ = x.dfs[i]'(by omega) := by simp [List.getD, hd]
            show Wd (recM _ _ (x.dfs.getD i ⟨0, []⟩))
            rw [hgd]
            obtain ⟨H, hd0, hH, _⟩ := dfr_some (h8 _ (List.mem_of_getElem? hd))
            have := (List.getElem?_eq_some_iff.1 hH).1
            exact recM_wd (ih (by omega)) _ (by omega) (hfw.args _ (List.mem_of_getElem? hd))
        refine ⟨by unfold bodyM; rw [storesM_len, storesM_len, recsM_len, putM_len], ?_⟩
        unfold bodyM
        exact storesM_wd (storesM_wd (recw _ (Nat.le_refl _)) _ hfw.locals _) _ hfw.ops _
    have ho' : OwnWs w' w1.heap.size v (writeM p mem at_ below x) := owns_other ho fun j hj => hnew j (ho.lt j hj).1
    obtain ⟨A', c', rfl, hw, _⟩ := ownws_words ho' hl.2 (by omega)
    rw [hl.1] at hw ho' ⊢
    have hE : writeE p mem.length at_ below x = 0 := by unfold writeE; rw [if_pos hok]
    rw [← hE]
    exact hk A' c' w' he hw (.inr ⟨hE, owns_base ho' hsz⟩)
  · rw [if_neg hok] at hQ
    subst hQ
    have hE : writeE p mem.length at_ below x = 1 := by unfold writeE; rw [if_neg hok]
    have hM : writeM p mem at_ below x = mem := by unfold writeM; rw [if_neg hok]
    rw [← hE]
    exact hk A c w' he (by rw [hM]; exact hx.keep (ext_keeps he)) (.inl ⟨rfl, rfl, hE⟩)
theorem call_rread {w0 w : World} {bs : List Nat} {A P : Option Addr} {l c cap : Nat} {mem : List Int} {p : List Fnc} {at_ : Int} {K : Value → World → Prop} (hB : w0.heap.size ≤ w.heap.size) (h : WordsAt w A l c mem) (hp : ProgAt w P p.length p) (hs : Sized p) (hpl : p.length ≤ 1000)
    (hk : ∀ s w', Ext w0.heap.size w w' → FrmAt (newW w.heap.size w') (readM p mem at_).1 s → K (.tuple ⟨[frmV (readM p mem at_).1 s, .int .i64 (readM p mem at_).2.1, .int .i64 (readM p mem at_).2.2]⟩) w') :
    CallK Try.prog 55 [.slice A l c, .agg ⟨[.slice P p.length cap]⟩, .int .i64 at_] w0.heap.size w bs K := by
  refine call_yieldsX (Q := ReadQ (readM p mem at_)) hB (fun w1 e1 => yields55 (h.keep (ext_keeps e1)) (RowAt.keep FncE.kept hp (ext_keeps e1)) hs hpl at_) fun w1 u w2 w' hsz hQ hnew he => ?_
  obtain ⟨s, rfl, hf⟩ := hQ
  refine hk s w' he (hf.keep fun q v hq => ?_)
  obtain ⟨h1, h2⟩ := newW_cell.1 hq
  exact newW_cell.2 ⟨(cell_same (hnew _ h2)).trans h1, Nat.le_trans hsz h2⟩
theorem writeM_len (p : List Fnc) (mem : List Int) (at_ below : Int) (x : Frm) : (writeM p mem at_ below x).length = mem.length := by
  unfold writeM
  split
  · split
    · unfold bodyM; rw [storesM_len, storesM_len, recsM_len, putM_len]
    · rfl
  · rfl
theorem writeM_wd {p : List Fnc} {mem : List Int} (hm : Wd mem) (hml : mem.length ≤ 1000000000) (hpl : p.length ≤ 1000) (at_ below : Int) {x : Frm} (hfw : FrmWd x) : Wd (writeM p mem at_ below x) := by
  unfold writeM
  split
  · rename_i hok
    unfold writeOk at hok
    cases hfn : fnAt p x.f with
    | none => exact hm
    | some g =>
      rw [hfn] at hok
      simp only [Bool.and_eq_true] at hok
      have hwdm := putM_wd hm at_ (h := hdOf below x) hfw.value hml
      obtain ⟨_, _, hgg, _, _, _, _, _, _, _, _, h8⟩ := may_some hok.1.1
      have recw : ∀ i, i ≤ x.dfs.length → Wd (recsM (putM mem at_ (hdOf below x)) (at_.toNat + 7) x.dfs i) := fun i => by
        induction i with
        | zero => intro _; exact hwdm
        | succ i ih =>
          intro hi
          have hd : x.dfs[i]? = some (x.dfs[i]'(by omega)) := List.getElem?_eq_getElem _
          have hgd : x.dfs.getD i ⟨0, []⟩ = x.dfs[i]'(by omega) := by simp [List.getD, hd]
          show Wd (recM _ _ (x.dfs.getD i ⟨0, []⟩))
          rw [hgd]
          obtain ⟨H, hd0, hH, _⟩ := dfr_some (h8 _ (List.mem_of_getElem? hd))
          have := (List.getElem?_eq_some_iff.1 hH).1
          exact recM_wd (ih (by omega)) _ (by omega) (hfw.args _ (List.mem_of_getElem? hd))
      simp only
      unfold bodyM
      exact storesM_wd (storesM_wd (recw _ (Nat.le_refl _)) _ hfw.locals _) _ hfw.ops _
  · exact hm
end Go.Proofs.Ytlccbaemcfjdoaa
