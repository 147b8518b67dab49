/-
  Layer 18: rules for calls of the functions of layers 17 and 18 in the laws' functions.
  Conditions: none.
-/
import Derived.Test.YtlccbaemcfjdoaaZN18
import Derived.Test.YtlccbaemcfjdoaaZU18
import Derived.Test.YtlccbaemcfjdoaaZM17
import Derived.Test.YtlccbaemcfjdoaaZEngD
set_option linter.unusedVariables false
set_option linter.unusedSimpArgs false
namespace Go.Proofs.Ytlccbaemcfjdoaa
open Go.RowKit
theorem FrmOwn.same {w w' : World} {B : Nat} {x : Frm} {s : Sls} (h : FrmOwn w B x s) (he : ∀ k, B ≤ k → w'.heap[k]? = w.heap[k]?) : FrmOwn w' B x s := by
  obtain ⟨vs, hv, ha⟩ := h.dfs
  have one : ∀ {e : TypeId} {size n : Nat} {v : Value} {xs : List Value}, w.ownsRow B e size v n xs → w'.ownsRow B e size v n xs := fun ho => owns_other ho fun g hg => he g (ho.lt g hg).1
  exact ⟨⟨vs, ⟨one hv.row, hv.len, fun i d u hd hu => one (hv.args i d u hd hu)⟩, ha⟩, h.apart, one h.locals, one h.ops⟩
theorem may_small {p : List Fnc} (hs : Sized p) {x : Frm} (h : mayM p x = true) : x.dfs.length ≤ 4 ∧ (∀ d ∈ x.dfs, d.args.length ≤ 3) ∧ x.locals.length ≤ 8 ∧ x.ops.length ≤ 8 ∧ 0 ≤ x.f ∧ x.f < p.length := by
  obtain ⟨g, h0, hg, _, h1, h2, h3, h4, h5, h6, h7, h8⟩ := may_some h
  have hbd := sized_bd (hs g (List.mem_of_getElem? hg))
  have hr : roomM g ≤ 4 := by unfold roomM; split <;> omega
  have hlt := (List.getElem?_eq_some_iff.1 hg).1
  refine ⟨by omega, fun d hd => ?_, by omega, h6, by omega, by omega⟩
  obtain ⟨H, _, hH, ha⟩ := dfr_some (h8 d hd)
  have := sized_bd (hs H (List.mem_of_getElem? hH))
  omega
theorem FrmOwn.mayAt {w : World} {B : Nat} {x : Frm} {s : Sls} {p : List Fnc} (h : FrmOwn w B x s) (hs : Sized p) (hm : mayM p x = true) : FrmAt (newW B w) x s := by
  obtain ⟨h1, h2, h3, h4, _⟩ := may_small hs hm
  exact h.at (by omega) (fun d hd => by have := h2 d hd; omega) (by omega) (by omega)
theorem call_frame {w0 w : World} {bs : List Nat} {gN : Nat} {P : Option Addr} {cap : Nat} {p : List Fnc} {K : Value → World → Prop} (h0 : Below w0.heap.size w0 w) (hn : NumsIn w0 w gN) (hg : w0.heap.size ≤ gN) (hp : ProgAt (off gN w) P p.length p) (hs : Sized p) (hpl : 1 ≤ p.length ∧ p.length ≤ 1000)
    (hk : ∀ x s w', mayM p x = true → FrmWd x → FrmOwn w' w.heap.size x s → ExtS w0.heap.size (fun k => k = gN) w w' → NumsIn w0 w' gN → Below w0.heap.size w0 w' → K (frmV x s) w') : CallK Try.prog 48 [.pointer (some ⟨gN, 0, none⟩), .agg ⟨[.slice P p.length cap]⟩] w0.heap.size w bs K := by
  refine call_turnsS (S := fun k => k = gN) (Q := fun w1 v w2 => FrameR p w0 gN w1 v w2) h0.size (fun k hk => by subst hk; exact hn.has) (fun w1 e1 => turns48 (hn.ext e1) (fun q v hq => off_cell.2 ⟨below_keeps (e1.after h0) _ _ hq, by have := cell_lt hq; omega⟩) (RowAt.keep FncE.kept hp (ext_off e1)) hs hpl) fun w1 v w2 w' hsz hQ hsame he => ?_
  obtain ⟨⟨x, s, rfl, hm, hw, ho⟩, hn2⟩ := hQ
  exact hk x s w' hm hw ((ho.same fun k hk => hsame k (.inr hk)).base hsz) he (hn2.same (hsame gN (.inl rfl))) (he.after (fun k h => by subst h; exact hg) h0)
theorem writeM_len (p : List Fnc) (mem : List Int) (at_ below : Int) (x : Frm) : (writeM p mem at_ below x).length = mem.length := by
  unfold writeM
  split
  · split
    · unfold bodyM; rw [storesM_len, storesM_len, recsM_len, putM_len]
    · rfl
  · rfl
theorem call_write {w0 w : World} {bs : List Nat} {g b : Nat} {mem : List Int} {P : Option Addr} {cap : Nat} {p : List Fnc} {at_ below : Int} {x : Frm} {s : Sls} {K : Value → World → Prop} (hB : w0.heap.size ≤ w.heap.size) (h : ArenaAt w g b mem) (hp : ProgAt (off b w) P p.length p) (hs : Sized p) (hpl : p.length ≤ 1000) (hx : FrmAt (off b w) x s) (hxw : FrmWd x)
    (hwd : Wd (writeM p mem at_ below x)) (hk : ∀ w', ExtS w0.heap.size (fun k => k = b) w w' → ArenaAt w' g b (writeM p mem at_ below x) → K (.int .i64 (writeE p mem.length at_ below x)) w') :
    CallK Try.prog 52 [.pointer (some ⟨g, 0, none⟩), .agg ⟨[.slice P p.length cap]⟩, .int .i64 at_, .int .i64 below, frmV x s] w0.heap.size w bs K :=
  call_puts hB h.words (fun w1 e1 => puts52 (h.ext e1) (RowAt.keep FncE.kept hp (ext_off e1)) hs hpl at_ below (hx.keep (ext_off e1)) hxw) fun w' e ho => hk w' e (h.turned e ho (writeM_len _ _ _ _ _) hwd)
end Go.Proofs.Ytlccbaemcfjdoaa
