import Derived.Test.YtidcpndlloppdaaGreatDoorZT21c
import Derived.Test.YtidcpndlloppdaaGreatDoorRows
/-
  Layer 29: where there is no machine; Agrees of the document; TracePlays's, TraceAgrees's functions return true.
  Conditions: the arguments' memory says what their values are.
-/
set_option linter.unusedVariables false
set_option linter.unusedSimpArgs false
set_option maxRecDepth 20000
namespace Go.Proofs.YtidcpndlloppdaaGreatDoor
open Go.RowKit
def NoM (p : List Fnc) (f : Int) : Prop := f < 0 ∨ (p.length : Int) ≤ f ∨ ∃ fn, p[f.toNat]? = some fn ∧ fn.params ≠ 0
theorem mach_or (p : List Fnc) (f : Int) : (∃ fn, fnAt p f = some fn ∧ fn.params = 0) ∨ NoM p f := by
  by_cases h0 : f < 0
  · exact .inr (.inl h0)
  by_cases h1 : (p.length : Int) ≤ f
  · exact .inr (.inr (.inl h1))
  obtain ⟨fn, hf⟩ := fnAt_in (p := p) (f := f) (by omega) (by omega)
  by_cases h2 : fn.params = 0
  · exact .inl ⟨fn, hf, h2⟩
  · exact .inr (.inr (.inr ⟨fn, (fnAt_mem hf).2.2.1, h2⟩))
section
variable {w : World} {P : Option Addr} {cap : Nat} {p : List Fnc} (hp : ProgAt w P p.length p) {f : Int} (hf : NoM p f)
include hp hf
theorem gives21n : Gives Tryz.prog 21 [.agg ⟨[.slice P p.length cap]⟩, .int .i64 f] w (.pointer none) := by
  refine gives_of (V21.sound ?_)
  intro q1 _
  by_cases h0 : f < 0
  · rw [if_neg (by simp; omega)]
    exact ret_is (Below.refl _ _) rfl
  rw [if_pos (by simp; omega)]
  by_cases hl : (p.length : Int) ≤ f
  · rw [if_neg (by simp; omega)]
    exact ret_is (Below.refl _ _) rfl
  rw [if_pos (by simp; omega)]
  rcases hf with h | h | ⟨fn, hfn, hpar⟩
  · omega
  · omega
  obtain ⟨f', a, C, c, hf', ha, c0, c1, c2, c3, hc⟩ := prog_at hp (i := f.toNat) (by omega)
  rw [hfn] at hf'; cases hf'
  refine ⟨a, ha, by omega, by omega, fn.params, c0, ?_⟩
  rw [if_pos (by simpa using hpar)]
  exact ret_is (Below.refl _ _) rfl
theorem gives9n (most : Int) : Gives Tryz.prog 9 [.agg ⟨[.slice P p.length cap]⟩, .int .i64 f, .int .i64 most] w (.tuple ⟨[.slice none 0 0, .bool false]⟩) := by
  refine gives_of (V9p.sound ?_)
  intro q1 _
  refine call_gives (Below.refl _ _) (fun w1 _ hb => gives21n (hp.keep hb) hf) fun w1 _ h1 => ⟨_, rfl, ?_⟩
  simp only [caseP]
  exact ret_is h1 rfl
theorem gives13n (most : Int) (A : Option Addr) (l c : Nat) : Gives Tryz.prog 13 [.agg ⟨[.slice P p.length cap]⟩, .int .i64 f, .int .i64 most, .slice A l c] w (.bool false) := by
  refine gives_of (V13.sound ?_)
  intro q1 _
  refine call_gives (Below.refl _ _) (fun w1 _ hb => gives21n (hp.keep hb) hf) fun w1 _ h1 => ⟨_, rfl, ?_⟩
  simp only [caseP]
  exact ret_is h1 rfl
variable (hr : Rt p)
include hr
theorem gives35n : Gives Tryz.prog 35 [.agg ⟨[.slice P p.length cap]⟩, .int .i64 f] w (.pointer none) := by
  refine gives_of (V35.sound ?_)
  intro q1 _
  refine call_gives (Below.refl _ _) (fun w1 _ hb => gives60 (hp.keep hb)) fun w1 e1 hw1 => ⟨_, _, _, rfl, ?_⟩
  rw [if_pos (by rw [hr.check]; rfl)]
  by_cases h0 : f < 0
  · rw [if_neg (by simp; omega)]
    exact ret_is hw1 rfl
  rw [if_pos (by simp; omega)]
  by_cases hl : (p.length : Int) ≤ f
  · rw [if_neg (by simp; omega)]
    exact ret_is hw1 rfl
  rw [if_pos (by simp; omega)]
  rcases hf with h | h | ⟨fn, hfn, hpar⟩
  · omega
  · omega
  obtain ⟨f', a, C, c, hf', ha, c0, c1, c2, c3, hc⟩ := prog_at (hp.keep hw1) (i := f.toNat) (by omega)
  rw [hfn] at hf'; cases hf'
  refine ⟨a, ha, by omega, by omega, fn.params, c0, ?_⟩
  rw [if_pos (by simpa using hpar)]
  exact ret_is hw1 rfl
theorem gives20n (most : Int) : Gives Tryz.prog 20 [.agg ⟨[.slice P p.length cap]⟩, .int .i64 f, .int .i64 most] w (.tuple ⟨[.slice none 0 0, .bool false, .bool false]⟩) := by
  refine gives_of (V20p.sound ?_)
  intro q1 _
  refine call_gives (Below.refl _ _) (fun w1 _ hb => gives35n (hp.keep hb) hf hr) fun w1 _ h1 => ⟨_, rfl, ?_⟩
  simp only [caseP]
  exact ret_is h1 rfl
theorem gives12n (most : Int) (A : Option Addr) (l c : Nat) : Gives Tryz.prog 12 [.agg ⟨[.slice P p.length cap]⟩, .int .i64 f, .int .i64 most, .slice A l c] w (.bool false) := by
  refine gives_of (V12.sound ?_)
  intro q1 _
  refine call_gives (Below.refl _ _) (fun w1 _ hb => gives20n (hp.keep hb) hf hr most) fun w1 _ h1 => ⟨_, _, _, _, _, rfl, ?_⟩
  rw [if_neg (by simp)]
  exact ret_is h1 rfl
end
theorem eqMs_comm (a b : List Mk) : eqMs a b = eqMs b a := by
  rw [Bool.eq_iff_iff, eqMs_iff, eqMs_iff]
  exact eq_comm
theorem b2_13 {w0 w : World} {A A' : Option Addr} {l c l' c' : Nat} {t tr : List Mk} (hw : Below w0.heap.size w0 w) (ht : Marks w A l t) (hc : l ≤ c) (htr : Marks w A' l' tr) (hlen : l ≤ 100000) (b : Bool) (hpos : b = true → 0 < l) :
    V13.b2 w0.heap.size (IsV w0 (.bool (if b = true then begM t.dropLast tr else begM t tr))) A l c A' l' c' b w := by
  unfold V13.b2
  obtain rfl := ht.len
  cases b with
  | true =>
    have hp := hpos rfl
    rw [if_pos rfl, wrap_id (n := ((t.length : Nat) : Int) - 1) (by omega) (by omega)]
    refine ⟨by omega, by omega, ?_⟩
    have e : (((t.length : Nat) : Int) - 1).toNat - 0 = t.length - 1 := by omega
    rw [sub_same, e, Nat.sub_zero]
    have hd : t.dropLast = t.take (t.length - 1) := List.dropLast_eq_take
    refine call_gives hw (fun w1 e1 _ => gives23 (Marks.take (RowAt.keep MarkE.kept ht (ext_keeps e1)) (k := t.length - 1) (by omega)) (RowAt.keep MarkE.kept htr (ext_keeps e1))) fun w1 _ h1 => ⟨_, rfl, ret_is h1 ?_⟩
    rw [if_pos rfl, hd]
  | false =>
    rw [if_neg (by simp)]
    refine call_gives hw (fun w1 e1 _ => gives23 (RowAt.keep MarkE.kept ht (ext_keeps e1)) (RowAt.keep MarkE.kept htr (ext_keeps e1))) fun w1 _ h1 => ⟨_, rfl, ret_is h1 ?_⟩
    rw [if_neg (by simp)]
def agrK (l : List Mk) (over : Bool) (t : List Mk) (k : Int) : Bool := if k = 3 ∨ k = 4 then over && eqMs t l else if k = 5 ∨ k = 6 then begM t.dropLast l else begM t l
theorem b0_13 {w0 w : World} {A A' : Option Addr} {l c l' c' : Nat} {t tr : List Mk} (hw : Below w0.heap.size w0 w) (ht : Marks w A l t) (hc : l ≤ c) (htr : Marks w A' l' tr) (hlen : l ≤ 100000) (over : Bool) (k : Int) (hpos : k = 5 ∨ k = 6 → 0 < l) :
    V13.b0 w0.heap.size (IsV w0 (.bool (agrK tr over t k))) A l c A' l' c' over k w := by
  have ends : k = 3 ∨ k = 4 → V13.b1 w0.heap.size (IsV w0 (.bool (agrK tr over t k))) A l c A' l' c' over k true w := fun h => by
    unfold V13.b1 agrK
    rw [if_pos rfl, if_pos h]
    cases over with
    | true =>
      rw [if_pos rfl]
      exact call_gives hw (fun w2 e2 _ => gives10 (RowAt.keep MarkE.kept ht (ext_keeps e2)) (RowAt.keep MarkE.kept htr (ext_keeps e2))) fun w2 _ h2 => ⟨_, rfl, ret_is h2 rfl⟩
    | false =>
      rw [if_neg (by simp)]
      exact ret_is hw rfl
  unfold V13.b0
  by_cases h3 : k = 3
  · rw [if_pos (by simpa using h3), show (k == 3) = true by simpa using h3]
    exact ends (.inl h3)
  rw [if_neg (by simpa using h3)]
  by_cases h4 : k = 4
  · rw [show (k == 4) = true by simpa using h4]
    exact ends (.inr h4)
  rw [show (k == 4) = false by simpa using h4]
  have ea : agrK tr over t k = if k = 5 ∨ k = 6 then begM t.dropLast tr else begM t tr := by unfold agrK; rw [if_neg (by omega)]
  rw [ea]
  unfold V13.b1
  rw [if_neg (show ¬ false = true by simp)]
  by_cases h5 : k = 5
  · rw [if_pos (show (k == 5) = true by simpa using h5), if_pos (show k = 5 ∨ k = 6 from .inl h5)]
    have := b2_13 (w0 := w0) (c' := c') hw ht hc htr hlen (k == 5) fun _ => hpos (.inl h5)
    rw [show (k == 5) = true by simpa using h5] at this ⊢
    rw [if_pos rfl] at this
    exact this
  rw [if_neg (show ¬ (k == 5) = true by simpa using h5)]
  by_cases h6 : k = 6
  · rw [if_pos (show k = 5 ∨ k = 6 from .inr h6)]
    have := b2_13 (w0 := w0) (c' := c') hw ht hc htr hlen (k == 6) fun _ => hpos (.inr h6)
    rw [show (k == 6) = true by simpa using h6] at this ⊢
    rw [if_pos rfl] at this
    exact this
  rw [if_neg (show ¬ (k = 5 ∨ k = 6) by omega)]
  have := b2_13 (w0 := w0) (c' := c') hw ht hc htr hlen (k == 6) fun e => absurd (by simpa using e) h6
  rw [show (k == 6) = false by simpa using h6] at this ⊢
  rw [if_neg (by simp)] at this
  exact this
theorem gives13 {p : List Fnc} {f : Int} {fn : Fnc} (hr : Rt p) (hf : fnAt p f = some fn) (h0 : fn.params = 0) {w : World} {P : Option Addr} {cap n : Nat} {most : Int} (hp : ProgAt w P p.length p) (hn : Acts most n) {A : Option Addr} {l c : Nat} {t : List Mk} (ht : Marks w A l t) (hc : l ≤ c) (hlen : l ≤ 100000) :
    Gives Tryz.prog 13 [.agg ⟨[.slice P p.length cap]⟩, .int .i64 f, .int .i64 most, .slice A l c] w (.bool (agrM (playM p (newM f) n).trace (playM p (newM f) n).ended t)) := by
  refine gives_of (V13.sound ?_)
  intro d _
  refine call_newR (w0 := w) (Nat.le_refl _) hp hf h0 fun g w1 hg h1 e1 => ⟨_, rfl, ?_⟩
  simp only [caseP]
  have hw1 := e1.after (Below.refl _ _)
  refine call_showR hr hf h0 hw1.size (RowAt.keep FncE.kept hp (ext_keeps e1)) hn fun A1 c1 w2 e2 ho => ⟨A1, _, c1, _, rfl, ?_⟩
  have hw2 := e2.after hw1
  obtain rfl := ht.len
  have ht2 := RowAt.keep MarkE.kept ht (ext_keeps (e1.trans e2))
  have hn1 := hn.1
  have hlt := (shown_ok hr hf h0 n (by omega)).2.trace
  have htr := marks_own ho (by omega)
  by_cases hz : t.length = 0
  · have hnil : t = [] := List.eq_nil_of_length_eq_zero hz
    subst hnil
    rw [if_neg (by simp)]
    have := b0_13 (w0 := w) (c' := c1) hw2 ht2 hc htr hlen (playM p (newM f) n).ended 0 (fun h => by omega)
    exact this
  · rw [if_pos (decide_eq_true (by omega)), wrap_id (n := ((t.length : Nat) : Int) - 1) (by omega) (by omega)]
    obtain ⟨d, q, hd, hq, d0, d1⟩ := Marks.cells ht2 (i := t.length - 1) (by omega)
    have hlast : t.getLast? = some d := by rw [List.getLast?_eq_getElem?]; exact hd
    have hix : (((t.length : Nat) : Int) - 1).toNat = t.length - 1 := by omega
    rw [hix]
    refine ⟨q, hq, by omega, by omega, d.k, d0, ?_⟩
    have := b0_13 (w0 := w) (c' := c1) hw2 ht2 hc htr hlen (playM p (newM f) n).ended d.k (fun h => by omega)
    unfold agrM
    rw [hlast]
    unfold agrK at this
    rw [eqMs_comm] at this
    exact this
theorem gives6 {w : World} {A : Option Addr} {p : List Fnc} {c : Nat} (hp : ProgAt w A p.length p) : Gives Tryz.prog 6 [.agg ⟨[.slice A p.length c]⟩] w (.bool ((checkM p).1 == 0)) := by
  refine gives_of (V6.sound ?_)
  intro q1 _
  exact call_gives (Below.refl _ _) (fun w1 _ hb => gives17 (hp.keep hb)) fun w1 _ h1 => ⟨_, _, _, rfl, ret_is h1 rfl⟩
theorem acts_of {most : Int} (h : most ≤ 3000) : Acts most most.toNat := ⟨by omega, by omega⟩
end Go.Proofs.YtidcpndlloppdaaGreatDoor

/-
  Layer 29: TraceAgrees's function returns true.
  Conditions: the arguments' memory says what their values are.
-/
set_option linter.unusedVariables false
set_option linter.unusedSimpArgs false
set_option maxRecDepth 20000
namespace Go.Proofs.YtidcpndlloppdaaGreatDoor
open Go.RowKit
theorem gives4 {w : World} (htab : Tabs w) {P : Option Addr} {p : List Fnc} {cap : Nat} (hp : ProgAt w P p.length p) (f : Int) {most n cut how : Int} (hmost : 0 ≤ most ∧ most < 65536) (hn : 0 ≤ n ∧ n < 65536) (hcut : 0 ≤ cut ∧ cut < 256) (hhow : 0 ≤ how ∧ how < 256)
    {A : Option Addr} {c : Nat} {t : List Mk} (ht : Marks w A t.length t) (hc : t.length ≤ c) (hA : A = none → c = 0) : Gives Tryz.prog 4 [.agg ⟨[.slice P p.length cap]⟩, .int .i64 f, .int .u16 most, .int .u16 n, .int .u8 cut, .slice A t.length c, .int .u8 how] w (.bool true) := by
  refine gives_of (V4.sound ?_)
  intro q1 _
  refine call_gives (Below.refl _ _) (fun w1 _ hb => gives6 (hp.keep hb)) fun w1 e1 hw1 => ⟨_, rfl, ?_⟩
  have awake : ∀ {w' : World}, Below w.heap.size w w' → CallK Tryz.prog 7 [] w.heap.size w' [q1] fun s t => ∃ u : Bool, s = .bool u ∧ Ret w.heap.size t (IsV w (.bool true) (.bool u)) := fun h => call_gives h (fun w4 _ h4 => gives7 (htab.on h4)) fun w4 _ h4 => ⟨_, rfl, ret_is h4 rfl⟩
  by_cases hr : (checkM p).1 = 0
  · rw [if_pos (by simp [hr])]
    have hrt := rt_of hr
    by_cases h5 : t.length > 500
    · rw [if_pos (decide_eq_true (by omega))]
      exact awake hw1
    rw [if_neg (fun h => by have := of_decide_eq_true h; omega)]
    refine ⟨by decide, ?_⟩
    have e2 : Int.tmod n 400 = n % 400 := Int.tmod_eq_emod_of_nonneg hn.1
    have e3 : Int.tmod most 400 = most % 400 := Int.tmod_eq_emod_of_nonneg hmost.1
    rw [wrap_id (n := n) (by omega) (by omega), wrap_id (n := most) (by omega) (by omega), e2, e3]
    have a1 := acts_of (most := n % 400) (by omega)
    have a2 := acts_of (most := most % 400) (by omega)
    have p1 := hp.keep hw1
    have t1 := RowAt.keep MarkE.kept ht (ext_keeps e1)
    rcases mach_or p f with ⟨fn, hf, h0⟩ | hno
    · have hlt := (shown_ok hrt hf h0 (n % 400).toNat (by omega)).2.trace
      refine call_showR hrt hf h0 hw1.size p1 a1 fun A2 c2 w2 x2 ho2 => ⟨_, _, _, _, rfl, ?_⟩
      have hw2 := x2.after hw1
      have cap2 := own_cap ho2
      have m2 := marks_own ho2 (by omega)
      have t2 := RowAt.keep MarkE.kept t1 (ext_keeps x2)
      refine call_cut hw2.size m2 cap2.1 cap2.2 (by omega) t2 hA (by omega) hcut hhow (shown_wd hrt hf h0 _ (by omega)) fun A3 c3 w3 x3 ho3 => ⟨_, _, _, rfl, by decide, ?_⟩
      have hw3 := x3.after hw2
      have hcl := cutM_len (playM p (newM f) (n % 400).toNat).trace cut t how
      have cap3 := own_cap ho3
      have m3 := marks_own ho3 (by omega)
      have p3 := RowAt.keep FncE.kept p1 (ext_keeps (x2.trans x3))
      have t3 := RowAt.keep MarkE.kept t2 (ext_keeps x3)
      refine call_gives hw3 (fun w4 x4 _ => gives12 hrt hf h0 (RowAt.keep FncE.kept p3 (ext_keeps x4)) a2 (RowAt.keep MarkE.kept m3 (ext_keeps x4)) cap3.1 (by omega)) fun w4 x4 hw4 => ⟨_, rfl, ?_⟩
      refine call_gives hw4 (fun w5 x5 _ => gives13 hrt hf h0 (RowAt.keep FncE.kept p3 (ext_keeps (x4.trans x5))) a2 (RowAt.keep MarkE.kept m3 (ext_keeps (x4.trans x5))) cap3.1 (by omega)) fun w5 x5 hw5 => ⟨_, rfl, ?_⟩
      rw [if_pos (by simp)]
      have p5 := RowAt.keep FncE.kept p3 (ext_keeps (x4.trans x5))
      have t5 := RowAt.keep MarkE.kept t3 (ext_keeps (x4.trans x5))
      refine call_gives hw5 (fun w6 x6 _ => gives12 hrt hf h0 (RowAt.keep FncE.kept p5 (ext_keeps x6)) a2 (RowAt.keep MarkE.kept t5 (ext_keeps x6)) hc (by omega)) fun w6 x6 hw6 => ⟨_, rfl, ?_⟩
      refine call_gives hw6 (fun w7 x7 _ => gives13 hrt hf h0 (RowAt.keep FncE.kept p5 (ext_keeps (x6.trans x7))) a2 (RowAt.keep MarkE.kept t5 (ext_keeps (x6.trans x7))) hc (by omega)) fun w7 x7 hw7 => ⟨_, rfl, ?_⟩
      rw [if_pos (by simp)]
      exact awake hw7
    · refine call_gives hw1 (fun w2 x2 _ => gives9n (RowAt.keep FncE.kept p1 (ext_keeps x2)) hno _) fun w2 x2 hw2 => ⟨_, _, _, _, rfl, ?_⟩
      have t2 := RowAt.keep MarkE.kept t1 (ext_keeps x2)
      refine call_cut (t := []) (l := 0) (c := 0) (A := none) hw2.size ⟨rfl, Nat.zero_le _, fun i x h => by simp at h⟩ (Nat.le_refl _) (fun _ => rfl) (by omega) t2 hA (by omega) hcut hhow (fun d hd => by cases hd) fun A3 c3 w3 x3 ho3 => ⟨_, _, _, rfl, by decide, ?_⟩
      have hw3 := x3.after hw2
      have p3 := RowAt.keep FncE.kept p1 (ext_keeps (x2.trans x3))
      refine call_gives hw3 (fun w4 x4 _ => gives12n (RowAt.keep FncE.kept p3 (ext_keeps x4)) hno hrt _ _ _ _) fun w4 x4 hw4 => ⟨_, rfl, ?_⟩
      refine call_gives hw4 (fun w5 x5 _ => gives13n (RowAt.keep FncE.kept p3 (ext_keeps (x4.trans x5))) hno _ _ _ _) fun w5 x5 hw5 => ⟨_, rfl, ?_⟩
      rw [if_pos (by simp)]
      have p5 := RowAt.keep FncE.kept p3 (ext_keeps (x4.trans x5))
      refine call_gives hw5 (fun w6 x6 _ => gives12n (RowAt.keep FncE.kept p5 (ext_keeps x6)) hno hrt _ _ _ _) fun w6 x6 hw6 => ⟨_, rfl, ?_⟩
      refine call_gives hw6 (fun w7 x7 _ => gives13n (RowAt.keep FncE.kept p5 (ext_keeps (x6.trans x7))) hno _ _ _ _) fun w7 x7 hw7 => ⟨_, rfl, ?_⟩
      rw [if_pos (by simp)]
      exact awake hw7
  · rw [if_neg (by simpa using hr)]
    exact awake hw1
end Go.Proofs.YtidcpndlloppdaaGreatDoor

/-
  The head of the word that tells the program's make is laid open; what a row's frame asks of it.
  Conditions: none.
-/
set_option maxRecDepth 100000
namespace Go.Proofs.YtidcpndlloppdaaGreatDoor
noncomputable def initL : List Char := [Char.ofNat 104, Char.ofNat 97, Char.ofNat 114, Char.ofNat 110, Char.ofNat 101, Char.ofNat 115, Char.ofNat 115, Char.ofNat 32, Char.ofNat 53, Char.ofNat 100, Char.ofNat 52, Char.ofNat 51, Char.ofNat 50, Char.ofNat 57, Char.ofNat 101, Char.ofNat 55, Char.ofNat 97, Char.ofNat 102, Char.ofNat 53, Char.ofNat 48, Char.ofNat 100, Char.ofNat 101, Char.ofNat 102, Char.ofNat 49, Char.ofNat 102, Char.ofNat 56, Char.ofNat 56, Char.ofNat 53, Char.ofNat 54, Char.ofNat 101, Char.ofNat 102, Char.ofNat 97, Char.ofNat 48, Char.ofNat 53, Char.ofNat 49, Char.ofNat 51, Char.ofNat 55, Char.ofNat 50, Char.ofNat 50, Char.ofNat 50, Char.ofNat 98, Char.ofNat 56, Char.ofNat 102, Char.ofNat 49, Char.ofNat 52, Char.ofNat 50, Char.ofNat 100, Char.ofNat 52, Char.ofNat 98, Char.ofNat 101, Char.ofNat 50, Char.ofNat 57, Char.ofNat 52, Char.ofNat 53, Char.ofNat 51, Char.ofNat 101, Char.ofNat 98, Char.ofNat 101, Char.ofNat 99, Char.ofNat 48, Char.ofNat 52, Char.ofNat 57, Char.ofNat 56, Char.ofNat 48, Char.ofNat 52, Char.ofNat 54, Char.ofNat 100, Char.ofNat 56, Char.ofNat 51, Char.ofNat 101, Char.ofNat 53, Char.ofNat 100, Char.ofNat 32, Char.ofNat 99, Char.ofNat 117, Char.ofNat 116, Char.ofNat 32, Char.ofNat 97, Char.ofNat 116, Char.ofNat 32, Char.ofNat 114, Char.ofNat 105, Char.ofNat 99, Char.ofNat 107, Char.ofNat 121, Char.ofNat 97, Char.ofNat 114, Char.ofNat 100, Char.ofNat 47, Char.ofNat 114, Char.ofNat 105, Char.ofNat 99, Char.ofNat 107, Char.ofNat 121, Char.ofNat 97, Char.ofNat 114, Char.ofNat 100, Char.ofNat 108, Char.ofNat 97, Char.ofNat 119, Char.ofNat 50, Char.ofNat 57, Char.ofNat 46, Char.ofNat 84, Char.ofNat 114, Char.ofNat 97, Char.ofNat 99, Char.ofNat 101, Char.ofNat 80, Char.ofNat 108, Char.ofNat 97, Char.ofNat 121, Char.ofNat 115, Char.ofNat 32, Char.ofNat 114, Char.ofNat 105, Char.ofNat 99, Char.ofNat 107, Char.ofNat 121, Char.ofNat 97, Char.ofNat 114, Char.ofNat 100, Char.ofNat 47, Char.ofNat 114, Char.ofNat 105, Char.ofNat 99, Char.ofNat 107, Char.ofNat 121, Char.ofNat 97, Char.ofNat 114, Char.ofNat 100, Char.ofNat 108, Char.ofNat 97, Char.ofNat 119, Char.ofNat 50, Char.ofNat 57, Char.ofNat 46, Char.ofNat 84, Char.ofNat 114, Char.ofNat 97, Char.ofNat 99, Char.ofNat 101, Char.ofNat 65, Char.ofNat 103, Char.ofNat 114, Char.ofNat 101, Char.ofNat 101, Char.ofNat 115, Char.ofNat 32, Char.ofNat 114, Char.ofNat 105, Char.ofNat 99, Char.ofNat 107, Char.ofNat 121, Char.ofNat 97, Char.ofNat 114, Char.ofNat 100, Char.ofNat 47, Char.ofNat 114, Char.ofNat 105, Char.ofNat 99, Char.ofNat 107, Char.ofNat 121, Char.ofNat 97, Char.ofNat 114, Char.ofNat 100, Char.ofNat 108, Char.ofNat 97, Char.ofNat 119, Char.ofNat 50, Char.ofNat 57, Char.ofNat 46, Char.ofNat 84, Char.ofNat 114, Char.ofNat 97, Char.ofNat 99, Char.ofNat 101, Char.ofNat 77, Char.ofNat 111, Char.ofNat 114, Char.ofNat 101]
noncomputable def initR : List Char := [Char.ofNat 97, Char.ofNat 116, Char.ofNat 32, Char.ofNat 114, Char.ofNat 105, Char.ofNat 99, Char.ofNat 107, Char.ofNat 121, Char.ofNat 97, Char.ofNat 114, Char.ofNat 100, Char.ofNat 47, Char.ofNat 114, Char.ofNat 105, Char.ofNat 99, Char.ofNat 107, Char.ofNat 121, Char.ofNat 97, Char.ofNat 114, Char.ofNat 100, Char.ofNat 108, Char.ofNat 97, Char.ofNat 119, Char.ofNat 50, Char.ofNat 57, Char.ofNat 46, Char.ofNat 84, Char.ofNat 114, Char.ofNat 97, Char.ofNat 99, Char.ofNat 101, Char.ofNat 80, Char.ofNat 108, Char.ofNat 97, Char.ofNat 121, Char.ofNat 115, Char.ofNat 32, Char.ofNat 114, Char.ofNat 105, Char.ofNat 99, Char.ofNat 107, Char.ofNat 121, Char.ofNat 97, Char.ofNat 114, Char.ofNat 100, Char.ofNat 47, Char.ofNat 114, Char.ofNat 105, Char.ofNat 99, Char.ofNat 107, Char.ofNat 121, Char.ofNat 97, Char.ofNat 114, Char.ofNat 100, Char.ofNat 108, Char.ofNat 97, Char.ofNat 119, Char.ofNat 50, Char.ofNat 57, Char.ofNat 46, Char.ofNat 84, Char.ofNat 114, Char.ofNat 97, Char.ofNat 99, Char.ofNat 101, Char.ofNat 65, Char.ofNat 103, Char.ofNat 114, Char.ofNat 101, Char.ofNat 101, Char.ofNat 115, Char.ofNat 32, Char.ofNat 114, Char.ofNat 105, Char.ofNat 99, Char.ofNat 107, Char.ofNat 121, Char.ofNat 97, Char.ofNat 114, Char.ofNat 100, Char.ofNat 47, Char.ofNat 114, Char.ofNat 105, Char.ofNat 99, Char.ofNat 107, Char.ofNat 121, Char.ofNat 97, Char.ofNat 114, Char.ofNat 100, Char.ofNat 108, Char.ofNat 97, Char.ofNat 119, Char.ofNat 50, Char.ofNat 57, Char.ofNat 46, Char.ofNat 84, Char.ofNat 114, Char.ofNat 97, Char.ofNat 99, Char.ofNat 101, Char.ofNat 77, Char.ofNat 111, Char.ofNat 114, Char.ofNat 101]
theorem initS : Tryz.prog.initOrder = String.ofList initL := by kernel_rfl
theorem init_eq : Tryz.prog.initOrder.toList = initL := by rw [initS, String.toList_ofList]
theorem words_cons : ∀ (a : List Char) (r : List Char), a.all (fun c => !decide (c = Char.ofNat 32)) = true → wordsSigns (a ++ Char.ofNat 32 :: r) = a :: wordsSigns r
  | [], r, _ => rfl
  | c :: a, r, h => by
    simp only [List.all_cons, Bool.and_eq_true, Bool.not_eq_true', decide_eq_false_iff_not] at h
    have ih := words_cons a r h.2
    rw [List.cons_append, wordsSigns.eq_3 _ _ (fun e => h.1 e), ih]
theorem init_words : wordsSigns Tryz.prog.initOrder.toList = [Char.ofNat 104, Char.ofNat 97, Char.ofNat 114, Char.ofNat 110, Char.ofNat 101, Char.ofNat 115, Char.ofNat 115] :: [Char.ofNat 53, Char.ofNat 100, Char.ofNat 52, Char.ofNat 51, Char.ofNat 50, Char.ofNat 57, Char.ofNat 101, Char.ofNat 55, Char.ofNat 97, Char.ofNat 102, Char.ofNat 53, Char.ofNat 48, Char.ofNat 100, Char.ofNat 101, Char.ofNat 102, Char.ofNat 49, Char.ofNat 102, Char.ofNat 56, Char.ofNat 56, Char.ofNat 53, Char.ofNat 54, Char.ofNat 101, Char.ofNat 102, Char.ofNat 97, Char.ofNat 48, Char.ofNat 53, Char.ofNat 49, Char.ofNat 51, Char.ofNat 55, Char.ofNat 50, Char.ofNat 50, Char.ofNat 50, Char.ofNat 98, Char.ofNat 56, Char.ofNat 102, Char.ofNat 49, Char.ofNat 52, Char.ofNat 50, Char.ofNat 100, Char.ofNat 52, Char.ofNat 98, Char.ofNat 101, Char.ofNat 50, Char.ofNat 57, Char.ofNat 52, Char.ofNat 53, Char.ofNat 51, Char.ofNat 101, Char.ofNat 98, Char.ofNat 101, Char.ofNat 99, Char.ofNat 48, Char.ofNat 52, Char.ofNat 57, Char.ofNat 56, Char.ofNat 48, Char.ofNat 52, Char.ofNat 54, Char.ofNat 100, Char.ofNat 56, Char.ofNat 51, Char.ofNat 101, Char.ofNat 53, Char.ofNat 100] :: [Char.ofNat 99, Char.ofNat 117, Char.ofNat 116] :: wordsSigns initR := by
  rw [init_eq, show initL = [Char.ofNat 104, Char.ofNat 97, Char.ofNat 114, Char.ofNat 110, Char.ofNat 101, Char.ofNat 115, Char.ofNat 115] ++ Char.ofNat 32 :: ([Char.ofNat 53, Char.ofNat 100, Char.ofNat 52, Char.ofNat 51, Char.ofNat 50, Char.ofNat 57, Char.ofNat 101, Char.ofNat 55, Char.ofNat 97, Char.ofNat 102, Char.ofNat 53, Char.ofNat 48, Char.ofNat 100, Char.ofNat 101, Char.ofNat 102, Char.ofNat 49, Char.ofNat 102, Char.ofNat 56, Char.ofNat 56, Char.ofNat 53, Char.ofNat 54, Char.ofNat 101, Char.ofNat 102, Char.ofNat 97, Char.ofNat 48, Char.ofNat 53, Char.ofNat 49, Char.ofNat 51, Char.ofNat 55, Char.ofNat 50, Char.ofNat 50, Char.ofNat 50, Char.ofNat 98, Char.ofNat 56, Char.ofNat 102, Char.ofNat 49, Char.ofNat 52, Char.ofNat 50, Char.ofNat 100, Char.ofNat 52, Char.ofNat 98, Char.ofNat 101, Char.ofNat 50, Char.ofNat 57, Char.ofNat 52, Char.ofNat 53, Char.ofNat 51, Char.ofNat 101, Char.ofNat 98, Char.ofNat 101, Char.ofNat 99, Char.ofNat 48, Char.ofNat 52, Char.ofNat 57, Char.ofNat 56, Char.ofNat 48, Char.ofNat 52, Char.ofNat 54, Char.ofNat 100, Char.ofNat 56, Char.ofNat 51, Char.ofNat 101, Char.ofNat 53, Char.ofNat 100] ++ Char.ofNat 32 :: ([Char.ofNat 99, Char.ofNat 117, Char.ofNat 116] ++ Char.ofNat 32 :: initR)) from by kernel_rfl,
    words_cons _ _ (by kernel_rfl), words_cons _ _ (by kernel_rfl), words_cons _ _ (by kernel_rfl)]
theorem bh (X : List (List Char)) : behindMainWord ([Char.ofNat 104, Char.ofNat 97, Char.ofNat 114, Char.ofNat 110, Char.ofNat 101, Char.ofNat 115, Char.ofNat 115] :: [Char.ofNat 53, Char.ofNat 100, Char.ofNat 52, Char.ofNat 51, Char.ofNat 50, Char.ofNat 57, Char.ofNat 101, Char.ofNat 55, Char.ofNat 97, Char.ofNat 102, Char.ofNat 53, Char.ofNat 48, Char.ofNat 100, Char.ofNat 101, Char.ofNat 102, Char.ofNat 49, Char.ofNat 102, Char.ofNat 56, Char.ofNat 56, Char.ofNat 53, Char.ofNat 54, Char.ofNat 101, Char.ofNat 102, Char.ofNat 97, Char.ofNat 48, Char.ofNat 53, Char.ofNat 49, Char.ofNat 51, Char.ofNat 55, Char.ofNat 50, Char.ofNat 50, Char.ofNat 50, Char.ofNat 98, Char.ofNat 56, Char.ofNat 102, Char.ofNat 49, Char.ofNat 52, Char.ofNat 50, Char.ofNat 100, Char.ofNat 52, Char.ofNat 98, Char.ofNat 101, Char.ofNat 50, Char.ofNat 57, Char.ofNat 52, Char.ofNat 53, Char.ofNat 51, Char.ofNat 101, Char.ofNat 98, Char.ofNat 101, Char.ofNat 99, Char.ofNat 48, Char.ofNat 52, Char.ofNat 57, Char.ofNat 56, Char.ofNat 48, Char.ofNat 52, Char.ofNat 54, Char.ofNat 100, Char.ofNat 56, Char.ofNat 51, Char.ofNat 101, Char.ofNat 53, Char.ofNat 100] :: [Char.ofNat 99, Char.ofNat 117, Char.ofNat 116] :: X) = [Char.ofNat 99, Char.ofNat 117, Char.ofNat 116] :: X := by kernel_rfl
theorem init_bh : behindMainWord (wordsSigns Tryz.prog.initOrder.toList) = [Char.ofNat 99, Char.ofNat 117, Char.ofNat 116] :: wordsSigns initR := by rw [init_words, bh]
theorem strip_cut (X : List (List Char)) : stripLifts liftWords ([Char.ofNat 99, Char.ofNat 117, Char.ofNat 116] :: X) = ([], [Char.ofNat 99, Char.ofNat 117, Char.ofNat 116] :: X) := by kernel_rfl
theorem make_of {P : Program} {X : List (List Char)} (h : behindMainWord (wordsSigns P.initOrder.toList) = [Char.ofNat 99, Char.ofNat 117, Char.ofNat 116] :: X) : P.make = some .cut := by
  unfold Program.make; rw [h]; kernel_rfl
theorem lifts_of {P : Program} {X : List (List Char)} (h : behindMainWord (wordsSigns P.initOrder.toList) = [Char.ofNat 99, Char.ofNat 117, Char.ofNat 116] :: X) : P.liftsFinal = false := by
  unfold Program.liftsFinal Program.headLifts; rw [h]; simp only [strip_cut]; kernel_rfl
theorem enter_of {P : Program} {X : List (List Char)} (h : behindMainWord (wordsSigns P.initOrder.toList) = [Char.ofNat 99, Char.ofNat 117, Char.ofNat 116] :: X) (h1 : P.laysLater = false) (h2 : P.bearsReflect = false) (h3 : P.doorFits [] = true) : P.mayEnter = true := by
  unfold Program.mayEnter; rw [h]; simp only [strip_cut, h1, h2, h3]; kernel_rfl
theorem mayEnter_ok : Tryz.prog.mayEnter = true := enter_of init_bh (by kernel_rfl) (by kernel_rfl) (by kernel_rfl)
theorem liftsFinal_ok : Tryz.prog.liftsFinal = false := lifts_of init_bh
theorem make_ok : Tryz.prog.make = some .cut := make_of init_bh
end Go.Proofs.YtidcpndlloppdaaGreatDoor
