import Derived.Test.YtofblkmibghmbaaDoorZG23
import Derived.Test.YtofblkmibghmbaaDoorZPC17i
import Derived.Test.YtofblkmibghmbaaDoorZVI
/-
  Layer 23: whether setups and calls are right; CallRights returns true.
  Conditions: the arguments' memory says what their values are.
-/
set_option linter.unusedVariables false
set_option linter.unusedSimpArgs false
set_option maxRecDepth 100000
namespace Go.Proofs.YtofblkmibghmbaaDoor
open Go.RowKit
def badRow (l : List Cl) : Bool := decide (40 < l.length) || l.any fun c => !mayC c
def formBad (calls : List (List Cl)) : Bool := calls.any badRow
def taskBad (p : List P17.Fnc) (f : Int) : Bool := decide (f < 0 ∨ (p.length : Int) ≤ f) || (match p[f.toNat]? with
  | some x => x.params != 0
  | none => true)
def formC (workers : Int) (calls : List (List Cl)) : Int := if (calls.length : Int) ≠ workers then 6 else if formBad calls = true then 6 else 0
def tasksC (p : List P17.Fnc) (tasks : List Int) (workers : Int) (calls : List (List Cl)) : Int := if tasks.any (taskBad p) = true then 1 else formC workers calls
def rightC (pages workers : Int) (p : List P17.Fnc) (tasks : List Int) (calls : List (List Cl)) : Int :=
  if pages < 1 ∨ 256 < pages ∨ workers < 1 ∨ 6 < workers ∨ 6 < tasks.length then 1 else if (P17.checkM p).1 ≠ 0 ∧ 0 < tasks.length then 1 else tasksC p tasks workers calls
def ClE : World → Addr → Cl → Prop := fun w a c => w.cell? (a.add 0) = some (.int .i64 c.k) ∧ w.cell? (a.add 1) = some (.int .i64 c.a) ∧ w.cell? (a.add 2) = some (.int .i64 c.b)
theorem ClE.kept : Kept1 ClE := fun _ _ _ _ hw h => ⟨hw _ _ h.1, hw _ _ h.2.1, hw _ _ h.2.2⟩
abbrev Cls (w : World) (A : Option Addr) (l : Nat) (xs : List Cl) : Prop := RowAt ClE 3 w A l xs
def RowE : World → Addr → List Cl → Prop := fun w a xs => ∃ A c, w.cell? (a.add 0) = some (.slice A xs.length c) ∧ Cls w A xs.length xs
theorem RowE.kept : Kept1 RowE := fun _ _ _ _ hw ⟨A, c, h1, h2⟩ => ⟨A, c, hw _ _ h1, RowAt.keep ClE.kept h2 hw⟩
abbrev ClRows (w : World) (A : Option Addr) (l : Nat) (xss : List (List Cl)) : Prop := RowAt RowE 1 w A l xss
theorem ClRows.at {w : World} {A : Option Addr} {l : Nat} {xss : List (List Cl)} (h : ClRows w A l xss) {i : Nat} (hi : i < l) : ∃ xs p B c, xss[i]? = some xs ∧ A = some p ∧ w.cell? (p.add i) = some (.slice B xs.length c) ∧ Cls w B xs.length xs := by
  obtain ⟨xs, p, hx, hp, B, c, h1, h2⟩ := RowAt.at h hi
  exact ⟨xs, p, B, c, hx, hp, by simpa [Addr.add] using h1, h2⟩
theorem Cls.at {w : World} {A : Option Addr} {l : Nat} {xs : List Cl} (h : Cls w A l xs) {i : Nat} (hi : i < l) : ∃ c p, xs[i]? = some c ∧ A = some p ∧ w.cell? ((p.add (i * 3)).add 0) = some (.int .i64 c.k) ∧ w.cell? ((p.add (i * 3)).add 1) = some (.int .i64 c.a) ∧ w.cell? ((p.add (i * 3)).add 2) = some (.int .i64 c.b) := by
  obtain ⟨x, p, hx, hp, h1, h2, h3⟩ := RowAt.at h hi
  exact ⟨x, p, hx, hp, h1, h2, h3⟩
theorem drop_at {α : Type} {l : List α} {i : Nat} {x : α} (h : l[i]? = some x) : l.drop i = x :: l.drop (i + 1) := by
  obtain ⟨hi, hx⟩ := List.getElem?_eq_some_iff.1 h
  rw [List.drop_eq_getElem_cons hi, hx]
theorem wrap_up {i n : Nat} (h : i < n) (hn : n ≤ maxLen) : IntKind.wrap .i64 ((i : Int) + 1) = ((i + 1 : Nat) : Int) := wrap_succ h hn
section
variable {w0 : World} {v : Int}
theorem l3_63 {A : Option Addr} {l c : Nat} {xs : List Cl} {B : Option Addr} {m cc i : Nat} (hx : Cls w0 A l xs) {L2 : Option Addr → Nat → Nat → Int → Int → World → Prop} :
    ∀ (k j : Nat) (w : World), l < j + k → j ≤ l → Below w0.heap.size w0 w → ((xs.drop j).any (fun c => !mayC c) = true → v = 6) → ((xs.drop j).any (fun c => !mayC c) = false → ∀ w', Below w0.heap.size w0 w' → L2 B m cc (m : Int) (IntKind.wrap .i64 ((i : Int) + 1)) w') →
    V63.l3 w0.heap.size (IsV w0 (.int .i64 v)) L2 k B m cc (m : Int) (i : Int) A l c (l : Int) (j : Int) w := by
  intro k
  induction k with
  | zero => intros; omega
  | succ k ih =>
    intro j w hk hj hw hbad hgood
    dsimp -zeta only [V63.l3]
    by_cases h : j < l
    · rw [if_pos (by simpa using h)]
      obtain ⟨y, p, hy, hp, c0, c1, c2⟩ := Cls.at (RowAt.keep ClE.kept hx (below_keeps hw)) h
      rw [drop_at hy, List.any_cons] at hbad hgood
      refine ⟨p, hp, by omega, by omega, _, c0, _, c1, _, c2, fun q13 _ => ?_⟩
      refine call_gives hw (fun _ _ _ => gives57 y) fun w1 _ h1 => ⟨_, rfl, ?_⟩
      by_cases hm : mayC y = true
      · rw [hm, if_neg (show ¬ (!true) = true from Bool.false_ne_true), wrap_up h hx.small]
        rw [hm] at hbad hgood
        exact ih (j + 1) w1 (by omega) (by omega) h1 hbad hgood
      · have hm' : mayC y = false := by simpa using hm
        rw [hm', if_pos (show (!false) = true from rfl)]
        rw [hm'] at hbad
        exact ret_is h1 (by rw [hbad rfl])
    · rw [if_neg (by simpa using h)]
      have hd : xs.drop j = [] := List.drop_of_length_le (by have := hx.len; omega)
      rw [hd] at hgood
      exact hgood rfl w hw
theorem l2_63 {A : Option Addr} {l c : Nat} {xss : List (List Cl)} (hx : ClRows w0 A l xss) :
    ∀ (k i : Nat) (w : World), l < i + k → i ≤ l → Below w0.heap.size w0 w → v = (if formBad (xss.drop i) = true then 6 else 0) →
    V63.l2 w0.heap.size (IsV w0 (.int .i64 v)) k A l c (l : Int) (i : Int) w := by
  intro k
  induction k with
  | zero => intros; omega
  | succ k ih =>
    intro i w hk hi hw hv
    dsimp -zeta only [V63.l2]
    by_cases h : i < l
    · rw [if_pos (by simpa using h)]
      obtain ⟨xs, p, B, cc, hxs, hp, hc, _⟩ := ClRows.at (RowAt.keep RowE.kept hx (below_keeps hw)) h
      obtain ⟨xs', p', B', cc', hxs', hp', hc', hcl⟩ := ClRows.at hx h
      have hcw := below_keeps hw _ _ hc'
      rw [hp] at hp'; cases hp'
      rw [hxs] at hxs'; cases hxs'
      rw [drop_at hxs, formBad, List.any_cons] at hv
      refine ⟨p, hp, by omega, by omega, B', _, cc', by simpa using hcw, ?_⟩
      by_cases h40 : xs.length > 40
      · rw [if_pos (by simp; omega)]
        have : badRow xs = true := by unfold badRow; rw [decide_eq_true (by omega)]; rfl
        rw [this] at hv
        exact ret_is hw (by rw [hv]; rfl)
      · rw [if_neg (by simp; omega)]
        have hb : badRow xs = xs.any fun c => !mayC c := by unfold badRow; rw [decide_eq_false (by omega)]; rfl
        rw [hb] at hv
        refine ⟨xs.length + 1, l3_63 hcl (xs.length + 1) 0 w (by omega) (by omega) hw (fun hbad => ?_) fun hgood w' hw' => ?_⟩
        · rw [List.drop_zero] at hbad
          rw [hbad] at hv; exact hv
        · rw [List.drop_zero] at hgood
          rw [hgood] at hv
          rw [wrap_up h hx.small]
          exact ih (i + 1) w' (by omega) (by omega) hw' hv
    · rw [if_neg (by simpa using h)]
      have hd : xss.drop i = [] := List.drop_of_length_le (by have := hx.len; omega)
      rw [hd] at hv
      exact ret_is hw (by rw [hv]; rfl)
variable {P : Option Addr} {p : List P17.Fnc} {pc : Nat} (hP : P17.ProgAt w0 P p.length p) {T : Option Addr} {tl tc : Nat} {tasks : List Int} (hT : Nums .i64 w0 T tl tasks) {A : Option Addr} {l c : Nat} {xss : List (List Cl)} (hx : ClRows w0 A l xss) {pages workers : Int}
include hP hT hx
theorem b0_63 {q2 : Nat} {w : World} (hw : Below w0.heap.size w0 w) (hv : v = tasksC p tasks workers xss) : V63.b0 w0.heap.size (IsV w0 (.int .i64 v)) A l c q2 pages workers P p.length pc T tl tc w := by
  unfold V63.b0
  refine ⟨tl + 1, ?_⟩
  have loop : ∀ (k i : Nat), tl < i + k → i ≤ tl → v = (if (tasks.drop i).any (taskBad p) = true then 1 else formC workers xss) → V63.l1 w0.heap.size (IsV w0 (.int .i64 v)) k A l c T tl tc (tl : Int) (i : Int) q2 pages workers P p.length pc T tl tc w := by
    intro k
    induction k with
    | zero => intros; omega
    | succ k ih =>
      intro i hk hi hv
      dsimp -zeta only [V63.l1]
      by_cases h : i < tl
      · rw [if_pos (by simpa using h)]
        obtain ⟨f, q, hf, hq, hc⟩ := (RowAt.keep (NumE.kept _) hT (below_keeps hw)).at h
        have hc' : w.cell? (q.add (i : Int).toNat) = some (.int .i64 f) := by simpa [NumE, Addr.add] using hc
        rw [drop_at hf, List.any_cons] at hv
        refine ⟨q, hq, by omega, by omega, f, hc', ?_⟩
        have bad : taskBad p f = true → Ret w0.heap.size w (IsV w0 (.int .i64 v) (.int .i64 1)) := fun hb => by
          rw [hb] at hv
          exact ret_is hw (by rw [hv]; rfl)
        by_cases h0 : f < 0
        · rw [if_neg (by simpa using h0)]
          exact bad (by unfold taskBad; rw [decide_eq_true (.inl h0)]; rfl)
        rw [if_pos (by simpa using h0)]
        by_cases h1 : f ≥ (p.length : Int)
        · rw [if_neg (by simpa using h1)]
          exact bad (by unfold taskBad; rw [decide_eq_true (.inr h1)]; rfl)
        rw [if_pos (by simpa using h1)]
        obtain ⟨x, a, C', cx, hxx, ha, d0, _⟩ := P17.prog_at (RowAt.keep P17.FncE.kept hP (below_keeps hw)) (i := f.toNat) (by omega)
        refine ⟨a, ha, by omega, by omega, _, d0, ?_⟩
        have htb : taskBad p f = (x.params != 0) := by
          unfold taskBad
          rw [decide_eq_false (by omega), hxx]; rfl
        by_cases hp0 : (x.params != 0) = true
        · rw [if_pos hp0]
          exact bad (by rw [htb, hp0])
        · rw [if_neg hp0, wrap_up h hT.small]
          have hp0' : (x.params != 0) = false := by simpa using hp0
          rw [htb, hp0'] at hv
          exact ih (i + 1) (by omega) (by omega) hv
      · rw [if_neg (by simpa using h)]
        have hd : tasks.drop i = [] := List.drop_of_length_le (by have := hT.len; omega)
        rw [hd] at hv
        have hv' : v = formC workers xss := hv
        unfold formC at hv'
        rw [hx.len] at hv'
        by_cases hl : (l : Int) ≠ workers
        · rw [if_pos (by simpa using hl)]
          rw [if_pos hl] at hv'
          exact ret_is hw (by rw [hv'])
        · rw [if_neg (by simpa using hl)]
          rw [if_neg hl] at hv'
          exact ⟨l + 1, l2_63 hx (l + 1) 0 w (by omega) (by omega) hw hv'⟩
  exact loop (tl + 1) 0 (by omega) (by omega) hv
end
def setupV (pages workers : Int) (P : Option Addr) (pl pc : Nat) (T : Option Addr) (tl tc : Nat) : Value := .agg ⟨[.int .i64 pages, .int .i64 workers, .slice P pl pc, .slice T tl tc]⟩
theorem gives63 {w : World} {P : Option Addr} {p : List P17.Fnc} {pc : Nat} (hP : P17.ProgAt w P p.length p) {T : Option Addr} {tl tc : Nat} {tasks : List Int} (hT : Nums .i64 w T tl tasks) {A : Option Addr} {l c : Nat} {xss : List (List Cl)} (hx : ClRows w A l xss) (pages workers : Int) :
    Gives Tryd.prog 63 [setupV pages workers P p.length pc T tl tc, .slice A l c] w (.int .i64 (rightC pages workers p tasks xss)) := by
  refine gives_of (V63.sound ?_)
  unfold V63.vc rightC
  intro q2 _
  rw [hT.len]
  by_cases h1 : pages < 1
  · rw [if_neg (by simpa using h1), if_pos (.inl h1)]; exact ret_is (Below.refl _ _) rfl
  rw [if_pos (by simpa using h1)]
  by_cases h2 : pages > 256
  · rw [if_neg (by simpa using h2), if_pos (.inr (.inl h2))]; exact ret_is (Below.refl _ _) rfl
  rw [if_pos (by simpa using h2)]
  by_cases h3 : workers < 1
  · rw [if_neg (by simpa using h3), if_pos (.inr (.inr (.inl h3)))]; exact ret_is (Below.refl _ _) rfl
  rw [if_pos (by simpa using h3)]
  by_cases h4 : workers > 6
  · rw [if_neg (by simpa using h4), if_pos (.inr (.inr (.inr (.inl h4))))]; exact ret_is (Below.refl _ _) rfl
  rw [if_pos (by simpa using h4)]
  by_cases h5 : tl > 6
  · rw [if_pos (by simp; omega), if_pos (.inr (.inr (.inr (.inr h5))))]; exact ret_is (Below.refl _ _) rfl
  rw [if_neg (by simp; omega), if_neg (show ¬ (pages < 1 ∨ 256 < pages ∨ workers < 1 ∨ 6 < workers ∨ 6 < tl) by omega)]
  refine call_gives (Below.refl _ _) (fun w1 e1 _ => P17.gives37 (RowAt.keep P17.FncE.kept hP (ext_keeps e1))) fun w1 _ hw1 => ⟨_, _, _, rfl, ?_⟩
  by_cases h6 : (P17.checkM p).1 = 0
  · rw [if_neg (by rw [h6]; decide), if_neg (fun h => h.1 h6)]
    exact b0_63 hP hT hx hw1 rfl
  · rw [if_pos (by simpa using h6)]
    by_cases h7 : tl > 0
    · rw [if_pos (by simpa using h7), if_pos ⟨h6, h7⟩]; exact ret_is hw1 rfl
    · rw [if_neg (by simpa using h7), if_neg (fun h => h7 h.2)]
      exact b0_63 hP hT hx hw1 rfl
end Go.Proofs.YtofblkmibghmbaaDoor
